/- The law each law of the layer, part 4: what is proved: for every input that can be read the call of each law of the layer returns true and leaves its arguments alone. No conditions but the listed tables of the card. -/
import Derived.Shelf.SlSortCmp.WholeK
import Derived.RangeFuncKeeps
import Derived.RangeFuncLeaves
import Derived.WalkKit
import Derived.OwnWalkIn
import Derived.TacticsInMore
import Derived.LoopNIn
import Derived.LoopIn
import Derived.RangeFuncBox
import Derived.Test.YtamaklnhjagifaaGreatDoorZ3
namespace Go.Proofs.YtamaklnhjagifaaGreatDoor.V
open Go.RowKit
set_option linter.unusedVariables false
def Zk5:Ty→Bool
 | .slice _=>false
 | .pair a b=>Zk5 a&&Zk5 b
 | _=>true
def Ze5:(t:Ty)→t.den→List Value
 | .unit,_=>[]
 | .int k,n=>[.int k n]
 | .byt _,n=>[.int .u8 n]
 | .bool,b=>[.bool b]
 | .str,s=>[.string s]
 | .pair a b,x=>Ze5 a x.1++Ze5 b x.2
 | .slice _,_=>[]
theorem Ze6 {w:World} {S:Nat→Prop} : ∀ {t:Ty},Zk5 t=true → ∀ {x:t.den} {vs:List Value},Rep w S t x vs↔vs=Ze5 t x
 | .unit,_,_,_=>Iff.rfl
 | .int _,_,_,_=>Iff.rfl
 | .byt _,_,_,_=>Iff.rfl
 | .bool,_,_,_=>Iff.rfl
 | .str,_,_,_=>Iff.rfl
 | .pair a b,h,x,vs=>by
  simp only [Zk5,Bool.and_eq_true] at h
  simp only [Rep,Ze5]
  constructor
  ·
   rintro ⟨v1,v2,rfl,h1,h2⟩
   rw [(Ze6 h.1).mp h1,(Ze6 h.2).mp h2]
  ·
   rintro rfl
   exact ⟨_,_,rfl,(Ze6 h.1).mpr rfl,(Ze6 h.2).mpr rfl⟩
theorem Zc3 {t:Ty} (h:Zk5 t=true) (x:t.den):(Ze5 t x).length=t.size :=
 Rep.length (w:=default) (S:=fun _=>False) ((Ze6 h).mpr rfl)
theorem ZkM : ∀ {t:Ty} (x:t.den),∀ v∈Ze5 t x,v.oneCell'=true
 | .unit,_,v,h=>by simp [Ze5] at h
 | .int _,_,v,h=>by simp only [Ze5,List.mem_singleton] at h;subst h;rfl
 | .byt _,_,v,h=>by simp only [Ze5,List.mem_singleton] at h;subst h;rfl
 | .bool,_,v,h=>by simp only [Ze5,List.mem_singleton] at h;subst h;rfl
 | .str,_,v,h=>by simp only [Ze5,List.mem_singleton] at h;subst h;rfl
 | .pair a b,x,v,h=>by
  simp only [Ze5,List.mem_append] at h
  exact h.elim (ZkM x.1 v) (ZkM x.2 v)
 | .slice _,_,v,h=>by simp [Ze5] at h
section
variable {base:Base} {S0:Nat→Prop} {ρ:Loc} {H:ZAZ} {w w':World} {S:Nat→Prop}
theorem HRel.turnG (h:HRel base S0 ρ H w S) {b:Nat} {o o':AO} {blk n:Nat} (ho:H.at? b=some o) (hm:o.mutable=true) (hm':o'.mutable=true) (hf:ZUx o o') (hρ:ρ b=some (blk,n))
  (hsz:w.heap.size≤w'.heap.size) (hk : ∀ c,c<w.heap.size→c≠blk→w'.heap[c]? = w.heap[c]?) (hbel:Below 0 w w')
  (hb:Ext base ρ H w S ρ (H.set b (some o')) w' S→ZEj ρ (H.set b (some o')) w' S b o') :
  HRel base S0 ρ (H.set b (some o')) w' S∧Ext base ρ H w S ρ (H.set b (some o')) w' S:=by
 have hlt:=ZMK ho
 have hSb:S blk:=(h.own blk).mpr (.inr ⟨b,o,n,ho,hm,hρ⟩)
 have hfrom:=h.from_ b o blk n ho hρ
 have hx:Ext base ρ H w S ρ (H.set b (some o')) w' S:=by
  refine ⟨⟨by simp,fun c hc=>⟨⟨by simpa using hc.lt,fun e1 => ?_⟩,fun o1 h1 => ?_⟩⟩,LocExt.refl _ _,⟨hsz,fun c hc hs=>hk c hc (fun e=>hs (e ▸ hSb))⟩,fun _ _ h=>h,⟨hbel,fun k hk'=>hk k (h.base_le.lt k hk') (fun e=>hfrom.1 (e ▸ hk'))⟩⟩
  ·
   by_cases e:b=c
   ·
    subst e
    rw [ZA2 hlt] at e1
    cases e1
    cases hm'
   ·
    rw [ZAk e] at e1
    exact hc.2 e1
  by_cases e:b=c
  ·
   subst e
   rw [ZA2 hlt] at h1
   cases h1
   exact ⟨o,ho,hf⟩
  ·
   rw [ZAk e] at h1
   exact ⟨o1,h1,ZUx.refl _⟩
 refine ⟨⟨h.base_le.ext hx,h.outer,?_,?_,?_,?_⟩,hx⟩
 ·
  intro k
  rw [h.own k]
  refine or_congr Iff.rfl ⟨?_,?_⟩
  ·
   rintro ⟨c,o1,n1,h1,h2,h3⟩
   by_cases e:b=c
   ·
    subst e
    exact ⟨b,o',n1,ZA2 hlt,hm',h3⟩
   · exact ⟨c,o1,n1,by rw [ZAk e];exact h1,h2,h3⟩
  ·
   rintro ⟨c,o1,n1,h1,h2,h3⟩
   by_cases e:b=c
   ·
    subst e
    exact ⟨b,o,n1,ho,hm,h3⟩
   ·
    rw [ZAk e] at h1
    exact ⟨c,o1,n1,h1,h2,h3⟩
 ·
  intro c o1 blk1 n1 h1 h3
  have : ∃ o2,H.at? c=some o2:=by
   by_cases e:b=c
   · subst e;exact ⟨o,ho⟩
   · rw [ZAk e] at h1;exact ⟨o1,h1⟩
  obtain ⟨o2,h2⟩:=this
  have:=h.from_ c o2 blk1 n1 h2 h3
  exact ⟨this.1,Nat.lt_of_lt_of_le this.2 hsz⟩
 ·
  intro c c' o1 o2 blk1 n1 n2 h1 h2 h3 h4
  have g : ∀ c o1,ZAZ.at? (H.set b (some o')) c=some o1 → ∃ o2,H.at? c=some o2:=by
   intro c o1 h1
   by_cases e:b=c
   · subst e;exact ⟨o,ho⟩
   · rw [ZAk e] at h1;exact ⟨o1,h1⟩
  obtain ⟨p1,q1⟩:=g _ _ h1
  obtain ⟨p2,q2⟩:=g _ _ h2
  exact h.inj _ _ _ _ _ _ _ q1 q2 h3 h4
 ·
  intro c o1 h1
  by_cases e:b=c
  ·
   subst e
   rw [ZA2 hlt] at h1
   cases h1
   exact hb hx
  ·
   rw [ZAk e] at h1
   refine (h.block c o1 h1).mono hx.hH hx.hr hx.hw hx.hS rfl (fun blk1 n1 hb1=>hk blk1 (h.from_ c o1 blk1 n1 h1 hb1).2 (fun e1 => ?_))
   subst e1
   exact e (h.inj _ _ _ _ _ _ _ ho h1 hρ hb1)
end
noncomputable def ZIu {α:Type} [Inhabited α] (cf:α→α→Int) (l:List α):List α:=(Go.Sort.pdq (ltOf cf) l.toArray 0 l.length (Lib.bitLen l.length) true true).toList
theorem Ze7 {α:Type} [Inhabited α] {cf:α→α→Int} (hO:Go.Sort.SWO (ltOf cf)) (l:List α):(ZIu cf l).length=l.length:=by
 have h:=(Go.Sort.pdq_sorts (ltOf cf) hO l.toArray 0 l.length (Lib.bitLen l.length) true true (Nat.zero_le _) (by simp) (Or.inl rfl)).1.1
 simpa [ZIu] using h
theorem Zih {α:Type} [Inhabited α] {cf:α→α→Int} (hO:Go.Sort.SWO (ltOf cf)) (l:List α):(ZIu cf l).Perm l:=by
 have h:=(Go.Sort.pdq_sorts (ltOf cf) hO l.toArray 0 l.length (Lib.bitLen l.length) true true (Nat.zero_le _) (by simp) (Or.inl rfl)).1
 obtain ⟨h1,_,h2⟩:=h
 rw [Array.extract_eq_self_of_le (by rw [h1];simp),Array.extract_eq_self_of_le (by simp)] at h2
 exact h2
theorem Zfy {α:Type} [Inhabited α] {cf:α→α→Int} (hO:Go.Sort.SWO (ltOf cf)) (l:List α):(ZIu cf l).Pairwise fun x y=>ltOf cf y x=false:=by
 have h:=(Go.Sort.pdq_sorts (ltOf cf) hO l.toArray 0 l.length (Lib.bitLen l.length) true true (Nat.zero_le _) (by simp) (Or.inl rfl)).2
 have hl:=Ze7 hO l
 rw [List.pairwise_iff_getElem]
 intro i j hi hj hij
 have:=h i j (Nat.zero_le _) hij (by omega)
 simp only [ZIu] at hi hj ⊢
 simp only [Array.length_toList] at hi hj
 rw [getElem!_pos _ j hj,getElem!_pos _ i hi] at this
 simpa using this
@[reducible] def Zne (f:Nat):HCon:=HCon.mk0 [.nilSlice,.func f [] []] [] [] [] Unit (fun _=>some ()) (fun _=>((),())) (fun _=>()) (fun _=>rfl)
@[reducible] noncomputable def ZrB (t:Ty) [Inhabited t.den] (cf:t.den→t.den→Int) (f:Nat):HCon :=
 HCon.mk0 [.all 0,.func f [] []] [.row t] [] [.row t] (List t.den×Unit) (fun x=>bif decide (x.2.1.length<4611686018427387904) then some (ZIu cf x.2.1,()) else none) (fun r=>((),r.1,())) (fun y=>(y.2.1,())) (fun _=>rfl)
theorem ZuF {t:Ty} (hT:Zk5 t=true) [Inhabited t.den] {w:World} {S:Nat→Prop} {blk:Nat} {arr:Array Value} {elem:TypeId} {fz:Nat×Nat} {l:List t.den} (hb:w.heap[blk]? = some (.cells arr elem fz)) (hf : ∀ j,j<arr.size→w.frozen? ⟨blk,j,none⟩=false)
  (hl : ∀ i (h:i<l.length),∃ vs,Rep w S t l[i] vs∧At arr (i*t.size) vs):Go.Sort.HoldsK (Ze5 t) t.size w blk 0 l.toArray:=by
 intro j hj
 have hj':j<l.length*t.size:=by simpa using hj
 have h0:0<t.size:=by
  rcases Nat.eq_zero_or_pos t.size with h | h
  · rw [h] at hj';omega
  · exact h
 have hi:j / t.size<l.length:=Nat.div_lt_of_lt_mul (by rwa [Nat.mul_comm] at hj')
 have hc:j % t.size<t.size:=Nat.mod_lt _ h0
 have he:j / t.size*t.size+j % t.size=j:=by rw [Nat.mul_comm];exact Nat.div_add_mod j t.size
 obtain ⟨vs,h1,h2⟩:=hl _ hi
 have h1:=(Ze6 hT).mp h1
 subst h1
 have h3:=h2 (j % t.size) (by rw [Zc3 hT];exact hc)
 rw [he] at h3
 have hlt:j<arr.size:=(Array.getElem?_eq_some_iff.1 h3).1
 refine ⟨?_,by rw [Nat.zero_add];exact hf j hlt⟩
 rw [Nat.zero_add,ZV0 hb,h3,Go.Sort.get_flatK _ _ _ _ (by simpa using hj)]
 rw [getElem!_pos l.toArray (j / t.size) (by simpa using hi)]
 rw [getElem!_pos (Ze5 t _) (j % t.size) (by rw [Zc3 hT];exact hc)]
 simp only [id,List.getElem_toArray]
theorem Znf {P:Program} {I:World→Prop} {g K:Nat} {t:Ty} (hT:Zk5 t=true) [Inhabited t.den] {cf:t.den→t.den→Int} (hO:Go.Sort.SWO (ltOf cf)) {f:Nat} (hn:(Zne f).Sound P I g K) (hm:ZTC (Zne f) [.val (.slice none 0 0),.func (.func f) [] []] [some (AO.row t [])]=some ((((),((),()),()),()),⟨[],[],[]⟩))
  (hsort : ∀ (blk cap:Nat) (d:Array t.den) (w:World),Go.Sort.HoldsK (Ze5 t) t.size w blk 0 d→blk<w.heap.size→d.size<4611686018427387904→Calls P K #[.slice (some ⟨blk,0,none⟩) d.size cap,.func (.func f) #[] #[]] w fun e w'=>
   e = .returned (.tuple #[]) ∧ ∃ n os,w'=sortWorldK (Ze5 t) t.size w blk 0 n (Go.Sort.pdq (ltOf cf) d 0 d.size (Lib.bitLen d.size) true true) os):(ZrB t cf f).Sound P I g K:=by
 intro x y hxy B S0 ρ w S args hI hg hh hargs
 obtain ⟨x1,l,xu⟩:=x
 have hxy':(bif decide (l.length<4611686018427387904) then some (ZIu cf l,()) else none)=some y:=hxy
 obtain ⟨hlen,hy⟩:=ZBJ hxy'
 simp only [Option.some.injEq] at hy
 subst hy
 have hlen:l.length<4611686018427387904:=by simpa using hlen
 have hargs':ZAQ ρ [some (.row t l)] w S [.all 0,.func (.func f) [] []] args.toList:=hargs
 simp only [ZAQ] at hargs'
 obtain ⟨v0,us,ea,hv0,v1,us',rfl,hv1,rfl⟩:=hargs'
 have hh':HRel ⟨B,1,ρ,[some (.row t l)]⟩ S0 ρ [some (.row t l)] w S:=hh
 have ho:ZAZ.at? [some (AO.row t l)] 0=some (.row t l):=rfl
 have hf1:v1 = .func (.func f) #[] #[]:=by
  simp only [ZAW] at hv1
  obtain ⟨fa,ca,rfl,h1,h2⟩:=hv1
  simp only [ZAQ] at h1 h2
  rw [Array.toList_eq_nil_iff.mp h1,Array.toList_eq_nil_iff.mp h2]
 have hargsE:args = #[v0,v1]:=by
  apply Array.ext'
  rw [ea]
 refine Calls.mono (R:=fun e w' => ∃ ρ' S',e = .returned (.tuple #[])∧HRel ⟨B,1,ρ,[some (.row t l)]⟩ S0 ρ' [some (.row t (ZIu cf l))] w' S'∧Keeps B w w') ?_ (fun e w' h => ?_)
 ·
  have hv0':=hv0
  simp only [ZAW] at hv0
  rcases hv0.2 _ ho rfl with ⟨blk,n,cap,hr,rfl,hle,hcap⟩ | ⟨h0,rfl⟩
  ·
   rcases hh'.block _ _ ho with ⟨blk',arr,elem,fz,h1,h2,h3,h4,h5⟩ | ⟨h1,_⟩
   ·
    rw [hr] at h1
    cases h1
    rw [hargsE,hf1]
    have hblk:=ZHC h2
    have hH:=ZuF hT h2 (fun j hj=>h3 j (Ty.lt_lim hj)) h4
    have:=hsort blk cap l.toArray w hH hblk (by simpa using hlen)
    simp only [List.size_toArray] at this
    refine this.mono ?_
    rintro e w' ⟨rfl,m,os,rfl⟩
    have hs:(ZIu cf l).length=l.length:=Ze7 hO l
    have hgrow : ∀ c,c<w.heap.size→c≠blk→(sortWorldK (Ze5 t) t.size w blk 0 m (Go.Sort.pdq (ltOf cf) l.toArray 0 l.length (Lib.bitLen l.length) true true) os).heap[c]? = w.heap[c]? := by
     intro c hc hne
     simp only [sortWorldK,Go.Sort.grow,Go.Sort.putRowK,Go.Sort.putRow,Go.Sort.mapBlock,Go.Sort.ahead]
     rw [Array.getElem?_append_left (by simpa using hc),Array.getElem?_modify,if_neg (Ne.symm hne)]
    have hat:(sortWorldK (Ze5 t) t.size w blk 0 m (Go.Sort.pdq (ltOf cf) l.toArray 0 l.length (Lib.bitLen l.length) true true) os).heap[blk]? = some (.cells (Go.Sort.putCells id 0 (Go.Sort.flatK (Ze5 t) t.size (ZIu cf l).toArray) arr) elem fz):=by
     simp only [sortWorldK,Go.Sort.grow,Go.Sort.putRowK,Go.Sort.putRow,Go.Sort.mapBlock,Go.Sort.ahead]
     rw [Array.getElem?_append_left (by simpa using hblk),Array.getElem?_modify,if_pos rfl,h2]
     rfl
    have hbel:Below 0 w (sortWorldK (Ze5 t) t.size w blk 0 m (Go.Sort.pdq (ltOf cf) l.toArray 0 l.length (Lib.bitLen l.length) true true) os) :=
     ⟨rfl,rfl,rfl,by simp [sortWorldK,Go.Sort.grow,Go.Sort.putRowK,Go.Sort.putRow,Go.Sort.mapBlock,Go.Sort.ahead],fun k hk=>absurd hk (Nat.not_lt_zero _)⟩
    obtain ⟨g1,g2⟩:=hh'.turnG (b:=0) (o' := .row t (ZIu cf l)) ho rfl rfl (ZUx.row hs.symm) hr hbel.size hgrow hbel (fun hx=>by
     refine .inl ⟨blk,_,elem,fz,?_,hat,fun j hj => ?_,fun i hi=>⟨Ze5 t (ZIu cf l)[i],(Ze6 hT).mpr rfl,fun c hc => ?_⟩,h5⟩
     ·
      rw [hr]
      simp [Go.Sort.putCells]
     ·
      have hj':j<t.lim arr.size:=by simpa [Go.Sort.putCells] using hj
      have:=h3 j hj'
      rw [← this]
      simp only [World.frozen?,hat,h2]
     ·
      rw [Zc3 hT] at hc
      have hi':i<l.length:=by omega
      have hlt:i*t.size+c<arr.size:=by
       obtain ⟨vs,k1,k2⟩:=h4 i hi'
       have:=k2 c (by rw [k1.length];exact hc)
       exact (Array.getElem?_eq_some_iff.1 this).1
      have hin:i*t.size+c<(ZIu cf l).toArray.size*t.size:=by
       have:(i+1)*t.size≤(ZIu cf l).length*t.size:=Nat.mul_le_mul_right _ hi
       rw [Nat.add_mul] at this
       simp only [List.size_toArray]
       omega
      simp only [Go.Sort.putCells,Array.getElem?_mapIdx,Array.getElem?_eq_getElem hlt,Option.map_some,Nat.zero_le,true_and,Nat.zero_add,Go.Sort.size_flatK,hin,if_true,Nat.sub_zero,Go.Sort.get_flatK _ _ _ _ hin,id]
      have e1:(i*t.size+c) / t.size=i:=by
       rw [Nat.mul_comm,Nat.mul_add_div (by omega),Nat.div_eq_of_lt hc,Nat.add_zero]
      have e2:(i*t.size+c) % t.size=c:=by
       rw [Nat.mul_comm,Nat.mul_add_mod,Nat.mod_eq_of_lt hc]
      rw [e1,e2,getElem!_pos (ZIu cf l).toArray i (by simpa using hi),getElem!_pos (Ze5 t _) c (by rw [Zc3 hT];exact hc)]
      simp only [List.getElem_toArray])
    exact ⟨ρ,S,rfl,g1,⟨hbel,fun k hk=>hgrow k (hh'.base_le.lt k hk) (fun e=>(hh'.from_ 0 _ _ _ ho hr).1 (e ▸ hk))⟩⟩
   · rw [hr] at h1;cases h1
  ·
   have hl0:l=[]:=List.length_eq_zero_iff.mp h0
   subst hl0
   have hargs2:ZAQ ρ [some (AO.row t [])] w S [.val (.slice none 0 0),.func (.func f) [] []] args.toList:=by
    rw [ea]
    exact ⟨_,_,rfl,by simp only [ZAW],_,_,rfl,hv1,rfl⟩
   obtain ⟨B',S0',ρ',S',k1,k2,k3,k4,k5⟩:=Zkl hg hh' hm hargs2
   refine (hn _ () rfl B' S0' ρ' w S' args hI k3 k1 k2).mono ?_
   rintro e w' ⟨_,hq⟩
   obtain ⟨v,ρ2,S2,rfl,q1,q2,q3⟩:=hq rfl
   have hv:v = .tuple #[]:=by
    have q2':ZAW ρ2 [] w' S2 (.tuple []) v:=q2
    simp only [ZAW] at q2'
    obtain ⟨us,rfl,h⟩:=q2'
    simp only [ZAQ] at h
    rw [Array.toList_eq_nil_iff.mp h]
   subst hv
   obtain ⟨ρn,Sn,r1,r2,r3⟩:=k5 w' ρ2 S2 _ _ _ q1 q3 q2 (fun _=>⟨rfl,fun c' o h=>by simp [ZAZ.at?,ZBA] at h⟩)
   have hsl:ZIu cf ([]:List t.den)=[]:=List.length_eq_zero_iff.mp (Ze7 hO [])
   rw [hsl]
   exact ⟨ρn,Sn,rfl,r1,⟨q3.low,fun k hk=>q3.block k (k4.1 k hk)⟩⟩
 ·
  obtain ⟨ρ',S',rfl,h1,h2⟩:=h
  refine ⟨fun pv hb=>(by cases hb),fun _=>⟨_,ρ',S',rfl,h1,?_,h2⟩⟩
  show ZAW ρ' _ w' S' (.tuple []) (.tuple #[])
  simp only [ZAW]
  exact ⟨#[],rfl,rfl⟩
end Go.Proofs.YtamaklnhjagifaaGreatDoor.V
namespace Go.Proofs.YtamaklnhjagifaaGreatDoor.V
open Go.RowKit Go.Proofs.Tryz
set_option linter.unusedVariables false
set_option maxRecDepth 100000
def ZM0:Go.Shelf.Ren := {
 f:=fun x=>
  match x with
  | 6=>227
  | 15=>226
  | 14=>249
  | 28=>247
  | 29=>248
  | 20=>259
  | 21=>260
  | 22=>261
  | 23=>262
  | 24=>263
  | 25=>264
  | 26=>265
  | 27=>266
  | 46=>268
  | 47=>255
  | 48=>256
  | 49=>269
  | 50=>270
  | 57=>271
  | n=>n,
 t:=fun x=>
  match x with
  | 22=>238
  | 24=>281
  | 25=>296
  | 3=>3
  | 39=>147
  | 0=>0
  | 53=>69
  | 55=>26
  | 4=>4
  | 46=>308
  | 45=>307
  | 50=>210
  | 5=>5
  | 9=>9
  | 66=>318
  | 70=>321
  | 76=>330
  | 77=>331
  | n=>n,
 g:=fun x=>
  have n:=x;
  n }
theorem ZM1:SlLaysF0.n6 prog ZM0 where
 mixed:=by kernel_rfl
 f6:=⟨"slices.SortFunc[[]domino/ranges.edge,domino/ranges.edge]",by decide,func227.trans (congrArg some (by kernel_rfl))⟩
 f14:=⟨"slices.pdqsortCmpFunc[domino/ranges.edge]",by decide,func249.trans (congrArg some (by kernel_rfl))⟩
 f15:=func226.trans (congrArg some (by kernel_rfl))
 f20:=⟨"slices.insertionSortCmpFunc[domino/ranges.edge]",by decide,func259.trans (congrArg some (by kernel_rfl))⟩
 f21:=⟨"slices.heapSortCmpFunc[domino/ranges.edge]",by decide,func260.trans (congrArg some (by kernel_rfl))⟩
 f22:=⟨"slices.breakPatternsCmpFunc[domino/ranges.edge]",by decide,func261.trans (congrArg some (by kernel_rfl))⟩
 f23:=⟨"slices.choosePivotCmpFunc[domino/ranges.edge]",by decide,func262.trans (congrArg some (by kernel_rfl))⟩
 f24:=⟨"slices.reverseRangeCmpFunc[domino/ranges.edge]",by decide,func263.trans (congrArg some (by kernel_rfl))⟩
 f25:=⟨"slices.partialInsertionSortCmpFunc[domino/ranges.edge]",by decide,func264.trans (congrArg some (by kernel_rfl))⟩
 f26:=⟨"slices.partitionEqualCmpFunc[domino/ranges.edge]",by decide,func265.trans (congrArg some (by kernel_rfl))⟩
 f27:=⟨"slices.partitionCmpFunc[domino/ranges.edge]",by decide,func266.trans (congrArg some (by kernel_rfl))⟩
 f28:=func247.trans (congrArg some (by kernel_rfl))
 f29:=func248.trans (congrArg some (by kernel_rfl))
 f46:=⟨"slices.siftDownCmpFunc[domino/ranges.edge]",by decide,func268.trans (congrArg some (by kernel_rfl))⟩
 f47:=func255.trans (congrArg some (by kernel_rfl))
 f48:=func256.trans (congrArg some (by kernel_rfl))
 f49:=⟨"slices.medianAdjacentCmpFunc[domino/ranges.edge]",by decide,func269.trans (congrArg some (by kernel_rfl))⟩
 f50:=⟨"slices.medianCmpFunc[domino/ranges.edge]",by decide,func270.trans (congrArg some (by kernel_rfl))⟩
 f57:=⟨"slices.order2CmpFunc[domino/ranges.edge]",by decide,func271.trans (congrArg some (by kernel_rfl))⟩
 t0:=underlying0
 a0:=isAgg0
 z0:=sizeOf0
 v0:=zeroValue0
 t3:=underlying3
 a3:=isAgg3
 z3:=sizeOf3
 v3:=zeroValue3
 t4:=underlying4
 a4:=isAgg4
 z4:=sizeOf4
 v4:=zeroValue4
 t5:=underlying5
 a5:=isAgg5
 z5:=sizeOf5
 v5:=zeroValue5
 t9:=underlying9
 a9:=isAgg9
 z9:=sizeOf9
 v9:=zeroValue9
 t22:=underlying238
 a22:=isAgg238
 z22:=sizeOf238
 v22:=zeroValue238
 t25:=underlying296
 a25:=isAgg296
 z25:=sizeOf296
 v25:=zeroValue296
 t39:=underlying147
 a39:=isAgg147
 z39:=sizeOf147
 v39:=zeroValue147
 t45:=underlying307
 a45:=isAgg307
 z45:=sizeOf307
 v45:=zeroValue307
 t46:=underlying308
 a46:=isAgg308
 z46:=sizeOf308
 v46:=zeroValue308
 t50:=underlying210
 a50:=isAgg210
 z50:=sizeOf210
 v50:=zeroValue210
 t53:=underlying69
 a53:=isAgg69
 z53:=sizeOf69
 v53:=zeroValue69
 t55:=underlying26
 a55:=isAgg26
 z55:=sizeOf26
 v55:=zeroValue26
 t66:=underlying318
 a66:=isAgg318
 z66:=sizeOf318
 v66:=zeroValue318
 t70:=underlying321
 a70:=isAgg321
 z70:=sizeOf321
 v70:=zeroValue321
 t76:=underlying330
 a76:=isAgg330
 z76:=sizeOf330
 v76:=zeroValue330
 t77:=underlying331
 a77:=isAgg331
 z77:=sizeOf331
 v77:=zeroValue331
def ZAt (x y:ZAI):Int:=if x.1<y.1 then -1 else if y.1<x.1 then 1 else 0
set_option maxHeartbeats 1000000 in
theorem ZLY (x y:ZAI) (W:World):Calls prog 228 #[.agg (Ze5 ZAO x).toArray,.agg (Ze5 ZAO y).toArray] W fun e w'=>e = .returned (.int .i64 (ZAt x y)) ∧ ∃ q os',w'=Go.Sort.grow (W.drewN q) os':=by
 obtain ⟨a,b,u⟩:=x
 obtain ⟨c,d,v⟩:=y
 simp only [Ze5,List.append_nil,List.singleton_append,ZAt]
 by_cases h1:a<c
 ·
  go_enter func228,ntmps228
  go_wp2
  go_ret
  exact ⟨by first | rfl | simp_all,0,_,by rw [Go.Sort.alloc_eq_grow,Go.Sort.alloc_eq_grow,Go.Sort.grow_grow];rfl⟩
 ·
  by_cases h2:c<a
  ·
   go_enter func228,ntmps228
   go_wp2
   go_ret
   exact ⟨by first | rfl | simp_all,0,_,by rw [Go.Sort.alloc_eq_grow,Go.Sort.alloc_eq_grow,Go.Sort.grow_grow];rfl⟩
  ·
   go_enter func228,ntmps228
   go_wp2
   go_ret
   exact ⟨by first | rfl | simp_all,0,_,by rw [Go.Sort.alloc_eq_grow,Go.Sort.alloc_eq_grow,Go.Sort.grow_grow];rfl⟩
theorem ZCD (x y:ZAI):ltOf ZAt x y=decide (x.1<y.1):=by
 unfold ltOf ZAt
 by_cases h1:x.1<y.1
 · simp [h1]
 · by_cases h2:y.1<x.1 <;> simp [h1,h2]
theorem ZBl:Go.Sort.SWO (ltOf ZAt) where
 irrefl x:=by rw [ZCD];simp
 trans x y z h1 h2:=by
  rw [ZCD,decide_eq_true_eq] at *
  exact Int.lt_trans h1 h2
 ntrans x y z h1 h2:=by
  rw [ZCD,decide_eq_false_iff_not] at *
  exact fun h=>(Int.lt_or_le x.1 y.1).elim h1 (fun k=>h2 (Int.lt_of_le_of_lt k h))
instance inh_slices_SortFunc_ranges_edge_h0:Inhabited ZAO.den:=⟨ZAO.dflt⟩
noncomputable def ZOa:Mach prog Inv ZAq:=ZFE bas [(227,f227),(249,f249),(259,f259),(226,f226),(248,f248)] ⟨Za0,ZoY,ZoZ,Zfw,ZmU,trivial⟩ [] trivial [] trivial [] trivial
theorem ZM2:(Zne 228).Sound prog Inv ZAq 227 :=
 ZF2 (M:=ZOa) (c:=Zne 228) (f:=f227) rfl [227,249,259,226,248] 100000 (X:=nowhere) (fun _ _ _ _ _=>ZAH.nowhere) (by intro x;kernel_rfl)
/-! ### slices.SortFunc: by the shelf -/
abbrev ZGy:Type:=(List ZAI)×Unit
noncomputable def ZDY (l0:(List ZAI)):Option ZGy:=bif decide (l0.length<4611686018427387904) then some (ZIu ZAt l0,()) else none
theorem ZF5 : ∃ f,f = @ZDY:=⟨_,rfl⟩
noncomputable def ZA6:=Classical.choose ZF5
theorem ZF6 : @ZA6 = @ZDY:=Classical.choose_spec ZF5
@[reducible] noncomputable def ZNP:List Pat:=[.all 0,.func 228 [] []]
@[reducible] noncomputable def ZNQ:List HPat:=[.row ZAO]
@[reducible] noncomputable def ZNR:List Pat:=[]
@[reducible] noncomputable def ZNS:List HPat:=[.row ZAO]
noncomputable def ZAf:HCon:=HCon.mk0 ZNP ZNQ ZNR ZNS ZGy (fun x=>ZA6 x.2.1) (fun r=>((),(r.1,()))) (fun y=>(y.2.1,())) (fun _=>rfl)
theorem ZAr:ZAf.Sound prog Inv ZAq 227:=by
 have e:ZAf=ZrB ZAO ZAt 228:=by unfold ZAf;rw [ZF6];rfl
 rw [e]
 refine Znf rfl ZBl ZM2 rfl fun blk cap d w hH hblk hsz => ?_
 have eg : ∀ args w,(callFunc 228 args).run prog w = .ok (.enter 228 args) w:=enters_of func228 (by kernel_rfl) rfl
 exact AnyQ.slices_SortFunc_eq ZM1 2 isAgg281 sizeOf281 (Ze5 ZAO) (fun x=>Zc3 rfl x) (fun x v hv=>ZkM x v hv) ZAt ZBl 228 #[] blk 0 cap d w eg (fun _ _ _ _ x y=>ZLY x y _) hH hblk hsz
noncomputable def ZjM:Mach prog Inv ZAq:=ZFE bas [(208,f208),(166,f166),(226,f226),(227,f227),(228,f228),(229,f229),(247,f247),(248,f248),(249,f249),(255,f255),(256,f256),(259,f259),(260,f260),(261,f261),(262,f262),(263,f263),(264,f264),(265,f265),(266,f266),(268,f268),(269,f269),(270,f270),(271,f271)] ⟨ZSO,ZyE,Zfw,Za0,ZoX,Zp0,ZrA,ZmU,ZoY,Zk4,ZmV,ZoZ,Zp1,Zp2,Zp3,Zp4,Zp5,Zp6,Zp7,Zp8,Zp9,ZqA,ZqB,trivial⟩ [] trivial [] trivial [(227,ZAf)] ⟨⟨ZAr,ZAa.callable Za0⟩,trivial⟩
@[reducible] noncomputable def ZW5:List Pat:=[.all 0,.func 166 [] []]
@[reducible] noncomputable def ZW6:List HPat:=[.row ZAO]
/-! ### domino/ranges.runs -/
abbrev ZRA:Type:=(List ZAA)×Unit
@[reducible] noncomputable def ZW7:List Pat:=[.func 229 [] [.ptr 1 0,.ptr 2 0]]
@[reducible] noncomputable def ZW8:List HPat:=[.row ZAO,.cells 238 [.all 0],.cells 237 [.func 166 [] []]]
def Zhr:List Nat:=[208,166,226,227,228,229,247,248,249,255,256,259,260,261,262,263,264,265,266,268,269,270,271]
noncomputable def ZL9 (l0:(List ZAA)):Option ZRA :=
 ZAX (ZA6 l0) fun y1=>
 some (y1.1,())
theorem ZW9 : ∃ f,f = @ZL9:=⟨_,rfl⟩
noncomputable def ZLZ:=Classical.choose ZW9
theorem ZXA : @ZLZ = @ZL9:=Classical.choose_spec ZW9
noncomputable def ZPM:HCon:=HCon.mk0 ZW5 ZW6 ZW7 ZW8 ZRA (fun x=>ZL9 x.2.1) (fun r=>((((),((),((),()))),()),(r.1,(((),()),((((),()),()),()))))) (fun y=>(y.2.1,())) (fun _=>rfl)
noncomputable def ZEU:HCon:=HCon.mk0 ZW5 ZW6 ZW7 ZW8 ZRA (fun x=>ZLZ x.2.1) (fun r=>((((),((),((),()))),()),(r.1,(((),()),((((),()),()),()))))) (fun y=>(y.2.1,())) (fun _=>rfl)
theorem ZdF:ZPM.Sound prog Inv ZAq 208 :=
 ZF2 (M:=ZjM) (f:=f208) rfl Zhr 100000 (X:=nowhere) (fun base S0 cs0 hn hf=>ZAH.nowhere) (by intro x;kernel_rfl)
theorem ZFF:ZEU.Sound prog Inv ZAq 208:=by
 have e:ZEU=ZPM:=by unfold ZEU ZPM;rw [ZXA]
 rw [e];exact ZdF
noncomputable def ZjN:Mach prog Inv ZAq:=ZFE bas [(208,f208),(223,f223),(226,f226),(227,f227),(228,f228),(229,f229),(247,f247),(248,f248),(249,f249),(255,f255),(256,f256),(259,f259),(260,f260),(261,f261),(262,f262),(263,f263),(264,f264),(265,f265),(266,f266),(268,f268),(269,f269),(270,f270),(271,f271)] ⟨ZSO,ZxC,Zfw,Za0,ZoX,Zp0,ZrA,ZmU,ZoY,Zk4,ZmV,ZoZ,Zp1,Zp2,Zp3,Zp4,Zp5,Zp6,Zp7,Zp8,Zp9,ZqA,ZqB,trivial⟩ [] trivial [] trivial [(227,ZAf)] ⟨⟨ZAr,ZAa.callable Za0⟩,trivial⟩
@[reducible] noncomputable def ZXB:List Pat:=[.all 0,.func 223 [] []]
@[reducible] noncomputable def ZXC:List HPat:=[.row ZAO]
/-! ### domino/ranges.runs -/
abbrev ZRB:Type:=(List ZAA)×Unit
@[reducible] noncomputable def ZXD:List Pat:=[.func 229 [] [.ptr 1 0,.ptr 2 0]]
@[reducible] noncomputable def ZXE:List HPat:=[.row ZAO,.cells 238 [.all 0],.cells 237 [.func 223 [] []]]
def Zhs:List Nat:=[208,223,226,227,228,229,247,248,249,255,256,259,260,261,262,263,264,265,266,268,269,270,271]
noncomputable def ZMA (l0:(List ZAA)):Option ZRB :=
 ZAX (ZA6 l0) fun y1=>
 some (y1.1,())
theorem ZXF : ∃ f,f = @ZMA:=⟨_,rfl⟩
noncomputable def ZLa:=Classical.choose ZXF
theorem ZXG : @ZLa = @ZMA:=Classical.choose_spec ZXF
noncomputable def ZPN:HCon:=HCon.mk0 ZXB ZXC ZXD ZXE ZRB (fun x=>ZMA x.2.1) (fun r=>((((),((),((),()))),()),(r.1,(((),()),((((),()),()),()))))) (fun y=>(y.2.1,())) (fun _=>rfl)
noncomputable def ZEV:HCon:=HCon.mk0 ZXB ZXC ZXD ZXE ZRB (fun x=>ZLa x.2.1) (fun r=>((((),((),((),()))),()),(r.1,(((),()),((((),()),()),()))))) (fun y=>(y.2.1,())) (fun _=>rfl)
theorem ZdG:ZPN.Sound prog Inv ZAq 208 :=
 ZF2 (M:=ZjN) (f:=f208) rfl Zhs 100000 (X:=nowhere) (fun base S0 cs0 hn hf=>ZAH.nowhere) (by intro x;kernel_rfl)
theorem ZFG:ZEV.Sound prog Inv ZAq 208:=by
 have e:ZEV=ZPN:=by unfold ZEV ZPN;rw [ZXG]
 rw [e];exact ZdG
noncomputable def ZjO:Mach prog Inv ZAq:=ZFE bas [(208,f208),(203,f203),(226,f226),(227,f227),(228,f228),(229,f229),(247,f247),(248,f248),(249,f249),(255,f255),(256,f256),(259,f259),(260,f260),(261,f261),(262,f262),(263,f263),(264,f264),(265,f265),(266,f266),(268,f268),(269,f269),(270,f270),(271,f271)] ⟨ZSO,Zw8,Zfw,Za0,ZoX,Zp0,ZrA,ZmU,ZoY,Zk4,ZmV,ZoZ,Zp1,Zp2,Zp3,Zp4,Zp5,Zp6,Zp7,Zp8,Zp9,ZqA,ZqB,trivial⟩ [] trivial [] trivial [(227,ZAf)] ⟨⟨ZAr,ZAa.callable Za0⟩,trivial⟩
@[reducible] noncomputable def ZXH:List Pat:=[.all 0,.func 203 [] []]
@[reducible] noncomputable def ZXI:List HPat:=[.row ZAO]
/-! ### domino/ranges.runs -/
abbrev ZRC:Type:=(List ZAA)×Unit
@[reducible] noncomputable def ZXJ:List Pat:=[.func 229 [] [.ptr 1 0,.ptr 2 0]]
@[reducible] noncomputable def ZXK:List HPat:=[.row ZAO,.cells 238 [.all 0],.cells 237 [.func 203 [] []]]
def Zht:List Nat:=[208,203,226,227,228,229,247,248,249,255,256,259,260,261,262,263,264,265,266,268,269,270,271]
noncomputable def ZMB (l0:(List ZAA)):Option ZRC :=
 ZAX (ZA6 l0) fun y1=>
 some (y1.1,())
theorem ZXL : ∃ f,f = @ZMB:=⟨_,rfl⟩
noncomputable def ZLb:=Classical.choose ZXL
theorem ZXM : @ZLb = @ZMB:=Classical.choose_spec ZXL
noncomputable def ZPO:HCon:=HCon.mk0 ZXH ZXI ZXJ ZXK ZRC (fun x=>ZMB x.2.1) (fun r=>((((),((),((),()))),()),(r.1,(((),()),((((),()),()),()))))) (fun y=>(y.2.1,())) (fun _=>rfl)
noncomputable def ZEW:HCon:=HCon.mk0 ZXH ZXI ZXJ ZXK ZRC (fun x=>ZLb x.2.1) (fun r=>((((),((),((),()))),()),(r.1,(((),()),((((),()),()),()))))) (fun y=>(y.2.1,())) (fun _=>rfl)
theorem ZdH:ZPO.Sound prog Inv ZAq 208 :=
 ZF2 (M:=ZjO) (f:=f208) rfl Zht 100000 (X:=nowhere) (fun base S0 cs0 hn hf=>ZAH.nowhere) (by intro x;kernel_rfl)
theorem ZFH:ZEW.Sound prog Inv ZAq 208:=by
 have e:ZEW=ZPO:=by unfold ZEW ZPO;rw [ZXM]
 rw [e];exact ZdH
noncomputable def ZjP:Mach prog Inv ZAq:=ZFE bas [(208,f208),(211,f211),(226,f226),(227,f227),(228,f228),(229,f229),(247,f247),(248,f248),(249,f249),(255,f255),(256,f256),(259,f259),(260,f260),(261,f261),(262,f262),(263,f263),(264,f264),(265,f265),(266,f266),(268,f268),(269,f269),(270,f270),(271,f271)] ⟨ZSO,ZxB,Zfw,Za0,ZoX,Zp0,ZrA,ZmU,ZoY,Zk4,ZmV,ZoZ,Zp1,Zp2,Zp3,Zp4,Zp5,Zp6,Zp7,Zp8,Zp9,ZqA,ZqB,trivial⟩ [] trivial [] trivial [(227,ZAf)] ⟨⟨ZAr,ZAa.callable Za0⟩,trivial⟩
@[reducible] noncomputable def ZXN:List Pat:=[.all 0,.func 211 [] []]
@[reducible] noncomputable def ZXO:List HPat:=[.row ZAO]
/-! ### domino/ranges.runs -/
abbrev ZRD:Type:=(List ZAA)×Unit
@[reducible] noncomputable def ZXP:List Pat:=[.func 229 [] [.ptr 1 0,.ptr 2 0]]
@[reducible] noncomputable def ZXQ:List HPat:=[.row ZAO,.cells 238 [.all 0],.cells 237 [.func 211 [] []]]
def Zhu:List Nat:=[208,211,226,227,228,229,247,248,249,255,256,259,260,261,262,263,264,265,266,268,269,270,271]
noncomputable def ZMC (l0:(List ZAA)):Option ZRD :=
 ZAX (ZA6 l0) fun y1=>
 some (y1.1,())
theorem ZXR : ∃ f,f = @ZMC:=⟨_,rfl⟩
noncomputable def ZLc:=Classical.choose ZXR
theorem ZXS : @ZLc = @ZMC:=Classical.choose_spec ZXR
noncomputable def ZPP:HCon:=HCon.mk0 ZXN ZXO ZXP ZXQ ZRD (fun x=>ZMC x.2.1) (fun r=>((((),((),((),()))),()),(r.1,(((),()),((((),()),()),()))))) (fun y=>(y.2.1,())) (fun _=>rfl)
noncomputable def ZEX:HCon:=HCon.mk0 ZXN ZXO ZXP ZXQ ZRD (fun x=>ZLc x.2.1) (fun r=>((((),((),((),()))),()),(r.1,(((),()),((((),()),()),()))))) (fun y=>(y.2.1,())) (fun _=>rfl)
theorem ZdI:ZPP.Sound prog Inv ZAq 208 :=
 ZF2 (M:=ZjP) (f:=f208) rfl Zhu 100000 (X:=nowhere) (fun base S0 cs0 hn hf=>ZAH.nowhere) (by intro x;kernel_rfl)
theorem ZFI:ZEX.Sound prog Inv ZAq 208:=by
 have e:ZEX=ZPP:=by unfold ZEX ZPP;rw [ZXS]
 rw [e];exact ZdI
attribute [local go_sem] Oper.semAt_some
def ZpK (at_:Int):List ZAI→Int→Int×List ZAI
 | [],w=>(w,[])
 | e::l,w=>if e.1=at_ then ZpK at_ l (Go.IntKind.wrap .i64 (w+e.2.1)) else (w,e::l)
theorem Zoa (a:Int) : ∀ (l:List ZAI) (w:Int),(ZpK a l w).2.length≤l.length
 | [],_=>Nat.le_refl _
 | e::l,w=>by
  unfold ZpK
  split
  · exact Nat.le_succ_of_le (Zoa a l _)
  · exact Nat.le_refl _
def ZOb (wf:Int→Bool) (l:List ZAI) (w:Int) (op:Bool) (fr:Int):List ZAA:=match l with
 | []=>[]
 | e::l=>
  let r:=ZpK e.1 l (Go.IntKind.wrap .i64 (w+e.2.1))
  if wf r.1 && !op then ZOb wf r.2 r.1 true e.1
  else if !wf r.1&&op then (fr,Go.IntKind.wrap .u64 (e.1 - 1),())::ZOb wf r.2 r.1 false fr
  else ZOb wf r.2 r.1 op fr
termination_by l.length
decreasing_by all_goals (have:=Zoa e.1 l (Go.IntKind.wrap .i64 (w+e.2.1));simp;omega)
theorem Zyj {α:Type} {a b:Bool} {x y z:α} (h:a=true) (k:(!b)=true):(if a && !b then x else if !a&&b then y else z)=x:=by simp only [h,k,Bool.and_self,if_true]
theorem Zyk {α:Type} {a b:Bool} {x y z:α} (h:a=true) (k:(!b)=false):(if a && !b then x else if !a&&b then y else z)=z:=by simp [h,k]
theorem Zyl {α:Type} {a b:Bool} {x y z:α} (h:a=false) (k:b=false):(if a && !b then x else if !a&&b then y else z)=z:=by simp [h,k]
theorem Zvi {α:Type} {a b:Bool} {x y z:α} (h:a=false) (k:b=true):(if a && !b then x else if !a&&b then y else z)=y:=by simp [h,k]
def ZTS (bl bw rb cap fW:Nat) (a:Option Addr) (L:List ZAI) (W:World):Prop :=
 W.cell? ⟨bl,0,none⟩=some (.slice a L.length cap)∧W.cell? ⟨bw,0,none⟩=some (.func (.func fW) #[] #[]) ∧
 ∀ i (h:i<L.length),a=some ⟨rb,0,none⟩∧W.cell? ⟨rb,i*2,none⟩=some (.int .u64 L[i].1)∧W.cell? ⟨rb,i*2+1,none⟩=some (.int .i64 L[i].2.1)
set_option maxHeartbeats 4000000 in
theorem ZxF {wf:Int→Bool} {fW:Nat} (hw : ∀ (v:Int) (W:World),Calls prog fW #[.int .i64 v] W fun e W'=>e = .returned (.bool (wf v))∧W'=W)
  (eg : ∀ args w,(callFunc fW args).run prog w = .ok (.enter fW args) w) (l bl bw rb cap:Nat) (a:Option Addr) (L:List ZAI) (hL:L.length<4611686018427387904) (J Jx:List ZAA→World→Prop)
  (hY : ∀ pre x W,J pre W→pre.length<(ZOb wf L 0 false 0).length→YieldAt Fence.wide 0 prog l #[.agg #[.int .u64 x.1,.int .u64 x.2.1]] W fun e W'=>
   (e = .returned (.bool true)∧J (pre++[x]) W'∧(ZTS bl bw rb cap fW a L W→ZTS bl bw rb cap fW a L W'))∨(e = .returned (.bool false)∧Jx (pre++[x]) W'))
  (W:World) (hR:ZTS bl bw rb cap fW a L W) (h0:J [] W) :
  CallsIn Fence.wide 1 prog 229 #[.func (.yield l) #[] #[],.pointer (some ⟨bl,0,none⟩),.pointer (some ⟨bw,0,none⟩)] W fun e W'=>(∃ v,e = .returned v) ∧
   ((∃ ys,ys=ZOb wf L 0 false 0∧J ys W')∨(∃ pre,True∧Jx pre W')):=by
 refine callsIn_of_wp func229 rfl trivial ?_ rfl
 simp only [ntmps229,List.size_toArray,List.length_cons,List.length_nil,Nat.reduceAdd,Nat.reduceSub,Array.replicate_succ,Array.replicate_zero,List.push_toArray,List.append_toArray,List.nil_append,List.cons_append]
 gi_wp2
 gi_loopw [4,5,6,7] (fun w o f i wr => ∃ (pre:List ZAA) (wv fv:Int) (ov:Bool) (k:Nat),w = .int .i64 wv∧o = .bool ov∧f = .int .u64 fv∧i = .int .i64 k∧k≤L.length ∧
   ZOb wf L 0 false 0=pre++ZOb wf (L.drop k) wv ov fv∧ZTS bl bw rb cap fW a L wr∧J pre wr)
  (fun _ _ _ i _=>L.length - (intOf i).toNat)
 case atStart=>exact ⟨[],0,0,false,0,rfl,rfl,rfl,rfl,Nat.zero_le _,rfl,hR,h0⟩
 case round=>
  obtain ⟨pre,wv,fv,ov,k,rfl,rfl,rfl,rfl,hk,hruns,hr,hJ⟩:=hrel
  have hkeep:=hr
  obtain ⟨hr1,hr2,hr3⟩:=hr
  rcases Nat.lt_or_ge k L.length with hlt | hge
  ·
   obtain ⟨rfl,c1,c2⟩:=hr3 k hlt
   have hstep : ∀ r,ZpK L[k].1 (L.drop k) wv=r→ZOb wf (L.drop k) wv ov fv=(if wf r.1 && !ov then ZOb wf r.2 r.1 true L[k].1 else if !wf r.1&&ov then (fv,Go.IntKind.wrap .u64 (L[k].1 - 1),())::ZOb wf r.2 r.1 false fv else ZOb wf r.2 r.1 ov fv):=by
    rintro r rfl
    rw [List.drop_eq_getElem_cons hlt,ZOb,ZpK,if_pos rfl]
   gi_wp2
   gi_loop [4,7] (fun w i => ∃ (wv':Int) (k':Nat),w = .int .i64 wv'∧i = .int .i64 k'∧k≤k'∧k'≤L.length∧(k=k'→wv'=wv)∧ZpK L[k].1 (L.drop k) wv=ZpK L[k].1 (L.drop k') wv') (fun _ i=>L.length - (intOf i).toNat)
   case atStart=>exact ⟨wv,k,rfl,rfl,Nat.le_refl _,hk,fun _=>rfl,rfl⟩
   case round=>
    obtain ⟨wv',k',rfl,rfl,hkk,hk',hstart,hgrp⟩:=hrel
    rcases Nat.lt_or_ge k' L.length with hlt' | hge'
    ·
     obtain ⟨_,d1,d2⟩:=hr3 k' hlt'
     gi_wp2
     ·
      rename_i heq
      refine ⟨⟨_,k'+1,rfl,by simp,by omega,by omega,fun h=>by omega,?_⟩,by simp [intOf];omega⟩
      rw [hgrp,List.drop_eq_getElem_cons hlt',ZpK,if_pos (eq_of_beq heq),Go.IntKind.wrap_i64]
      simp only [wrap64]
     ·
      have hne:L[k'].1≠L[k].1:=by
       have h:(L[k'].1==L[k].1)=false:=by assumption
       exact fun e=>by rw [e] at h;simp at h
      have hr':ZpK L[k].1 (L.drop k) wv=(wv',L.drop k'):=by rw [hgrp,List.drop_eq_getElem_cons hlt',ZpK,if_neg hne]
      have hkk':k<k':=Nat.lt_of_le_of_ne hkk (fun e=>hne (by subst e;rfl))
      have hE:=hstep _ hr'
      rw [hE] at hruns
      refine ⟨trivial,?_⟩
      gi_wp2
      refine (callsIn_wide.mpr (hw _ _)).mono ?_
      rintro e W' ⟨rfl,rfl⟩
      gi_wp2
      all_goals try (refine ⟨⟨pre,wv',_,_,k',rfl,rfl,rfl,rfl,hk',?_,hkeep,hJ⟩,by simp [intOf];omega⟩)
      all_goals try (refine hruns.trans (congrArg (pre ++ ·) ?_))
      all_goals try (first | exact Zyj (by assumption) (by assumption) | exact Zyk (by assumption) (by assumption) | exact Zyl (by first | assumption | exact Bool.eq_false_iff.mpr (by assumption)) (by first | rfl | assumption))
      all_goals
       obtain ⟨fn,tmps,assign,body,hy,hR'⟩:=hY pre (fv,Go.IntKind.wrap .u64 (L[k].1 - 1),()) _ hJ (by rw [hruns.trans (congrArg (pre ++ ·) (Zvi (by first | assumption | exact Bool.eq_false_iff.mpr (by assumption)) (by first | rfl | assumption)))];simp)
       gi_wp2
       refine hR'.mono ?_
       rintro e W3 (⟨rfl,hJ3,hk3⟩ | ⟨rfl,hJx3⟩)
       ·
        gi_wp2
        refine ⟨⟨pre++[(fv,Go.IntKind.wrap .u64 (L[k].1 - 1),())],wv',_,_,k',rfl,rfl,rfl,rfl,hk',?_,hk3 hkeep,hJ3⟩,by simp [intOf];omega⟩
        rw [hruns.trans (congrArg (pre ++ ·) (Zvi (by first | assumption | exact Bool.eq_false_iff.mpr (by assumption)) (by first | rfl | assumption)))]
        simp
       ·
        gi_wp2
        refine bodyPost_ret (results_none rfl _ _ _) rfl ?_
        exact ⟨⟨_,rfl⟩,.inr ⟨_,trivial,hJx3⟩⟩
    ·
     have hr':ZpK L[k].1 (L.drop k) wv=(wv',L.drop k'):=by rw [hgrp,List.drop_eq_nil_of_le hge'];rfl
     have hkk':k<k':=by omega
     gi_wp2
     have hE:=hstep _ hr'
     rw [hE] at hruns
     refine ⟨trivial,?_⟩
     gi_wp2
     refine (callsIn_wide.mpr (hw _ _)).mono ?_
     rintro e W' ⟨rfl,rfl⟩
     gi_wp2
     all_goals try (refine ⟨⟨pre,wv',_,_,k',rfl,rfl,rfl,rfl,hk',?_,hkeep,hJ⟩,by simp [intOf];omega⟩)
     all_goals try (refine hruns.trans (congrArg (pre ++ ·) ?_))
     all_goals try (first | exact Zyj (by assumption) (by assumption) | exact Zyk (by assumption) (by assumption) | exact Zyl (by first | assumption | exact Bool.eq_false_iff.mpr (by assumption)) (by first | rfl | assumption))
     all_goals
      obtain ⟨fn,tmps,assign,body,hy,hR'⟩:=hY pre (fv,Go.IntKind.wrap .u64 (L[k].1 - 1),()) _ hJ (by rw [hruns.trans (congrArg (pre ++ ·) (Zvi (by first | assumption | exact Bool.eq_false_iff.mpr (by assumption)) (by first | rfl | assumption)))];simp)
      gi_wp2
      refine hR'.mono ?_
      rintro e W3 (⟨rfl,hJ3,hk3⟩ | ⟨rfl,hJx3⟩)
      ·
       gi_wp2
       refine ⟨⟨pre++[(fv,Go.IntKind.wrap .u64 (L[k].1 - 1),())],wv',_,_,k',rfl,rfl,rfl,rfl,hk',?_,hk3 hkeep,hJ3⟩,by simp [intOf];omega⟩
       rw [hruns.trans (congrArg (pre ++ ·) (Zvi (by first | assumption | exact Bool.eq_false_iff.mpr (by assumption)) (by first | rfl | assumption)))]
       simp
      ·
       gi_wp2
       refine bodyPost_ret (results_none rfl _ _ _) rfl ?_
       exact ⟨⟨_,rfl⟩,.inr ⟨_,trivial,hJx3⟩⟩
  ·
   gi_wp2
   go_end0
   exact ⟨⟨_,rfl⟩,.inl ⟨pre,by rw [hruns,List.drop_eq_nil_of_le hge];simp [ZOb],hJ⟩⟩
def Zs1 (v:Int):Bool:=decide (0<v)
def Zs2 (v:Int):Bool:=decide (v=1)
theorem ZuG (v:Int) (W:World):Calls prog 166 #[.int .i64 v] W fun e W'=>e = .returned (.bool (Zs1 v))∧W'=W:=by
 go_enter func166,ntmps166
 go_wp2
 go_ret
 exact ⟨by simp [Zs1],rfl⟩
theorem ZuH (v:Int) (W:World):Calls prog 223 #[.int .i64 v] W fun e W'=>e = .returned (.bool (Zs1 v))∧W'=W:=by
 go_enter func223,ntmps223
 go_wp2
 go_ret
 exact ⟨by simp [Zs1],rfl⟩
theorem ZuI (v:Int) (W:World):Calls prog 203 #[.int .i64 v] W fun e W'=>e = .returned (.bool (Zs2 v))∧W'=W:=by
 go_enter func203,ntmps203
 go_wp2
 go_ret
 exact ⟨by simp only [Zs2];rw [Bool.beq_eq_decide_eq];rfl,rfl⟩
theorem ZuJ (v:Int) (W:World):Calls prog 211 #[.int .i64 v] W fun e W'=>e = .returned (.bool (Zs2 v))∧W'=W:=by
 go_enter func211,ntmps211
 go_wp2
 go_ret
 exact ⟨by simp only [Zs2];rw [Bool.beq_eq_decide_eq];rfl,rfl⟩
theorem Zvj {base:Base} {S0:Nat→Prop} {ρ:Loc} {w:World} {S:Nat→Prop} {fW e1 e2:Nat} {L:List ZAI} {v:Value}
  (hh:HRel base S0 ρ [some (.row ZAO L),some (.cells e1 [.all 0]),some (.cells e2 [.func (.func fW) [] []])] w S)
  (hv:ZAW ρ [some (.row ZAO L),some (.cells e1 [.all 0]),some (.cells e2 [.func (.func fW) [] []])] w S (.func (.func 229) [] [.ptr 1 0,.ptr 2 0]) v) :
  ∃ bl bw rb cap a,v = .func (.func 229) #[] #[.pointer (some ⟨bl,0,none⟩),.pointer (some ⟨bw,0,none⟩)]∧ZTS bl bw rb cap fW a L w∧bl<w.heap.size∧bw<w.heap.size ∧ ¬ base.B bl ∧ ¬ base.B bw ∧ ∀ i,i<L.length → ¬ base.B rb∧rb<w.heap.size:=by
 have a0:ZAZ.at? [some (AO.row ZAO L),some (.cells e1 [.all 0]),some (.cells e2 [.func (.func fW) [] []])] 0=some (.row ZAO L):=rfl
 have a1:ZAZ.at? [some (AO.row ZAO L),some (.cells e1 [.all 0]),some (.cells e2 [.func (.func fW) [] []])] 1=some (.cells e1 [.all 0]):=rfl
 have a2:ZAZ.at? [some (AO.row ZAO L),some (.cells e1 [.all 0]),some (.cells e2 [.func (.func fW) [] []])] 2=some (.cells e2 [.func (.func fW) [] []]):=rfl
 obtain ⟨bl,arr1,fz1,r1,h1,_,c1⟩:=hh.block _ _ a1
 obtain ⟨bw,arr2,fz2,r2,h2,_,c2⟩:=hh.block _ _ a2
 have f1:=hh.from_ _ _ _ _ a1 r1
 have f2:=hh.from_ _ _ _ _ a2 r2
 simp only [ZAW,ZAQ] at hv
 obtain ⟨f,c,rfl,hf,u1,us,hc,hp1,u2,us2,rfl,hp2,rfl⟩:=hv
 obtain ⟨b1,n1,q1,rfl⟩:=hp1.2 rfl
 obtain ⟨b2,n2,q2,rfl⟩:=hp2.2 rfl
 rw [r1] at q1;cases q1
 rw [r2] at q2;cases q2
 simp only [ZAQ] at c1 c2
 obtain ⟨s,us,ea1,hs,rfl⟩:=c1
 obtain ⟨g,us2,ea2,hg,rfl⟩:=c2
 have ea1:arr1 = #[s]:=by apply Array.ext';simpa using ea1
 have ea2:arr2 = #[g]:=by apply Array.ext';simpa using ea2
 subst ea1 ea2
 have hfe:f = #[]:=Array.toList_eq_nil_iff.mp hf
 have hce:c = #[.pointer (some ⟨bl,0,none⟩),.pointer (some ⟨bw,0,none⟩)]:=by apply Array.ext';simpa using hc
 subst hfe hce
 simp only [ZAW,ZAQ] at hg hs
 obtain ⟨gf,gc,rfl,g1,g2⟩:=hg
 have:gf = #[]:=Array.toList_eq_nil_iff.mp g1
 subst this
 have:gc = #[]:=Array.toList_eq_nil_iff.mp g2
 subst this
 have k1:w.cell? ⟨bl,0,none⟩=some s:=by simp [World.cell?,h1]
 have k2:w.cell? ⟨bw,0,none⟩=some (.func (.func fW) #[] #[]):=by simp [World.cell?,h2]
 rcases hs.2 _ a0 rfl with ⟨rb,n,cap,hr,rfl,_,_⟩ | ⟨h0,rfl⟩
 ·
  rcases hh.block _ _ a0 with ⟨rb',arr,elem,fz,q1,q2,q3,q4,q5⟩ | ⟨q1,_⟩
  ·
   rw [hr] at q1
   cases q1
   refine ⟨bl,bw,rb,cap,some ⟨rb,0,none⟩,rfl,⟨k1,k2,fun i hi=>⟨rfl,?_,?_⟩⟩,f1.2,f2.2,f1.1,f2.1,fun _ _=>hh.from_ _ _ _ _ a0 hr⟩
   ·
    obtain ⟨vs,p1,p2⟩:=q4 i hi
    obtain ⟨x1,x2,rfl,rfl,y1,y2,rfl,rfl,rfl⟩:=p1
    have:arr[i*2]? = some (.int .u64 L[i].1):=p2 0 (by simp)
    simpa [World.cell?,q2] using this
   ·
    obtain ⟨vs,p1,p2⟩:=q4 i hi
    obtain ⟨x1,x2,rfl,rfl,y1,y2,rfl,rfl,rfl⟩:=p1
    have:arr[i*2+1]? = some (.int .i64 L[i].2.1):=p2 1 (by simp)
    simpa [World.cell?,q2] using this
  · rw [hr] at q1;cases q1
 ·
  have hL:L=[]:=List.length_eq_zero_iff.mp h0
  subst hL
  exact ⟨bl,bw,0,0,none,rfl,⟨k1,k2,fun i hi=>by simp at hi⟩,f1.2,f2.2,f1.1,f2.1,fun i hi=>by simp at hi⟩
end Go.Proofs.YtamaklnhjagifaaGreatDoor.V
namespace Go.Proofs.YtamaklnhjagifaaGreatDoor.V
open Go.RowKit
set_option linter.unusedVariables false
def Zhv {β:Type} (n:Nat) (I:β→World→Prop):Prop :=
 ∀ s W W' row,I s W→W.grownBy W' row→(∀ r,row=some r→n≤r ∧ ∃ o:Obj,W.heap[r]? = some o∧o.isCells=false)→I s W'
theorem Zhv.putObj {β:Type} {n:Nat} {I:β→World→Prop} (h:Zhv n I) {s:β} {W:World} {l:Nat} {o:Obj} (o':Obj) (hs:I s W) (hn:n≤l) (hl:W.heap[l]? = some o) (ho:o.isCells=false):I s (W.putObj l o') :=
 h s W _ (some l) hs (grownBy_putObj' W l o') (fun r e=>by cases e;exact ⟨hn,o,hl,ho⟩)
theorem Zhv.alloc {β:Type} {n:Nat} {I:β→World→Prop} (h:Zhv n I) {s:β} {W:World} (o:Obj) (hs:I s W):I s (W.alloc o) :=
 h s W _ none hs (World.grownBy_alloc W o none) (fun r e=>by cases e)
theorem ZuK {P:Program} {α:Type} {g:Operand} {ps:Array Tmp} {assign body:Code} {Q:Exit→Act→World→Prop} {a:Act} {w:World} {gf:Nat} {lb:Array Value}
  (hg:a.eval g = .func (.func gf) #[] lb) (eg : ∀ args w,(callFunc gf args).run P w = .ok (.enter gf args) w) {encs:α→Array Value} (hps : ∀ x,(encs x).size=ps.size)
  {I:List α→World→Prop} (hI:Zhv w.heap.size I) (h0:I [] w) {xs:List α}
  (hseq : ∀ (l:Nat) (J:List α→World→Prop) (W:World),(∀ pre W',J pre W'→I pre W') →
   (∀ pre x W1,J pre W1→pre.length<xs.length→YieldAt Fence.wide 0 P l (encs x) W1 fun e W'=>e = .returned (.bool true)∧J (pre++[x]) W')→J [] W →
   CallsIn Fence.wide 1 P gf (#[.func (.yield l) #[] #[]]++lb) W fun e W'=>(∃ v,e = .returned v)∧J xs W')
  {I1:List α→α→Act→World→Prop} (hI1 : ∀ x a,Zhv w.heap.size fun pre W=>I1 pre x a W)
  (hassign : ∀ (l:Nat) (pre:List α) (x:α) (W:World),I pre W→pre.length<xs.length→assign.wpIn (Fence.wide.inRound l) 0 P (Exit.then (fun a₁ w₁=>KeepsOthers W w₁∧I1 pre x a₁ w₁) (fun _ _ _=>False)) { tmps:=(ps.zip (encs x)).foldl (fun t (p,v)=>t.setIfInBounds p v) a.tmps,defers:=[] } W)
  (hbody : ∀ (l:Nat) (pre:List α) (x:α) (a₁:Act) (W:World),I1 pre x a₁ W→pre.length<xs.length→body.wpIn (Fence.wide.inRound l) 0 P (fun e _ W'=>e = .normal∧KeepsOthers W W'∧I (pre++[x]) W') a₁ W)
  (hdone : ∀ (D:Nat) (W:World),w.heap.size≤D→I xs W→W.heap[D]? = some (.deferred (some []))→Q .normal { a with defers := { target := .collected D,args := #[] }::a.defers } W) :
  (Code.rangeFunc g ps assign body).wpIn Fence.wide 2 P Q a w:=by
 refine wpIn_rangeFunc ?_
 intro fn hfn
 obtain ⟨rec,hrec⟩ : ∃ rec:LoopState→Option Code→Loop,rec=fun st pe => { state:=st,pending:=pe,fn,tmps:=a.tmps,params:=ps,assign,body,defers:=w.heap.size }:=⟨_,rfl⟩
 obtain ⟨W1,hW1⟩ : ∃ W1,(w.alloc (.deferred (some []))).alloc (.loop (rec .ready none))=W1:=⟨_,rfl⟩
 have hL1:W1.heap[w.heap.size+1]? = some (.loop (rec .ready none)):=by
  rw [← hW1]
  have:=World.alloc_heap_new (w.alloc (.deferred (some []))) (.loop (rec .ready none))
  rwa [World.size_alloc] at this
 have hK1:W1.heap[w.heap.size]? = some (.deferred (some [])):=by
  rw [← hW1];exact (Below.heap_alloc _ _ _ (by simp)).trans (World.alloc_heap_new w _)
 have hI2:I [] W1:=by rw [← hW1];exact hI.alloc _ (hI.alloc _ h0)
 refine ⟨w.heap.size+1,[{ target := .collected w.heap.size,args := #[] }],W1,{ target := .fn (.func gf) lb,args := #[.func (.yield (w.heap.size+1)) #[] #[]] },W1,gf,
  #[.func (.yield (w.heap.size+1)) #[] #[]]++lb,W1,?_,?_,fun _ _=>trivial,?_,fun _=>by decide,?_⟩
 · rw [← hW1,hrec];exact run_enterLoop_outer _ _ _ _ _
 ·
  simp only [resolve,hg]
  simp [go_sem]
 · simp [invoke,go_sem,eg]
 ·
  refine (hseq (w.heap.size+1) (fun pre W=>I pre W∧W.heap[w.heap.size+1]? = some (.loop (rec .ready none))∧W.heap[w.heap.size]? = some (.deferred (some []))) W1 (fun _ _ h=>h.1) ?_ ⟨hI2,hL1,hK1⟩).mono ?_
  ·
   rintro pre x W ⟨hi,hl,hk⟩ hlen
   have hlt:w.heap.size+1<W.heap.size:=(Array.getElem?_eq_some_iff.1 hl).1
   have hy:=run_yield (P:=P) (args:=encs x) hl (by rw [hrec];exact hps x)
   rw [hrec] at hy
   refine ⟨fn,_,assign,body,hy,roundIn_of_wpIn trivial (wpIn_mono (hassign _ pre x W hi hlen) ?_)⟩
   rintro e a₁ w₁ hp
   cases e with
   | normal=>
    obtain ⟨k1,i1⟩:=hp
    have hl1:=k1.same _ _ hl rfl
    have hk1:=k1.same _ _ hk rfl
    refine ⟨_,run_beginRound hl1 (by rw [hrec]),?_⟩
    have hlt1:w.heap.size+1<w₁.heap.size:=(Array.getElem?_eq_some_iff.1 hl1).1
    have hl2:(w₁.putObj (w.heap.size+1) (.loop { rec .ready none with state := .busy })).heap[w.heap.size+1]? = some (.loop { rec .ready none with state := .busy }):=World.putObj_heap_same hlt1
    have hk2:(w₁.putObj (w.heap.size+1) (.loop { rec .ready none with state := .busy })).heap[w.heap.size]? = some (.deferred (some [])):=(World.putObj_heap_other (by omega)).trans hk1
    refine wpIn_mono (hbody _ pre x a₁ _ ((hI1 x a₁).putObj _ i1 (Nat.le_succ _) hl1 rfl) hlen) ?_
    rintro e a3 W3 ⟨rfl,hk3,hi3⟩
    have hl3:=hk3.same _ _ hl2 rfl
    have hr:=run_endRound (P:=P) none hl3
    rw [hrec] at hr hl3 ⊢
    exact ⟨_,_,hr,rfl,hI.putObj _ hi3 (Nat.le_succ _) hl3 rfl,World.putObj_heap_same (Array.getElem?_eq_some_iff.1 hl3).1,(World.putObj_heap_other (by omega)).trans (hk3.same _ _ hk2 rfl)⟩
   | ret=>exact hp.elim
   | exit id=>exact hp.elim
   | goto t=>exact hp.elim
   | panic ch=>exact hp.elim
   | outgrown=>exact hp.elim
  ·
   rintro e W2 ⟨⟨v,rfl⟩,hi,hl,hk⟩
   refine ⟨none,_,by have:=run_endLoop (P:=P) hl (by rw [hrec];simp);rw [hrec] at this;exact this,hdone _ _ (Nat.le_refl _) (hI.putObj _ hi (Nat.le_succ _) hl rfl) ((World.putObj_heap_other (by omega)).trans hk)⟩
end Go.Proofs.YtamaklnhjagifaaGreatDoor.V
namespace Go.Proofs.YtamaklnhjagifaaGreatDoor.V
open Go.RowKit Go.Proofs.Tryz
set_option linter.unusedVariables false
set_option maxRecDepth 100000
attribute [local go_sem] Oper.semAt_some
theorem ZqD (wf:Int→Bool) : ∀ (n:Nat) (l:List ZAI) (w:Int) (op:Bool) (fr:Int),l.length≤n→(ZOb wf l w op fr).length≤l.length
 | _,[],_,_,_,_=>by simp [ZOb]
 | 0,e::l,_,_,_,h=>by simp at h
 | n+1,e::l,w,op,fr,h=>by
  have hg:=Zoa e.1 l (Go.IntKind.wrap .i64 (w+e.2.1))
  have hn:l.length≤n:=by simpa using h
  rw [ZOb]
  have ih:=fun a b c=>ZqD wf n (ZpK e.1 l (Go.IntKind.wrap .i64 (w+e.2.1))).2 a b c (Nat.le_trans hg hn)
  simp only [List.length_cons]
  split
  · have:=ih (ZpK e.1 l (Go.IntKind.wrap .i64 (w+e.2.1))).1 true e.1;omega
  ·
   split
   · have:=ih (ZpK e.1 l (Go.IntKind.wrap .i64 (w+e.2.1))).1 false fr;simp only [List.length_cons];omega
   · have:=ih (ZpK e.1 l (Go.IntKind.wrap .i64 (w+e.2.1))).1 op fr;omega
theorem ZTS.kept {bl bw rb cap fW:Nat} {a:Option Addr} {L:List ZAI} {W W':World} {row:Option Nat} (h:ZTS bl bw rb cap fW a L W) (hg:W.grownBy W' row) (hne : ∀ r,row=some r→r≠bl∧r≠bw ∧ ∀ i,i<L.length→r≠rb):ZTS bl bw rb cap fW a L W':=by
 have key : ∀ {b k:Nat} {v:Value},W.cell? ⟨b,k,none⟩=some v→(∀ r,row=some r→r≠b)→W'.cell? ⟨b,k,none⟩=some v:=fun hc hr=>hg.cell hc (fun e=>hr _ e.symm rfl)
 refine ⟨key h.1 fun r hr=>(hne r hr).1,key h.2.1 fun r hr=>(hne r hr).2.1,fun i hi=>⟨(h.2.2 i hi).1,key (h.2.2 i hi).2.1 fun r hr=>(hne r hr).2.2 i hi,key (h.2.2 i hi).2.2 fun r hr=>(hne r hr).2.2 i hi⟩⟩
def ZmW (l:List ZAA):List Value:=l.flatMap fun x=>[.int .u64 x.1,.int .u64 x.2.1]
theorem Zsh (l:List ZAA) (x:ZAA):ZmW (l++[x])=ZmW l++[.int .u64 x.1,.int .u64 x.2.1]:=by simp [ZmW]
def SwI (w:World) (n bl bw rb cap fW:Nat) (a:Option Addr) (L:List ZAI) (pre:List ZAA) (W:World):Prop :=
 ∃ o,W.heap[w.heap.size]? = some (.cells #[o] 28 (0,0))∧W.ownsRow n 157 2 o pre.length (ZmW pre)∧ZTS bl bw rb cap fW a L W∧Below w.heap.size w W∧n≤W.heap.size
structure SwB (w:World) (n bl bw rb:Nat) (L:List ZAI):Prop where
 c:w.heap.size<n
 l:w.heap.size<bl∧bl<n
 f:w.heap.size<bw∧bw<n
 r : ∀ i,i<L.length→w.heap.size<rb∧rb<n
theorem SwI.grown {w:World} {n bl bw rb cap fW:Nat} {a:Option Addr} {L:List ZAI} (hb:SwB w n bl bw rb L) {pre:List ZAA} {W W':World} {row:Option Nat} (h:SwI w n bl bw rb cap fW a L pre W) (hg:W.grownBy W' row) (hr : ∀ r,row=some r→n≤r ∧ ∃ o:Obj,W.heap[r]? = some o∧o.isCells=false):SwI w n bl bw rb cap fW a L pre W':=by
 obtain ⟨o,h1,h2,h3,h4,h5⟩:=h
 have hlt:w.heap.size<W.heap.size:=(Array.getElem?_eq_some_iff.1 h1).1
 refine ⟨o,?_,h2.kept hg ?_,h3.kept hg fun r e => ?_,h4.grown hg (Nat.le_of_lt hlt) fun r e => ?_,Nat.le_trans h5 hg.size⟩
 ·
  rw [hg.block _ hlt (fun e=>by have:=(hr _ e.symm).1;have:=hb.c;omega)]
  exact h1
 ·
  cases hv:o.ownBlock with
  | none=>exact .inl rfl
  | some g=>
   refine .inr fun e => ?_
   obtain ⟨_,ob,k1,k2⟩:=hr g e.symm
   rcases h2.2 with ⟨rfl,_⟩ | ⟨g',cap',cur,rfl,_,q,_⟩
   · cases hv
   ·
    simp only [Value.ownBlock,Option.some.injEq] at hv
    subst hv
    rw [q] at k1
    cases k1
    cases k2
 ·
  obtain ⟨k1,_⟩:=hr r e
  have:=hb.l;have:=hb.f
  exact ⟨by omega,by omega,fun i hi=>by have:=hb.r i hi;omega⟩
 ·
  obtain ⟨k1,_⟩:=hr r e
  have:=hb.c
  omega
def Z0C (m n bl bw rb:Nat) (L:List ZAI):Prop:=(m≤bl∧bl<n)∧(m≤bw∧bw<n) ∧ ∀ i,i<L.length→m≤rb∧rb<n
theorem Ze8 {W:World} {m n:Nat} {e:TypeId} {size:Nat} {v:Value} {k:Nat} {xs:List Value} (h:W.ownsRow n e size v k xs) (hm:m≤n):W.ownsRow m e size v k xs:=by
 obtain ⟨h1,h2⟩:=h
 refine ⟨h1,?_⟩
 rcases h2 with h2 | ⟨g,cap,cur,k1,k2,k3⟩
 · exact .inl h2
 · exact .inr ⟨g,cap,cur,k1,Nat.le_trans hm k2,k3⟩
theorem Zob (W:World) (x y:Value) (t:TypeId) : ∀ j u,[x,y][j]? = some u→(W.alloc (.cells #[x,y] t)).cell? ((⟨W.heap.size,0,none⟩:Addr).add j)=some u:=by
 intro j u hj
 have hn:=World.alloc_heap_new W (.cells #[x,y] t)
 rw [Addr.add_lit]
 unfold World.cell?
 simp only [hn]
 match j with
 | 0=>simpa using hj
 | 1=>simpa using hj
 | j+2=>simp at hj
theorem Zvk {wf:Int→Bool} {fW:Nat} (hw : ∀ (v:Int) (W:World),Calls prog fW #[.int .i64 v] W fun e W'=>e = .returned (.bool (wf v))∧W'=W)
  (eg : ∀ args w,(callFunc fW args).run prog w = .ok (.enter fW args) w) (L:List ZAI) (hL:L.length<1000000000) (v:Value) (w:World)
  (hcat : ∀ W:World,Below w.heap.size w W→Calls prog 209 #[v] W fun e W' => ∃ u,e = .returned u∧Below W.heap.size W W' ∧
   Calls prog 208 #[u,.func (.func fW) #[] #[]] W' fun e W'' => ∃ bl bw rb cap a,e = .returned (.func (.func 229) #[] #[.pointer (some ⟨bl,0,none⟩),.pointer (some ⟨bw,0,none⟩)])∧ZTS bl bw rb cap fW a L W''∧Z0C W.heap.size W''.heap.size bl bw rb L∧Below W.heap.size W W'') :
  CallsIn Fence.wide 2 prog 165 #[.func (.func fW) #[] #[],v] w fun e w' => ∃ u,e = .returned u∧w'.ownsRow w.heap.size 157 2 u (ZOb wf L 0 false 0).length (ZmW (ZOb wf L 0 false 0))∧Below w.heap.size w w':=by
 obtain ⟨i0,z0,hi0,hz0,hz1,hz2,hz3⟩ : ∃ (i:TypeInfo) (z:Value),prog.info? 157=some i∧i.zero=some z∧i.size=2∧i.bytes=16∧z.cells.size=2:=by
  obtain ⟨i,h1,h2,h3,h4⟩:=info_parts (P:=prog) (e:=157) (z := .agg #[.int .u64 0,.int .u64 0]) (size:=2) (bytes:=16) (by kernel_rfl)
  exact ⟨i,_,h1,h2,h3,h4,rfl⟩
 refine callsIn_of_wp_marks func165 rfl trivial ?_ rfl
 simp only [ntmps165,List.size_toArray,List.length_cons,List.length_nil,Nat.reduceAdd,Nat.reduceSub,Array.replicate_succ,Array.replicate_zero,List.push_toArray,List.append_toArray,List.nil_append,List.cons_append]
 gi_wp2
 have hb0:Below w.heap.size w (w.alloc (.cells #[.slice none 0 0] 28)):=(Below.refl _ w).alloc (Nat.le_refl _) _
 refine ⟨trivial,(callsIn_wide.mpr (hcat _ hb0)).mono ?_⟩
 rintro e W1 ⟨u,rfl,hb1,hrun⟩
 gi_wp2
 refine ⟨trivial,(callsIn_wide.mpr hrun).mono ?_⟩
 rintro e W2 ⟨bl,bw,rb,cap,a,rfl,hE,hB',hb2⟩
 have hcn:=World.alloc_heap_new w (.cells #[.slice none 0 0] 28)
 have hc2:W2.heap[w.heap.size]? = some (.cells #[.slice none 0 0] 28):=(hb2.block w.heap.size (by simp)).trans hcn
 have hlt2:w.heap.size<W2.heap.size:=(Array.getElem?_eq_some_iff.1 hc2).1
 have hB:SwB w W2.heap.size bl bw rb L:=by
  obtain ⟨k1,k2,k3⟩:=hB'
  simp only [World.size_alloc] at k1 k2 k3
  exact ⟨hlt2,by omega,by omega,fun i hi=>by have:=k3 i hi;omega⟩
 have hbelow:Below w.heap.size w W2:=hb0.trans (hb2.mono (by simp))
 have h00:SwI w W2.heap.size bl bw rb cap fW a L [] W2:=⟨.slice none 0 0,hc2,World.ownsRow_nil _ _ _ _,hE,hbelow,Nat.le_refl _⟩
 gi_wp2
 refine wpIn_mono (ZuK (gf:=229) (lb := #[.pointer (some ⟨bl,0,none⟩),.pointer (some ⟨bw,0,none⟩)]) rfl (enters_of func229 (by kernel_rfl) rfl)
  (encs:=fun x:ZAA => #[.agg #[.int .u64 x.1,.int .u64 x.2.1]]) (fun _=>rfl)
  (I:=SwI w W2.heap.size bl bw rb cap fW a L)
  (fun s W W' row h1 h2 h3=>h1.grown hB h2 h3) h00 (xs:=ZOb wf L 0 false 0) ?seq (I1:=fun pre x a₁ W => ∃ p,a₁ = { tmps := #[.func (.func fW) #[] #[],v,undef,undef,.pointer (some ⟨w.heap.size,0,none⟩),.pointer (some ⟨p,0,none⟩),v,u,.func (.func fW) #[] #[],.func (.func 229) #[] #[.pointer (some ⟨bl,0,none⟩),.pointer (some ⟨bw,0,none⟩)],.agg #[.int .u64 x.1,.int .u64 x.2.1],undef,undef,undef,undef,undef],defers:=[] } ∧
   W.heap[p]? = some (.cells #[.int .u64 x.1,.int .u64 x.2.1] 157 (0,0))∧SwI w W2.heap.size bl bw rb cap fW a L pre W)
  ?I1 ?assign ?body ?done) (fun _ _ _ h=>h)
 case seq=>
  intro l J W hJI hY h0
  refine (ZxF hw eg l bl bw rb cap a L (by omega) J (fun _ _=>False) (fun pre x W hj hlen => ?_) W ?_ h0).mono ?_
  ·
   obtain ⟨fn,tmps,assign,body,hy,hR⟩:=hY pre x W hj hlen
   exact ⟨fn,tmps,assign,body,hy,hR.mono (fun e w' h => .inl ⟨h.1,h.2,fun _=>by obtain ⟨_,_,_,h4,_⟩:=hJI _ _ h.2;exact h4⟩)⟩
  ·
   obtain ⟨_,_,_,h4,_⟩:=hJI _ _ h0
   exact h4
  ·
   rintro e W' ⟨h1,⟨ys,rfl,h2⟩ | ⟨_,_,h2⟩⟩
   · exact ⟨h1,h2⟩
   · exact h2.elim
 case I1=>
  rintro x a₁ pre W W' row ⟨p,rfl,hp,hi⟩ hg hr
  refine ⟨p,rfl,?_,hi.grown hB hg hr⟩
  rw [hg.block p (Array.getElem?_eq_some_iff.1 hp).1 (fun e => ?_)]
  · exact hp
  ·
   obtain ⟨_,ob,k1,k2⟩:=hr p e.symm
   rw [hp] at k1
   cases k1
   cases k2
 case assign=>
  intro l pre x W hi hlen
  gi_wp2
  exact ⟨KeepsOthers.alloc _ _,W.heap.size,rfl,World.alloc_heap_new W _,hi.grown hB (World.grownBy_alloc W _ none) (fun r e=>by cases e)⟩
 case body=>
  rintro l pre x a₁ W ⟨p,rfl,hp,o,h1,h2,h3,h4,h5⟩ hlen
  have hv:Boxed W w.heap.size 28 o:=h1
  have hc1:=hv.cell
  have hp1:W.cell? ⟨p,0,none⟩=some (.int .u64 x.1):=by simp [World.cell?,hp]
  have hp2:W.cell? ⟨p,1,none⟩=some (.int .u64 x.2.1):=by simp [World.cell?,hp]
  have hrl:=ZqD wf L.length L 0 false 0 (Nat.le_refl _)
  have hlt:=hv.lt
  gi_wp2_with (gi_at_builtin;refine wpListIn_append_own _ rfl _ _ 28 rfl W2.heap.size 157 i0 z0 2 16 underlying28 hi0 hz0 hz1 hz2 hz3 (by decide) _ _ _ rfl (h2.alloc _) ⟨W.heap.size,0,none⟩ 1 1 [.int .u64 x.1,.int .u64 x.2.1] rfl rfl (Zob _ _ _ _) (by simp [Value.oneCell']) (by unfold maxLen;omega) (by omega) (by simp;omega) ?_;intro v' w1 hown' hgrow _;obtain ⟨g',cap',rfl⟩:=ownsRow_succ hown';obtain ⟨hv1,hv2,hr2,hk2,hb2⟩:=hv.appended (by decide) (Ze8 h2 (Nat.le_of_lt hlt2)) (Nat.le_of_lt hlt) (Nat.le_refl _) (Ze8 hown' (Nat.le_of_lt hlt2)) hgrow;have hc1:=hv1.cell;have hf1:=hv1.frozen)
  have hfl:ZmW pre++[.int .u64 x.1,.int .u64 x.2.1]=ZmW (pre++[x]):=(Zsh pre x).symm
  have hln:pre.length+1=(pre++[x]).length:=by simp
  have hE1:=(h3.kept (World.grownBy_alloc W (.cells #[.int .u64 x.1,.int .u64 x.2.1] 157) none) (fun r e=>by cases e)).kept hgrow (fun r e=>by
   have:=(h2.lt r e).1
   have:=hB.l;have:=hB.f
   exact ⟨by omega,by omega,fun i hi=>by have:=hB.r i hi;omega⟩)
  refine ⟨_,hv2,?_,hE1.kept (grownBy_setCell' w1 w.heap.size _) (fun r e=>by
   cases e
   have:=hB.l;have:=hB.f
   exact ⟨by omega,by omega,fun i hi=>by have:=hB.r i hi;omega⟩),h4.trans hb2,Nat.le_trans h5 hk2.size⟩
  have:=hown'.kept (grownBy_setCell' w1 w.heap.size (Value.slice (some ⟨g',0,none⟩) (pre.length+1) cap')) (.inr (hv1.not_row (by decide) hown').symm)
  rw [hfl] at this
  rw [← hln]
  exact this
 case done=>
  rintro D W hDge ⟨o,h1,h2,h3,h4,h5⟩ hD
  have hv:Boxed W w.heap.size 28 o:=h1
  obtain ⟨oa,on,oc,rfl⟩ : ∃ oa on oc,o = .slice oa on oc:=by
   rcases h2.2 with ⟨rfl,_⟩ | ⟨g,cap,cur,rfl,_⟩
   · exact ⟨_,_,_,rfl⟩
   · exact ⟨_,_,_,rfl⟩
  have hc1:=hv.cell
  have hf1:=hv.frozen
  have hlt:=hv.lt
  gi_wp2
  have hv2:=hv.set (.slice oa on oc)
  have hne:D≠w.heap.size:=fun e=>by
   subst e
   have:=hD.symm.trans h1
   cases this
  have hD2:(W.setCell ⟨w.heap.size,0,none⟩ (.slice oa on oc)).heap[D]? = some (.deferred (some [])):=(Below.heap_setCell _ _ _ D hne).trans hD
  refine ⟨by simp,.inl ⟨_,_,rfl,run_takeDeferred hD2,?_⟩⟩
  have hown:=h2.kept (grownBy_setCell' W w.heap.size (.slice oa on oc)) (.inr (hv.not_row (by decide) h2).symm)
  refine ⟨.slice oa on oc,?_,_,rfl,Ze8 (ownsRow_putObj hown _ hD2 rfl) (Nat.le_of_lt hlt2),?_⟩
  ·
   have hv3:=hv2.kept (grownBy_putObj' _ D (.deferred none)) (fun e=>hne (by cases e;rfl))
   have hc3:=hv3.cell
   have hres:f165.results = #[.cell 4 28]:=by kernel_rfl
   simp only [results,hres]
   simp [go_sem,hc3]
  · exact ((h4.setCell (p:=⟨w.heap.size,0,none⟩) (Nat.le_refl _) (.slice oa on oc)).grown (grownBy_putObj' _ D (.deferred none)) (Nat.le_of_lt hv2.lt) (fun r e=>by cases e;omega))
noncomputable def Zk6 (rf:List ZAI→Option (List ZAI×Unit)) (wf:Int→Bool) (l:List (List ZAI)):Option (List ZAA×Unit) :=
 ZAX (ZB3 l) fun c=>ZAX (rf c) fun r=>bif decide (r.1.length<1000000000) then some (ZOb wf r.1 0 false 0,()) else none
@[reducible] noncomputable def ZxG (fW:Nat) (rf:List ZAI→Option (List ZAI×Unit)):HCon :=
 HCon.mk0 [.all 0,.func fW [] []] [.row ZAO] [.func 229 [] [.ptr 1 0,.ptr 2 0]] [.row ZAO,.cells 238 [.all 0],.cells 237 [.func fW [] []]] ((List ZAI)×Unit) (fun x=>rf x.2.1) (fun r=>((((),((),((),()))),()),(r.1,(((),()),((((),()),()),()))))) (fun y=>(y.2.1,())) (fun _=>rfl)
@[reducible] noncomputable def Zfz (fW:Nat) (rf:List ZAI→Option (List ZAI×Unit)) (wf:Int→Bool):HCon :=
 HCon.mk0 [.func fW [] [],.all 0] [.row (.slice ZAO)] [.all 1] [.dead,.row ZAG] ((List ZAA)×Unit) (fun x=>Zk6 rf wf x.2.1) (fun r=>(((),()),((),(r.1,())))) (fun y=>(y.2.2.1,())) (fun _=>rfl)
theorem ZuL {w:World} {S:Nat→Prop} (l:List ZAA) (cur:Array Value) (n:Nat) (h:cur.toList.take n=ZmW l) (hn:n=l.length*2) : ∀ i (hi:i<l.length),∃ vs,Rep w S ZAG l[i] vs∧At cur (i*2) vs:=by
 intro i hi
 refine ⟨[.int .u64 l[i].1,.int .u64 l[i].2.1],⟨[.int .u64 l[i].1],[.int .u64 l[i].2.1],rfl,rfl,[.int .u64 l[i].2.1],[],rfl,rfl,rfl⟩,?_⟩
 have key : ∀ (l:List ZAA) (i:Nat) (hi:i<l.length),(ZmW l)[i*2]? = some (.int .u64 l[i].1)∧(ZmW l)[i*2+1]? = some (.int .u64 l[i].2.1):=by
  intro l
  induction l with
  | nil=>intro i hi;simp at hi
  | cons x l ih=>
   intro i hi
   match i with
   | 0=>exact ⟨rfl,rfl⟩
   | i+1=>
    have:=ih i (by simpa using hi)
    have e:(i+1)*2=i*2+1+1:=by omega
    rw [e]
    exact this
 obtain ⟨k1,k2⟩:=key l i hi
 rw [← h,List.getElem?_take] at k1 k2
 rw [if_pos (by omega)] at k1 k2
 intro c hc
 match c with
 | 0=>simpa using k1
 | 1=>simpa using k2
 | c+2=>exact absurd hc (by simp only [List.length_cons,List.length_nil];omega)
theorem ZYT {fW:Nat} {rf:List ZAI→Option (List ZAI×Unit)} {wf:Int→Bool} (hw : ∀ (v:Int) (W:World),Calls prog fW #[.int .i64 v] W fun e W'=>e = .returned (.bool (wf v))∧W'=W)
  (eg : ∀ args w,(callFunc fW args).run prog w = .ok (.enter fW args) w) (hr:(ZxG fW rf).Sound prog Inv ZAq 208):(Zfz fW rf wf).Sound prog Inv ZAq 165:=by
 rintro ⟨⟨⟨⟨⟩,⟨⟩⟩,⟨⟩,⟨⟩⟩,ls,⟨⟩⟩ ⟨out,⟨⟩⟩ hxy B S0 ρ w S args hI hlow hh hargs
 obtain ⟨c,hc,hxy⟩:=ZoF hxy
 obtain ⟨⟨L,⟨⟩⟩,hL,hxy⟩:=ZoF hxy
 have hlen:L.length<1000000000:=by
  rcases Nat.lt_or_ge L.length 1000000000 with h | h
  · exact h
  ·
   rw [show (decide (L.length<1000000000))=false from decide_eq_false (by omega)] at hxy
   cases hxy
 rw [show (decide (L.length<1000000000))=true from decide_eq_true hlen] at hxy
 cases hxy
 simp only [ZIt,ZpJ,ZAQ] at hargs
 obtain ⟨v0,vs1,e0,hp0,v,vs2,rfl,hp,rfl⟩:=hargs
 simp only [ZAW,ZAQ] at hp0
 obtain ⟨gf,gc,rfl,g1,g2⟩:=hp0
 obtain rfl:gf = #[]:=Array.toList_eq_nil_iff.mp g1
 obtain rfl:gc = #[]:=Array.toList_eq_nil_iff.mp g2
 have ea:args = #[.func (.func fW) #[] #[],v]:=by apply Array.ext';simpa using e0
 subst ea
 have a0:ZAZ.at? [some (AO.row (.slice ZAO) ls)] 0=some (.row (.slice ZAO) ls):=rfl
 have hrow : ∀ W:World,Below w.heap.size w W→ZaN W (fun _=>False) [.slice (.slice ZAO)] (ls,()) [v]:=by
  intro W hb
  have hsame:Same (fun _=>False) w W:=⟨hb.size,fun b hb' _=>hb.block b hb'⟩
  have hv:ZvF w (fun _=>False) (Rep w (fun _=>False) (.slice ZAO)) 1 ls v:=by
   simp only [ZAW] at hp
   rcases hp.2 _ a0 rfl with ⟨rb,n,cap,hrr,rfl,hle,_⟩ | ⟨h0,rfl⟩
   ·
    rcases hh.block _ _ a0 with ⟨rb',arr,elem,fz,q1,q2,q3,q4,q5⟩ | ⟨q1,_⟩
    ·
     rw [hrr] at q1
     cases q1
     refine ⟨_,cap,rfl,?_,fun _=>⟨rb,0,arr,elem,fz,rfl,id,q2,fun i hi => ?_⟩⟩
     · simpa [AO.len] using hle
     ·
      obtain ⟨vs,p1,p2⟩:=q4 i hi
      refine ⟨vs,p1.mono (Same.refl _ _) (fun _ _ h=>h.elim),?_⟩
      have e:0+i*1=i*(Ty.slice ZAO).size:=by show 0+i*1=i*1;omega
      rw [e]
      exact p2
    · rw [hrr] at q1;cases q1
   ·
    have hn:ls=[]:=List.length_eq_zero_iff.mp (by simpa [AO.len] using h0)
    subst hn
    exact ⟨none,0,rfl,Nat.le_refl _,fun h=>absurd rfl h⟩
  obtain ⟨va,vn,vc,rfl⟩ : ∃ va vn vc,v = .slice va vn vc:=by obtain ⟨a,cap,e,_⟩:=hv;exact ⟨_,_,_,e⟩
  have hR:Zwj w (fun _=>False) (.slice (.slice ZAO)) ls (.slice va vn vc):=⟨⟨_,rfl,hv⟩,fun h=>(by cases h),fun _=>rfl⟩
  exact ⟨_,[],rfl,hR.mono hsame (fun _ _ h=>False.elim h),rfl⟩
 have hcat : ∀ W:World,Below w.heap.size w W→Calls prog 209 #[v] W fun e W' => ∃ u,e = .returned u∧Below W.heap.size W W' ∧
   Calls prog 208 #[u,.func (.func fW) #[] #[]] W' fun e W'' => ∃ bl bw rb cap a,e = .returned (.func (.func 229) #[] #[.pointer (some ⟨bl,0,none⟩),.pointer (some ⟨bw,0,none⟩)])∧ZTS bl bw rb cap fW a L W''∧Z0C W.heap.size W''.heap.size bl bw rb L∧Below W.heap.size W W'':=by
  intro W hb
  have hIW:Inv W:=bas.keep w W w.heap.size (ZBo w hI) hb hI
  refine (ZBp (ls,()) c hc W (fun _=>False) #[v] hIW (fun _ h=>h.elim) (hrow W hb)).mono ?_
  rintro e W1 ⟨u,rfl,hown,hb1⟩
  refine ⟨u,rfl,hb1,?_⟩
  have hIW1:Inv W1:=bas.keep W W1 W.heap.size (ZBo W hIW) hb1 hIW
  obtain ⟨ρ1,S1,hh1,_,hp1⟩:=(HRel.empty (w:=W) (S:=fun _=>False) (fun _ h=>h.elim)).adopt hb1 hown
  have hh2:HRel ⟨fun b=>b<W.heap.size,1,ρ1,[some (.row ZAO c)]⟩ (fun _=>False) ρ1 [some (.row ZAO c)] W1 S1 :=
   ⟨⟨fun b h=>Nat.lt_of_lt_of_le h hb1.size,Nat.le_refl _,fun _ _=>rfl,fun b _ o' ho=>⟨o',ho,ZUx.refl _⟩,fun b hb'=>by
    obtain rfl:b=0:=Nat.lt_one_iff.mp hb'
    exact ZCr (H:=[]) (fun e=>by cases e)⟩,hh1.outer,hh1.own,hh1.from_,hh1.inj,hh1.block⟩
  refine (hr (((),(((),()),())),(c,())) (L,()) hL (fun b=>b<W.heap.size) (fun _=>False) ρ1 W1 S1 #[u,.func (.func fW) #[] #[]] hIW1 ⟨fun b h=>Nat.lt_of_lt_of_le h (ZBo W hIW),fun _ h=>h.elim⟩ hh2 ?_).mono ?_
  ·
   simp only [ZIt,ZpJ,ZAQ]
   refine ⟨u,_,rfl,hp1,_,[],rfl,?_,rfl⟩
   simp only [ZAW,ZAQ]
   exact ⟨#[],#[],rfl,rfl,rfl⟩
  ·
   rintro e W2 ⟨_,h⟩
   obtain ⟨vr,ρ2,S2,rfl,hh3,hp3,hk⟩:=h rfl
   obtain ⟨bl,bw,rb,cap,a,rfl,hE,h1,h2,h3,h4,h5⟩:=Zvj hh3 hp3
   have hb2:Below W.heap.size W1 W2:=hk.below fun _ h=>h
   exact ⟨bl,bw,rb,cap,a,rfl,hE,⟨⟨Nat.not_lt.mp h3,h1⟩,⟨Nat.not_lt.mp h4,h2⟩,fun i hi=>⟨Nat.not_lt.mp (h5 i hi).1,(h5 i hi).2⟩⟩,hb1.trans hb2⟩
 refine (callsIn_wide.mp (Zvk hw eg L hlen v w hcat)).mono ?_
 rintro e w' ⟨u,rfl,hown,hbel⟩
 refine ⟨fun pv h=>(by cases h),fun _ => ?_⟩
 have hO:Zrh (fun b=>b<w.heap.size) w' S ZAG (ZOb wf L 0 false 0) u:=by
  obtain ⟨q1,q2⟩:=hown
  rcases q2 with ⟨rfl,hn⟩ | ⟨g,cap,cur,rfl,hg,hcur,hcap,hmax,hsz,htk⟩
  · exact .inl ⟨List.length_eq_zero_iff.mp hn,rfl⟩
  ·
   refine .inr ⟨g,cur,157,(0,0),cap,fun b=>S b∨b=g,rfl,hcap,?_,Nat.not_lt.mpr hg,hcur,fun j _=>by simp [World.frozen?,hcur],fun b h => .inl h,.inr rfl,ZuL _ cur _ htk rfl,trivial⟩
   rw [hsz]
   exact Nat.le_refl _
 obtain ⟨ρ',S',hh',hx',hp'⟩:=hh.adopt hbel hO
 obtain ⟨S'',hh'',hx''⟩:=hh'.kill 0
 refine ⟨u,ρ',S'',rfl,hh'',?_,hx'.below.trans hx''.below⟩
 exact ZAW.mono hx''.hH hx''.hr hx''.hw hx''.hS hp'
/-! ### ranges.swept -/
abbrev ZXT:Type:=(List ZAA)×Unit
noncomputable def ZPQ (l0:(List (List ZAI))):Option ZXT:=Zk6 ZLZ Zs1 l0
theorem ZU9 : ∃ f,f = @ZPQ:=⟨_,rfl⟩
noncomputable def ZTT:=Classical.choose ZU9
theorem ZVA : @ZTT = @ZPQ:=Classical.choose_spec ZU9
@[reducible] noncomputable def Zf0:List Pat:=[.func 166 [] [],.all 0]
@[reducible] noncomputable def Zf1:List HPat:=[.row (.slice ZAO)]
@[reducible] noncomputable def Zf2:List Pat:=[.all 1]
@[reducible] noncomputable def Zf3:List HPat:=[.dead,.row ZAG]
noncomputable def ZDj:HCon:=HCon.mk0 Zf0 Zf1 Zf2 Zf3 ZXT (fun x=>ZTT x.2.1) (fun r=>(((),()),((),(r.1,())))) (fun y=>(y.2.2.1,())) (fun _=>rfl)
theorem ZG1:ZDj.Sound prog Inv ZAq 165:=by
 have e:ZDj=Zfz 166 ZLZ Zs1:=by unfold ZDj;rw [ZVA];rfl
 rw [e]
 exact ZYT ZuG (enters_of func166 (by kernel_rfl) rfl) ZFF
noncomputable def ZqE:Mach prog Inv ZAq:=ZFE bas [(85,f85),(165,f165),(166,f166),(208,f208),(226,f226),(227,f227),(228,f228),(229,f229),(247,f247),(249,f249),(255,f255),(256,f256),(259,f259),(260,f260),(261,f261),(262,f262),(263,f263),(264,f264),(265,f265),(266,f266),(268,f268),(269,f269),(270,f270),(271,f271)] ⟨ZzE,Zfv,ZyE,ZSO,Zfw,Za0,ZoX,Zp0,ZrA,ZoY,Zk4,ZmV,ZoZ,Zp1,Zp2,Zp3,Zp4,Zp5,Zp6,Zp7,Zp8,Zp9,ZqA,ZqB,trivial⟩ [(167,ZGa),(248,ZFA)] ⟨⟨ZKN,ZAa.callable ZuA⟩,⟨ZK8,ZAa.callable ZmU⟩,trivial⟩ [(209,ZBM)] ⟨⟨ZBp,ZAa.callable ZuD⟩,trivial⟩ [(227,ZAf),(208,ZEU),(208,ZEV),(208,ZEW),(208,ZEX),(165,ZDj)] ⟨⟨ZAr,ZAa.callable Za0⟩,⟨ZFF,ZAa.callable ZSO⟩,⟨ZFG,ZAa.callable ZSO⟩,⟨ZFH,ZAa.callable ZSO⟩,⟨ZFI,ZAa.callable ZSO⟩,⟨ZG1,ZAa.callable Zfv⟩,trivial⟩
/-! ### domino/ranges.Add -/
@[reducible] def Zii:List Ty:=[(.slice ZAG)]
def Zoc:List Nat:=[85,165,166,208,226,227,228,229,247,249,255,256,259,260,261,262,263,264,265,266,268,269,270,271]
noncomputable def ZVB (a0:(List ZAA)) (a1:ZAA):Option ((List ZAA)×Unit) :=
 ZAX (ZE3 a0 (1:Int)) fun y2=>
 let e3:(Int×(Int×Unit)):=(a1.1,(a1.2.1,()))
 ZAX (ZE3 (e3::([]:List ZAA)) (1:Int)) fun y4=>
 ZAX (ZTT (y2.1::(y4.1::([]:List (List ZAI))))) fun y5=>
 some y5
theorem Zf4 : ∃ f,f = @ZVB:=⟨_,rfl⟩
noncomputable def ZS3:=Classical.choose Zf4
theorem Zf5 : @ZS3 = @ZVB:=Classical.choose_spec Zf4
noncomputable def ZYU:Con:=⟨[(.slice ZAG),ZAG],Zii,fun x=>ZVB x.1 x.2.1⟩
noncomputable def ZMf:Con:=⟨[(.slice ZAG),ZAG],Zii,fun x=>ZS3 x.1 x.2.1⟩
theorem ZjQ:ZYU.Sound prog Inv ZAq 85 :=
 ZAm (M:=ZqE) ZBo (f:=f85) rfl Zoc 100000 (X:=nowhere) (fun base S0 cs0 hn hf=>ZAH.nowhere) (by intro x;kernel_rfl)
theorem ZTU:ZMf.Sound prog Inv ZAq 85:=by
 have e:ZMf=ZYU:=by unfold ZMf ZYU;rw [Zf5]
 rw [e];exact ZjQ
noncomputable def Zk7:Mach prog Inv ZAq:=ZFE bas [(211,f211)] ⟨ZxB,trivial⟩ [] trivial [] trivial [] trivial
/-! ### domino/ranges.Cut$1 -/
@[reducible] def Za5:List Ty:=[.bool]
def ZjR:List Nat:=[211]
noncomputable def ZTV (a0:Int):Option (Bool×Unit) :=
 let b1:Bool:=(a0==(1:Int))
 some (b1,())
theorem ZZY : ∃ f,f = @ZTV:=⟨_,rfl⟩
noncomputable def Zf6:=Classical.choose ZZY
theorem ZjS : @Zf6 = @ZTV:=Classical.choose_spec ZZY
noncomputable def ZRE:Con:=⟨[(.int .i64)],Za5,fun x=>ZTV x.1⟩
noncomputable def ZNT:Con:=⟨[(.int .i64)],Za5,fun x=>Zf6 x.1⟩
theorem Ze9:ZRE.Sound prog Inv ZAq 211 :=
 ZAm (M:=Zk7) ZBo (f:=f211) rfl ZjR 100000 (X:=nowhere) (fun base S0 cs0 hn hf=>ZAH.nowhere) (by intro x;kernel_rfl)
theorem Zf7:ZNT.Sound prog Inv ZAq 211:=by
 have e:ZNT=ZRE:=by unfold ZNT ZRE;rw [ZjS]
 rw [e];exact Ze9
noncomputable def ZPR:Mach prog Inv ZAq:=ZFE bas [(247,f247)] ⟨ZrA,trivial⟩ [] trivial [] trivial [] trivial
/-! ### math/bits.Len32 -/
@[reducible] def ZCu:List Ty:=[(.int .i64)]
def ZVC:List Nat:=[247]
abbrev ZPS (base:Base) (S0:Nat→Prop):=base.n=0∧FinOk (Zdd ZCu) base S0 (ZFg ZCu S0)
abbrev Zhw (base:Base) (S0:Nat→Prop) (cs0:List Go.Frame) (p:CPat) (J:ZC9 p→Option (ZFC ZCu)):=ZAb ZPR base S0 cs0 (ZFg ZCu S0) p J
abbrev Zhx (base:Base) (S0:Nat→Prop) (cs0:List Go.Frame) (X:Cfg→Option (Option (ZFC ZCu))):=ZAH ZPR base S0 cs0 (ZFg ZCu S0) X
@[reducible] noncomputable def ZMR:CPat:=⟨⟨247,[1,1],none,[.int .u32,.any,.int .i64],16⟩,[],[],0⟩
@[reducible] noncomputable def ZTW (k:Int→Int→Option (Int×Unit)):ZC9 ZMR→Option (Int×Unit):=fun x=>k x.1.1 x.1.2.2.1
noncomputable def ZTX (i4:Int) (i5:Int):Option (Int×Unit) :=
 let b6:Bool:=(decide (i4≥(256:Int)))
 bif b6 then
  let n7:Int:=(Int.fdiv i4 (256:Int))
  let n8:Int:=(Go.IntKind.wrap Go.IntKind.i64 (i5+(8:Int)))
  let n17:Int:=(Go.IntKind.wrap Go.IntKind.u8 n7)
  bif (decide (((0:Int)≤n17)∧(n17<(256:Int)))) then
   let n18:Int:=(Zap (ByteArray.mk (List.toArray (List.append (List.append ((0:UInt8)::((1:UInt8)::((2:UInt8)::((2:UInt8)::((3:UInt8)::((3:UInt8)::((3:UInt8)::((3:UInt8)::((4:UInt8)::((4:UInt8)::((4:UInt8)::((4:UInt8)::((4:UInt8)::((4:UInt8)::((4:UInt8)::((4:UInt8)::((5:UInt8)::((5:UInt8)::((5:UInt8)::((5:UInt8)::((5:UInt8)::((5:UInt8)::((5:UInt8)::((5:UInt8)::((5:UInt8)::((5:UInt8)::((5:UInt8)::((5:UInt8)::((5:UInt8)::((5:UInt8)::((5:UInt8)::((5:UInt8)::((6:UInt8)::((6:UInt8)::((6:UInt8)::((6:UInt8)::((6:UInt8)::((6:UInt8)::((6:UInt8)::((6:UInt8)::((6:UInt8)::((6:UInt8)::((6:UInt8)::((6:UInt8)::((6:UInt8)::((6:UInt8)::((6:UInt8)::((6:UInt8)::((6:UInt8)::((6:UInt8)::((6:UInt8)::((6:UInt8)::((6:UInt8)::((6:UInt8)::((6:UInt8)::((6:UInt8)::((6:UInt8)::((6:UInt8)::((6:UInt8)::((6:UInt8)::((6:UInt8)::((6:UInt8)::((6:UInt8)::((6:UInt8)::([]:List UInt8))))))))))))))))))))))))))))))))))))))))))))))))))))))))))))))))) ((7:UInt8)::((7:UInt8)::((7:UInt8)::((7:UInt8)::((7:UInt8)::((7:UInt8)::((7:UInt8)::((7:UInt8)::((7:UInt8)::((7:UInt8)::((7:UInt8)::((7:UInt8)::((7:UInt8)::((7:UInt8)::((7:UInt8)::((7:UInt8)::((7:UInt8)::((7:UInt8)::((7:UInt8)::((7:UInt8)::((7:UInt8)::((7:UInt8)::((7:UInt8)::((7:UInt8)::((7:UInt8)::((7:UInt8)::((7:UInt8)::((7:UInt8)::((7:UInt8)::((7:UInt8)::((7:UInt8)::((7:UInt8)::((7:UInt8)::((7:UInt8)::((7:UInt8)::((7:UInt8)::((7:UInt8)::((7:UInt8)::((7:UInt8)::((7:UInt8)::((7:UInt8)::((7:UInt8)::((7:UInt8)::((7:UInt8)::((7:UInt8)::((7:UInt8)::((7:UInt8)::((7:UInt8)::((7:UInt8)::((7:UInt8)::((7:UInt8)::((7:UInt8)::((7:UInt8)::((7:UInt8)::((7:UInt8)::((7:UInt8)::((7:UInt8)::((7:UInt8)::((7:UInt8)::((7:UInt8)::((7:UInt8)::((7:UInt8)::((7:UInt8)::((7:UInt8)::([]:List UInt8)))))))))))))))))))))))))))))))))))))))))))))))))))))))))))))))))) (List.append ((8:UInt8)::((8:UInt8)::((8:UInt8)::((8:UInt8)::((8:UInt8)::((8:UInt8)::((8:UInt8)::((8:UInt8)::((8:UInt8)::((8:UInt8)::((8:UInt8)::((8:UInt8)::((8:UInt8)::((8:UInt8)::((8:UInt8)::((8:UInt8)::((8:UInt8)::((8:UInt8)::((8:UInt8)::((8:UInt8)::((8:UInt8)::((8:UInt8)::((8:UInt8)::((8:UInt8)::((8:UInt8)::((8:UInt8)::((8:UInt8)::((8:UInt8)::((8:UInt8)::((8:UInt8)::((8:UInt8)::((8:UInt8)::((8:UInt8)::((8:UInt8)::((8:UInt8)::((8:UInt8)::((8:UInt8)::((8:UInt8)::((8:UInt8)::((8:UInt8)::((8:UInt8)::((8:UInt8)::((8:UInt8)::((8:UInt8)::((8:UInt8)::((8:UInt8)::((8:UInt8)::((8:UInt8)::((8:UInt8)::((8:UInt8)::((8:UInt8)::((8:UInt8)::((8:UInt8)::((8:UInt8)::((8:UInt8)::((8:UInt8)::((8:UInt8)::((8:UInt8)::((8:UInt8)::((8:UInt8)::((8:UInt8)::((8:UInt8)::((8:UInt8)::((8:UInt8)::([]:List UInt8))))))))))))))))))))))))))))))))))))))))))))))))))))))))))))))))) ((8:UInt8)::((8:UInt8)::((8:UInt8)::((8:UInt8)::((8:UInt8)::((8:UInt8)::((8:UInt8)::((8:UInt8)::((8:UInt8)::((8:UInt8)::((8:UInt8)::((8:UInt8)::((8:UInt8)::((8:UInt8)::((8:UInt8)::((8:UInt8)::((8:UInt8)::((8:UInt8)::((8:UInt8)::((8:UInt8)::((8:UInt8)::((8:UInt8)::((8:UInt8)::((8:UInt8)::((8:UInt8)::((8:UInt8)::((8:UInt8)::((8:UInt8)::((8:UInt8)::((8:UInt8)::((8:UInt8)::((8:UInt8)::((8:UInt8)::((8:UInt8)::((8:UInt8)::((8:UInt8)::((8:UInt8)::((8:UInt8)::((8:UInt8)::((8:UInt8)::((8:UInt8)::((8:UInt8)::((8:UInt8)::((8:UInt8)::((8:UInt8)::((8:UInt8)::((8:UInt8)::((8:UInt8)::((8:UInt8)::((8:UInt8)::((8:UInt8)::((8:UInt8)::((8:UInt8)::((8:UInt8)::((8:UInt8)::((8:UInt8)::((8:UInt8)::((8:UInt8)::((8:UInt8)::((8:UInt8)::((8:UInt8)::((8:UInt8)::((8:UInt8)::((8:UInt8)::([]:List UInt8))))))))))))))))))))))))))))))))))))))))))))))))))))))))))))))))))))) n17)
   let n19:Int:=(Go.IntKind.wrap Go.IntKind.i64 n18)
   let n20:Int:=(Go.IntKind.wrap Go.IntKind.i64 (n8+n19))
   some (n20,())
  else none
 else
  let n13:Int:=(Go.IntKind.wrap Go.IntKind.u8 i4)
  bif (decide (((0:Int)≤n13)∧(n13<(256:Int)))) then
   let n14:Int:=(Zap (ByteArray.mk (List.toArray (List.append (List.append ((0:UInt8)::((1:UInt8)::((2:UInt8)::((2:UInt8)::((3:UInt8)::((3:UInt8)::((3:UInt8)::((3:UInt8)::((4:UInt8)::((4:UInt8)::((4:UInt8)::((4:UInt8)::((4:UInt8)::((4:UInt8)::((4:UInt8)::((4:UInt8)::((5:UInt8)::((5:UInt8)::((5:UInt8)::((5:UInt8)::((5:UInt8)::((5:UInt8)::((5:UInt8)::((5:UInt8)::((5:UInt8)::((5:UInt8)::((5:UInt8)::((5:UInt8)::((5:UInt8)::((5:UInt8)::((5:UInt8)::((5:UInt8)::((6:UInt8)::((6:UInt8)::((6:UInt8)::((6:UInt8)::((6:UInt8)::((6:UInt8)::((6:UInt8)::((6:UInt8)::((6:UInt8)::((6:UInt8)::((6:UInt8)::((6:UInt8)::((6:UInt8)::((6:UInt8)::((6:UInt8)::((6:UInt8)::((6:UInt8)::((6:UInt8)::((6:UInt8)::((6:UInt8)::((6:UInt8)::((6:UInt8)::((6:UInt8)::((6:UInt8)::((6:UInt8)::((6:UInt8)::((6:UInt8)::((6:UInt8)::((6:UInt8)::((6:UInt8)::((6:UInt8)::((6:UInt8)::([]:List UInt8))))))))))))))))))))))))))))))))))))))))))))))))))))))))))))))))) ((7:UInt8)::((7:UInt8)::((7:UInt8)::((7:UInt8)::((7:UInt8)::((7:UInt8)::((7:UInt8)::((7:UInt8)::((7:UInt8)::((7:UInt8)::((7:UInt8)::((7:UInt8)::((7:UInt8)::((7:UInt8)::((7:UInt8)::((7:UInt8)::((7:UInt8)::((7:UInt8)::((7:UInt8)::((7:UInt8)::((7:UInt8)::((7:UInt8)::((7:UInt8)::((7:UInt8)::((7:UInt8)::((7:UInt8)::((7:UInt8)::((7:UInt8)::((7:UInt8)::((7:UInt8)::((7:UInt8)::((7:UInt8)::((7:UInt8)::((7:UInt8)::((7:UInt8)::((7:UInt8)::((7:UInt8)::((7:UInt8)::((7:UInt8)::((7:UInt8)::((7:UInt8)::((7:UInt8)::((7:UInt8)::((7:UInt8)::((7:UInt8)::((7:UInt8)::((7:UInt8)::((7:UInt8)::((7:UInt8)::((7:UInt8)::((7:UInt8)::((7:UInt8)::((7:UInt8)::((7:UInt8)::((7:UInt8)::((7:UInt8)::((7:UInt8)::((7:UInt8)::((7:UInt8)::((7:UInt8)::((7:UInt8)::((7:UInt8)::((7:UInt8)::((7:UInt8)::([]:List UInt8)))))))))))))))))))))))))))))))))))))))))))))))))))))))))))))))))) (List.append ((8:UInt8)::((8:UInt8)::((8:UInt8)::((8:UInt8)::((8:UInt8)::((8:UInt8)::((8:UInt8)::((8:UInt8)::((8:UInt8)::((8:UInt8)::((8:UInt8)::((8:UInt8)::((8:UInt8)::((8:UInt8)::((8:UInt8)::((8:UInt8)::((8:UInt8)::((8:UInt8)::((8:UInt8)::((8:UInt8)::((8:UInt8)::((8:UInt8)::((8:UInt8)::((8:UInt8)::((8:UInt8)::((8:UInt8)::((8:UInt8)::((8:UInt8)::((8:UInt8)::((8:UInt8)::((8:UInt8)::((8:UInt8)::((8:UInt8)::((8:UInt8)::((8:UInt8)::((8:UInt8)::((8:UInt8)::((8:UInt8)::((8:UInt8)::((8:UInt8)::((8:UInt8)::((8:UInt8)::((8:UInt8)::((8:UInt8)::((8:UInt8)::((8:UInt8)::((8:UInt8)::((8:UInt8)::((8:UInt8)::((8:UInt8)::((8:UInt8)::((8:UInt8)::((8:UInt8)::((8:UInt8)::((8:UInt8)::((8:UInt8)::((8:UInt8)::((8:UInt8)::((8:UInt8)::((8:UInt8)::((8:UInt8)::((8:UInt8)::((8:UInt8)::((8:UInt8)::([]:List UInt8))))))))))))))))))))))))))))))))))))))))))))))))))))))))))))))))) ((8:UInt8)::((8:UInt8)::((8:UInt8)::((8:UInt8)::((8:UInt8)::((8:UInt8)::((8:UInt8)::((8:UInt8)::((8:UInt8)::((8:UInt8)::((8:UInt8)::((8:UInt8)::((8:UInt8)::((8:UInt8)::((8:UInt8)::((8:UInt8)::((8:UInt8)::((8:UInt8)::((8:UInt8)::((8:UInt8)::((8:UInt8)::((8:UInt8)::((8:UInt8)::((8:UInt8)::((8:UInt8)::((8:UInt8)::((8:UInt8)::((8:UInt8)::((8:UInt8)::((8:UInt8)::((8:UInt8)::((8:UInt8)::((8:UInt8)::((8:UInt8)::((8:UInt8)::((8:UInt8)::((8:UInt8)::((8:UInt8)::((8:UInt8)::((8:UInt8)::((8:UInt8)::((8:UInt8)::((8:UInt8)::((8:UInt8)::((8:UInt8)::((8:UInt8)::((8:UInt8)::((8:UInt8)::((8:UInt8)::((8:UInt8)::((8:UInt8)::((8:UInt8)::((8:UInt8)::((8:UInt8)::((8:UInt8)::((8:UInt8)::((8:UInt8)::((8:UInt8)::((8:UInt8)::((8:UInt8)::((8:UInt8)::((8:UInt8)::((8:UInt8)::((8:UInt8)::([]:List UInt8))))))))))))))))))))))))))))))))))))))))))))))))))))))))))))))))))))) n13)
   let n15:Int:=(Go.IntKind.wrap Go.IntKind.i64 n14)
   let n16:Int:=(Go.IntKind.wrap Go.IntKind.i64 (i5+n15))
   some (n16,())
  else none
theorem ZRr : ∃ f,f = @ZTX:=⟨_,rfl⟩
noncomputable def ZHI:=Classical.choose ZRr
theorem ZdJ : @ZHI = @ZTX:=Classical.choose_spec ZRr
theorem ZfA {base S0 cs0} (hfin:ZPS base S0):Zhw base S0 cs0 ZMR (ZTW (ZHI)) :=
 ZAb.join hfin.2 (ZAH.nowhere) ZVC 100000 (by rw [ZdJ];intro x;kernel_rfl)
noncomputable def ZTY:Cfg→Option (Option (Int×Unit)):=cut ZMR (ZTW (ZHI)) (nowhere)
theorem ZfB {base S0 cs0} (hfin:ZPS base S0):Zhx base S0 cs0 (ZTY):=ZAH.cut (ZAH.nowhere) (Nat.le_of_eq hfin.1) (ZfA hfin)
noncomputable def ZPT (a0:Int):Option (Int×Unit) :=
 let b1:Bool:=(decide (a0≥(65536:Int)))
 bif b1 then
  let n2:Int:=(Int.fdiv a0 (65536:Int))
  ZHI n2 (16:Int)
 else
  ZHI a0 (0:Int)
theorem ZVD : ∃ f,f = @ZPT:=⟨_,rfl⟩
noncomputable def Za6:=Classical.choose ZVD
theorem Zf8 : @Za6 = @ZPT:=Classical.choose_spec ZVD
noncomputable def ZNU:Con:=⟨[(.int .u32)],ZCu,fun x=>ZPT x.1⟩
noncomputable def ZKP:Con:=⟨[(.int .u32)],ZCu,fun x=>Za6 x.1⟩
theorem Za7:ZNU.Sound prog Inv ZAq 247 :=
 ZAm (M:=ZPR) ZBo (f:=f247) rfl ZVC 100000 (X:=ZTY) (fun base S0 cs0 hn hf=>have hfin:ZPS base S0:=⟨hn,hf⟩;ZfB hfin) (by intro x;kernel_rfl)
theorem ZdK:ZKP.Sound prog Inv ZAq 247:=by
 have e:ZKP=ZNU:=by unfold ZKP ZNU;rw [Zf8]
 rw [e];exact Za7
noncomputable def Zk8:Mach prog Inv ZAq:=ZFE bas [(226,f226)] ⟨Zfw,trivial⟩ [(247,ZKP),(248,ZFA)] ⟨⟨ZdK,ZAa.callable ZrA⟩,⟨ZK8,ZAa.callable ZmU⟩,trivial⟩ [] trivial [] trivial
/-! ### math/bits.Len -/
@[reducible] def Za8:List Ty:=[(.int .i64)]
def ZjT:List Nat:=[226]
noncomputable def ZTZ (a0:Int):Option (Int×Unit) :=
 ZAX (ZD3 a0) fun y1=>
 some y1
theorem ZZZ : ∃ f,f = @ZTZ:=⟨_,rfl⟩
noncomputable def ZYV:=Classical.choose ZZZ
theorem ZjU : @ZYV = @ZTZ:=Classical.choose_spec ZZZ
noncomputable def ZRF:Con:=⟨[(.int .u64)],Za8,fun x=>ZTZ x.1⟩
noncomputable def ZDG:Con:=⟨[(.int .u64)],Za8,fun x=>ZYV x.1⟩
theorem ZfC:ZRF.Sound prog Inv ZAq 226 :=
 ZAm (M:=Zk8) ZBo (f:=f226) rfl ZjT 100000 (X:=nowhere) (fun base S0 cs0 hn hf=>ZAH.nowhere) (by intro x;kernel_rfl)
theorem ZEF:ZDG.Sound prog Inv ZAq 226:=by
 have e:ZDG=ZRF:=by unfold ZDG ZRF;rw [ZjU]
 rw [e];exact ZfC
noncomputable def ZjV:Mach prog Inv ZAq:=ZFE bas [(228,f228)] ⟨ZoX,trivial⟩ [] trivial [] trivial [] trivial
/-! ### domino/ranges.runs$1 -/
@[reducible] def ZZa:List Ty:=[(.int .i64)]
def Zhy:List Nat:=[228]
noncomputable def ZRG (a0:ZAI) (a1:ZAI):Option (Int×Unit) :=
 let b2:Bool:=(decide (a0.1<a1.1))
 bif b2 then
  some ((-1:Int),())
 else
  let b3:Bool:=(decide (a0.1>a1.1))
  bif b3 then
   some ((1:Int),())
  else
   some ((0:Int),())
theorem ZXU : ∃ f,f = @ZRG:=⟨_,rfl⟩
noncomputable def Zdf:=Classical.choose ZXU
theorem Zhz : @Zdf = @ZRG:=Classical.choose_spec ZXU
noncomputable def ZPU:Con:=⟨[ZAO,ZAO],ZZa,fun x=>ZRG x.1 x.2.1⟩
noncomputable def ZFw:Con:=⟨[ZAO,ZAO],ZZa,fun x=>Zdf x.1 x.2.1⟩
theorem ZdL:ZPU.Sound prog Inv ZAq 228 :=
 ZAm (M:=ZjV) ZBo (f:=f228) rfl Zhy 100000 (X:=nowhere) (fun base S0 cs0 hn hf=>ZAH.nowhere) (by intro x;kernel_rfl)
theorem ZMS:ZFw.Sound prog Inv ZAq 228:=by
 have e:ZFw=ZPU:=by unfold ZFw ZPU;rw [Zhz]
 rw [e];exact ZdL
noncomputable def ZYW:Mach prog Inv ZAq:=ZFE bas [(255,f255)] ⟨Zk4,trivial⟩ [(226,ZDG)] ⟨⟨ZEF,ZAa.callable Zfw⟩,trivial⟩ [] trivial [] trivial
/-! ### slices.nextPowerOfTwo -/
@[reducible] def ZNV:List Ty:=[(.int .u64)]
def ZXV:List Nat:=[255]
noncomputable def ZIE (a0:Int):Option (Int×Unit) :=
 let n1:Int:=(Go.IntKind.wrap Go.IntKind.u64 a0)
 ZAX (ZYV n1) fun y2=>
 bif (decide ((0:Int)≤y2.1)) then
  let n3:Int:=(Go.IntKind.wrap Go.IntKind.u64 ((1:Int)*((2:Int) ^ (Min.min (Int.toNat y2.1) 64))))
  some (n3,())
 else none
theorem ZMg : ∃ f,f = @ZIE:=⟨_,rfl⟩
noncomputable def ZQG:=Classical.choose ZMg
theorem ZXW : @ZQG = @ZIE:=Classical.choose_spec ZMg
noncomputable def ZHJ:Con:=⟨[(.int .i64)],ZNV,fun x=>ZIE x.1⟩
noncomputable def ZBS:Con:=⟨[(.int .i64)],ZNV,fun x=>ZQG x.1⟩
theorem ZTa:ZHJ.Sound prog Inv ZAq 255 :=
 ZAm (M:=ZYW) ZBo (f:=f255) rfl ZXV 100000 (X:=nowhere) (fun base S0 cs0 hn hf=>ZAH.nowhere) (by intro x;kernel_rfl)
theorem ZCY:ZBS.Sound prog Inv ZAq 255:=by
 have e:ZBS=ZHJ:=by unfold ZBS ZHJ;rw [ZXW]
 rw [e];exact ZTa
/-! ### ranges.swept -/
abbrev ZXX:Type:=(List ZAA)×Unit
noncomputable def ZPV (l0:(List (List ZAI))):Option ZXX:=Zk6 ZLc Zs2 l0
theorem ZVE : ∃ f,f = @ZPV:=⟨_,rfl⟩
noncomputable def ZTb:=Classical.choose ZVE
theorem ZVF : @ZTb = @ZPV:=Classical.choose_spec ZVE
@[reducible] noncomputable def Zf9:List Pat:=[.func 211 [] [],.all 0]
@[reducible] noncomputable def ZgA:List HPat:=[.row (.slice ZAO)]
@[reducible] noncomputable def ZgB:List Pat:=[.all 1]
@[reducible] noncomputable def ZgC:List HPat:=[.dead,.row ZAG]
noncomputable def ZFB:HCon:=HCon.mk0 Zf9 ZgA ZgB ZgC ZXX (fun x=>ZTb x.2.1) (fun r=>(((),()),((),(r.1,())))) (fun y=>(y.2.2.1,())) (fun _=>rfl)
theorem ZK9:ZFB.Sound prog Inv ZAq 165:=by
 have e:ZFB=Zfz 211 ZLc Zs2:=by unfold ZFB;rw [ZVF];rfl
 rw [e]
 exact ZYT ZuJ (enters_of func211 (by kernel_rfl) rfl) ZFI
noncomputable def ZqF:Mach prog Inv ZAq:=ZFE bas [(171,f171),(165,f165),(208,f208),(227,f227),(229,f229),(249,f249),(256,f256),(259,f259),(260,f260),(261,f261),(262,f262),(263,f263),(264,f264),(265,f265),(266,f266),(268,f268),(269,f269),(270,f270),(271,f271)] ⟨Zw6,Zfv,ZSO,Za0,Zp0,ZoY,ZmV,ZoZ,Zp1,Zp2,Zp3,Zp4,Zp5,Zp6,Zp7,Zp8,Zp9,ZqA,ZqB,trivial⟩ [(167,ZGa),(211,ZNT),(226,ZDG),(228,ZFw),(255,ZBS)] ⟨⟨ZKN,ZAa.callable ZuA⟩,⟨Zf7,ZAa.callable ZxB⟩,⟨ZEF,ZAa.callable Zfw⟩,⟨ZMS,ZAa.callable ZoX⟩,⟨ZCY,ZAa.callable Zk4⟩,trivial⟩ [(209,ZBM)] ⟨⟨ZBp,ZAa.callable ZuD⟩,trivial⟩ [(227,ZAf),(208,ZEU),(208,ZEV),(208,ZEW),(208,ZEX),(165,ZDj),(165,ZFB)] ⟨⟨ZAr,ZAa.callable Za0⟩,⟨ZFF,ZAa.callable ZSO⟩,⟨ZFG,ZAa.callable ZSO⟩,⟨ZFH,ZAa.callable ZSO⟩,⟨ZFI,ZAa.callable ZSO⟩,⟨ZG1,ZAa.callable Zfv⟩,⟨ZK9,ZAa.callable Zfv⟩,trivial⟩
/-! ### domino/ranges.Cut -/
@[reducible] def Zij:List Ty:=[(.slice ZAG)]
def Zod:List Nat:=[171,165,208,227,229,249,256,259,260,261,262,263,264,265,266,268,269,270,271]
noncomputable def ZVG (a0:(List ZAA)) (a1:ZAA):Option ((List ZAA)×Unit) :=
 ZAX (ZE3 a0 (1:Int)) fun y2=>
 let e3:(Int×(Int×Unit)):=(a1.1,(a1.2.1,()))
 ZAX (ZE3 (e3::([]:List ZAA)) (-1:Int)) fun y4=>
 ZAX (ZTb (y2.1::(y4.1::([]:List (List ZAI))))) fun y5=>
 some y5
theorem ZgD : ∃ f,f = @ZVG:=⟨_,rfl⟩
noncomputable def ZXY:=Classical.choose ZgD
theorem ZgE : @ZXY = @ZVG:=Classical.choose_spec ZgD
noncomputable def ZYX:Con:=⟨[(.slice ZAG),ZAG],Zij,fun x=>ZVG x.1 x.2.1⟩
noncomputable def ZQH:Con:=⟨[(.slice ZAG),ZAG],Zij,fun x=>ZXY x.1 x.2.1⟩
theorem ZjW:ZYX.Sound prog Inv ZAq 171 :=
 ZAm (M:=ZqF) ZBo (f:=f171) rfl Zod 100000 (X:=nowhere) (fun base S0 cs0 hn hf=>ZAH.nowhere) (by intro x;kernel_rfl)
theorem Za9:ZQH.Sound prog Inv ZAq 171:=by
 have e:ZQH=ZYX:=by unfold ZQH ZYX;rw [ZgE]
 rw [e];exact ZjW
noncomputable def ZjX:Mach prog Inv ZAq:=ZFE bas [(203,f203)] ⟨Zw8,trivial⟩ [] trivial [] trivial [] trivial
/-! ### domino/ranges.Gaps$1 -/
@[reducible] def ZZb:List Ty:=[.bool]
def Zh0:List Nat:=[203]
noncomputable def ZRH (a0:Int):Option (Bool×Unit) :=
 let b1:Bool:=(a0==(1:Int))
 some (b1,())
theorem ZXZ : ∃ f,f = @ZRH:=⟨_,rfl⟩
noncomputable def Zdg:=Classical.choose ZXZ
theorem Zh1 : @Zdg = @ZRH:=Classical.choose_spec ZXZ
noncomputable def ZPW:Con:=⟨[(.int .i64)],ZZb,fun x=>ZRH x.1⟩
noncomputable def ZMD:Con:=⟨[(.int .i64)],ZZb,fun x=>Zdg x.1⟩
theorem ZdM:ZPW.Sound prog Inv ZAq 203 :=
 ZAm (M:=ZjX) ZBo (f:=f203) rfl Zh0 100000 (X:=nowhere) (fun base S0 cs0 hn hf=>ZAH.nowhere) (by intro x;kernel_rfl)
theorem ZfD:ZMD.Sound prog Inv ZAq 203:=by
 have e:ZMD=ZPW:=by unfold ZMD ZPW;rw [Zh1]
 rw [e];exact ZdM
/-! ### ranges.swept -/
abbrev ZXa:Type:=(List ZAA)×Unit
noncomputable def ZPX (l0:(List (List ZAI))):Option ZXa:=Zk6 ZLb Zs2 l0
theorem ZVH : ∃ f,f = @ZPX:=⟨_,rfl⟩
noncomputable def ZTc:=Classical.choose ZVH
theorem ZVI : @ZTc = @ZPX:=Classical.choose_spec ZVH
@[reducible] noncomputable def ZgF:List Pat:=[.func 203 [] [],.all 0]
@[reducible] noncomputable def ZgG:List HPat:=[.row (.slice ZAO)]
@[reducible] noncomputable def ZgH:List Pat:=[.all 1]
@[reducible] noncomputable def ZgI:List HPat:=[.dead,.row ZAG]
noncomputable def ZHK:HCon:=HCon.mk0 ZgF ZgG ZgH ZgI ZXa (fun x=>ZTc x.2.1) (fun r=>(((),()),((),(r.1,())))) (fun y=>(y.2.2.1,())) (fun _=>rfl)
theorem ZRs:ZHK.Sound prog Inv ZAq 165:=by
 have e:ZHK=Zfz 203 ZLb Zs2:=by unfold ZHK;rw [ZVI];rfl
 rw [e]
 exact ZYT ZuI (enters_of func203 (by kernel_rfl) rfl) ZFH
noncomputable def Zoe:Mach prog Inv ZAq:=ZFE bas [(161,f161),(165,f165),(208,f208),(227,f227),(229,f229),(249,f249),(256,f256),(259,f259),(260,f260),(261,f261),(262,f262),(263,f263),(264,f264),(265,f265),(266,f266),(268,f268),(269,f269),(270,f270),(271,f271)] ⟨Zw4,Zfv,ZSO,Za0,Zp0,ZoY,ZmV,ZoZ,Zp1,Zp2,Zp3,Zp4,Zp5,Zp6,Zp7,Zp8,Zp9,ZqA,ZqB,trivial⟩ [(167,ZGa),(203,ZMD),(226,ZDG),(228,ZFw),(255,ZBS)] ⟨⟨ZKN,ZAa.callable ZuA⟩,⟨ZfD,ZAa.callable Zw8⟩,⟨ZEF,ZAa.callable Zfw⟩,⟨ZMS,ZAa.callable ZoX⟩,⟨ZCY,ZAa.callable Zk4⟩,trivial⟩ [(209,ZBM)] ⟨⟨ZBp,ZAa.callable ZuD⟩,trivial⟩ [(227,ZAf),(208,ZEU),(208,ZEV),(208,ZEW),(208,ZEX),(165,ZDj),(165,ZFB),(165,ZHK)] ⟨⟨ZAr,ZAa.callable Za0⟩,⟨ZFF,ZAa.callable ZSO⟩,⟨ZFG,ZAa.callable ZSO⟩,⟨ZFH,ZAa.callable ZSO⟩,⟨ZFI,ZAa.callable ZSO⟩,⟨ZG1,ZAa.callable Zfv⟩,⟨ZK9,ZAa.callable Zfv⟩,⟨ZRs,ZAa.callable Zfv⟩,trivial⟩
/-! ### domino/ranges.Gaps -/
@[reducible] def ZgJ:List Ty:=[(.slice ZAG)]
def ZmX:List Nat:=[161,165,208,227,229,249,256,259,260,261,262,263,264,265,266,268,269,270,271]
noncomputable def ZSP (a0:(List ZAA)) (a1:ZAA):Option ((List ZAA)×Unit) :=
 let e2:(Int×(Int×Unit)):=(a1.1,(a1.2.1,()))
 ZAX (ZE3 (e2::([]:List ZAA)) (1:Int)) fun y3=>
 ZAX (ZE3 a0 (-1:Int)) fun y4=>
 ZAX (ZTc (y3.1::(y4.1::([]:List (List ZAI))))) fun y5=>
 some y5
theorem Zdh : ∃ f,f = @ZSP:=⟨_,rfl⟩
noncomputable def ZTd:=Classical.choose Zdh
theorem Zdi : @ZTd = @ZSP:=Classical.choose_spec Zdh
noncomputable def ZV3:Con:=⟨[(.slice ZAG),ZAG],ZgJ,fun x=>ZSP x.1 x.2.1⟩
noncomputable def ZNW:Con:=⟨[(.slice ZAG),ZAG],ZgJ,fun x=>ZTd x.1 x.2.1⟩
theorem Zh2:ZV3.Sound prog Inv ZAq 161 :=
 ZAm (M:=Zoe) ZBo (f:=f161) rfl ZmX 100000 (X:=nowhere) (fun base S0 cs0 hn hf=>ZAH.nowhere) (by intro x;kernel_rfl)
theorem ZZc:ZNW.Sound prog Inv ZAq 161:=by
 have e:ZNW=ZV3:=by unfold ZNW ZV3;rw [Zdi]
 rw [e];exact Zh2
noncomputable def ZmY:Mach prog Inv ZAq:=ZFE bas [(223,f223)] ⟨ZxC,trivial⟩ [] trivial [] trivial [] trivial
/-! ### domino/ranges.Of$1 -/
@[reducible] def Zdj:List Ty:=[.bool]
def Zk9:List Nat:=[223]
noncomputable def ZV4 (a0:Int):Option (Bool×Unit) :=
 let b1:Bool:=(decide (a0>(0:Int)))
 some (b1,())
theorem ZbA : ∃ f,f = @ZV4:=⟨_,rfl⟩
noncomputable def Zik:=Classical.choose ZbA
theorem ZlA : @Zik = @ZV4:=Classical.choose_spec ZbA
noncomputable def ZTe:Con:=⟨[(.int .i64)],Zdj,fun x=>ZV4 x.1⟩
noncomputable def ZPv:Con:=⟨[(.int .i64)],Zdj,fun x=>Zik x.1⟩
theorem ZgK:ZTe.Sound prog Inv ZAq 223 :=
 ZAm (M:=ZmY) ZBo (f:=f223) rfl Zk9 100000 (X:=nowhere) (fun base S0 cs0 hn hf=>ZAH.nowhere) (by intro x;kernel_rfl)
theorem Zh3:ZPv.Sound prog Inv ZAq 223:=by
 have e:ZPv=ZTe:=by unfold ZPv ZTe;rw [ZlA]
 rw [e];exact ZgK
/-! ### ranges.swept -/
abbrev ZXb:Type:=(List ZAA)×Unit
noncomputable def ZPY (l0:(List (List ZAI))):Option ZXb:=Zk6 ZLa Zs1 l0
theorem ZVJ : ∃ f,f = @ZPY:=⟨_,rfl⟩
noncomputable def ZTf:=Classical.choose ZVJ
theorem ZVK : @ZTf = @ZPY:=Classical.choose_spec ZVJ
@[reducible] noncomputable def ZgL:List Pat:=[.func 223 [] [],.all 0]
@[reducible] noncomputable def ZgM:List HPat:=[.row (.slice ZAO)]
@[reducible] noncomputable def ZgN:List Pat:=[.all 1]
@[reducible] noncomputable def ZgO:List HPat:=[.dead,.row ZAG]
noncomputable def ZKQ:HCon:=HCon.mk0 ZgL ZgM ZgN ZgO ZXb (fun x=>ZTf x.2.1) (fun r=>(((),()),((),(r.1,())))) (fun y=>(y.2.2.1,())) (fun _=>rfl)
theorem ZdN:ZKQ.Sound prog Inv ZAq 165:=by
 have e:ZKQ=Zfz 223 ZLa Zs1:=by unfold ZKQ;rw [ZVK];rfl
 rw [e]
 exact ZYT ZuH (enters_of func223 (by kernel_rfl) rfl) ZFG
noncomputable def ZrC:Mach prog Inv ZAq:=ZFE bas [(204,f204),(165,f165),(208,f208),(227,f227),(229,f229),(249,f249),(256,f256),(259,f259),(260,f260),(261,f261),(262,f262),(263,f263),(264,f264),(265,f265),(266,f266),(268,f268),(269,f269),(270,f270),(271,f271)] ⟨ZyO,Zfv,ZSO,Za0,Zp0,ZoY,ZmV,ZoZ,Zp1,Zp2,Zp3,Zp4,Zp5,Zp6,Zp7,Zp8,Zp9,ZqA,ZqB,trivial⟩ [(167,ZGa),(223,ZPv),(226,ZDG),(228,ZFw),(255,ZBS)] ⟨⟨ZKN,ZAa.callable ZuA⟩,⟨Zh3,ZAa.callable ZxC⟩,⟨ZEF,ZAa.callable Zfw⟩,⟨ZMS,ZAa.callable ZoX⟩,⟨ZCY,ZAa.callable Zk4⟩,trivial⟩ [(209,ZBM)] ⟨⟨ZBp,ZAa.callable ZuD⟩,trivial⟩ [(227,ZAf),(208,ZEU),(208,ZEV),(208,ZEW),(208,ZEX),(165,ZDj),(165,ZFB),(165,ZHK),(165,ZKQ)] ⟨⟨ZAr,ZAa.callable Za0⟩,⟨ZFF,ZAa.callable ZSO⟩,⟨ZFG,ZAa.callable ZSO⟩,⟨ZFH,ZAa.callable ZSO⟩,⟨ZFI,ZAa.callable ZSO⟩,⟨ZG1,ZAa.callable Zfv⟩,⟨ZK9,ZAa.callable Zfv⟩,⟨ZRs,ZAa.callable Zfv⟩,⟨ZdN,ZAa.callable Zfv⟩,trivial⟩
/-! ### domino/ranges.Of -/
@[reducible] def ZlB:List Ty:=[(.slice ZAG)]
def ZqG:List Nat:=[204,165,208,227,229,249,256,259,260,261,262,263,264,265,266,268,269,270,271]
noncomputable def ZYY (a0:(List ZAA)):Option ((List ZAA)×Unit) :=
 ZAX (ZE3 a0 (1:Int)) fun y1=>
 ZAX (ZTf (y1.1::([]:List (List ZAI)))) fun y2=>
 some y2
theorem Zil : ∃ f,f = @ZYY:=⟨_,rfl⟩
noncomputable def ZXc:=Classical.choose Zil
theorem Zim : @ZXc = @ZYY:=Classical.choose_spec Zil
noncomputable def ZbB:Con:=⟨[(.slice ZAG)],ZlB,fun x=>ZYY x.1⟩
noncomputable def ZYZ:Con:=⟨[(.slice ZAG)],ZlB,fun x=>ZXc x.1⟩
theorem ZlC:ZbB.Sound prog Inv ZAq 204 :=
 ZAm (M:=ZrC) ZBo (f:=f204) rfl ZqG 100000 (X:=nowhere) (fun base S0 cs0 hn hf=>ZAH.nowhere) (by intro x;kernel_rfl)
theorem ZmZ:ZYZ.Sound prog Inv ZAq 204:=by
 have e:ZYZ=ZbB:=by unfold ZYZ ZbB;rw [Zim]
 rw [e];exact ZlC
end Go.Proofs.YtamaklnhjagifaaGreatDoor.V
namespace Go.Proofs.YtamaklnhjagifaaGreatDoor.V
open Go.RowKit
set_option linter.unusedVariables false
set_option maxRecDepth 100000
/-! #### edges -/
def ZE4 (by_:Int) (s:RS):ES:=s.flatMap fun r=>if r.2.1<r.1 then [] else [(r.1,by_,()),(IntKind.wrap .u64 (r.2.1+1),IntKind.wrap .i64 (0 - by_),())]
theorem ZPZ (by_:Int) (r:Int×Int×Unit) (s:RS):ZE4 by_ (r::s)=(if r.2.1<r.1 then [] else [(r.1,by_,()),(IntKind.wrap .u64 (r.2.1+1),IntKind.wrap .i64 (0 - by_),())])++ZE4 by_ s:=rfl
theorem ZMh (by_:Int) : ∀ (s:RS),(ZE4 by_ s).length≤2*s.length
 | []=>Nat.le_refl _
 | r::s=>by
  have:=ZMh by_ s
  rw [ZPZ,List.length_append,List.length_cons]
  split <;> simp <;> omega
theorem Zvl (r:ZAA):ZF4 r=some (decide (r.2.1<r.1),()):=by
 rw [ZJZ,ZEa]
theorem Zsi (by_:Int) : ∀ (suf pre:RS) (out:ES) (m:Nat),suf.length<m→(pre++suf).length≤1000000→out.length≤2*pre.length →
  ZGZ m by_ (pre++suf) (((pre++suf).length:Nat):Int) ((pre.length:Nat):Int) out=some (out++ZE4 by_ suf,()):=by
 intro suf
 induction suf with
 | nil=>
  intro pre out m hm hl ho
  obtain ⟨m,rfl⟩ : ∃ k,m=k+1:=⟨m - 1,by omega⟩
  simp only [List.append_nil,ZGZ,ZQ6,Int.lt_irrefl,decide_false,cond_false,ZE4,List.flatMap_nil]
 | cons x suf ih=>
  intro pre out m hm hl ho
  obtain ⟨m,rfl⟩ : ∃ k,m=k+1:=⟨m - 1,by omega⟩
  have hp:(pre++[x]).length=pre.length+1:=by simp
  have hl2:pre.length+1≤1000000:=by simp at hl;omega
  simp only [ZGZ,ZQ6,ZLV,nn,and_true,decide_true,cond_true,ZDD,ZDC,Zvl,ZAK,ZW2,ZQ5]
  rw [ZJE pre x x suf (by omega),ZPZ]
  by_cases h:x.2.1<x.1
  ·
   simp only [h,decide_true,Bool.not_true,cond_false,if_true,List.nil_append]
   have:=ih (pre++[x]) out m (by simp at hm;omega) (by simpa using hl) (by omega)
   rw [← ZID] at this
   exact this
  ·
   have c:decide (out.length+[((x.1,by_,()):ZAI),(IntKind.wrap .u64 (x.2.1+1),IntKind.wrap .i64 (0 - by_),())].length≤4294967296)=true:=by simp;omega
   simp only [h,decide_false,Bool.not_false,cond_true,if_false,c]
   have:=ih (pre++[x]) (out++[(x.1,by_,()),(IntKind.wrap .u64 (x.2.1+1),IntKind.wrap .i64 (0 - by_),())]) m (by simp at hm;omega) (by simpa using hl) (by simp;omega)
   rw [← ZID] at this
   rw [← List.append_assoc]
   exact this
theorem ZYa (s:RS) (by_:Int) (hl:s.length≤1000000):ZE3 s by_=some (ZE4 by_ s,()):=by
 rw [Za3,ZPu,ZU6,ZPJ]
 have:=Zsi by_ s [] [] (Int.toNat (((s.length:Nat):Int) - 0)+2) (by omega) (by simpa using hl) (by simp)
 simpa using this
/-! #### one behind the other -/
theorem ZrD (a b:ES) (ha:a.length≤3000000) (hb:b.length≤3000000):ZB3 [a,b]=some (a++b):=by
 rw [ZEn,ZCM,ZDh,ZCb]
 have w1:IntKind.wrap .i64 (0+((a.length:Nat):Int))=((a.length:Nat):Int):=by rw [wrap_i64 _ (by omega) (by omega)];omega
 have w2:IntKind.wrap .i64 (((a.length:Nat):Int)+((b.length:Nat):Int))=((a.length+b.length:Nat):Int):=by rw [wrap_i64 _ (by omega) (by omega)];omega
 have w3:IntKind.wrap .i64 ((0:Int)+1)=1:=rfl
 have w4:IntKind.wrap .i64 ((1:Int)+1)=2:=rfl
 have w5:IntKind.wrap .i64 (((a.length+b.length:Nat):Int) - 0)=((a.length+b.length:Nat):Int):=by rw [wrap_i64 _ (by omega) (by omega)];omega
 have n1:decide (((a.length:Nat):Int)<0)=false:=by simp
 have n2:decide (((a.length+b.length:Nat):Int)<0)=false:=by simp;omega
 show ZBD 4 [a,b] 0 [a,b] 2 0=_
 have d1:decide ((0:Int)<2)=true:=rfl
 have d2:decide ((1:Int)<2)=true:=rfl
 have d3:decide ((2:Int)<2)=false:=rfl
 have e1:decide ((0:Int)≤0∧(0:Int)<((([a,b]:List ES).length:Nat):Int))=true:=rfl
 have e2:decide ((0:Int)≤1∧(1:Int)<((([a,b]:List ES).length:Nat):Int))=true:=rfl
 have g1:List.getD [a,b] (Int.toNat 0) (Ty.dflt (Ty.slice ZAO))=a:=rfl
 have g1':List.getD [a,b] 0 (Ty.dflt (Ty.slice ZAO))=a:=rfl
 have g2:List.getD [a,b] (Int.toNat 1) (Ty.dflt (Ty.slice ZAO))=b:=rfl
 have l2:((([a,b]:List ES).length:Nat):Int)=2:=rfl
 have k1:decide (a.length+b.length≤4294967296)=true:=by simp;omega
 simp only [ZBD,ZES,d1,cond_true,g1,w1,n1,cond_false,w3,d2,g2,w2,n2,w4,d3,w5,ZDg,ZCa,l2]
 by_cases hz:a.length+b.length=0
 ·
  have ha0:a=[]:=List.length_eq_zero_iff.mp (by omega)
  have hb0:b=[]:=List.length_eq_zero_iff.mp (by omega)
  subst ha0 hb0
  rfl
 ·
  have c1:decide (((a.length+b.length:Nat):Int)>0)=true:=by simp;omega
  have c2:decide ((0:Int)<((a.length+b.length:Nat):Int)∧((a.length+b.length:Nat):Int)≤4294967296)=true:=by simp;omega
  have c3 : ∀ l:ES,decide (Int.toNat 0 - 0≤l.length∧Int.toNat 0 - 0+a.length≤4294967296)=true:=fun l=>by simp;omega
  simp only [c1,cond_true,c2,g1',c3]
  show ZBC 3 [a,b] 2 1 (List.take 0 _++a)=_
  simp only [ZBC,ZEQ,d2,cond_true,e2,g2,List.take_zero,List.nil_append,k1,w4,d3,cond_false]
theorem ZxH (a:ES) (ha:a.length≤3000000):ZB3 [a]=some a:=by
 rw [ZEn,ZCM,ZDh,ZCb]
 have w1:IntKind.wrap .i64 (0+((a.length:Nat):Int))=((a.length:Nat):Int):=by rw [wrap_i64 _ (by omega) (by omega)];omega
 have w3:IntKind.wrap .i64 ((0:Int)+1)=1:=rfl
 have w5:IntKind.wrap .i64 (((a.length:Nat):Int) - 0)=((a.length:Nat):Int):=by rw [wrap_i64 _ (by omega) (by omega)];omega
 have n1:decide (((a.length:Nat):Int)<0)=false:=by simp
 show ZBD 3 [a] 0 [a] 1 0=_
 have d1:decide ((0:Int)<1)=true:=rfl
 have d3:decide ((1:Int)<1)=false:=rfl
 have e1:decide ((0:Int)≤0∧(0:Int)<((([a]:List ES).length:Nat):Int))=true:=rfl
 have g1:List.getD [a] (Int.toNat 0) (Ty.dflt (Ty.slice ZAO))=a:=rfl
 have g1':List.getD [a] 0 (Ty.dflt (Ty.slice ZAO))=a:=rfl
 have l2:((([a]:List ES).length:Nat):Int)=1:=rfl
 simp only [ZBD,ZES,d1,cond_true,g1,w1,n1,cond_false,w3,d3,w5,ZDg,ZCa,l2]
 by_cases hz:a.length=0
 ·
  have ha0:a=[]:=List.length_eq_zero_iff.mp hz
  subst ha0
  rfl
 ·
  have c1:decide (((a.length:Nat):Int)>0)=true:=by simp;omega
  have c2:decide ((0:Int)<((a.length:Nat):Int)∧((a.length:Nat):Int)≤4294967296)=true:=by simp;omega
  have c3 : ∀ l:ES,decide (Int.toNat 0 - 0≤l.length∧Int.toNat 0 - 0+a.length≤4294967296)=true:=fun l=>by simp;omega
  simp only [c1,cond_true,c2,g1',c3]
  show ZBC 2 [a] 1 1 (List.take 0 _++a)=_
  simp only [ZBC,ZEQ,d3,cond_false,List.take_zero,List.nil_append]
/-! #### runs -/
theorem ZxI (a:Int) : ∀ (l:ES) (w:Int),(∀ e∈l,-1≤e.2.1∧e.2.1≤1) → -4611686018427387904+((l.length:Nat):Int)≤w→w≤4611686018427387904 - ((l.length:Nat):Int) →
  ZpK a l w=ZkJ a l w ∧ -4611686018427387904+(((ZkJ a l w).2.length:Nat):Int)≤(ZkJ a l w).1∧(ZkJ a l w).1≤4611686018427387904 - (((ZkJ a l w).2.length:Nat):Int) ∧ ∀ e∈(ZkJ a l w).2,e∈l:=by
 intro l
 induction l with
 | nil=>intro w _ h1 h2;exact ⟨rfl,h1,h2,fun _ h=>h⟩
 | cons e l ih=>
  intro w hb h1 h2
  have he:=hb e List.mem_cons_self
  simp only [List.length_cons] at h1 h2
  unfold ZpK ZkJ
  split
  ·
   have hw:IntKind.wrap .i64 (w+e.2.1)=w+e.2.1:=wrap_i64 _ (by omega) (by omega)
   rw [hw]
   obtain ⟨k1,k2,k3,k4⟩:=ih (w+e.2.1) (fun x hx=>hb x (List.mem_cons_of_mem _ hx)) (by omega) (by omega)
   exact ⟨k1,k2,k3,fun x hx=>List.mem_cons_of_mem _ (k4 x hx)⟩
  · exact ⟨rfl,by simp only [List.length_cons];omega,by simp only [List.length_cons];omega,fun _ h=>h⟩
theorem Zvm (wf:Int→Bool) : ∀ (k:Nat) (l:ES) (w:Int) (op:Bool) (fr:Int),l.length≤k→(∀ e∈l,(-1≤e.2.1∧e.2.1≤1)∧0≤e.1∧e.1<18446744073709551616)→(l.Pairwise fun x y=>x.1≤y.1) → -4611686018427387904+((l.length:Nat):Int)≤w→w≤4611686018427387904 - ((l.length:Nat):Int) →
  (op=true→0≤fr ∧ ∀ e∈l,fr<e.1)→ZOb wf l w op fr=Ze1 wf l w op fr:=by
 intro k
 induction k with
 | zero=>
  intro l w op fr hk _ _ _ _ _
  have:l=[]:=List.length_eq_zero_iff.mp (by omega)
  subst this
  rw [ZOb,Ze1]
 | succ k ih=>
  intro l w op fr hk hb hp h1 h2 hfr
  cases l with
  | nil=>rw [ZOb,Ze1]
  | cons e l=>
   have he:=hb e List.mem_cons_self
   have hp':=List.pairwise_cons.mp hp
   simp only [List.length_cons] at h1 h2 hk
   have hw:IntKind.wrap .i64 (w+e.2.1)=w+e.2.1:=wrap_i64 _ (by omega) (by omega)
   obtain ⟨k1,k2,k3,k4⟩:=ZxI e.1 l (w+e.2.1) (fun x hx=>(hb x (List.mem_cons_of_mem _ hx)).1) (by omega) (by omega)
   obtain ⟨g1,g2,_⟩:=Zq6 e.1 l (w+e.2.1) hp'.2 (fun x hx=>hp'.1 x hx)
   have hlen:=Zfs e.1 l (w+e.2.1)
   rw [ZOb,Ze1,hw,k1]
   generalize ZkJ e.1 l (w+e.2.1)=r at *
   obtain ⟨v,l'⟩:=r
   simp only at k2 k3 k4 g1 g2 hlen ⊢
   have ih:=fun a b h=>ih l' v a b (by omega) (fun x hx=>hb x (List.mem_cons_of_mem _ (k4 x hx))) g2 k2 k3 h
   split
   · exact ih true e.1 (fun _=>⟨he.2.1,g1⟩)
   ·
    split
    ·
     rename_i hop
     simp only [Bool.and_eq_true,Bool.not_eq_true'] at hop
     obtain ⟨f1,f2⟩:=hfr hop.2
     have:=f2 e List.mem_cons_self
     rw [ZAh _ (by omega) (by omega),ih false fr (fun h=>by cases h)]
    · exact ih op fr (fun h=>⟨(hfr h).1,fun x hx=>(hfr h).2 x (List.mem_cons_of_mem _ (k4 x hx))⟩)
theorem Zng (wf:Int→Bool) : ∀ (k:Nat) (l:ES) (w:Int) (op:Bool) (fr:Int),l.length≤k→2*(Ze1 wf l w op fr).length≤l.length+(if op then 1 else 0)
 | _,[],w,op,fr,_=>by rw [Ze1];simp
 | 0,e::l,_,_,_,hk=>by simp at hk
 | k+1,e::l,w,op,fr,hk=>by
  have hlen:=Zfs e.1 l (w+e.2.1)
  simp only [List.length_cons] at hk
  rw [Ze1]
  generalize ZkJ e.1 l (w+e.2.1)=r at *
  obtain ⟨v,l'⟩:=r
  simp only at hlen ⊢
  have ih:=fun a b=>Zng wf k l' v a b (by omega)
  simp only [List.length_cons]
  split
  ·
   rename_i h
   simp only [Bool.and_eq_true,Bool.not_eq_true'] at h
   have:=ih true e.1
   simp only [if_true] at this
   rw [h.2]
   simp only [Bool.false_eq_true,if_false]
   omega
  ·
   split
   ·
    rename_i h
    simp only [Bool.and_eq_true,Bool.not_eq_true'] at h
    have:=ih false fr
    simp only [Bool.false_eq_true,if_false] at this
    rw [h.2]
    simp only [if_true,List.length_cons]
    omega
   ·
    have:=ih op fr
    omega
/-! #### weights -/
def Bnd (s:RS):Prop := ∀ r∈s,0≤r.1∧r.2.1<9223372036854775808
theorem Zof (by_:Int) (h:by_=1∨by_ = -1):IntKind.wrap .i64 (0 - by_) = -by_:=by
 rcases h with rfl | rfl <;> rfl
theorem ZgP (by_:Int) (hb:by_=1∨by_ = -1) (r:Int×Int×Unit) (h1:0≤r.1) (h2:r.2.1<9223372036854775808) (hr:r.1≤r.2.1) (n:Int) :
  ZdD (ZE4 by_ [r]) n=if r.1≤n∧n≤r.2.1 then by_ else 0:=by
 rw [ZPZ,if_neg (by omega),Zof _ hb,ZAh _ (by omega) (by omega)]
 simp only [ZE4,List.flatMap_nil,List.append_nil,ZdD]
 by_cases k1:r.1≤n
 ·
  by_cases k2:n≤r.2.1
  · rw [if_pos k1,if_neg (by omega),if_pos ⟨k1,k2⟩];omega
  · rw [if_pos k1,if_pos (by omega),if_neg (by omega)];omega
 · rw [if_neg k1,if_neg (by omega),if_neg (by omega)];rfl
theorem Zin (by_:Int) (r:Int×Int×Unit) (s:RS):ZE4 by_ (r::s)=ZE4 by_ [r]++ZE4 by_ s:=by
 rw [ZPZ,ZPZ by_ r []]
 simp [ZE4]
theorem ZMi (by_:Int) (hb:by_=1∨by_ = -1) : ∀ (s:RS),ZjH (ZE4 by_ s)=0
 | []=>rfl
 | r::s=>by
  rw [ZPZ,Zft,ZMi by_ hb s]
  split
  · rfl
  · simp only [ZjH,Zof _ hb];omega
theorem Zc4 (by_:Int) (hb:by_=1∨by_ = -1) : ∀ (s:RS),Can s→Bnd s → ∀ n,(ZGV s n→ZdD (ZE4 by_ s) n=by_)∧(¬ ZGV s n→ZdD (ZE4 by_ s) n=0)
 | [],_,_,n=>⟨fun h=>absurd h (ZC1 n),fun _=>rfl⟩
 | r::s,hc,hbd,n=>by
  have hr:=hbd r List.mem_cons_self
  obtain ⟨i1,i2⟩:=Zc4 by_ hb s hc.tail (fun x hx=>hbd x (List.mem_cons_of_mem _ hx)) n
  rw [Zin,Zc1,ZgP by_ hb r hr.1 hr.2 hc.head,ZCA]
  by_cases h1:r.1≤n∧n≤r.2.1
  ·
   have : ¬ ZGV s n:=fun h=>by have:=hc.above h;omega
   rw [if_pos h1,i2 this]
   exact ⟨fun _=>by omega,fun h=>absurd (.inl h1) h⟩
  ·
   rw [if_neg h1]
   by_cases h2:ZGV s n
   ·
    rw [i1 h2]
    exact ⟨fun _=>by omega,fun h=>absurd (.inr h2) h⟩
   ·
    rw [i2 h2]
    exact ⟨fun h=>h.elim (fun h=>absurd h h1) (fun h=>absurd h h2),fun _=>rfl⟩
theorem ZxJ (l:RS) (hb:Bnd l) (hf : ∀ r∈l,r.1≤r.2.1) (n:Int):0≤ZdD (ZE4 1 l) n∧(0<ZdD (ZE4 1 l) n↔ZGV l n):=by
 induction l with
 | nil=>exact ⟨Int.le_refl _,fun h=>absurd h (by show ¬ (0:Int)<0;omega),fun h=>absurd h (ZC1 n)⟩
 | cons r l ih=>
  have hr:=hb r List.mem_cons_self
  obtain ⟨i1,i2⟩:=ih (fun x hx=>hb x (List.mem_cons_of_mem _ hx)) (fun x hx=>hf x (List.mem_cons_of_mem _ hx))
  rw [Zin,Zc1,ZgP 1 (.inl rfl) r hr.1 hr.2 (hf r List.mem_cons_self),ZCA]
  by_cases h1:r.1≤n∧n≤r.2.1
  ·
   rw [if_pos h1]
   exact ⟨by omega,fun _ => .inl h1,fun _=>by omega⟩
  ·
   rw [if_neg h1,← i2]
   exact ⟨by omega,fun h => .inr (by omega),fun h=>h.elim (fun h=>absurd h h1) (fun h=>by omega)⟩
theorem ZMT (by_:Int) (hb:by_=1∨by_ = -1) (s:RS) (hbd:Bnd s) : ∀ e∈ZE4 by_ s,(-1≤e.2.1∧e.2.1≤1)∧0≤e.1∧e.1<18446744073709551616:=by
 intro e he
 obtain ⟨r,hr,he⟩:=List.mem_flatMap.mp he
 obtain ⟨h1,h2⟩:=hbd r hr
 split at he
 · cases he
 ·
  rename_i hlt
  rw [Zof _ hb,ZAh _ (by omega) (by omega)] at he
  simp only [List.mem_cons,List.not_mem_nil,or_false] at he
  rcases he with rfl | rfl
  · exact ⟨by simp only;omega,by simp only;omega,by simp only;omega⟩
  · exact ⟨by simp only;omega,by simp only;omega,by simp only;omega⟩
theorem Zvn (wf:Int→Bool) (c l:ES) (hperm:l.Perm c) (hs:l.Pairwise fun x y=>x.1≤y.1) (hr : ∀ e∈c,(-1≤e.2.1∧e.2.1≤1)∧0≤e.1∧e.1<18446744073709551616) (hl:c.length≤10000000) (h0:wf 0=false) (ht:ZjH c=0) :
  Can (ZOb wf l 0 false 0)∧(∀ n,ZGV (ZOb wf l 0 false 0) n↔wf (ZdD c n)=true)∧2*(ZOb wf l 0 false 0).length≤c.length:=by
 have hlen:=hperm.length_eq
 have e:=Zvm wf l.length l 0 false 0 (Nat.le_refl _) (fun e he=>hr e (hperm.mem_iff.mp he)) hs (by omega) (by omega) (fun h=>by cases h)
 rw [e]
 obtain ⟨h1,h2,_⟩:=Zfu wf l.length l 0 false 0 (Nat.le_refl _) hs h0 (fun h=>by cases h) (by rw [Zt7 hperm,ht];exact h0)
 refine ⟨h1,fun n => ?_,?_⟩
 ·
  rw [h2 n,Zt6 hperm n,Int.zero_add]
  simp
 ·
  have:=Zng wf l.length l 0 false 0 (Nat.le_refl _)
  simp only [Bool.false_eq_true,if_false] at this
  omega
theorem ZxK (l:ES) (hl:l.length≤10000000) : ∃ m,ZA6 l=some (m,())∧m.Perm l∧m.Pairwise fun x y=>x.1≤y.1:=by
 rw [ZF6,ZDY]
 have c:decide (l.length<4611686018427387904)=true:=by simp;omega
 rw [c]
 refine ⟨_,rfl,Zih ZBl l,?_⟩
 refine (Zfy ZBl l).imp fun {a b} h => ?_
 rw [ZCD,decide_eq_false_iff_not] at h
 omega
theorem ZkN {rf:List ZAI→Option (List ZAI×Unit)} (hrf : ∀ l,rf l=ZAX (ZA6 l) fun y=>some (y.1,())) (wf:Int→Bool) (ls:List ES) (c:ES) (hc:ZB3 ls=some c) (hr : ∀ e∈c,(-1≤e.2.1∧e.2.1≤1)∧0≤e.1∧e.1<18446744073709551616) (hl:c.length≤10000000) (h0:wf 0=false) (ht:ZjH c=0) :
  ∃ t,Zk6 rf wf ls=some (t,())∧Can t∧(∀ n,ZGV t n↔wf (ZdD c n)=true)∧2*t.length≤c.length:=by
 obtain ⟨m,h1,h2,h3⟩:=ZxK c hl
 have hml:=h2.length_eq
 obtain ⟨k1,k2,k3⟩:=Zvn wf c m h2 h3 hr hl h0 ht
 refine ⟨_,?_,k1,k2,k3⟩
 unfold Zk6
 have c1:decide (m.length<1000000000)=true:=by simp;omega
 rw [hc]
 simp only [ZAK,hrf,h1,c1,cond_true]
/-! #### the four -/
structure Set3 (s:RS):Prop where
 can:Can s
 bnd:Bnd s
theorem Zrz {s:RS} (hc:Can s) (h : ∀ n,ZGV s n→0≤n∧n<9223372036854775808):Bnd s:=fun r hr=>
 ⟨(h r.1 ⟨r,hr,Int.le_refl _,hc.full r hr⟩).1,(h r.2.1 ⟨r,hr,hc.full r hr,Int.le_refl _⟩).2⟩
theorem Set3.mem {s:RS} (h:Set3 s) {n:Int} (hn:ZGV s n):0≤n∧n<9223372036854775808:=by
 obtain ⟨r,hr,h1,h2⟩:=hn
 obtain ⟨h3,h4⟩:=h.bnd r hr
 omega
theorem Zzi {r:Int×Int×Unit} (h1:0≤r.1) (h2:r.2.1<9223372036854775808) (hr:r.1≤r.2.1):Set3 [r] :=
 ⟨⟨fun x hx=>by simp only [List.mem_singleton] at hx;rw [hx];exact hr,by simp⟩,fun x hx=>by simp only [List.mem_singleton] at hx;rw [hx];exact ⟨h1,h2⟩⟩
theorem Zvo (r:Int×Int×Unit) (n:Int):ZGV [r] n↔r.1≤n∧n≤r.2.1:=by
 rw [ZCA]
 exact ⟨fun h=>h.elim id (fun h=>absurd h (ZC1 n)),.inl⟩
theorem ZwT (s:RS) (r:Int×Int×Unit) (hs:Set3 s) (h1:0≤r.1) (h2:r.2.1<9223372036854775808) (hr:r.1≤r.2.1) (hl:s.length≤1000000) :
  ∃ t,ZS3 s r=some (t,())∧Set3 t∧(∀ n,ZGV t n↔ZGV s n∨(r.1≤n∧n≤r.2.1))∧t.length≤s.length+1:=by
 have hb:(1:Int)=1∨(1:Int) = -1 := .inl rfl
 have l1:=ZMh 1 s
 have l2:=ZMh 1 [r]
 simp only [List.length_singleton] at l2
 obtain ⟨t,e1,e2,e3,e4⟩:=ZkN (rf:=ZLZ) (fun l=>by rw [ZXA,ZL9]) Zs1 [ZE4 1 s,ZE4 1 [r]] (ZE4 1 s++ZE4 1 [r]) (ZrD _ _ (by omega) (by omega))
  (fun e he=>(List.mem_append.mp he).elim (ZMT 1 hb s hs.bnd e) (ZMT 1 hb [r] (Zzi h1 h2 hr).bnd e)) (by rw [List.length_append];omega) rfl (by rw [Zft,ZMi 1 hb,ZMi 1 hb];rfl)
 have hm : ∀ n,ZGV t n↔ZGV s n∨(r.1≤n∧n≤r.2.1):=fun n=>by
  rw [e3 n,Zc1,ZgP 1 hb r h1 h2 hr]
  obtain ⟨i1,i2⟩:=Zc4 1 hb s hs.can hs.bnd n
  unfold Zs1
  rw [decide_eq_true_eq]
  by_cases k1:ZGV s n
  ·
   rw [i1 k1]
   by_cases k2:r.1≤n∧n≤r.2.1
   · rw [if_pos k2];exact ⟨fun _ => .inl k1,fun _=>by omega⟩
   · rw [if_neg k2];exact ⟨fun _ => .inl k1,fun _=>by omega⟩
  ·
   rw [i2 k1]
   by_cases k2:r.1≤n∧n≤r.2.1
   · rw [if_pos k2];exact ⟨fun _ => .inr k2,fun _=>by omega⟩
   · rw [if_neg k2];exact ⟨fun h=>by omega,fun h=>h.elim (fun h=>absurd h k1) (fun h=>absurd h k2)⟩
 refine ⟨t,?_,⟨e2,Zrz e2 fun n hn => ?_⟩,hm,?_⟩
 ·
  rw [Zf5,ZVB,ZYa s 1 hl]
  simp only [ZAK]
  rw [ZYa [(r.1,r.2.1,())] 1 (by simp)]
  simp only [ZAK,ZVA,ZPQ]
  rw [show ((r.1,r.2.1,()):Int×Int×Unit)=r from rfl,e1]
  rfl
 ·
  rcases (hm n).mp hn with h | h
  · exact hs.mem h
  · omega
 · rw [List.length_append] at e4;omega
theorem Zym (s:RS) (r:Int×Int×Unit) (hs:Set3 s) (h1:0≤r.1) (h2:r.2.1<9223372036854775808) (hr:r.1≤r.2.1) (hl:s.length≤1000000) :
  ∃ t,ZXY s r=some (t,())∧Set3 t∧(∀ n,ZGV t n↔ZGV s n ∧ ¬ (r.1≤n∧n≤r.2.1))∧t.length≤s.length+1:=by
 have hb:(1:Int)=1∨(1:Int) = -1 := .inl rfl
 have hb':(-1:Int)=1∨(-1:Int) = -1 := .inr rfl
 have l1:=ZMh 1 s
 have l2:=ZMh (-1) [r]
 simp only [List.length_singleton] at l2
 obtain ⟨t,e1,e2,e3,e4⟩:=ZkN (rf:=ZLc) (fun l=>by rw [ZXS,ZMC]) Zs2 [ZE4 1 s,ZE4 (-1) [r]] (ZE4 1 s++ZE4 (-1) [r]) (ZrD _ _ (by omega) (by omega))
  (fun e he=>(List.mem_append.mp he).elim (ZMT 1 hb s hs.bnd e) (ZMT (-1) hb' [r] (Zzi h1 h2 hr).bnd e)) (by rw [List.length_append];omega) rfl (by rw [Zft,ZMi 1 hb,ZMi (-1) hb'];rfl)
 have hm : ∀ n,ZGV t n↔ZGV s n ∧ ¬ (r.1≤n∧n≤r.2.1):=fun n=>by
  rw [e3 n,Zc1,ZgP (-1) hb' r h1 h2 hr]
  obtain ⟨i1,i2⟩:=Zc4 1 hb s hs.can hs.bnd n
  unfold Zs2
  rw [decide_eq_true_eq]
  by_cases k1:ZGV s n
  ·
   rw [i1 k1]
   by_cases k2:r.1≤n∧n≤r.2.1
   · rw [if_pos k2];exact ⟨fun h=>by omega,fun h=>absurd k2 h.2⟩
   · rw [if_neg k2];exact ⟨fun _=>⟨k1,k2⟩,fun _=>by omega⟩
  ·
   rw [i2 k1]
   by_cases k2:r.1≤n∧n≤r.2.1
   · rw [if_pos k2];exact ⟨fun h=>by omega,fun h=>absurd h.1 k1⟩
   · rw [if_neg k2];exact ⟨fun h=>by omega,fun h=>absurd h.1 k1⟩
 refine ⟨t,?_,⟨e2,Zrz e2 fun n hn=>hs.mem ((hm n).mp hn).1⟩,hm,?_⟩
 ·
  rw [ZgE,ZVG,ZYa s 1 hl]
  simp only [ZAK]
  rw [ZYa [(r.1,r.2.1,())] (-1) (by simp)]
  simp only [ZAK,ZVF,ZPV]
  rw [show ((r.1,r.2.1,()):Int×Int×Unit)=r from rfl,e1]
  rfl
 · rw [List.length_append] at e4;omega
theorem ZxL (s:RS) (r:Int×Int×Unit) (hs:Set3 s) (h1:0≤r.1) (h2:r.2.1<9223372036854775808) (hr:r.1≤r.2.1) (hl:s.length≤1000000) :
  ∃ t,ZTd s r=some (t,())∧Set3 t∧(∀ n,ZGV t n↔(r.1≤n∧n≤r.2.1) ∧ ¬ ZGV s n)∧t.length≤s.length+1:=by
 have hb:(1:Int)=1∨(1:Int) = -1 := .inl rfl
 have hb':(-1:Int)=1∨(-1:Int) = -1 := .inr rfl
 have l1:=ZMh (-1) s
 have l2:=ZMh 1 [r]
 simp only [List.length_singleton] at l2
 obtain ⟨t,e1,e2,e3,e4⟩:=ZkN (rf:=ZLb) (fun l=>by rw [ZXM,ZMB]) Zs2 [ZE4 1 [r],ZE4 (-1) s] (ZE4 1 [r]++ZE4 (-1) s) (ZrD _ _ (by omega) (by omega))
  (fun e he=>(List.mem_append.mp he).elim (ZMT 1 hb [r] (Zzi h1 h2 hr).bnd e) (ZMT (-1) hb' s hs.bnd e)) (by rw [List.length_append];omega) rfl (by rw [Zft,ZMi 1 hb,ZMi (-1) hb'];rfl)
 have hm : ∀ n,ZGV t n↔(r.1≤n∧n≤r.2.1) ∧ ¬ ZGV s n:=fun n=>by
  rw [e3 n,Zc1,ZgP 1 hb r h1 h2 hr]
  obtain ⟨i1,i2⟩:=Zc4 (-1) hb' s hs.can hs.bnd n
  unfold Zs2
  rw [decide_eq_true_eq]
  by_cases k1:ZGV s n
  ·
   rw [i1 k1]
   by_cases k2:r.1≤n∧n≤r.2.1
   · rw [if_pos k2];exact ⟨fun h=>by omega,fun h=>absurd k1 h.2⟩
   · rw [if_neg k2];exact ⟨fun h=>by omega,fun h=>absurd h.1 k2⟩
  ·
   rw [i2 k1]
   by_cases k2:r.1≤n∧n≤r.2.1
   · rw [if_pos k2];exact ⟨fun _=>⟨k2,k1⟩,fun _=>by omega⟩
   · rw [if_neg k2];exact ⟨fun h=>by omega,fun h=>absurd h.1 k2⟩
 refine ⟨t,?_,⟨e2,Zrz e2 fun n hn => ?_⟩,hm,?_⟩
 ·
  rw [Zdi,ZSP]
  rw [ZYa [(r.1,r.2.1,())] 1 (by simp)]
  simp only [ZAK]
  rw [ZYa s (-1) hl]
  simp only [ZAK,ZVI,ZPX]
  rw [show ((r.1,r.2.1,()):Int×Int×Unit)=r from rfl,e1]
  rfl
 · have:=((hm n).mp hn).1;omega
 · rw [List.length_append] at e4;omega
theorem Zzj (l:RS) (hb0:Bnd l) (hf : ∀ r∈l,r.1≤r.2.1) (hl:l.length≤1000000) :
  ∃ t,ZXc l=some (t,())∧Set3 t∧(∀ n,ZGV t n↔ZGV l n)∧t.length≤l.length:=by
 have hb:(1:Int)=1∨(1:Int) = -1 := .inl rfl
 have l1:=ZMh 1 l
 obtain ⟨t,e1,e2,e3,e4⟩:=ZkN (rf:=ZLa) (fun l=>by rw [ZXG,ZMA]) Zs1 [ZE4 1 l] (ZE4 1 l) (ZxH _ (by omega)) (ZMT 1 hb l hb0) (by omega) rfl (ZMi 1 hb l)
 have hm : ∀ n,ZGV t n↔ZGV l n:=fun n=>by
  rw [e3 n]
  unfold Zs1
  rw [decide_eq_true_eq]
  exact (ZxJ l hb0 hf n).2
 refine ⟨t,?_,⟨e2,Zrz e2 fun n hn => ?_⟩,hm,by omega⟩
 ·
  rw [Zim,ZYY,ZYa l 1 hl]
  simp only [ZAK,ZVK,ZPY,e1]
 ·
  obtain ⟨r,hr,k1,k2⟩:=(hm n).mp hn
  have:=hb0 r hr
  omega
end Go.Proofs.YtamaklnhjagifaaGreatDoor.V
namespace Go.Proofs.YtamaklnhjagifaaGreatDoor.V
open Go.RowKit Go.Proofs.Tryz
set_option linter.unusedVariables false
set_option maxRecDepth 100000
noncomputable def Zh4:Mach prog Inv ZAq:=ZFE bas [(82,f82)] ⟨Zx5,trivial⟩ [] trivial [] trivial [] trivial
/-! ### (domino/gather.Part).end -/
@[reducible] def ZXd:List Ty:=[(.int .u64)]
def ZgQ:List Nat:=[82]
noncomputable def ZKR (a0:ZAE):Option (Int×Unit) :=
 let n1:Int:=(((ByteArray.size a0.2.1):Nat):Int)
 let n2:Int:=(Go.IntKind.wrap Go.IntKind.u64 n1)
 let n3:Int:=(Go.IntKind.wrap Go.IntKind.u64 (a0.1+n2))
 some (n3,())
theorem ZVL : ∃ f,f = @ZKR:=⟨_,rfl⟩
noncomputable def ZBg:=Classical.choose ZVL
theorem ZVM : @ZBg = @ZKR:=Classical.choose_spec ZVL
noncomputable def ZNX:Con:=⟨[ZAM],ZXd,fun x=>ZKR x.1⟩
noncomputable def ZDk:Con:=⟨[ZAM],ZXd,fun x=>ZBg x.1⟩
theorem ZbC:ZNX.Sound prog Inv ZAq 82 :=
 ZAm (M:=Zh4) ZBo (f:=f82) rfl ZgQ 100000 (X:=nowhere) (fun base S0 cs0 hn hf=>ZAH.nowhere) (by intro x;kernel_rfl)
theorem ZG2:ZDk.Sound prog Inv ZAq 82:=by
 have e:ZDk=ZNX:=by unfold ZDk ZNX;rw [ZVM]
 rw [e];exact ZbC
noncomputable def ZjY:Mach prog Inv ZAq:=ZFE bas [(19,f19)] ⟨ZzB,trivial⟩ [(82,ZDk)] ⟨⟨ZG2,ZAa.callable Zx5⟩,trivial⟩ [] trivial [] trivial
/-! ### domino/gather.Highest -/
@[reducible] def ZZd:List Ty:=[(.int .u64)]
def Zh5:List Nat:=[19]
noncomputable def ZME (a0:ZAD):Option (Int×Unit) :=
 let n1:Int:=(if (a0.2.2.1>a0.1) then a0.2.2.1 else a0.1)
 let n2:Int:=(((List.length a0.2.1):Nat):Int)
 let b3:Bool:=(decide (n2>(0:Int)))
 bif b3 then
  let n4:Int:=(Go.IntKind.wrap Go.IntKind.i64 (n2 - (1:Int)))
  bif (decide (((0:Int)≤n4)∧(n4<(((List.length a0.2.1):Nat):Int)))) then
   let x5:ZAE:=(List.getD a0.2.1 (Int.toNat n4) (Ty.dflt ZAM))
   ZAX (ZBg x5) fun y6=>
   let n7:Int:=(if (y6.1>n1) then y6.1 else n1)
   some (n7,())
  else none
 else
  some (n1,())
theorem ZXe : ∃ f,f = @ZME:=⟨_,rfl⟩
noncomputable def ZDt:=Classical.choose ZXe
theorem ZXf : @ZDt = @ZME:=Classical.choose_spec ZXe
noncomputable def ZPa:Con:=⟨[ZAP],ZZd,fun x=>ZME x.1⟩
noncomputable def ZFx:Con:=⟨[ZAP],ZZd,fun x=>ZDt x.1⟩
theorem ZdO:ZPa.Sound prog Inv ZAq 19 :=
 ZAm (M:=ZjY) ZBo (f:=f19) rfl Zh5 100000 (X:=nowhere) (fun base S0 cs0 hn hf=>ZAH.nowhere) (by intro x;kernel_rfl)
theorem ZMU:ZFx.Sound prog Inv ZAq 19:=by
 have e:ZFx=ZPa:=by unfold ZFx ZPa;rw [ZXf]
 rw [e];exact ZdO
noncomputable def ZLA:Mach prog Inv ZAq:=ZFE bas [(162,f162)] ⟨ZyC,trivial⟩ [(82,ZDk),(204,ZYZ)] ⟨⟨ZG2,ZAa.callable Zx5⟩,⟨ZmZ,ZAa.callable ZyO⟩,trivial⟩ [] trivial [] trivial
/-! ### (domino/gather.State).there -/
@[reducible] def ZB4:List Ty:=[(.slice ZAG)]
def ZQI:List Nat:=[162]
abbrev ZG3 (base:Base) (S0:Nat→Prop):=base.n=0∧FinOk (Zdd ZB4) base S0 (ZFg ZB4 S0)
abbrev ZRt (base:Base) (S0:Nat→Prop) (cs0:List Go.Frame) (p:CPat) (J:ZC9 p→Option (ZFC ZB4)):=ZAb ZLA base S0 cs0 (ZFg ZB4 S0) p J
abbrev ZdP (base:Base) (S0:Nat→Prop) (cs0:List Go.Frame) (X:Cfg→Option (Option (ZFC ZB4))):=ZAH ZLA base S0 cs0 (ZFg ZB4 S0) X
@[reducible] noncomputable def ZDb:CPat:=⟨⟨162,[1,1,0,1,0],none,[.any,.any,.any,.all 0,.any,.any,.any,.rows ZAM false,.int .i64,.int .i64],15⟩,[],[.row ZAG],0⟩
@[reducible] noncomputable def ZDc (k:(List ZAE)→Int→Int→(List ZAA)→Option ((List ZAA)×Unit)):ZC9 ZDb→Option ((List ZAA)×Unit):=fun x=>k x.1.2.2.2.2.2.2.2.1 x.1.2.2.2.2.2.2.2.2.1 x.1.2.2.2.2.2.2.2.2.2.1 x.2.2.1
noncomputable def ZIv (k0:(List ZAE)→Int→Int→(List ZAA)→Option ((List ZAA)×Unit)) (l11:(List ZAE)) (i12:Int) (i13:Int) (l14:(List ZAA)):Option ((List ZAA)×Unit) :=
 let b15:Bool:=(decide (i13<i12))
 bif b15 then
  bif (decide (((0:Int)≤i13)∧(i13<(((List.length l11):Nat):Int)))) then
   let x16:ZAE:=(List.getD l11 (Int.toNat i13) (Ty.dflt ZAM))
   let s17:ByteArray:=(ByteArray.mk (List.toArray ([]:List UInt8)))
   ZAX (ZBg x16) fun y18=>
   let n19:Int:=(Go.IntKind.wrap Go.IntKind.u64 (y18.1 - (1:Int)))
   let e20:(Int×(Int×Unit)):=(x16.1,(n19,()))
   bif (decide (((List.length l14)+(List.length (e20::([]:List ZAA))))≤4294967296)) then
    let l21:(List ZAA):=(l14++(e20::([]:List ZAA)))
    let n22:Int:=(Go.IntKind.wrap Go.IntKind.i64 (i13+(1:Int)))
    k0 l11 i12 n22 l21
   else none
  else none
 else
  ZAX (ZXc l14) fun y23=>
  some y23
noncomputable def ZCZ:Nat→(List ZAE)→Int→Int→(List ZAA)→Option ((List ZAA)×Unit)
 | 0=>fun _ _ _ _=>none
 | m+1=>ZIv (ZCZ m)
noncomputable def ZIF (l11:(List ZAE)) (i12:Int) (i13:Int) (l14:(List ZAA)):Option ((List ZAA)×Unit):=ZCZ (Int.toNat (i12 - i13)+2) l11 i12 i13 l14
theorem ZMj : ∃ f,f = @ZIF:=⟨_,rfl⟩
noncomputable def ZF7:=Classical.choose ZMj
theorem ZMk : @ZF7 = @ZIF:=Classical.choose_spec ZMj
theorem ZaO {base S0 cs0} (hfin:ZG3 base S0) : ∀ m,ZRt base S0 cs0 ZDb (ZDc (ZCZ m)) :=
 ZAb.loop' hfin.2 ZQI 100000 ZDc (fun k0=>cut ZDb (ZDc k0) (nowhere)) (fun k0 h0=>ZAH.cut (ZAH.nowhere) (Nat.le_of_eq hfin.1) h0) (ZCZ) (by intro x;rfl) (by intro m x;kernel_rfl)
theorem ZYb {base S0 cs0} (hfin:ZG3 base S0):ZRt base S0 cs0 ZDb (ZDc (ZF7)):=by
 rw [ZMk];exact fun x r hx=>ZaO hfin _ x r hx
noncomputable def ZOh:Cfg→Option (Option ((List ZAA)×Unit)):=cut ZDb (ZDc (ZF7)) (nowhere)
theorem ZaP {base S0 cs0} (hfin:ZG3 base S0):ZdP base S0 cs0 (ZOh):=ZAH.cut (ZAH.nowhere) (Nat.le_of_eq hfin.1) (ZYb hfin)
noncomputable def ZG4 (a0:ZAD):Option ((List ZAA)×Unit) :=
 let n1:Int:=(((List.length a0.2.1):Nat):Int)
 ZF7 a0.2.1 n1 (0:Int) ([]:List ZAA)
theorem ZQJ : ∃ f,f = @ZG4:=⟨_,rfl⟩
noncomputable def ZJG:=Classical.choose ZQJ
theorem ZQK : @ZJG = @ZG4:=Classical.choose_spec ZQJ
noncomputable def ZJc:Con:=⟨[ZAP],ZB4,fun x=>ZG4 x.1⟩
noncomputable def ZG5:Con:=⟨[ZAP],ZB4,fun x=>ZJG x.1⟩
theorem ZXg:ZJc.Sound prog Inv ZAq 162 :=
 ZAm (M:=ZLA) ZBo (f:=f162) rfl ZQI 100000 (X:=ZOh) (fun base S0 cs0 hn hf=>have hfin:ZG3 base S0:=⟨hn,hf⟩;ZaP hfin) (by intro x;kernel_rfl)
theorem ZYc:ZG5.Sound prog Inv ZAq 162:=by
 have e:ZG5=ZJc:=by unfold ZG5 ZJc;rw [ZQK]
 rw [e];exact ZXg
noncomputable def Zh6:Mach prog Inv ZAq:=ZFE bas [(163,f163)] ⟨ZyD,trivial⟩ [] trivial [] trivial [] trivial
/-! ### (domino/gather.Part).cut -/
@[reducible] def ZXh:List Ty:=[ZAM]
def ZgR:List Nat:=[163]
noncomputable def ZKS (a0:ZAE) (a1:ZAA):Option (ZAE×Unit) :=
 let s2:ByteArray:=(ByteArray.mk (List.toArray ([]:List UInt8)))
 let n3:Int:=(Go.IntKind.wrap Go.IntKind.u64 (a1.1 - a0.1))
 let n4:Int:=(Go.IntKind.wrap Go.IntKind.u64 (a1.2.1+(1:Int)))
 let n5:Int:=(Go.IntKind.wrap Go.IntKind.u64 (n4 - a0.1))
 bif (decide (((0:Int)≤n3)∧((n3≤n5)∧(n5≤(((ByteArray.size a0.2.1):Nat):Int))))) then
  let s6:ByteArray:=(ByteArray.extract a0.2.1 (Int.toNat n3) (Int.toNat n5))
  some ((a1.1,(s6,())),())
 else none
theorem ZVN : ∃ f,f = @ZKS:=⟨_,rfl⟩
noncomputable def ZNY:=Classical.choose ZVN
theorem ZVO : @ZNY = @ZKS:=Classical.choose_spec ZVN
noncomputable def ZNZ:Con:=⟨[ZAM,ZAG],ZXh,fun x=>ZKS x.1 x.2.1⟩
noncomputable def ZKT:Con:=⟨[ZAM,ZAG],ZXh,fun x=>ZNY x.1 x.2.1⟩
theorem ZbD:ZNZ.Sound prog Inv ZAq 163 :=
 ZAm (M:=Zh6) ZBo (f:=f163) rfl ZgR 100000 (X:=nowhere) (fun base S0 cs0 hn hf=>ZAH.nowhere) (by intro x;kernel_rfl)
theorem ZdQ:ZKT.Sound prog Inv ZAq 163:=by
 have e:ZKT=ZNZ:=by unfold ZKT ZNZ;rw [ZVO]
 rw [e];exact ZbD
noncomputable def ZaQ:Mach prog Inv ZAq:=ZFE bas [(207,f207)] ⟨Zw9,trivial⟩ [] trivial [] trivial [] trivial
/-! ### (*domino/gather.cursor).lay$1 -/
@[reducible] def ZOi:List Ty:=[(.int .i64)]
def ZYd:List Nat:=[207]
noncomputable def ZIw (a0:ZAE) (a1:ZAE):Option (Int×Unit) :=
 let b2:Bool:=(decide (a0.1<a1.1))
 bif b2 then
  some ((-1:Int),())
 else
  some ((1:Int),())
theorem ZNa : ∃ f,f = @ZIw:=⟨_,rfl⟩
noncomputable def ZRu:=Classical.choose ZNa
theorem ZYe : @ZRu = @ZIw:=Classical.choose_spec ZNa
noncomputable def ZIG:Con:=⟨[ZAM,ZAM],ZOi,fun x=>ZIw x.1 x.2.1⟩
noncomputable def ZDd:Con:=⟨[ZAM,ZAM],ZOi,fun x=>ZRu x.1 x.2.1⟩
theorem ZUg:ZIG.Sound prog Inv ZAq 207 :=
 ZAm (M:=ZaQ) ZBo (f:=f207) rfl ZYd 100000 (X:=nowhere) (fun base S0 cs0 hn hf=>ZAH.nowhere) (by intro x;kernel_rfl)
theorem ZLd:ZDd.Sound prog Inv ZAq 207:=by
 have e:ZDd=ZIG:=by unfold ZDd ZIG;rw [ZYe]
 rw [e];exact ZUg
def ZM3:Go.Shelf.Ren := {
 f:=fun x=>
  match x with
  | 6=>206
  | 15=>226
  | 14=>225
  | 28=>247
  | 29=>248
  | 20=>239
  | 21=>240
  | 22=>241
  | 23=>242
  | 24=>243
  | 25=>244
  | 26=>245
  | 27=>246
  | 46=>254
  | 47=>255
  | 48=>256
  | 49=>257
  | 50=>258
  | 57=>267
  | n=>n,
 t:=fun x=>
  match x with
  | 22=>31
  | 24=>152
  | 25=>274
  | 3=>3
  | 39=>147
  | 0=>0
  | 53=>69
  | 55=>26
  | 4=>4
  | 46=>308
  | 45=>307
  | 50=>210
  | 5=>5
  | 9=>9
  | 66=>318
  | 70=>321
  | 76=>330
  | 77=>331
  | n=>n,
 g:=fun x=>
  have n:=x;
  n }
theorem ZM4:SlLaysF0.n6 prog ZM3 where
 mixed:=by kernel_rfl
 f6:=⟨"slices.SortFunc[[]domino/gather.Part,domino/gather.Part]",by decide,func206.trans (congrArg some (by kernel_rfl))⟩
 f14:=⟨"slices.pdqsortCmpFunc[domino/gather.Part]",by decide,func225.trans (congrArg some (by kernel_rfl))⟩
 f15:=func226.trans (congrArg some (by kernel_rfl))
 f20:=⟨"slices.insertionSortCmpFunc[domino/gather.Part]",by decide,func239.trans (congrArg some (by kernel_rfl))⟩
 f21:=⟨"slices.heapSortCmpFunc[domino/gather.Part]",by decide,func240.trans (congrArg some (by kernel_rfl))⟩
 f22:=⟨"slices.breakPatternsCmpFunc[domino/gather.Part]",by decide,func241.trans (congrArg some (by kernel_rfl))⟩
 f23:=⟨"slices.choosePivotCmpFunc[domino/gather.Part]",by decide,func242.trans (congrArg some (by kernel_rfl))⟩
 f24:=⟨"slices.reverseRangeCmpFunc[domino/gather.Part]",by decide,func243.trans (congrArg some (by kernel_rfl))⟩
 f25:=⟨"slices.partialInsertionSortCmpFunc[domino/gather.Part]",by decide,func244.trans (congrArg some (by kernel_rfl))⟩
 f26:=⟨"slices.partitionEqualCmpFunc[domino/gather.Part]",by decide,func245.trans (congrArg some (by kernel_rfl))⟩
 f27:=⟨"slices.partitionCmpFunc[domino/gather.Part]",by decide,func246.trans (congrArg some (by kernel_rfl))⟩
 f28:=func247.trans (congrArg some (by kernel_rfl))
 f29:=func248.trans (congrArg some (by kernel_rfl))
 f46:=⟨"slices.siftDownCmpFunc[domino/gather.Part]",by decide,func254.trans (congrArg some (by kernel_rfl))⟩
 f47:=func255.trans (congrArg some (by kernel_rfl))
 f48:=func256.trans (congrArg some (by kernel_rfl))
 f49:=⟨"slices.medianAdjacentCmpFunc[domino/gather.Part]",by decide,func257.trans (congrArg some (by kernel_rfl))⟩
 f50:=⟨"slices.medianCmpFunc[domino/gather.Part]",by decide,func258.trans (congrArg some (by kernel_rfl))⟩
 f57:=⟨"slices.order2CmpFunc[domino/gather.Part]",by decide,func267.trans (congrArg some (by kernel_rfl))⟩
 t0:=underlying0
 a0:=isAgg0
 z0:=sizeOf0
 v0:=zeroValue0
 t3:=underlying3
 a3:=isAgg3
 z3:=sizeOf3
 v3:=zeroValue3
 t4:=underlying4
 a4:=isAgg4
 z4:=sizeOf4
 v4:=zeroValue4
 t5:=underlying5
 a5:=isAgg5
 z5:=sizeOf5
 v5:=zeroValue5
 t9:=underlying9
 a9:=isAgg9
 z9:=sizeOf9
 v9:=zeroValue9
 t22:=underlying31
 a22:=isAgg31
 z22:=sizeOf31
 v22:=zeroValue31
 t25:=underlying274
 a25:=isAgg274
 z25:=sizeOf274
 v25:=zeroValue274
 t39:=underlying147
 a39:=isAgg147
 z39:=sizeOf147
 v39:=zeroValue147
 t45:=underlying307
 a45:=isAgg307
 z45:=sizeOf307
 v45:=zeroValue307
 t46:=underlying308
 a46:=isAgg308
 z46:=sizeOf308
 v46:=zeroValue308
 t50:=underlying210
 a50:=isAgg210
 z50:=sizeOf210
 v50:=zeroValue210
 t53:=underlying69
 a53:=isAgg69
 z53:=sizeOf69
 v53:=zeroValue69
 t55:=underlying26
 a55:=isAgg26
 z55:=sizeOf26
 v55:=zeroValue26
 t66:=underlying318
 a66:=isAgg318
 z66:=sizeOf318
 v66:=zeroValue318
 t70:=underlying321
 a70:=isAgg321
 z70:=sizeOf321
 v70:=zeroValue321
 t76:=underlying330
 a76:=isAgg330
 z76:=sizeOf330
 v76:=zeroValue330
 t77:=underlying331
 a77:=isAgg331
 z77:=sizeOf331
 v77:=zeroValue331
def ZAu (x y:ZAE):Int:=if x.1<y.1 then -1 else 1
set_option maxHeartbeats 1000000 in
theorem ZLe (x y:ZAE) (W:World):Calls prog 207 #[.agg (Ze5 ZAM x).toArray,.agg (Ze5 ZAM y).toArray] W fun e w'=>e = .returned (.int .i64 (ZAu x y)) ∧ ∃ q os',w'=Go.Sort.grow (W.drewN q) os':=by
 obtain ⟨a,b,u⟩:=x
 obtain ⟨c,d,v⟩:=y
 simp only [Ze5,List.append_nil,List.singleton_append,ZAu]
 by_cases h1:a<c
 ·
  go_enter func207,ntmps207
  go_wp2
  go_ret
  exact ⟨by first | rfl | simp_all,0,_,by rw [Go.Sort.alloc_eq_grow,Go.Sort.alloc_eq_grow,Go.Sort.grow_grow];rfl⟩
 ·
  go_enter func207,ntmps207
  go_wp2
  go_ret
  exact ⟨by first | rfl | simp_all,0,_,by rw [Go.Sort.alloc_eq_grow,Go.Sort.alloc_eq_grow,Go.Sort.grow_grow];rfl⟩
theorem ZCE (x y:ZAE):ltOf ZAu x y=decide (x.1<y.1):=by
 unfold ltOf ZAu
 by_cases h1:x.1<y.1
 · simp [h1]
 · simp [h1]
theorem ZBm:Go.Sort.SWO (ltOf ZAu) where
 irrefl x:=by rw [ZCE];simp
 trans x y z h1 h2:=by
  rw [ZCE,decide_eq_true_eq] at *
  exact Int.lt_trans h1 h2
 ntrans x y z h1 h2:=by
  rw [ZCE,decide_eq_false_iff_not] at *
  exact fun h=>(Int.lt_or_le x.1 y.1).elim h1 (fun k=>h2 (Int.lt_of_le_of_lt k h))
instance inh_slices_SortFunc_gather_Part_h0:Inhabited ZAM.den:=⟨ZAM.dflt⟩
noncomputable def ZOc:Mach prog Inv ZAq:=ZFE bas [(206,f206),(225,f225),(239,f239),(226,f226),(248,f248)] ⟨ZuC,ZxD,ZxE,Zfw,ZmU,trivial⟩ [] trivial [] trivial [] trivial
theorem ZM5:(Zne 207).Sound prog Inv ZAq 206 :=
 ZF2 (M:=ZOc) (c:=Zne 207) (f:=f206) rfl [206,225,239,226,248] 100000 (X:=nowhere) (fun _ _ _ _ _=>ZAH.nowhere) (by intro x;kernel_rfl)
/-! ### slices.SortFunc: by the shelf -/
abbrev ZGz:Type:=(List ZAE)×Unit
noncomputable def ZDZ (l0:(List ZAE)):Option ZGz:=bif decide (l0.length<4611686018427387904) then some (ZIu ZAu l0,()) else none
theorem ZF8 : ∃ f,f = @ZDZ:=⟨_,rfl⟩
noncomputable def ZBQ:=Classical.choose ZF8
theorem ZF9 : @ZBQ = @ZDZ:=Classical.choose_spec ZF8
@[reducible] noncomputable def ZNb:List Pat:=[.all 0,.func 207 [] []]
@[reducible] noncomputable def ZNc:List HPat:=[.row ZAM]
@[reducible] noncomputable def ZNd:List Pat:=[]
@[reducible] noncomputable def ZNe:List HPat:=[.row ZAM]
noncomputable def ZBb:HCon:=HCon.mk0 ZNb ZNc ZNd ZNe ZGz (fun x=>ZBQ x.2.1) (fun r=>((),(r.1,()))) (fun y=>(y.2.1,())) (fun _=>rfl)
theorem ZFJ:ZBb.Sound prog Inv ZAq 206:=by
 have e:ZBb=ZrB ZAM ZAu 207:=by unfold ZBb;rw [ZF9];rfl
 rw [e]
 refine Znf rfl ZBm ZM5 rfl fun blk cap d w hH hblk hsz => ?_
 have eg : ∀ args w,(callFunc 207 args).run prog w = .ok (.enter 207 args) w:=enters_of func207 (by kernel_rfl) rfl
 exact AnyQ.slices_SortFunc_eq ZM4 2 isAgg152 sizeOf152 (Ze5 ZAM) (fun x=>Zc3 rfl x) (fun x v hv=>ZkM x v hv) ZAu ZBm 207 #[] blk 0 cap d w eg (fun _ _ _ _ x y=>ZLe x y _) hH hblk hsz
noncomputable def ZIx:Mach prog Inv ZAq:=ZFE bas [(164,f164),(205,f205),(206,f206),(224,f224),(225,f225),(239,f239),(240,f240),(241,f241),(242,f242),(243,f243),(244,f244),(245,f245),(246,f246),(254,f254),(256,f256),(257,f257),(258,f258),(267,f267)] ⟨Zw5,ZyP,ZuC,ZyR,ZxD,ZxE,ZyV,ZyW,ZyX,ZyY,ZyZ,Zya,Zyb,Zyf,ZmV,Zyg,Zyh,Zyi,trivial⟩ [(82,ZDk),(207,ZDd),(226,ZDG),(255,ZBS)] ⟨⟨ZG2,ZAa.callable Zx5⟩,⟨ZLd,ZAa.callable Zw9⟩,⟨ZEF,ZAa.callable Zfw⟩,⟨ZCY,ZAa.callable Zk4⟩,trivial⟩ [] trivial [(206,ZBb)] ⟨⟨ZFJ,ZAa.callable ZuC⟩,trivial⟩
@[reducible] noncomputable def ZIH:List Pat:=[.ptr 0 0,.all 1]
@[reducible] noncomputable def ZII:List HPat:=[.dat 229 ZAP,.row ZAM]
/-! ### (*domino/gather.cursor).lay -/
abbrev ZAx:Type:=Int×Int×Bool×(List ZAE)×(List ZAE)×Unit
@[reducible] noncomputable def ZIJ:List Pat:=[]
@[reducible] noncomputable def ZIK:List HPat:=[.cells 229 [.int .u64,.all 2,.int .u64,.bool],.row ZAM,.row ZAM]
noncomputable def ZFX:HCon:=HCon.mk0 ZIH ZII ZIJ ZIK ZAx (fun _=>none) (fun r=>((),((r.1,((),(r.2.1,(r.2.2.1,())))),(r.2.2.2.1,(r.2.2.2.2.1,()))))) (fun y=>(y.2.1.1,y.2.1.2.2.1,y.2.1.2.2.2.1,y.2.2.1,y.2.2.2.1,())) (fun _=>rfl)
def ZNf:List Nat:=[164,205,206,224,225,239,240,241,242,243,244,245,246,254,256,257,258,267]
abbrev ZFY (base:Base) (S0:Nat→Prop):=base.n=2∧FinOk (Zwy ZFX) base S0 (Zhn ZFX base S0)
abbrev ZOj (base:Base) (S0:Nat→Prop) (cs0:List Go.Frame) (p:CPat) (J:ZC9 p→Option ZAx):=ZAb ZIx base S0 cs0 (Zhn ZFX base S0) p J
abbrev ZaR (base:Base) (S0:Nat→Prop) (cs0:List Go.Frame) (X:Cfg→Option (Option ZAx)):=ZAH ZIx base S0 cs0 (Zhn ZFX base S0) X
@[reducible] noncomputable def ZCv:CPat:=⟨⟨164,[1,1,1,1,0],none,[.ptr 0 0,.any,.any,.any,.any,.any,.any,.any,.any,.any,.any,.any,.any,.any,.any,.any,.any,.any,.any,.any,.any,.any,.all 2,.int .i64,.int .i64],54⟩,[],[.cells 229 [.int .u64,.all 3,.int .u64,.bool],.row ZAM,.row ZAM,.row ZAM],2⟩
@[reducible] noncomputable def ZCw (k:Int→Int→Int→Int→Bool→(List ZAE)→(List ZAE)→(List ZAE)→Option ZAx):ZC9 ZCv→Option ZAx:=fun x=>k x.1.2.2.2.2.2.2.2.2.2.2.2.2.2.2.2.2.2.2.2.2.2.2.2.1 x.1.2.2.2.2.2.2.2.2.2.2.2.2.2.2.2.2.2.2.2.2.2.2.2.2.1 x.2.2.1.1 x.2.2.1.2.2.1 x.2.2.1.2.2.2.1 x.2.2.2.1 x.2.2.2.2.1 x.2.2.2.2.2.1
noncomputable def ZHL (k0:Int→Int→Int→Int→Bool→(List ZAE)→(List ZAE)→(List ZAE)→Option ZAx) (i34:Int) (i35:Int) (i36:Int) (i37:Int) (b38:Bool) (l39:(List ZAE)) (l40:(List ZAE)) (l41:(List ZAE)):Option ZAx :=
 let b42:Bool:=(decide (i35<i34))
 bif b42 then
  bif (decide (((0:Int)≤i35)∧(i35<(((List.length l40):Nat):Int)))) then
   let i43:Nat:=(Int.toNat i35)
   let n44:Int:=(List.getD l40 i43 (Ty.dflt ZAM)).1
   let s45:ByteArray:=(List.getD l40 i43 (Ty.dflt ZAM)).2.1
   let s46:ByteArray:=(ByteArray.mk (List.toArray ([]:List UInt8)))
   let n47:Int:=(((List.length l41):Nat):Int)
   let b48:Bool:=(decide (n47>(0:Int)))
   bif b48 then
    let n49:Int:=(Go.IntKind.wrap Go.IntKind.i64 (n47 - (1:Int)))
    bif (decide (((0:Int)≤n49)∧(n49<(((List.length l41):Nat):Int)))) then
     let i50:Nat:=(Int.toNat n49)
     let n51:Int:=(List.getD l41 i50 (Ty.dflt ZAM)).1
     let s52:ByteArray:=(List.getD l41 i50 (Ty.dflt ZAM)).2.1
     ZAX (ZBg (n51,(s52,()))) fun y53=>
     let b54:Bool:=(y53.1==n44)
     bif b54 then
      let n55:Int:=(Go.IntKind.wrap Go.IntKind.i64 (n47 - (1:Int)))
      bif (decide (((0:Int)≤n55)∧(n55<(((List.length l41):Nat):Int)))) then
       let i56:Nat:=(Int.toNat n55)
       let s57:ByteArray:=(List.getD l41 i56 (Ty.dflt ZAM)).2.1
       bif (decide (((ByteArray.size s57)+(ByteArray.size s45))≤9223372036854775807)) then
        let s58:ByteArray:=(s57++s45)
        bif (decide (((0:Int)≤n55)∧(n55<(((List.length l41):Nat):Int)))) then
         let i59:Nat:=(Int.toNat n55)
         let l60:(List ZAE):=(List.set l41 i59 ((List.getD l41 i59 (Ty.dflt ZAM)).1,(s58,())))
         let n61:Int:=(Go.IntKind.wrap Go.IntKind.i64 (i35+(1:Int)))
         k0 i34 n61 i36 i37 b38 l39 l40 l60
        else none
       else none
      else none
     else
      let e62:(Int×(ByteArray×Unit)):=(n44,(s45,()))
      bif (decide (((List.length l41)+(List.length (e62::([]:List ZAE))))≤4294967296)) then
       let l63:(List ZAE):=(l41++(e62::([]:List ZAE)))
       let n64:Int:=(Go.IntKind.wrap Go.IntKind.i64 (i35+(1:Int)))
       k0 i34 n64 i36 i37 b38 l39 l40 l63
      else none
    else none
   else
    let e65:(Int×(ByteArray×Unit)):=(n44,(s45,()))
    bif (decide (((List.length l41)+(List.length (e65::([]:List ZAE))))≤4294967296)) then
     let l66:(List ZAE):=(l41++(e65::([]:List ZAE)))
     let n67:Int:=(Go.IntKind.wrap Go.IntKind.i64 (i35+(1:Int)))
     k0 i34 n67 i36 i37 b38 l39 l40 l66
    else none
  else none
 else
  some (i36,(i37,(b38,(l39,(l41,())))))
noncomputable def ZBd:Nat→Int→Int→Int→Int→Bool→(List ZAE)→(List ZAE)→(List ZAE)→Option ZAx
 | 0=>fun _ _ _ _ _ _ _ _=>none
 | m+1=>ZHL (ZBd m)
noncomputable def ZGb (i34:Int) (i35:Int) (i36:Int) (i37:Int) (b38:Bool) (l39:(List ZAE)) (l40:(List ZAE)) (l41:(List ZAE)):Option ZAx:=ZBd (Int.toNat (i34 - i35)+2) i34 i35 i36 i37 b38 l39 l40 l41
theorem ZKe : ∃ f,f = @ZGb:=⟨_,rfl⟩
noncomputable def ZCX:=Classical.choose ZKe
theorem ZKf : @ZCX = @ZGb:=Classical.choose_spec ZKe
theorem ZXi {base S0 cs0} (hfin:ZFY base S0) : ∀ m,ZOj base S0 cs0 ZCv (ZCw (ZBd m)) :=
 ZAb.loop' hfin.2 ZNf 100000 ZCw (fun k0=>cut ZCv (ZCw k0) (nowhere)) (fun k0 h0=>ZAH.cut (ZAH.nowhere) (Nat.le_of_eq hfin.1) h0) (ZBd) (by intro x;rfl) (by intro m x;kernel_rfl)
theorem ZV5 {base S0 cs0} (hfin:ZFY base S0):ZOj base S0 cs0 ZCv (ZCw (ZCX)):=by
 rw [ZKf];exact fun x r hx=>ZXi hfin _ x r hx
noncomputable def ZMl:Cfg→Option (Option ZAx):=cut ZCv (ZCw (ZCX)) (nowhere)
theorem ZXj {base S0 cs0} (hfin:ZFY base S0):ZaR base S0 cs0 (ZMl):=ZAH.cut (ZAH.nowhere) (Nat.le_of_eq hfin.1) (ZV5 hfin)
noncomputable def ZFZ (d0:ZAD) (l1:(List ZAE)):Option ZAx :=
 let n2:Int:=(((List.length d0.2.1):Nat):Int)
 let n3:Int:=(Go.IntKind.wrap Go.IntKind.i64 ((0:Int)+n2))
 let b4:Bool:=(decide (n3<(0:Int)))
 bif b4 then
  let s5:ByteArray:=(ByteArray.mk (List.toArray ((108:UInt8)::((101:UInt8)::((110:UInt8)::((32:UInt8)::((111:UInt8)::((117:UInt8)::((116:UInt8)::((32:UInt8)::((111:UInt8)::((102:UInt8)::((32:UInt8)::((114:UInt8)::((97:UInt8)::((110:UInt8)::((103:UInt8)::((101:UInt8)::([]:List UInt8)))))))))))))))))))
  none
 else
  let n6:Int:=(((List.length l1):Nat):Int)
  let n7:Int:=(Go.IntKind.wrap Go.IntKind.i64 (n3+n6))
  let b8:Bool:=(decide (n7<(0:Int)))
  bif b8 then
   let s9:ByteArray:=(ByteArray.mk (List.toArray ((108:UInt8)::((101:UInt8)::((110:UInt8)::((32:UInt8)::((111:UInt8)::((117:UInt8)::((116:UInt8)::((32:UInt8)::((111:UInt8)::((102:UInt8)::((32:UInt8)::((114:UInt8)::((97:UInt8)::((110:UInt8)::((103:UInt8)::((101:UInt8)::([]:List UInt8)))))))))))))))))))
   none
  else
   let b10:Bool:=(decide (n7<(0:Int)))
   bif b10 then
    let s11:ByteArray:=(ByteArray.mk (List.toArray ((99:UInt8)::((97:UInt8)::((110:UInt8)::((110:UInt8)::((111:UInt8)::((116:UInt8)::((32:UInt8)::((98:UInt8)::((101:UInt8)::((32:UInt8)::((110:UInt8)::((101:UInt8)::((103:UInt8)::((97:UInt8)::((116:UInt8)::((105:UInt8)::((118:UInt8)::((101:UInt8)::([]:List UInt8)))))))))))))))))))))
    none
   else
    let n12:Int:=(Go.IntKind.wrap Go.IntKind.i64 (n7 - (0:Int)))
    let b13:Bool:=(decide (n12>(0:Int)))
    bif b13 then
     bif (decide (((0:Int)<n12)∧(n12≤(4294967296:Int)))) then
      let l14:(List ZAE):=(List.replicate (Int.toNat n12) ((0:Int),((ByteArray.mk (List.toArray ([]:List UInt8))),())))
      let k15:Nat:=((Int.toNat (0:Int)) - 0)
      bif (decide ((k15≤(List.length l14))∧((k15+(List.length d0.2.1))≤4294967296))) then
       let l16:(List ZAE):=((List.take k15 l14)++d0.2.1)
       bif (decide (((List.length l16)+(List.length l1))≤4294967296)) then
        let l17:(List ZAE):=(l16++l1)
        ZAX (ZBQ l17) fun y18=>
        let n19:Int:=(((List.length y18.1):Nat):Int)
        ZCX n19 (0:Int) d0.1 d0.2.2.1 d0.2.2.2.1 l1 y18.1 ([]:List ZAE)
       else none
      else none
     else none
    else
     bif (decide ((List.length d0.2.1)≤4294967296)) then
      bif (decide (((List.length d0.2.1)+(List.length l1))≤4294967296)) then
       let l20:(List ZAE):=(d0.2.1++l1)
       ZAX (ZBQ l20) fun y21=>
       let n22:Int:=(((List.length y21.1):Nat):Int)
       ZCX n22 (0:Int) d0.1 d0.2.2.1 d0.2.2.2.1 l1 y21.1 ([]:List ZAE)
      else none
     else none
theorem ZNg : ∃ f,f = @ZFZ:=⟨_,rfl⟩
noncomputable def ZEc:=Classical.choose ZNg
theorem ZNh : @ZEc = @ZFZ:=Classical.choose_spec ZNg
noncomputable def ZIL:HCon:=HCon.mk0 ZIH ZII ZIJ ZIK ZAx (fun x=>ZFZ x.2.1 x.2.2.1) (fun r=>((),((r.1,((),(r.2.1,(r.2.2.1,())))),(r.2.2.2.1,(r.2.2.2.2.1,()))))) (fun y=>(y.2.1.1,y.2.1.2.2.1,y.2.1.2.2.2.1,y.2.2.1,y.2.2.2.1,())) (fun _=>rfl)
noncomputable def ZFa:HCon:=HCon.mk0 ZIH ZII ZIJ ZIK ZAx (fun x=>ZEc x.2.1 x.2.2.1) (fun r=>((),((r.1,((),(r.2.1,(r.2.2.1,())))),(r.2.2.2.1,(r.2.2.2.2.1,()))))) (fun y=>(y.2.1.1,y.2.1.2.2.1,y.2.1.2.2.2.1,y.2.2.1,y.2.2.2.1,())) (fun _=>rfl)
theorem ZUh:ZIL.Sound prog Inv ZAq 164 :=
 ZF2 (M:=ZIx) (f:=f164) rfl ZNf 100000 (X:=ZMl) (fun base S0 cs0 hn hf=>have hfin:ZFY base S0:=⟨hn,hf⟩;ZXj hfin) (by intro x;kernel_rfl)
theorem ZV6:ZFa.Sound prog Inv ZAq 164:=by
 have e:ZFa=ZIL:=by unfold ZFa ZIL;rw [ZNh]
 rw [e];exact ZUh
noncomputable def ZbE:Mach prog Inv ZAq:=ZFE bas [(80,f80),(164,f164),(205,f205),(206,f206),(224,f224),(225,f225),(239,f239),(240,f240),(241,f241),(242,f242),(243,f243),(244,f244),(245,f245),(246,f246),(254,f254),(256,f256),(257,f257),(258,f258),(267,f267)] ⟨ZzW,Zw5,ZyP,ZuC,ZyR,ZxD,ZxE,ZyV,ZyW,ZyX,ZyY,ZyZ,Zya,Zyb,Zyf,ZmV,Zyg,Zyh,Zyi,trivial⟩ [(19,ZFx),(82,ZDk),(161,ZNW),(162,ZG5),(163,ZKT),(207,ZDd),(226,ZDG),(255,ZBS)] ⟨⟨ZMU,ZAa.callable ZzB⟩,⟨ZG2,ZAa.callable Zx5⟩,⟨ZZc,ZAa.callable Zw4⟩,⟨ZYc,ZAa.callable ZyC⟩,⟨ZdQ,ZAa.callable ZyD⟩,⟨ZLd,ZAa.callable Zw9⟩,⟨ZEF,ZAa.callable Zfw⟩,⟨ZCY,ZAa.callable Zk4⟩,trivial⟩ [] trivial [(206,ZBb),(164,ZFa)] ⟨⟨ZFJ,ZAa.callable ZuC⟩,⟨ZV6,ZAa.callable Zw5⟩,trivial⟩
/-! ### domino/gather.Put -/
@[reducible] def ZH3:List Ty:=[ZAP,(.int .i64)]
def ZKU:List Nat:=[80,164,205,206,224,225,239,240,241,242,243,244,245,246,254,256,257,258,267]
abbrev ZDX (base:Base) (S0:Nat→Prop):=base.n=0∧FinOk (Zdd ZH3) base S0 (ZFg ZH3 S0)
abbrev ZMm (base:Base) (S0:Nat→Prop) (cs0:List Go.Frame) (p:CPat) (J:ZC9 p→Option (ZFC ZH3)):=ZAb ZbE base S0 cs0 (ZFg ZH3 S0) p J
abbrev ZQL (base:Base) (S0:Nat→Prop) (cs0:List Go.Frame) (X:Cfg→Option (Option (ZFC ZH3))):=ZAH ZbE base S0 cs0 (ZFg ZH3 S0) X
@[reducible] noncomputable def ZLf:CPat:=⟨⟨80,[1,1,1,1,1,0,1,1,0,1,0,1,0],none,[.any,.any,.any,.any,.any,.any,.any,.any,.ptr 0 0,.any,.ptr 1 0,.any,.ptr 2 0,.any,.all 3,.any,.any,.any,.any,.any,.any,.any,.any,.any,.any,.any,.any,.any,.any,.any,.any,.any,.any,.any,.any,.any,.any,.any,.any,.any,.any,.any,.any,.any,.any,.any,.any,.any,.any,.any,.any,.any,.any,.any,.any,.any,.any,.any,.any,.any,.any,.any,.any,.any,.any,.any,.any,.any,.any,.any,.any,.any,.any,.any,.any,.any,.any,.any,.any,.any,.any,.any,.rows ZAG false,.int .i64,.int .i64],17⟩,[],[.dat 33 ZAP,.dat 152 ZAM,.dat 229 ZAP,.row ZAM],0⟩
@[reducible] noncomputable def ZLg (k:(List ZAA)→Int→Int→ZAD→ZAE→ZAD→(List ZAE)→Option (ZAD×Int×Unit)):ZC9 ZLf→Option (ZAD×Int×Unit):=fun x=>k x.1.2.2.2.2.2.2.2.2.2.2.2.2.2.2.2.2.2.2.2.2.2.2.2.2.2.2.2.2.2.2.2.2.2.2.2.2.2.2.2.2.2.2.2.2.2.2.2.2.2.2.2.2.2.2.2.2.2.2.2.2.2.2.2.2.2.2.2.2.2.2.2.2.2.2.2.2.2.2.2.2.2.2.1 x.1.2.2.2.2.2.2.2.2.2.2.2.2.2.2.2.2.2.2.2.2.2.2.2.2.2.2.2.2.2.2.2.2.2.2.2.2.2.2.2.2.2.2.2.2.2.2.2.2.2.2.2.2.2.2.2.2.2.2.2.2.2.2.2.2.2.2.2.2.2.2.2.2.2.2.2.2.2.2.2.2.2.2.2.1 x.1.2.2.2.2.2.2.2.2.2.2.2.2.2.2.2.2.2.2.2.2.2.2.2.2.2.2.2.2.2.2.2.2.2.2.2.2.2.2.2.2.2.2.2.2.2.2.2.2.2.2.2.2.2.2.2.2.2.2.2.2.2.2.2.2.2.2.2.2.2.2.2.2.2.2.2.2.2.2.2.2.2.2.2.2.1 x.2.2.1 x.2.2.2.1 x.2.2.2.2.1 x.2.2.2.2.2.1
noncomputable def ZV7 (k4:(List ZAA)→Int→Int→ZAD→ZAE→ZAD→(List ZAE)→Option (ZAD×Int×Unit)) (l61:(List ZAA)) (i62:Int) (i63:Int) (d64:ZAD) (d65:ZAE) (d66:ZAD) (l67:(List ZAE)):Option (ZAD×Int×Unit) :=
 let b68:Bool:=(decide (i63<i62))
 bif b68 then
  bif (decide (((0:Int)≤i63)∧(i63<(((List.length l61):Nat):Int)))) then
   let x69:ZAA:=(List.getD l61 (Int.toNat i63) (Ty.dflt ZAG))
   ZAX (ZNY d65 x69) fun y70=>
   let e71:(Int×(ByteArray×Unit)):=(y70.1.1,(y70.1.2.1,()))
   bif (decide (((List.length l67)+(List.length (e71::([]:List ZAE))))≤4294967296)) then
    let l72:(List ZAE):=(l67++(e71::([]:List ZAE)))
    let n73:Int:=(Go.IntKind.wrap Go.IntKind.i64 (i63+(1:Int)))
    k4 l61 i62 n73 d64 d65 d66 l72
   else none
  else none
 else
  ZAX (ZEc d66 l67) fun y74=>
  some ((y74.1,(y74.2.2.2.2.1,(y74.2.1,(y74.2.2.1,())))),((0:Int),()))
noncomputable def ZJd:Nat→(List ZAA)→Int→Int→ZAD→ZAE→ZAD→(List ZAE)→Option (ZAD×Int×Unit)
 | 0=>fun _ _ _ _ _ _ _=>none
 | m+1=>ZV7 (ZJd m)
noncomputable def ZTg (l61:(List ZAA)) (i62:Int) (i63:Int) (d64:ZAD) (d65:ZAE) (d66:ZAD) (l67:(List ZAE)):Option (ZAD×Int×Unit):=ZJd (Int.toNat (i62 - i63)+2) l61 i62 i63 d64 d65 d66 l67
theorem ZZe : ∃ f,f = @ZTg:=⟨_,rfl⟩
noncomputable def ZSQ:=Classical.choose ZZe
theorem ZZf : @ZSQ = @ZTg:=Classical.choose_spec ZZe
theorem Zma {base S0 cs0} (hfin:ZDX base S0) : ∀ m,ZMm base S0 cs0 ZLf (ZLg (ZJd m)) :=
 ZAb.loop' hfin.2 ZKU 100000 ZLg (fun k4=>cut ZLf (ZLg k4) (nowhere)) (fun k4 h4=>ZAH.cut (ZAH.nowhere) (Nat.le_of_eq hfin.1) h4) (ZJd) (by intro x;rfl) (by intro m x;kernel_rfl)
theorem ZlD {base S0 cs0} (hfin:ZDX base S0):ZMm base S0 cs0 ZLf (ZLg (ZSQ)):=by
 rw [ZZf];exact fun x r hx=>Zma hfin _ x r hx
noncomputable def Zdk:Cfg→Option (Option (ZAD×Int×Unit)):=cut ZLf (ZLg (ZSQ)) (nowhere)
theorem Zdl {base S0 cs0} (hfin:ZDX base S0):ZQL base S0 cs0 (Zdk):=ZAH.cut (ZAH.nowhere) (Nat.le_of_eq hfin.1) (ZlD hfin)
@[reducible] noncomputable def ZV8:CPat:=⟨⟨80,[1,1,1,1],none,[.any,.int .u64,.any,.any,.ptr 0 0,.any,.any,.any,.ptr 1 0,.any,.ptr 2 0],91⟩,[],[.dat 33 ZAP,.dat 33 ZAP,.dat 152 ZAM],0⟩
@[reducible] noncomputable def Zdm (k:Int→ZAD→ZAD→ZAE→Option (ZAD×Int×Unit)):ZC9 ZV8→Option (ZAD×Int×Unit):=fun x=>k x.1.2.1 x.2.2.1 x.2.2.2.1 x.2.2.2.2.1
noncomputable def ZV9 (i39:Int) (d40:ZAD) (d41:ZAD) (d42:ZAE):Option (ZAD×Int×Unit) :=
 let n43:Int:=(if (d40.1>i39) then d40.1 else i39)
 ZAX (ZBg d42) fun y44=>
 let b45:Bool:=(decide (n43<y44.1))
 bif b45 then
  ZAX (ZJG d40) fun y46=>
  ZAX (ZBg d42) fun y47=>
  let n48:Int:=(Go.IntKind.wrap Go.IntKind.u64 (y47.1 - (1:Int)))
  ZAX (ZTd y46.1 (n43,(n48,()))) fun y49=>
  let n50:Int:=(((List.length y49.1):Nat):Int)
  ZSQ y49.1 n50 (0:Int) d41 d42 d40 ([]:List ZAE)
 else
  some (d40,((0:Int),()))
theorem ZbF : ∃ f,f = @ZV9:=⟨_,rfl⟩
noncomputable def ZMn:=Classical.choose ZbF
theorem ZbG : @ZMn = @ZV9:=Classical.choose_spec ZbF
theorem Zmb {base S0 cs0} (hfin:ZDX base S0):ZMm base S0 cs0 ZV8 (Zdm (ZMn)) :=
 ZAb.join hfin.2 (Zdl hfin) ZKU 100000 (by rw [ZbG];intro x;kernel_rfl)
noncomputable def Zdn:Cfg→Option (Option (ZAD×Int×Unit)):=cut ZV8 (Zdm (ZMn)) (Zdk)
theorem Zdo {base S0 cs0} (hfin:ZDX base S0):ZQL base S0 cs0 (Zdn):=ZAH.cut (Zdl hfin) (Nat.le_of_eq hfin.1) (Zmb hfin)
@[reducible] noncomputable def ZWA:CPat:=⟨⟨80,[1,1,1,0,1,0,1],none,[.any,.int .u64,.any,.bool,.ptr 0 0,.any,.any,.any,.ptr 1 0,.any,.ptr 2 0,.int .u64,.any,.any,.any,.any,.any,.any,.any,.any,.any,.any,.any,.any,.any,.any,.any,.any,.any,.any,.any,.any,.any,.bool],68⟩,[],[.dat 33 ZAP,.dat 33 ZAP,.dat 152 ZAM],0⟩
@[reducible] noncomputable def Zdp (k:Int→Bool→Int→Bool→ZAD→ZAD→ZAE→Option (ZAD×Int×Unit)):ZC9 ZWA→Option (ZAD×Int×Unit):=fun x=>k x.1.2.1 x.1.2.2.2.1 x.1.2.2.2.2.2.2.2.2.2.2.2.1 x.1.2.2.2.2.2.2.2.2.2.2.2.2.2.2.2.2.2.2.2.2.2.2.2.2.2.2.2.2.2.2.2.2.2.1 x.2.2.1 x.2.2.2.1 x.2.2.2.2.1
noncomputable def ZWB (i29:Int) (b30:Bool) (i31:Int) (b32:Bool) (d33:ZAD) (d34:ZAD) (d35:ZAE):Option (ZAD×Int×Unit) :=
 bif b32 then
  some (d33,((140:Int),()))
 else
  bif b30 then
   ZMn i29 (d33.1,(d33.2.1,(i31,(true,())))) d34 d35
  else
   ZMn i29 d33 d34 d35
theorem ZbH : ∃ f,f = @ZWB:=⟨_,rfl⟩
noncomputable def ZMo:=Classical.choose ZbH
theorem ZbI : @ZMo = @ZWB:=Classical.choose_spec ZbH
theorem Zmc {base S0 cs0} (hfin:ZDX base S0):ZMm base S0 cs0 ZWA (Zdp (ZMo)) :=
 ZAb.join hfin.2 (Zdo hfin) ZKU 100000 (by rw [ZbI];intro x;kernel_rfl)
noncomputable def Zdq:Cfg→Option (Option (ZAD×Int×Unit)):=cut ZWA (Zdp (ZMo)) (Zdn)
theorem Zdr {base S0 cs0} (hfin:ZDX base S0):ZQL base S0 cs0 (Zdq):=ZAH.cut (Zdo hfin) (Nat.le_of_eq hfin.1) (Zmc hfin)
@[reducible] noncomputable def ZWC:CPat:=⟨⟨80,[1,1,1,0,1,0,0,1,1],none,[.any,.int .u64,.any,.bool,.ptr 0 0,.any,.any,.any,.ptr 1 0,.any,.ptr 2 0,.int .u64],90⟩,[],[.dat 33 ZAP,.dat 33 ZAP,.dat 152 ZAM],0⟩
@[reducible] noncomputable def Zds (k:Int→Bool→Int→ZAD→ZAD→ZAE→Option (ZAD×Int×Unit)):ZC9 ZWC→Option (ZAD×Int×Unit):=fun x=>k x.1.2.1 x.1.2.2.2.1 x.1.2.2.2.2.2.2.2.2.2.2.2.1 x.2.2.1 x.2.2.2.1 x.2.2.2.2.1
noncomputable def ZWD (i21:Int) (b22:Bool) (i23:Int) (d24:ZAD) (d25:ZAD) (d26:ZAE):Option (ZAD×Int×Unit) :=
 bif b22 then
  ZAX (ZDt d24) fun y27=>
  let b28:Bool:=(decide (i23<y27.1))
  ZMo i21 b22 i23 b28 d24 d25 d26
 else
  ZMo i21 b22 i23 false d24 d25 d26
theorem ZbJ : ∃ f,f = @ZWD:=⟨_,rfl⟩
noncomputable def ZMp:=Classical.choose ZbJ
theorem ZbK : @ZMp = @ZWD:=Classical.choose_spec ZbJ
theorem Zmd {base S0 cs0} (hfin:ZDX base S0):ZMm base S0 cs0 ZWC (Zds (ZMp)) :=
 ZAb.join hfin.2 (Zdr hfin) ZKU 100000 (by rw [ZbK];intro x;kernel_rfl)
noncomputable def Zdt:Cfg→Option (Option (ZAD×Int×Unit)):=cut ZWC (Zds (ZMp)) (Zdq)
theorem Zdu {base S0 cs0} (hfin:ZDX base S0):ZQL base S0 cs0 (Zdt):=ZAH.cut (Zdr hfin) (Nat.le_of_eq hfin.1) (Zmd hfin)
@[reducible] noncomputable def ZWE:CPat:=⟨⟨80,[1,1,1,0,1,0,0,1,0],none,[.any,.int .u64,.any,.bool,.ptr 0 0,.any,.any,.any,.ptr 1 0,.any,.ptr 2 0,.int .u64,.any,.any,.any,.any,.any,.any,.any,.any,.any,.any,.any,.any,.any,.any,.any,.any,.any,.any,.any,.any,.any,.boolC true],68⟩,[],[.dat 33 ZAP,.dat 33 ZAP,.dat 152 ZAM],0⟩
@[reducible] noncomputable def Zdv (k:Int→Bool→Int→ZAD→ZAD→ZAE→Option (ZAD×Int×Unit)):ZC9 ZWE→Option (ZAD×Int×Unit):=fun x=>k x.1.2.1 x.1.2.2.2.1 x.1.2.2.2.2.2.2.2.2.2.2.2.1 x.2.2.1 x.2.2.2.1 x.2.2.2.2.1
noncomputable def ZWF (i13:Int) (b14:Bool) (i15:Int) (d16:ZAD) (d17:ZAD) (d18:ZAE):Option (ZAD×Int×Unit) :=
 ZMo i13 b14 i15 true d16 d17 d18
theorem ZbL : ∃ f,f = @ZWF:=⟨_,rfl⟩
noncomputable def ZQM:=Classical.choose ZbL
theorem ZbM : @ZQM = @ZWF:=Classical.choose_spec ZbL
theorem Zme {base S0 cs0} (hfin:ZDX base S0):ZMm base S0 cs0 ZWE (Zdv (ZQM)) :=
 ZAb.join hfin.2 (Zdu hfin) ZKU 100000 (by rw [ZbM];intro x;kernel_rfl)
noncomputable def Zdw:Cfg→Option (Option (ZAD×Int×Unit)):=cut ZWE (Zdv (ZQM)) (Zdt)
theorem Zmf {base S0 cs0} (hfin:ZDX base S0):ZQL base S0 cs0 (Zdw):=ZAH.cut (Zdu hfin) (Nat.le_of_eq hfin.1) (Zme hfin)
noncomputable def ZVP (a0:ZAD) (a1:Int) (a2:ByteArray) (a3:Bool):Option (ZAD×Int×Unit) :=
 let b4:Bool:=(decide (a1>(4611686018427387903:Int)))
 bif b4 then
  some (a0,((1:Int),()))
 else
  let n5:Int:=(((ByteArray.size a2):Nat):Int)
  let n6:Int:=(Go.IntKind.wrap Go.IntKind.u64 n5)
  let n7:Int:=(Go.IntKind.wrap Go.IntKind.u64 (a1+n6))
  let b8:Bool:=(decide (n7>(4611686018427387903:Int)))
  bif b8 then
   some (a0,((1:Int),()))
  else
   let s9:ByteArray:=(ByteArray.mk (List.toArray ([]:List UInt8)))
   ZAX (ZBg (a1,(a2,()))) fun y10=>
   bif a0.2.2.2.1 then
    let b11:Bool:=(decide (y10.1>a0.2.2.1))
    bif b11 then
     ZQM a1 a3 y10.1 a0 ((0:Int),(([]:List ZAE),((0:Int),(false,())))) (a1,(a2,()))
    else
     bif a3 then
      let b12:Bool:=(decide (y10.1<a0.2.2.1))
      bif b12 then
       ZQM a1 a3 y10.1 a0 ((0:Int),(([]:List ZAE),((0:Int),(false,())))) (a1,(a2,()))
      else
       ZMp a1 a3 y10.1 a0 ((0:Int),(([]:List ZAE),((0:Int),(false,())))) (a1,(a2,()))
     else
      ZMp a1 a3 y10.1 a0 ((0:Int),(([]:List ZAE),((0:Int),(false,())))) (a1,(a2,()))
   else
    ZMp a1 a3 y10.1 a0 ((0:Int),(([]:List ZAE),((0:Int),(false,())))) (a1,(a2,()))
theorem ZgS : ∃ f,f = @ZVP:=⟨_,rfl⟩
noncomputable def ZFy:=Classical.choose ZgS
theorem ZgT : @ZFy = @ZVP:=Classical.choose_spec ZgS
noncomputable def ZYf:Con:=⟨[ZAP,(.int .u64),.str,.bool],ZH3,fun x=>ZVP x.1 x.2.1 x.2.2.1 x.2.2.2.1⟩
noncomputable def ZQN:Con:=⟨[ZAP,(.int .u64),.str,.bool],ZH3,fun x=>ZFy x.1 x.2.1 x.2.2.1 x.2.2.2.1⟩
theorem ZjZ:ZYf.Sound prog Inv ZAq 80 :=
 ZAm (M:=ZbE) ZBo (f:=f80) rfl ZKU 100000 (X:=Zdw) (fun base S0 cs0 hn hf=>have hfin:ZDX base S0:=⟨hn,hf⟩;Zmf hfin) (by intro x;kernel_rfl)
theorem ZbN:ZQN.Sound prog Inv ZAq 80:=by
 have e:ZQN=ZYf:=by unfold ZQN ZYf;rw [ZgT]
 rw [e];exact ZjZ
noncomputable def ZWG:Mach prog Inv ZAq:=ZFE bas [(158,f158)] ⟨Zvg,trivial⟩ [] trivial [] trivial [] trivial
/-! ### domino/gather.Ready -/
@[reducible] def ZE5:List Ty:=[(.int .i64),.bool]
def ZTh:List Nat:=[158]
abbrev ZLh (base:Base) (S0:Nat→Prop):=base.n=0∧FinOk (Zdd ZE5) base S0 (ZFg ZE5 S0)
abbrev Zdx (base:Base) (S0:Nat→Prop) (cs0:List Go.Frame) (p:CPat) (J:ZC9 p→Option (ZFC ZE5)):=ZAb ZWG base S0 cs0 (ZFg ZE5 S0) p J
abbrev Zdy (base:Base) (S0:Nat→Prop) (cs0:List Go.Frame) (X:Cfg→Option (Option (ZFC ZE5))):=ZAH ZWG base S0 cs0 (ZFg ZE5 S0) X
@[reducible] noncomputable def ZRI:CPat:=⟨⟨158,[1,1],none,[.any,.ptr 0 0,.int .i64],34⟩,[],[.dat 33 ZAP],0⟩
@[reducible] noncomputable def ZZg (k:Int→ZAD→Option (Int×Bool×Unit)):ZC9 ZRI→Option (Int×Bool×Unit):=fun x=>k x.1.2.2.1 x.2.2.1
noncomputable def ZRJ (i10:Int) (d11:ZAD):Option (Int×Bool×Unit) :=
 bif d11.2.2.2.1 then
  let n12:Int:=(Go.IntKind.wrap Go.IntKind.u64 (d11.2.2.1 - d11.1))
  let n13:Int:=(Go.IntKind.wrap Go.IntKind.u64 i10)
  let b14:Bool:=(n12==n13)
  some (i10,(b14,()))
 else
  some (i10,(false,()))
theorem ZXk : ∃ f,f = @ZRJ:=⟨_,rfl⟩
noncomputable def ZIr:=Classical.choose ZXk
theorem ZXl : @ZIr = @ZRJ:=Classical.choose_spec ZXk
theorem Zja {base S0 cs0} (hfin:ZLh base S0):Zdx base S0 cs0 ZRI (ZZg (ZIr)) :=
 ZAb.join hfin.2 (ZAH.nowhere) ZTh 100000 (by rw [ZXl];intro x;kernel_rfl)
noncomputable def ZZh:Cfg→Option (Option (Int×Bool×Unit)):=cut ZRI (ZZg (ZIr)) (nowhere)
theorem ZZi {base S0 cs0} (hfin:ZLh base S0):Zdy base S0 cs0 (ZZh):=ZAH.cut (ZAH.nowhere) (Nat.le_of_eq hfin.1) (Zja hfin)
@[reducible] noncomputable def ZRK:CPat:=⟨⟨158,[1,0,1,1],none,[.any,.ptr 0 0,.intC .i64 (0)],34⟩,[],[.dat 33 ZAP],0⟩
@[reducible] noncomputable def ZZj (k:ZAD→Option (Int×Bool×Unit)):ZC9 ZRK→Option (Int×Bool×Unit):=fun x=>k x.2.2.1
noncomputable def ZRL (d7:ZAD):Option (Int×Bool×Unit) :=
 ZIr (0:Int) d7
theorem ZXm : ∃ f,f = @ZRL:=⟨_,rfl⟩
noncomputable def ZLi:=Classical.choose ZXm
theorem ZXn : @ZLi = @ZRL:=Classical.choose_spec ZXm
theorem Zjb {base S0 cs0} (hfin:ZLh base S0):Zdx base S0 cs0 ZRK (ZZj (ZLi)) :=
 ZAb.join hfin.2 (ZZi hfin) ZTh 100000 (by rw [ZXn];intro x;kernel_rfl)
noncomputable def ZZk:Cfg→Option (Option (Int×Bool×Unit)):=cut ZRK (ZZj (ZLi)) (ZZh)
theorem Zjc {base S0 cs0} (hfin:ZLh base S0):Zdy base S0 cs0 (ZZk):=ZAH.cut (ZZi hfin) (Nat.le_of_eq hfin.1) (Zjb hfin)
noncomputable def ZPw (a0:ZAD):Option (Int×Bool×Unit) :=
 let n1:Int:=(((List.length a0.2.1):Nat):Int)
 let b2:Bool:=(decide (n1>(0:Int)))
 bif b2 then
  bif (decide (((0:Int)≤(0:Int))∧((0:Int)<(((List.length a0.2.1):Nat):Int)))) then
   let x3:ZAE:=(List.getD a0.2.1 0 (Ty.dflt ZAM))
   let b4:Bool:=(x3.1==a0.1)
   bif b4 then
    bif (decide (((0:Int)≤(0:Int))∧((0:Int)<(((List.length a0.2.1):Nat):Int)))) then
     let x5:ZAE:=(List.getD a0.2.1 0 (Ty.dflt ZAM))
     let n6:Int:=(((ByteArray.size x5.2.1):Nat):Int)
     ZIr n6 a0
    else none
   else
    ZLi a0
  else none
 else
  ZLi a0
theorem ZbO : ∃ f,f = @ZPw:=⟨_,rfl⟩
noncomputable def ZMq:=Classical.choose ZbO
theorem ZbP : @ZMq = @ZPw:=Classical.choose_spec ZbO
noncomputable def ZTi:Con:=⟨[ZAP],ZE5,fun x=>ZPw x.1⟩
noncomputable def ZIs:Con:=⟨[ZAP],ZE5,fun x=>ZMq x.1⟩
theorem ZgU:ZTi.Sound prog Inv ZAq 158 :=
 ZAm (M:=ZWG) ZBo (f:=f158) rfl ZTh 100000 (X:=ZZk) (fun base S0 cs0 hn hf=>have hfin:ZLh base S0:=⟨hn,hf⟩;Zjc hfin) (by intro x;kernel_rfl)
theorem ZPb:ZIs.Sound prog Inv ZAq 158:=by
 have e:ZIs=ZTi:=by unfold ZIs ZTi;rw [ZbP]
 rw [e];exact ZgU
noncomputable def ZBH:Mach prog Inv ZAq:=ZFE bas [(159,f159)] ⟨ZyA,trivial⟩ [] trivial [] trivial [] trivial
/-! ### slices.Clone: a row of the caller's own -/
@[reducible] def ZAV:Ty:=ZAM
def ZBh (l:List ZAV.den):Option (List ZAV.den):=bif decide (l.length≤4294967296) then some l else none
noncomputable def ZFi:OCon:=⟨[.slice ZAV],ZAV,fun x=>ZBh x.1⟩
@[reducible] noncomputable def ZAj:CPat:=⟨⟨159,[1,0,0],some 1,[.rows ZAV false,.any,.nilSlice,.rows ZAV false],4⟩,[],[],0⟩
def ZBR (a b:List ZAV.den):Option (List ZAV.den):=match b with
 | []=>match a with
  | []=>some []
  | _::_=>none
 | _::_=>ZBh a
theorem ZUi (x:ZC9 ZAj):ZnY ZBH (Zpo ZAV) [159] nowhere 1000 (adv (ZTJ ZAj x) 1 (some 4) (.val (.bool true)) (ZTJ ZAj x).H ⟨[],[],[]⟩)=some []:=by kernel_rfl
theorem ZUj (x:ZC9 ZAj):ZnY ZBH (Zpo ZAV) [159] nowhere 1000 (adv (ZTJ ZAj x) 1 (some 4) (.val (.bool false)) (ZTJ ZAj x).H ⟨[],[],[]⟩)=bif decide (0+x.1.1.length≤4294967296) then some x.1.1 else none:=by kernel_rfl
theorem ZUk {base S0 cs0} (hfin:FinOk (Zpo ZAV) base S0 (Zky ZAV base S0)):ZAb ZBH base S0 cs0 (Zky ZAV base S0) ZAj (fun x=>ZBR x.1.1 x.1.2.2.2.1):=by
 intro x r h
 change ZBR x.1.1 x.1.2.2.2.1=some r at h
 have yes:x.1.2.2.2.1=[]→ZBR x.1.1 x.1.2.2.2.1=some r→ZnY ZBH (Zpo ZAV) [159] nowhere 1000 (adv (ZTJ ZAj x) 1 (some 4) (.val (.bool true)) (ZTJ ZAj x).H ⟨[],[],[]⟩)=some r:=by
  intro hb hj
  rw [hb] at hj
  have e:=ZUi x
  rw [e]
  generalize x.1.1=a at hj
  cases a with
  | nil=>exact hj
  | cons _ _=>cases hj
 have no:ZnY ZBH (Zpo ZAV) [159] nowhere 1000 (adv (ZTJ ZAj x) 1 (some 4) (.val (.bool false)) (ZTJ ZAj x).H ⟨[],[],[]⟩)=some r:=by
  have e:=ZUj x
  rw [e,Nat.zero_add]
  show ZBh x.1.1=some r
  generalize x.1.1=a at *
  generalize x.1.2.2.2.1=b at *
  cases b with
  | nil=>cases a with
   | nil=>rw [← h];rfl
   | cons _ _=>cases h
  | cons _ _=>exact h
 exact ZqC (M:=ZBH) (f:=f159) (T:=31) (e:=152) (x := .tmp 3) (t:=ZAV) (l:=x.1.2.2.2.1) (cl:=false) rfl rfl rfl rfl rfl rfl rfl rfl underlying31 rfl
  (fun hb=>ZIf hfin ZAH.nowhere (yes hb h)) (ZIf hfin ZAH.nowhere no)
theorem ZRM:ZFi.Sound prog Inv ZAq 159:=by
 refine Zhm (M:=ZBH) ZBo (f:=f159) rfl fun x y h base S0 cs0 hn => ?_
 have hfin:=Zqx ZAV base S0
 refine ZIf hfin (X:=cut ZAj (fun x=>ZBR x.1.1 x.1.2.2.2.1) nowhere) (ZAH.cut ZAH.nowhere (Nat.le_of_eq hn) (ZUk hfin)) (Ks:=[159]) (n:=1000) ?_
 have e:ZnY ZBH (Zpo ZAV) [159] (cut ZAj (fun x=>ZBR x.1.1 x.1.2.2.2.1) nowhere) 1000 (Zkx 159 f159.ntmps (Zfh ZFi.params x))=ZBR x.1 x.1:=by kernel_rfl
 refine e.trans (Eq.trans ?_ h)
 show ZBR x.1 x.1=ZBh x.1
 generalize x.1=l
 cases l with
 | nil=>rfl
 | cons _ _=>rfl
noncomputable def ZSR:Mach prog Inv ZAq:=ZFE bas [(202,f202)] ⟨ZyN,trivial⟩ [] trivial [] trivial [] trivial
/-! ### internal/stringslite.Clone -/
@[reducible] def ZJH:List Ty:=[.str]
def ZRN:List Nat:=[202]
noncomputable def ZC3 (a0:ByteArray):Option (ByteArray×Unit) :=
 let s1:ByteArray:=(ByteArray.mk (List.toArray ([]:List UInt8)))
 let n2:Int:=(((ByteArray.size a0):Nat):Int)
 let b3:Bool:=(n2==(0:Int))
 bif b3 then
  let s4:ByteArray:=(ByteArray.mk (List.toArray ([]:List UInt8)))
  some (s4,())
 else
  let n5:Int:=(((ByteArray.size a0):Nat):Int)
  bif (decide (((0:Int)≤n5)∧((n5≤(4294967296:Int))∧(n5=n5)))) then
   let l6:(List Int):=(List.replicate (Int.toNat n5) (0:Int))
   bif (decide ((List.length (ZA0 a0))≤(List.length l6))) then
    let n7:Int:=(((List.length (ZA0 a0)):Nat):Int)
    let l8:(List Int):=((ZA0 a0)++(List.drop (List.length (ZA0 a0)) l6))
    bif (decide (((0:Int)≤(0:Int))∧((0:Int)<(((List.length l8):Nat):Int)))) then
     let n9:Int:=(((List.length l8):Nat):Int)
     bif (decide ((n9=(((List.length l8):Nat):Int))∧(n9≤(4294967296:Int)))) then
      let s10:ByteArray:=(ZCK l8)
      some (s10,())
     else none
    else none
   else none
  else none
theorem ZIh : ∃ f,f = @ZC3:=⟨_,rfl⟩
noncomputable def ZFj:=Classical.choose ZIh
theorem ZIi : @ZFj = @ZC3:=Classical.choose_spec ZIh
noncomputable def ZEY:Con:=⟨[.str],ZJH,fun x=>ZC3 x.1⟩
noncomputable def ZC4:Con:=⟨[.str],ZJH,fun x=>ZFj x.1⟩
theorem ZOd:ZEY.Sound prog Inv ZAq 202 :=
 ZAm (M:=ZSR) ZBo (f:=f202) rfl ZRN 100000 (X:=nowhere) (fun base S0 cs0 hn hf=>ZAH.nowhere) (by intro x;kernel_rfl)
theorem ZPc:ZC4.Sound prog Inv ZAq 202:=by
 have e:ZC4=ZEY:=by unfold ZC4 ZEY;rw [ZIi]
 rw [e];exact ZOd
noncomputable def ZlE:Mach prog Inv ZAq:=ZFE bas [(160,f160)] ⟨ZyB,trivial⟩ [(202,ZC4)] ⟨⟨ZPc,ZAa.callable ZyN⟩,trivial⟩ [] trivial [] trivial
/-! ### strings.Clone -/
@[reducible] def ZbQ:List Ty:=[.str]
def Zjd:List Nat:=[160]
noncomputable def ZNi (a0:ByteArray):Option (ByteArray×Unit) :=
 let s1:ByteArray:=(ByteArray.mk (List.toArray ([]:List UInt8)))
 ZAX (ZFj a0) fun y2=>
 some y2
theorem ZZl : ∃ f,f = @ZNi:=⟨_,rfl⟩
noncomputable def ZSS:=Classical.choose ZZl
theorem ZZm : @ZSS = @ZNi:=Classical.choose_spec ZZl
noncomputable def ZRO:Con:=⟨[.str],ZbQ,fun x=>ZNi x.1⟩
noncomputable def ZNj:Con:=⟨[.str],ZbQ,fun x=>ZSS x.1⟩
theorem ZfE:ZRO.Sound prog Inv ZAq 160 :=
 ZAm (M:=ZlE) ZBo (f:=f160) rfl Zjd 100000 (X:=nowhere) (fun base S0 cs0 hn hf=>ZAH.nowhere) (by intro x;kernel_rfl)
theorem ZgV:ZNj.Sound prog Inv ZAq 160:=by
 have e:ZNj=ZRO:=by unfold ZNj ZRO;rw [ZZm]
 rw [e];exact ZfE
noncomputable def ZYg:Mach prog Inv ZAq:=ZFE bas [(79,f79)] ⟨Zz1,trivial⟩ [(158,ZIs),(160,ZNj)] ⟨⟨ZPb,ZAa.callable Zvg⟩,⟨ZgV,ZAa.callable ZyB⟩,trivial⟩ [(159,ZFi)] ⟨⟨ZRM,ZAa.callable ZyA⟩,trivial⟩ [] trivial
/-! ### domino/gather.Take -/
@[reducible] def ZGA:List Ty:=[ZAP,.str,.bool]
def ZWH:List Nat:=[79]
abbrev ZNk (base:Base) (S0:Nat→Prop):=base.n=0∧FinOk (Zdd ZGA) base S0 (ZFg ZGA S0)
abbrev ZgW (base:Base) (S0:Nat→Prop) (cs0:List Go.Frame) (p:CPat) (J:ZC9 p→Option (ZFC ZGA)):=ZAb ZYg base S0 cs0 (ZFg ZGA S0) p J
abbrev ZgX (base:Base) (S0:Nat→Prop) (cs0:List Go.Frame) (X:Cfg→Option (Option (ZFC ZGA))):=ZAH ZYg base S0 cs0 (ZFg ZGA S0) X
@[reducible] noncomputable def ZTj:CPat:=⟨⟨79,[1,1,1,1,1],none,[.any,.any,.ptr 0 0,.any,.ptr 1 0,.any,.any,.any,.any,.str],95⟩,[],[.dat 33 ZAP,.dat 33 ZAP],0⟩
@[reducible] noncomputable def ZbR (k:ByteArray→ZAD→ZAD→Option (ZAD×ByteArray×Bool×Unit)):ZC9 ZTj→Option (ZAD×ByteArray×Bool×Unit):=fun x=>k x.1.2.2.2.2.2.2.2.2.2.1 x.2.2.1 x.2.2.2.1
noncomputable def ZTk (s32:ByteArray) (d33:ZAD) (d34:ZAD):Option (ZAD×ByteArray×Bool×Unit) :=
 bif d33.2.2.2.1 then
  let b35:Bool:=(d33.1==d33.2.2.1)
  some (d33,(s32,(b35,())))
 else
  some (d33,(s32,(false,())))
theorem ZZn : ∃ f,f = @ZTk:=⟨_,rfl⟩
noncomputable def ZKV:=Classical.choose ZZn
theorem ZZo : @ZKV = @ZTk:=Classical.choose_spec ZZn
theorem ZlF {base S0 cs0} (hfin:ZNk base S0):ZgW base S0 cs0 ZTj (ZbR (ZKV)) :=
 ZAb.join hfin.2 (ZAH.nowhere) ZWH 100000 (by rw [ZZo];intro x;kernel_rfl)
noncomputable def ZbS:Cfg→Option (Option (ZAD×ByteArray×Bool×Unit)):=cut ZTj (ZbR (ZKV)) (nowhere)
theorem ZbT {base S0 cs0} (hfin:ZNk base S0):ZgX base S0 cs0 (ZbS):=ZAH.cut (ZAH.nowhere) (Nat.le_of_eq hfin.1) (ZlF hfin)
@[reducible] noncomputable def ZTl:CPat:=⟨⟨79,[1,1,1,1,0,1,0,1,1,1,1,1,1,1],none,[.any,.any,.ptr 0 0,.any,.ptr 1 0,.any,.any,.any,.any,.str,.ptr 2 0],94⟩,[],[.dat 33 ZAP,.dat 33 ZAP,.cells 229 [.int .u64,.rows ZAM false,.int .u64,.bool]],0⟩
@[reducible] noncomputable def ZbU (k:ByteArray→ZAD→ZAD→Int→(List ZAE)→Int→Bool→Option (ZAD×ByteArray×Bool×Unit)):ZC9 ZTl→Option (ZAD×ByteArray×Bool×Unit):=fun x=>k x.1.2.2.2.2.2.2.2.2.2.1 x.2.2.1 x.2.2.2.1 x.2.2.2.2.1.1 x.2.2.2.2.1.2.1 x.2.2.2.2.1.2.2.1 x.2.2.2.2.1.2.2.2.1
noncomputable def ZTm (s24:ByteArray) (d25:ZAD) (d26:ZAD) (i27:Int) (l28:(List ZAE)) (i29:Int) (b30:Bool):Option (ZAD×ByteArray×Bool×Unit) :=
 ZKV s24 (i27,(l28,(i29,(b30,())))) d26
theorem ZZp : ∃ f,f = @ZTm:=⟨_,rfl⟩
noncomputable def ZNl:=Classical.choose ZZp
theorem ZZq : @ZNl = @ZTm:=Classical.choose_spec ZZp
theorem ZlG {base S0 cs0} (hfin:ZNk base S0):ZgW base S0 cs0 ZTl (ZbU (ZNl)) :=
 ZAb.join hfin.2 (ZbT hfin) ZWH 100000 (by rw [ZZq];intro x;kernel_rfl)
noncomputable def ZbV:Cfg→Option (Option (ZAD×ByteArray×Bool×Unit)):=cut ZTl (ZbU (ZNl)) (ZbS)
theorem ZlH {base S0 cs0} (hfin:ZNk base S0):ZgX base S0 cs0 (ZbV):=ZAH.cut (ZbT hfin) (Nat.le_of_eq hfin.1) (ZlG hfin)
noncomputable def ZST (a0:ZAD) (a1:Int):Option (ZAD×ByteArray×Bool×Unit) :=
 let s2:ByteArray:=(ByteArray.mk (List.toArray ([]:List UInt8)))
 ZAX (ZMq a0) fun y3=>
 let n4:Int:=(if (y3.1<a1) then y3.1 else a1)
 let n5:Int:=(if (n4>(0:Int)) then n4 else (0:Int))
 let s6:ByteArray:=(ByteArray.mk (List.toArray ([]:List UInt8)))
 let b7:Bool:=(decide (n5>(0:Int)))
 bif b7 then
  ZAX (ZBh a0.2.1) fun y8=>
  bif (decide (((0:Int)≤(0:Int))∧((0:Int)<(((List.length y8):Nat):Int)))) then
   let s9:ByteArray:=(List.getD y8 0 (Ty.dflt ZAM)).2.1
   bif (decide (((0:Int)≤(0:Int))∧(((0:Int)≤n5)∧(n5≤(((ByteArray.size s9):Nat):Int))))) then
    let s10:ByteArray:=(ByteArray.extract s9 0 (Int.toNat n5))
    ZAX (ZSS s10) fun y11=>
    let s12:ByteArray:=(List.getD y8 0 (Ty.dflt ZAM)).2.1
    bif (decide (((0:Int)≤n5)∧((n5≤(((ByteArray.size s12):Nat):Int))∧((((ByteArray.size s12):Nat):Int)≤(((ByteArray.size s12):Nat):Int))))) then
     let s13:ByteArray:=(ByteArray.extract s12 (Int.toNat n5) (Int.toNat (((ByteArray.size s12):Nat):Int)))
     let l14:(List ZAE):=(List.set y8 0 ((List.getD y8 0 (Ty.dflt ZAM)).1,(s13,())))
     let n15:Int:=(List.getD l14 0 (Ty.dflt ZAM)).1
     let n16:Int:=(Go.IntKind.wrap Go.IntKind.u64 n5)
     let n17:Int:=(Go.IntKind.wrap Go.IntKind.u64 (n15+n16))
     let l18:(List ZAE):=(List.set l14 0 (n17,((List.getD l14 0 (Ty.dflt ZAM)).2.1,())))
     let n19:Int:=(Go.IntKind.wrap Go.IntKind.u64 n5)
     let n20:Int:=(Go.IntKind.wrap Go.IntKind.u64 (a0.1+n19))
     let s21:ByteArray:=(List.getD l18 0 (Ty.dflt ZAM)).2.1
     let b22:Bool:=((ByteArray.toList s21)==(ByteArray.toList (ByteArray.mk (List.toArray ([]:List UInt8)))))
     bif b22 then
      bif (decide (((0:Int)≤(1:Int))∧(((1:Int)≤(((List.length l18):Nat):Int))∧((((List.length l18):Nat):Int)≤(((List.length l18):Nat):Int))))) then
       let k23:Nat:=((Int.toNat (((List.length l18):Nat):Int)) - 1)
       ZNl y11.1 a0 ((0:Int),(([]:List ZAE),((0:Int),(false,())))) n20 (List.take k23 (List.drop 1 l18)) a0.2.2.1 a0.2.2.2.1
      else none
     else
      ZNl y11.1 a0 ((0:Int),(([]:List ZAE),((0:Int),(false,())))) n20 l18 a0.2.2.1 a0.2.2.2.1
    else none
   else none
  else none
 else
  ZKV s6 a0 ((0:Int),(([]:List ZAE),((0:Int),(false,()))))
theorem Zdz : ∃ f,f = @ZST:=⟨_,rfl⟩
noncomputable def ZYh:=Classical.choose Zdz
theorem Zd0 : @ZYh = @ZST:=Classical.choose_spec Zdz
noncomputable def ZWI:Con:=⟨[ZAP,(.int .i64)],ZGA,fun x=>ZST x.1 x.2.1⟩
noncomputable def ZSU:Con:=⟨[ZAP,(.int .i64)],ZGA,fun x=>ZYh x.1 x.2.1⟩
theorem Zh7:ZWI.Sound prog Inv ZAq 79 :=
 ZAm (M:=ZYg) ZBo (f:=f79) rfl ZWH 100000 (X:=ZbV) (fun base S0 cs0 hn hf=>have hfin:ZNk base S0:=⟨hn,hf⟩;ZlH hfin) (by intro x;kernel_rfl)
theorem Zje:ZSU.Sound prog Inv ZAq 79:=by
 have e:ZSU=ZWI:=by unfold ZSU ZWI;rw [Zd0]
 rw [e];exact Zh7
noncomputable def ZYi:Mach prog Inv ZAq:=ZFE bas [(20,f20)] ⟨ZzS,trivial⟩ [] trivial [] trivial [] trivial
/-! ### domino/gather.Held -/
@[reducible] def ZGB:List Ty:=[(.int .i64)]
def Zd1:List Nat:=[20]
abbrev ZSV (base:Base) (S0:Nat→Prop):=base.n=0∧FinOk (Zdd ZGB) base S0 (ZFg ZGB S0)
abbrev ZgY (base:Base) (S0:Nat→Prop) (cs0:List Go.Frame) (p:CPat) (J:ZC9 p→Option (ZFC ZGB)):=ZAb ZYi base S0 cs0 (ZFg ZGB S0) p J
abbrev Zog (base:Base) (S0:Nat→Prop) (cs0:List Go.Frame) (X:Cfg→Option (Option (ZFC ZGB))):=ZAH ZYi base S0 cs0 (ZFg ZGB S0) X
@[reducible] noncomputable def ZJe:CPat:=⟨⟨20,[1,0,1,0],none,[.any,.any,.int .i64,.any,.any,.any,.rows ZAM false,.int .i64,.int .i64],10⟩,[],[],0⟩
@[reducible] noncomputable def ZJf (k:Int→(List ZAE)→Int→Int→Option (Int×Unit)):ZC9 ZJe→Option (Int×Unit):=fun x=>k x.1.2.2.1 x.1.2.2.2.2.2.2.1 x.1.2.2.2.2.2.2.2.1 x.1.2.2.2.2.2.2.2.2.1
noncomputable def ZTn (k0:Int→(List ZAE)→Int→Int→Option (Int×Unit)) (i9:Int) (l10:(List ZAE)) (i11:Int) (i12:Int):Option (Int×Unit) :=
 let b13:Bool:=(decide (i12<i11))
 bif b13 then
  bif (decide (((0:Int)≤i12)∧(i12<(((List.length l10):Nat):Int)))) then
   let x14:ZAE:=(List.getD l10 (Int.toNat i12) (Ty.dflt ZAM))
   let s15:ByteArray:=(ByteArray.mk (List.toArray ([]:List UInt8)))
   let n16:Int:=(((ByteArray.size x14.2.1):Nat):Int)
   let n17:Int:=(Go.IntKind.wrap Go.IntKind.i64 (i9+n16))
   let n18:Int:=(Go.IntKind.wrap Go.IntKind.i64 (i12+(1:Int)))
   k0 n17 l10 i11 n18
  else none
 else
  some (i9,())
noncomputable def ZIM:Nat→Int→(List ZAE)→Int→Int→Option (Int×Unit)
 | 0=>fun _ _ _ _=>none
 | m+1=>ZTn (ZIM m)
noncomputable def ZRP (i9:Int) (l10:(List ZAE)) (i11:Int) (i12:Int):Option (Int×Unit):=ZIM (Int.toNat (i11 - i12)+2) i9 l10 i11 i12
theorem ZXo : ∃ f,f = @ZRP:=⟨_,rfl⟩
noncomputable def ZPx:=Classical.choose ZXo
theorem ZXp : @ZPx = @ZRP:=Classical.choose_spec ZXo
theorem ZlI {base S0 cs0} (hfin:ZSV base S0) : ∀ m,ZgY base S0 cs0 ZJe (ZJf (ZIM m)) :=
 ZAb.loop' hfin.2 Zd1 100000 ZJf (fun k0=>cut ZJe (ZJf k0) (nowhere)) (fun k0 h0=>ZAH.cut (ZAH.nowhere) (Nat.le_of_eq hfin.1) h0) (ZIM) (by intro x;rfl) (by intro m x;kernel_rfl)
theorem Zjf {base S0 cs0} (hfin:ZSV base S0):ZgY base S0 cs0 ZJe (ZJf (ZPx)):=by
 rw [ZXp];exact fun x r hx=>ZlI hfin _ x r hx
noncomputable def ZbW:Cfg→Option (Option (Int×Unit)):=cut ZJe (ZJf (ZPx)) (nowhere)
theorem ZlJ {base S0 cs0} (hfin:ZSV base S0):Zog base S0 cs0 (ZbW):=ZAH.cut (ZAH.nowhere) (Nat.le_of_eq hfin.1) (Zjf hfin)
noncomputable def ZSW (a0:ZAD):Option (Int×Unit) :=
 let n1:Int:=(((List.length a0.2.1):Nat):Int)
 ZPx (0:Int) a0.2.1 n1 (0:Int)
theorem Zd2 : ∃ f,f = @ZSW:=⟨_,rfl⟩
noncomputable def ZPd:=Classical.choose Zd2
theorem Zd3 : @ZPd = @ZSW:=Classical.choose_spec Zd2
noncomputable def ZWJ:Con:=⟨[ZAP],ZGB,fun x=>ZSW x.1⟩
noncomputable def ZNm:Con:=⟨[ZAP],ZGB,fun x=>ZPd x.1⟩
theorem Zh8:ZWJ.Sound prog Inv ZAq 20 :=
 ZAm (M:=ZYi) ZBo (f:=f20) rfl Zd1 100000 (X:=ZbW) (fun base S0 cs0 hn hf=>have hfin:ZSV base S0:=⟨hn,hf⟩;ZlJ hfin) (by intro x;kernel_rfl)
theorem ZZr:ZNm.Sound prog Inv ZAq 20:=by
 have e:ZNm=ZWJ:=by unfold ZNm ZWJ;rw [Zd3]
 rw [e];exact Zh8
end Go.Proofs.YtamaklnhjagifaaGreatDoor.V
namespace Go.Proofs.YtamaklnhjagifaaGreatDoor.V
open Go.RowKit
set_option linter.unusedVariables false
theorem ZuM (p:ZAE) (h0:0≤p.1) (h1:p.1+((p.2.1.size:Nat):Int)<18446744073709551616):ZBg p=some (p.1+((p.2.1.size:Nat):Int),()):=by
 rw [ZVM,ZKR]
 rw [ZAh ((p.2.1.size:Nat):Int) (by omega) (by omega),ZAh _ (by omega) (by omega)]
structure Plc (t:RS):Prop where
 can:Can t
 rng : ∀ r∈t,0≤r.1∧r.2.1<4611686018427387904
theorem Plc.set3 {t:RS} (h:Plc t):Set3 t:=⟨h.can,fun r hr=>by have:=h.rng r hr;omega⟩
theorem Plc.mem {t:RS} (h:Plc t) {n:Int} (hn:ZGV t n):0≤n∧n<4611686018427387904:=by
 obtain ⟨r,hr,h1,h2⟩:=hn
 have:=h.rng r hr
 omega
theorem Zr0 {t:RS} (hc:Can t) (h : ∀ n,ZGV t n→0≤n∧n<4611686018427387904):Plc t:=⟨hc,fun r hr=>
 ⟨(h r.1 ⟨r,hr,Int.le_refl _,hc.full r hr⟩).1,(h r.2.1 ⟨r,hr,hc.full r hr,Int.le_refl _⟩).2⟩⟩
theorem ZrE (g:Int→Int) (r:Int×Int×Unit) (h:r.1≤r.2.1):(prt g r).1+(((prt g r).2.1.size:Nat):Int)=r.2.1+1:=by
 show r.1+(((seg g r.1 r.2.1).size:Nat):Int)=_
 rw [ZU4]
 omega
theorem Zh9 (g:Int→Int) (r:Int×Int×Unit) (h0:0≤r.1) (h:r.1≤r.2.1) (h1:r.2.1<4611686018427387904):ZBg (prt g r)=some (r.2.1+1,()):=by
 rw [ZuM (prt g r) h0 (by rw [ZrE g r h];omega),ZrE g r h]
/-! #### there -/
theorem Zsj (g:Int→Int) : ∀ (suf pre:RS) (m:Nat),suf.length<m→(pre++suf).length≤1000000→(∀ r∈suf,0≤r.1∧r.1≤r.2.1∧r.2.1<4611686018427387904) →
  ZCZ m (ZDS g (pre++suf)) (((pre++suf).length:Nat):Int) ((pre.length:Nat):Int) pre=ZAX (ZXc (pre++suf)) fun y=>some y:=by
 intro suf
 induction suf with
 | nil=>
  intro pre m hm hl hr
  obtain ⟨m,rfl⟩ : ∃ k,m=k+1:=⟨m - 1,by omega⟩
  simp only [List.append_nil,ZCZ,ZIv,Int.lt_irrefl,decide_false,cond_false]
 | cons x suf ih=>
  intro pre m hm hl hr
  obtain ⟨m,rfl⟩ : ∃ k,m=k+1:=⟨m - 1,by omega⟩
  obtain ⟨r1,r2,r3⟩:=hr x List.mem_cons_self
  have e:ZDS g (pre++x::suf)=ZDS g pre++prt g x::ZDS g suf:=by simp [ZDS]
  have hpl:(ZDS g pre).length=pre.length:=ZEl g pre
  have hgd:(ZDS g pre++prt g x::ZDS g suf).getD pre.length (Ty.dflt ZAM)=prt g x:=by
   rw [← hpl];exact ZDC _ _ _ _
  have hlt:(((pre.length:Nat):Int)<(((ZDS g pre++prt g x::ZDS g suf).length:Nat):Int))=True:=by
   rw [← hpl];exact ZLV _ _ _
  have c:pre.length+[((x.1,x.2.1,()):ZAA)].length≤4294967296:=by simp at hl ⊢;omega
  have w:IntKind.wrap .u64 (x.2.1+1 - 1)=x.2.1:=by rw [ZAh _ (by omega) (by omega)];omega
  have w2:(prt g x).1=x.1:=rfl
  simp only [ZCZ,ZIv,ZLV,nn,and_true,decide_true,cond_true,ZDD,e,hgd,hlt,Zh9 g x r1 r2 r3,ZAK,w,w2,c]
  rw [ZJE pre x x suf (by omega)]
  have:=ih (pre++[x]) m (by simp at hm;omega) (by simpa using hl) (fun r h=>hr r (List.mem_cons_of_mem _ h))
  rw [← ZID,e] at this
  exact this
theorem Zyn (t:RS) (h:Plc t) (hl:t.length≤1000000):ZXc t=some (t,()):=by
 obtain ⟨u,h1,h2,h3,_⟩:=Zzj t h.set3.bnd h.can.full hl
 rw [h1,Zax h2.can h.can h3]
theorem Zvp (g:Int→Int) (t:RS) (h:Plc t) (hl:t.length≤1000000) (s:ZAD) (hs:s.2.1=ZDS g t):ZJG s=some (t,()):=by
 rw [ZQK,ZG4,ZMk,ZIF,hs]
 have:=Zsj g t [] (Int.toNat (((t.length:Nat):Int) - 0)+2) (by omega) (by simpa using hl) (fun r hr=>⟨(h.rng r hr).1,h.can.full r hr,(h.rng r hr).2⟩)
 simp only [List.nil_append,List.length_nil,Int.natCast_zero] at this
 rw [ZEl,this,Zyn t h hl]
 rfl
/-! #### lay -/
theorem Zvq (g:Int→Int) (rd fin:Int) (kn:Bool) (l0:PL) : ∀ (suf pre acc:RS) (m:Nat),suf.length<m→(pre++suf).length≤1000000→acc.length≤pre.length →
  (∀ r∈pre++suf,0≤r.1∧r.1≤r.2.1∧r.2.1<4611686018427387904)→(∀ a∈acc,0≤a.1∧a.1≤a.2.1∧a.2.1<4611686018427387904) →
  ZBd m (((pre++suf).length:Nat):Int) ((pre.length:Nat):Int) rd fin kn l0 (ZDS g (pre++suf)) (ZDS g acc)=some (rd,fin,kn,l0,ZDS g (mrg acc suf),()):=by
 intro suf
 induction suf with
 | nil=>
  intro pre acc m hm hl ha hr hac
  obtain ⟨m,rfl⟩ : ∃ k,m=k+1:=⟨m - 1,by omega⟩
  simp only [List.append_nil,ZBd,ZHL,Int.lt_irrefl,decide_false,cond_false,mrg]
 | cons x suf ih=>
  intro pre acc m hm hl ha hr hac
  obtain ⟨m,rfl⟩ : ∃ k,m=k+1:=⟨m - 1,by omega⟩
  obtain ⟨r1,r2,r3⟩:=hr x (by simp)
  have e:ZDS g (pre++x::suf)=ZDS g pre++prt g x::ZDS g suf:=by simp [ZDS]
  have hpl:(ZDS g pre).length=pre.length:=ZEl g pre
  have hgd:(ZDS g pre++prt g x::ZDS g suf).getD pre.length (Ty.dflt ZAM)=prt g x:=by
   rw [← hpl];exact ZDC _ _ _ _
  have hlt:(((pre.length:Nat):Int)<(((ZDS g pre++prt g x::ZDS g suf).length:Nat):Int))=True:=by
   rw [← hpl];exact ZLV _ _ _
  have w2:(prt g x).1=x.1:=rfl
  have w3:(prt g x).2.1=seg g x.1 x.2.1:=rfl
  have nx : ∀ acc':RS,acc'.length≤pre.length+1→(∀ a∈acc',0≤a.1∧a.1≤a.2.1∧a.2.1<4611686018427387904)→ZBd m (((pre++x::suf).length:Nat):Int) (((pre++[x]).length:Nat):Int) rd fin kn l0 (ZDS g pre++prt g x::ZDS g suf) (ZDS g acc')=some (rd,fin,kn,l0,ZDS g (mrg acc' suf),()):=by
   intro acc' h1 h2
   have:=ih (pre++[x]) acc' m (by simp at hm;omega) (by simpa using hl) (by simpa using h1) (by simpa using hr) h2
   rw [← ZID,e] at this
   exact this
  have hpm:pre.length+1≤1000000:=by simp at hl;omega
  simp only [ZBd,ZHL,ZLV,nn,and_true,decide_true,cond_true,ZDD,e,hgd,hlt,w2,w3,ZEl]
  rw [ZJE pre x x suf (by omega),mrg]
  cases hg:acc.getLast? with
  | none=>
   have hn:acc=[]:=List.getLast?_eq_none_iff.mp hg
   subst hn
   simp only [List.length_nil,Int.natCast_zero,gt_iff_lt,Int.lt_irrefl,decide_false,cond_false]
   have:=nx [x] (by simp) (fun a h=>by
    simp only [List.mem_singleton] at h
    subst h
    exact ⟨r1,r2,r3⟩)
   exact this
  | some a=>
   obtain ⟨q,rfl⟩:=List.getLast?_eq_some_iff.mp hg
   obtain ⟨a1,a2,a3⟩:=hac a (by simp)
   have hql:(q++[a]).length=q.length+1:=by simp
   have c0:decide ((((q++[a]).length:Nat):Int)>0)=true:=by simp
   have w5:IntKind.wrap .i64 ((((q++[a]).length:Nat):Int) - 1)=((q.length:Nat):Int):=by rw [wrap_i64 _ (by omega) (by omega)];omega
   have eq1:ZDS g (q++[a])=ZDS g q++prt g a::[]:=by simp [ZDS]
   have hgq:(ZDS g q++prt g a::[]).getD q.length (Ty.dflt ZAM)=prt g a:=by
    rw [← ZEl g q];exact ZDC _ _ _ _
   have hsq : ∀ y,(ZDS g q++prt g a::[]).set q.length y=ZDS g q++[y]:=fun y=>by
    rw [← ZEl g q];exact Zq3 _ _ _ _
   have c1:(((q.length:Nat):Int)<(((q++[a]).length:Nat):Int))=True:=eq_true (by omega)
   have hen:ZBg ((prt g a).1,(prt g a).2.1,())=some (a.2.1+1,()):=Zh9 g a a1 a2 a3
   simp only [c0,cond_true,w5,nn,c1,and_true,decide_true,ZDD,eq1,hgq,hen,ZAK,List.dropLast_concat]
   by_cases he:a.2.1+1=x.1
   ·
    have k1:(seg g a.1 a.2.1).size+(seg g x.1 x.2.1).size≤9223372036854775807:=by rw [ZU4,ZU4];omega
    have w6:(prt g a).2.1=seg g a.1 a.2.1:=rfl
    have w7:(prt g a).1=a.1:=rfl
    have ZfT:seg g a.1 a.2.1++seg g x.1 x.2.1=seg g a.1 x.2.1:=by
     rw [← he]
     exact Zw1 g (by omega) (by omega)
    simp only [Zt3 he,cond_true,w6,w7,k1,decide_true,hsq,ZfT,if_pos he]
    have:=nx (q++[(a.1,x.2.1,())]) (by simp at ha ⊢;omega) (fun b hb=>by
     rcases List.mem_append.mp hb with hb | hb
     · exact hac b (List.mem_append_left _ hb)
     ·
      simp only [List.mem_singleton] at hb
      subst hb
      exact ⟨a1,by simp only;omega,r3⟩)
    rw [ZkL] at this
    exact this
   ·
    have k2:decide ((q++[a]).length+[((x.1,seg g x.1 x.2.1,()):ZAE)].length≤4294967296)=true:=by simp at ha ⊢;omega
    have k3:(ZDS g q++prt g a::[]).length=(q++[a]).length:=by rw [← eq1,ZEl]
    simp only [beq_false_of_ne he,cond_false,if_neg he,k2,cond_true]
    have:=nx (q++[a]++[x]) (by simp at ha ⊢;omega) (fun b hb=>by
     rcases List.mem_append.mp hb with hb | hb
     · exact hac b hb
     ·
      simp only [List.mem_singleton] at hb
      subst hb
      exact ⟨r1,r2,r3⟩)
    rw [ZkL,eq1] at this
    exact this
theorem Zvr (l:PL) (hl:l.length≤10000000) : ∃ m,ZBQ l=some (m,())∧m.Perm l∧m.Pairwise fun x y=>x.1≤y.1:=by
 rw [ZF9,ZDZ]
 have c:decide (l.length<4611686018427387904)=true:=by simp;omega
 rw [c]
 refine ⟨_,rfl,Zih ZBm l,?_⟩
 refine (Zfy ZBm l).imp fun {a b} h => ?_
 rw [ZCE,decide_eq_false_iff_not] at h
 omega
def Zmg (p:Int×ByteArray×Unit):Int×Int×Unit:=(p.1,p.1+((p.2.1.size:Nat):Int) - 1,())
theorem ZqH (g:Int→Int) (r:Int×Int×Unit) (h:r.1≤r.2.1):Zmg (prt g r)=r:=by
 have:=ZrE g r h
 show (r.1,_,())=r
 rw [this]
 show (r.1,r.2.1+1 - 1,())=r
 rw [Int.add_sub_cancel]
theorem ZuN (g:Int→Int) (s:RS) (hf : ∀ r∈s,r.1≤r.2.1) (hd:s.Pairwise fun a b=>a.2.1<b.1∨b.2.1<a.1) (hl:s.length≤10000000) :
  ∃ q,ZBQ (ZDS g s)=some (ZDS g q,())∧q.Perm s∧Zw2 q:=by
 obtain ⟨m,h1,h2,h3⟩:=Zvr (ZDS g s) (by rw [ZEl];exact hl)
 have hm : ∀ p∈m,prt g (Zmg p)=p:=by
  intro p hp
  obtain ⟨r,hr,rfl⟩:=List.mem_map.mp (h2.mem_iff.mp hp)
  rw [ZqH g r (hf r hr)]
 have e1:ZDS g (m.map Zmg)=m:=by
  unfold ZDS
  rw [List.map_map]
  conv=>rhs;rw [← List.map_id m]
  exact List.map_congr_left fun p hp=>hm p hp
 have e2:(ZDS g s).map Zmg=s:=by
  unfold ZDS
  rw [List.map_map]
  conv=>rhs;rw [← List.map_id s]
  exact List.map_congr_left fun r hr=>ZqH g r (hf r hr)
 have hp:(m.map Zmg).Perm s:=by
  have:=h2.map Zmg
  rwa [e2] at this
 refine ⟨m.map Zmg,by rw [h1,e1],hp,?_,?_⟩
 · exact fun r hr=>hf r (hp.mem_iff.mp hr)
 ·
  have hs:(m.map Zmg).Pairwise fun a b=>a.1≤b.1:=by
   rw [List.pairwise_map]
   exact h3
  have hd':(m.map Zmg).Pairwise fun a b=>a.2.1<b.1∨b.2.1<a.1:=(hp.pairwise_iff (fun {a b} h=>h.elim .inr .inl)).mpr hd
  have hfm : ∀ r∈m.map Zmg,r.1≤r.2.1:=fun r hr=>hf r (hp.mem_iff.mp hr)
  have hall:=(hs.and hd')
  refine hall.imp_of_mem fun {a b} ha hb h => ?_
  have:=hfm b hb
  rcases h.2 with h2 | h2
  · exact h2
  · have:=h.1;omega
theorem Zvs {q s:RS} (hp:q.Perm s) (n:Int):ZGV q n↔ZGV s n:=by
 unfold ZGV
 exact ⟨fun ⟨r,h1,h2⟩=>⟨r,hp.mem_iff.mp h1,h2⟩,fun ⟨r,h1,h2⟩=>⟨r,hp.mem_iff.mpr h1,h2⟩⟩
theorem Zyo (g:Int→Int) (t G:RS) (rd fin:Int) (kn:Bool) (ht:Plc t) (hG:Plc G) (hd : ∀ n,ZGV t n → ¬ ZGV G n) (hl:(t++G).length≤1000000) :
  ∃ u,ZEc (rd,ZDS g t,fin,kn,()) (ZDS g G)=some (rd,fin,kn,ZDS g G,ZDS g u,())∧Plc u ∧ ∀ n,ZGV u n↔ZGV t n∨ZGV G n:=by
 have hf : ∀ r∈t++G,0≤r.1∧r.1≤r.2.1∧r.2.1<4611686018427387904:=fun r hr=>by
  rcases List.mem_append.mp hr with hr | hr
  · exact ⟨(ht.rng r hr).1,ht.can.full r hr,(ht.rng r hr).2⟩
  · exact ⟨(hG.rng r hr).1,hG.can.full r hr,(hG.rng r hr).2⟩
 have hap:(t++G).Pairwise fun a b=>a.2.1<b.1∨b.2.1<a.1:=by
  refine List.pairwise_append.mpr ⟨ht.can.apart.imp fun h => .inl (by omega),hG.can.apart.imp fun h => .inl (by omega),fun a ha b hb => ?_⟩
  have fa:=ht.can.full a ha
  have fb:=hG.can.full b hb
  rcases Int.lt_or_le a.2.1 b.1 with h | h
  · exact .inl h
  ·
   rcases Int.lt_or_le b.2.1 a.1 with h2 | h2
   · exact .inr h2
   ·
    exfalso
    rcases Int.le_total a.1 b.1 with h3 | h3
    · exact hd b.1 ⟨a,ha,h3,h⟩ ⟨b,hb,Int.le_refl _,fb⟩
    · exact hd a.1 ⟨a,ha,Int.le_refl _,fa⟩ ⟨b,hb,h3,h2⟩
 obtain ⟨q,q1,q2,q3⟩:=ZuN g (t++G) (fun r hr=>(hf r hr).2.1) hap (by omega)
 have hql:=q2.length_eq
 obtain ⟨u1,u2⟩:=Zrx q [] q3 ZYQ (fun a h=>by cases h)
 have hu : ∀ n,ZGV (mrg [] q) n↔ZGV t n∨ZGV G n:=fun n=>by
  rw [u2 n,Zvs q2 n,ZkI]
  exact ⟨fun h=>h.elim (fun h=>absurd h (ZC1 n)) id,.inr⟩
 refine ⟨mrg [] q,?_,Zr0 u1 fun n hn => ?_,hu⟩
 ·
  have hloop:=Zvq g rd fin kn (ZDS g G) q [] [] (Int.toNat (((q.length:Nat):Int) - 0)+2) (by omega) (by simp only [List.nil_append];omega) (Nat.le_refl _) (fun r hr=>hf r (q2.mem_iff.mp (by simpa using hr))) (fun a h=>by cases h)
  simp only [List.nil_append,List.length_nil,Int.natCast_zero] at hloop
  have hend:ZCX (((ZDS g q).length:Nat):Int) 0 rd fin kn (ZDS g G) (ZDS g q) []=some (rd,fin,kn,ZDS g G,ZDS g (mrg [] q),()):=by
   rw [ZKf,ZGb,ZEl]
   exact hloop
  rw [ZNh,ZFZ]
  have tl:=ZEl g t
  have gl:=ZEl g G
  rw [List.length_append] at hl
  have w1:IntKind.wrap .i64 (0+(((ZDS g t).length:Nat):Int))=((t.length:Nat):Int):=by rw [tl,wrap_i64 _ (by omega) (by omega)];omega
  have w2:IntKind.wrap .i64 (((t.length:Nat):Int)+(((ZDS g G).length:Nat):Int))=((t.length+G.length:Nat):Int):=by rw [gl,wrap_i64 _ (by omega) (by omega)];omega
  have w5:IntKind.wrap .i64 (((t.length+G.length:Nat):Int) - 0)=((t.length+G.length:Nat):Int):=by rw [wrap_i64 _ (by omega) (by omega)];omega
  have n1:decide (((t.length:Nat):Int)<0)=false:=by simp
  have n2:decide (((t.length+G.length:Nat):Int)<0)=false:=by simp;omega
  rw [ZkL] at q1
  simp only [w1,n1,cond_false,w2,n2,w5]
  by_cases hz:t.length+G.length=0
  ·
   have c1:decide (((t.length+G.length:Nat):Int)>0)=false:=by simp;omega
   have c2:decide ((ZDS g t).length≤4294967296)=true:=by simp;omega
   have c3:decide ((ZDS g t).length+(ZDS g G).length≤4294967296)=true:=by simp;omega
   simp only [c1,cond_false,c2,c3,cond_true,q1,ZAK]
   exact hend
  ·
   have c1:decide (((t.length+G.length:Nat):Int)>0)=true:=by simp;omega
   have c2:decide ((0:Int)<((t.length+G.length:Nat):Int)∧((t.length+G.length:Nat):Int)≤4294967296)=true:=by simp;omega
   have c3 : ∀ l:PL,decide (Int.toNat 0 - 0≤l.length∧Int.toNat 0 - 0+(ZDS g t).length≤4294967296)=true:=fun l=>by simp;omega
   have c4 : ∀ l:PL,List.take (Int.toNat 0 - 0) l++ZDS g t=ZDS g t:=fun l=>by simp
   have c5:decide ((ZDS g t).length+(ZDS g G).length≤4294967296)=true:=by simp;omega
   simp only [c1,cond_true,c2,c3,c4,c5,q1,ZAK]
   exact hend
 ·
  rcases (hu n).mp hn with h | h
  · exact ht.mem h
  · exact hG.mem h
open Classical in
noncomputable def ov (t:RS) (g h:Int→Int) (n:Int):Int:=if ZGV t n then g n else h n
theorem ZxM {t:RS} {g h:Int→Int} {n:Int} (hn:ZGV t n):ov t g h n=g n:=if_pos hn
theorem ZuO {t:RS} {g h:Int→Int} {n:Int} (hn : ¬ ZGV t n):ov t g h n=h n:=if_neg hn
theorem Zzk {t:RS} {g h:Int→Int} (hg:ByF g) (hh:ByF h):ByF (ov t g h):=fun n=>by
 unfold ov
 split
 · exact hg n
 · exact hh n
/-! #### Highest -/
def hiF (rd fin:Int) (t:RS):Int:=match t.getLast? with
 | some a=>max (max rd fin) (a.2.1+1)
 | none=>max rd fin
theorem ZlK (rd fin:Int) (t:RS):rd≤hiF rd fin t∧fin≤hiF rd fin t:=by
 unfold hiF
 split <;> omega
theorem Zoh (rd fin:Int) {t:RS} (ht:Can t) {n:Int} (hn:ZGV t n):n<hiF rd fin t:=by
 obtain ⟨r,hr,h1,h2⟩:=hn
 unfold hiF
 cases hg:t.getLast? with
 | none=>
  have:t=[]:=List.getLast?_eq_none_iff.mp hg
  subst this
  cases hr
 | some a=>
  obtain ⟨q,rfl⟩:=List.getLast?_eq_some_iff.mp hg
  simp only
  rcases List.mem_append.mp hr with hr | hr
  ·
   have:=ht.cross r hr a (by simp)
   have:=ht.full a (by simp)
   omega
  ·
   simp only [List.mem_singleton] at hr
   subst hr
   omega
theorem ZwU {rd fin b:Int} {t:RS} (ht:Can t) (h1:rd≤b) (h2:fin≤b) (h3 : ∀ n,ZGV t n→n+1≤b):hiF rd fin t≤b:=by
 unfold hiF
 cases hg:t.getLast? with
 | none=>simp only;omega
 | some a=>
  obtain ⟨q,rfl⟩:=List.getLast?_eq_some_iff.mp hg
  have hf:=ht.full a (by simp)
  have:=h3 a.2.1 ⟨a,by simp,hf,Int.le_refl _⟩
  simp only
  omega
theorem ZS4 (g:Int→Int) (t:RS) (s:ZAD) (hs:s.2.1=ZDS g t) (ht:Plc t) (hl:t.length≤1000000):ZDt s=some (hiF s.1 s.2.2.1 t,()):=by
 rw [ZXf,ZME,hs]
 have em:(if s.2.2.1>s.1 then s.2.2.1 else s.1)=max s.1 s.2.2.1:=by split <;> omega
 rw [em,ZEl]
 unfold hiF
 cases hg:t.getLast? with
 | none=>
  have:t=[]:=List.getLast?_eq_none_iff.mp hg
  subst this
  rfl
 | some a=>
  obtain ⟨q,rfl⟩:=List.getLast?_eq_some_iff.mp hg
  have hql:(q++[a]).length=q.length+1:=by simp
  have ha:=ht.rng a (by simp)
  have hf:=ht.can.full a (by simp)
  have c0:decide ((((q++[a]).length:Nat):Int)>0)=true:=by simp
  have w5:IntKind.wrap .i64 ((((q++[a]).length:Nat):Int) - 1)=((q.length:Nat):Int):=by rw [wrap_i64 _ (by omega) (by omega)];omega
  have eq1:ZDS g (q++[a])=ZDS g q++prt g a::[]:=by simp [ZDS]
  have hgq:(ZDS g q++prt g a::[]).getD q.length (Ty.dflt ZAM)=prt g a:=by
   rw [← ZEl g q];exact ZDC _ _ _ _
  have c1:(((q.length:Nat):Int)<(((q++[a]).length:Nat):Int))=True:=eq_true (by omega)
  simp only [c0,cond_true,w5,nn,c1,and_true,decide_true,ZDD,eq1,hgq,Zh9 g a ha.1 hf ha.2,ZAK]
  rw [show (if a.2.1+1>max s.1 s.2.2.1 then a.2.1+1 else max s.1 s.2.2.1)=max (max s.1 s.2.2.1) (a.2.1+1) by split <;> omega]
/-! #### Put -/
theorem Zvt (off:Int) (data:ByteArray) (r:Int×Int×Unit) (h0:0≤off) (h1:off≤r.1) (h2:r.1≤r.2.1) (h3:r.2.1<off+((data.size:Nat):Int)) (h4:off+((data.size:Nat):Int)<9223372036854775808) :
  ZNY (off,data,()) r=some (prt (Zig off data) r,()):=by
 rw [ZVO,ZKS]
 have w1:IntKind.wrap .u64 (r.1 - off)=r.1 - off:=ZAh _ (by omega) (by omega)
 have w2:IntKind.wrap .u64 (r.2.1+1)=r.2.1+1:=ZAh _ (by omega) (by omega)
 have w3:IntKind.wrap .u64 (r.2.1+1 - off)=r.2.1+1 - off:=ZAh _ (by omega) (by omega)
 have c:decide ((0:Int)≤r.1 - off∧r.1 - off≤r.2.1+1 - off∧r.2.1+1 - off≤((data.size:Nat):Int))=true:=by simp;omega
 simp only [w1,w2,w3,c,cond_true]
 have:=ZYR (ZoV off data) (lo:=off) (hi:=off+((data.size:Nat):Int) - 1) (a:=r.1) (b:=r.2.1) h1 (by omega) (by omega)
 rw [← Zq7 off data] at this
 rw [this]
 rfl
theorem ZuP (off:Int) (data:ByteArray) (d1 d3:ZAD) (h0:0≤off) (h4:off+((data.size:Nat):Int)<9223372036854775808) : ∀ (suf pre:RS) (m:Nat),suf.length<m→(pre++suf).length≤1000000 →
  (∀ r∈suf,off≤r.1∧r.1≤r.2.1∧r.2.1<off+((data.size:Nat):Int)) →
  ZJd m (pre++suf) (((pre++suf).length:Nat):Int) ((pre.length:Nat):Int) d1 (off,data,()) d3 (ZDS (Zig off data) pre) =
   ZAX (ZEc d3 (ZDS (Zig off data) (pre++suf))) fun y=>some ((y.1,y.2.2.2.2.1,y.2.1,y.2.2.1,()),0,()):=by
 intro suf
 induction suf with
 | nil=>
  intro pre m hm hl hr
  obtain ⟨m,rfl⟩ : ∃ k,m=k+1:=⟨m - 1,by omega⟩
  simp only [List.append_nil,ZJd,ZV7,Int.lt_irrefl,decide_false,cond_false]
 | cons x suf ih=>
  intro pre m hm hl hr
  obtain ⟨m,rfl⟩ : ∃ k,m=k+1:=⟨m - 1,by omega⟩
  obtain ⟨r1,r2,r3⟩:=hr x List.mem_cons_self
  have c:(ZDS (Zig off data) pre).length+[(((prt (Zig off data) x).1,(prt (Zig off data) x).2.1,()):ZAE)].length≤4294967296:=by rw [ZEl];simp at hl ⊢;omega
  simp only [ZJd,ZV7,ZLV,nn,and_true,decide_true,cond_true,ZDD,ZDC,Zvt off data x h0 r1 r2 r3 h4,ZAK,c]
  rw [ZJE pre x x suf (by omega)]
  have:=ih (pre++[x]) m (by simp at hm;omega) (by simpa using hl) (fun r h=>hr r (List.mem_cons_of_mem _ h))
  rw [← ZID,ZkL] at this
  exact this
theorem ZxN (g:Int→Int) (t:RS) (rd fin:Int) (kn:Bool) (d1:ZAD) (hg:ByF g) (ht:Plc t) (hl:t.length≤100000) (hrd:0≤rd) (off:Int) (data:ByteArray) (ho:0≤off) (he:off+((data.size:Nat):Int)≤4611686018427387903) :
  ∃ u,ZMn off (rd,ZDS g t,fin,kn,()) d1 (off,data,())=some ((rd,ZDS (ov t g (Zig off data)) u,fin,kn,()),0,())∧Plc u∧(∀ n,ZGV u n↔ZGV t n∨(max rd off≤n∧n<off+((data.size:Nat):Int)))∧u.length≤t.length+1:=by
 have hend:ZBg (off,data,())=some (off+((data.size:Nat):Int),()):=ZuM (off,data,()) ho (by show off+((data.size:Nat):Int)<_;omega)
 have em:(if rd>off then rd else off)=max rd off:=by split <;> omega
 rw [ZbG,ZV9]
 simp only [em,hend,ZAK]
 by_cases hlt:max rd off<off+((data.size:Nat):Int)
 ·
  simp only [hlt,decide_true,cond_true]
  rw [Zvp g t ht (by omega) _ rfl]
  have w:IntKind.wrap .u64 (off+((data.size:Nat):Int) - 1)=off+((data.size:Nat):Int) - 1:=ZAh _ (by omega) (by omega)
  simp only [ZAK,w]
  obtain ⟨G,G1,G2,G3,G4⟩:=ZxL t (max rd off,off+((data.size:Nat):Int) - 1,()) ht.set3 (by simp only;omega) (by simp only;omega) (by simp only;omega) (by omega)
  simp only at G3
  have hG:Plc G:=Zr0 G2.can fun n hn=>by have:=((G3 n).mp hn).1;omega
  rw [G1]
  simp only [ZAK]
  have hr : ∀ r∈G,off≤r.1∧r.1≤r.2.1∧r.2.1<off+((data.size:Nat):Int):=fun r hr=>by
   have hf:=G2.can.full r hr
   have h1:=((G3 r.1).mp ⟨r,hr,Int.le_refl _,hf⟩).1
   have h2:=((G3 r.2.1).mp ⟨r,hr,hf,Int.le_refl _⟩).1
   omega
  have hloop:=ZuP off data d1 (rd,ZDS g t,fin,kn,()) ho (by omega) G [] (Int.toNat (((G.length:Nat):Int) - 0)+2) (by omega) (by simp only [List.nil_append];omega) hr
  simp only [List.nil_append,List.length_nil,Int.natCast_zero] at hloop
  have e1:ZDS g t=ZDS (ov t g (Zig off data)) t:=Zc2 fun n hn=>(ZxM hn).symm
  have e2:ZDS (Zig off data) G=ZDS (ov t g (Zig off data)) G:=Zc2 fun n hn=>(ZuO ((G3 n).mp hn).2).symm
  obtain ⟨u,u1,u2,u3⟩:=Zyo (ov t g (Zig off data)) t G rd fin kn ht hG (fun n h1 h2=>((G3 n).mp h2).2 h1) (by rw [List.length_append];omega)
  have hmem : ∀ n,ZGV u n↔ZGV t n∨(max rd off≤n∧n<off+((data.size:Nat):Int)):=fun n=>by
   rw [u3 n,G3 n]
   constructor
   ·
    rintro (h | h)
    · exact .inl h
    · exact .inr (by omega)
   ·
    rintro (h | h)
    · exact .inl h
    ·
     by_cases k:ZGV t n
     · exact .inl k
     · exact .inr ⟨by omega,k⟩
  refine ⟨u,?_,u2,hmem,?_⟩
  ·
   rw [ZZf,ZTg]
   refine hloop.trans ?_
   rw [e1,e2,u1]
   rfl
  ·
   obtain ⟨v,_,v2,v3,v4⟩:=ZwT t (max rd off,off+((data.size:Nat):Int) - 1,()) ht.set3 (by simp only;omega) (by simp only;omega) (by simp only;omega) (by omega)
   have:u=v:=Zax u2.can v2.can fun n=>by
    rw [hmem n,v3 n]
    simp only
    constructor
    ·
     rintro (h | h)
     · exact .inl h
     · exact .inr (by omega)
    ·
     rintro (h | h)
     · exact .inl h
     · exact .inr (by omega)
   rw [this]
   exact v4
 ·
  simp only [hlt,decide_false,cond_false]
  refine ⟨t,?_,ht,fun n=>⟨.inl,fun h=>h.elim id fun h=>absurd (Int.lt_of_le_of_lt h.1 h.2) hlt⟩,Nat.le_succ _⟩
  rw [Zc2 (g:=ov t g (Zig off data)) (h:=g) fun n hn=>ZxM hn]
def ZrF (s:ZAD) (hi e:Int) (fin:Bool):Bool:=(s.2.2.2.1&&(decide (e>s.2.2.1)||(fin&&decide (e<s.2.2.1))))||(fin&&decide (e<hi))
theorem ZxO (g:Int→Int) (t:RS) (s:ZAD) (hs:s.2.1=ZDS g t) (hg:ByF g) (ht:Plc t) (hl:t.length≤100000) (hrd:0≤s.1) (off:Int) (data:ByteArray) (fin:Bool) (ho:0≤off∧off<18446744073709551616) (hd:data.size≤1099511627776) :
  (4611686018427387903<off+((data.size:Nat):Int)→ZFy s off data fin=some (s,1,())) ∧
  (off+((data.size:Nat):Int)≤4611686018427387903→ZrF s (hiF s.1 s.2.2.1 t) (off+((data.size:Nat):Int)) fin=true→ZFy s off data fin=some (s,140,())) ∧
  (off+((data.size:Nat):Int)≤4611686018427387903→ZrF s (hiF s.1 s.2.2.1 t) (off+((data.size:Nat):Int)) fin=false →
   ∃ u,ZFy s off data fin=some ((s.1,ZDS (ov t g (Zig off data)) u,if fin then off+((data.size:Nat):Int) else s.2.2.1,fin||s.2.2.2.1,()),0,())∧Plc u∧(∀ n,ZGV u n↔ZGV t n∨(max s.1 off≤n∧n<off+((data.size:Nat):Int)))∧u.length≤t.length+1):=by
 obtain ⟨rd,L,f,kn,⟨⟩⟩:=s
 simp only at hs hrd
 subst hs
 rw [ZgT,ZVP]
 by_cases h1:off>4611686018427387903
 ·
  simp only [h1,decide_true,cond_true]
  exact ⟨fun _=>trivial,fun h=>by omega,fun h=>by omega⟩
 ·
  have w1:IntKind.wrap .u64 ((data.size:Nat):Int)=((data.size:Nat):Int):=ZAh _ (by omega) (by omega)
  have w2:IntKind.wrap .u64 (off+((data.size:Nat):Int))=off+((data.size:Nat):Int):=ZAh _ (by omega) (by omega)
  simp only [h1,decide_false,cond_false,w1,w2]
  by_cases h2:off+((data.size:Nat):Int)>4611686018427387903
  ·
   simp only [h2,decide_true,cond_true]
   exact ⟨fun _=>trivial,fun h=>by omega,fun h=>by omega⟩
  ·
   have hend:ZBg (off,data,())=some (off+((data.size:Nat):Int),()):=ZuM (off,data,()) ho.1 (by show off+((data.size:Nat):Int)<_;omega)
   have hhi:=ZS4 g t (rd,ZDS g t,f,kn,()) rfl ht (by omega)
   simp only at hhi
   simp only [h2,decide_false,cond_false,hend,ZAK,ZbM,ZWF,ZbK,ZWD,ZbI,ZWB,cond_true,hhi]
   obtain ⟨u,u1,u2,u3,u4⟩:=ZxN g t rd (if fin then off+((data.size:Nat):Int) else f) (fin||kn) (0,[],0,false,()) hg ht hl hrd off data ho.1 (by omega)
   refine ⟨fun h=>by first | exact h.elim | omega,fun _ hb => ?_,fun _ hb=>⟨u,?_,u2,u3,u4⟩⟩
   ·
    unfold ZrF at hb
    simp only at hb
    generalize hiF rd f t=hi at *
    by_cases k1:off+((data.size:Nat):Int)>f
    ·
     by_cases k2:off+((data.size:Nat):Int)<f
     · omega
     ·
      by_cases k3:off+((data.size:Nat):Int)<hi
      · cases fin <;> cases kn <;> simp [k1,k2,k3] at hb ⊢
      · cases fin <;> cases kn <;> simp [k1,k2,k3] at hb ⊢
    ·
     by_cases k2:off+((data.size:Nat):Int)<f
     ·
      by_cases k3:off+((data.size:Nat):Int)<hi
      · cases fin <;> cases kn <;> simp [k1,k2,k3] at hb ⊢
      · cases fin <;> cases kn <;> simp [k1,k2,k3] at hb ⊢
     ·
      by_cases k3:off+((data.size:Nat):Int)<hi
      · cases fin <;> cases kn <;> simp [k1,k2,k3] at hb ⊢
      · cases fin <;> cases kn <;> simp [k1,k2,k3] at hb ⊢
   ·
    unfold ZrF at hb
    simp only at hb
    generalize hiF rd f t=hi at *
    rw [← u1]
    by_cases k1:off+((data.size:Nat):Int)>f
    ·
     by_cases k2:off+((data.size:Nat):Int)<f
     · omega
     ·
      by_cases k3:off+((data.size:Nat):Int)<hi
      · cases fin <;> cases kn <;> simp [k1,k2,k3] at hb ⊢
      · cases fin <;> cases kn <;> simp [k1,k2,k3] at hb ⊢
    ·
     by_cases k2:off+((data.size:Nat):Int)<f
     ·
      by_cases k3:off+((data.size:Nat):Int)<hi
      · cases fin <;> cases kn <;> simp [k1,k2,k3] at hb ⊢
      · cases fin <;> cases kn <;> simp [k1,k2,k3] at hb ⊢
     ·
      by_cases k3:off+((data.size:Nat):Int)<hi
      · cases fin <;> cases kn <;> simp [k1,k2,k3] at hb ⊢
      · cases fin <;> cases kn <;> simp [k1,k2,k3] at hb ⊢
/-! #### Ready,Take,Held -/
def Zd4 (rd:Int) (t:RS):Int:=match t with
 | []=>0
 | r::_=>if r.1=rd then r.2.1+1 - r.1 else 0
theorem ZuQ {rd:Int} {t:RS} (ht:Can t):0≤Zd4 rd t:=by
 cases t with
 | nil=>exact Int.le_refl _
 | cons r t=>
  have:=ht.head
  unfold Zd4
  simp only
  split <;> omega
def Zxm (s:ZAD) (n:Int):Bool:=s.2.2.2.1&&(IntKind.wrap .u64 (s.2.2.1 - s.1)==IntKind.wrap .u64 n)
theorem Zr1 (g:Int→Int) (t:RS) (s:ZAD) (hs:s.2.1=ZDS g t) (ht:Plc t):ZMq s=some (Zd4 s.1 t,Zxm s (Zd4 s.1 t),()):=by
 obtain ⟨rd,L,f,kn,⟨⟩⟩:=s
 simp only at hs
 subst hs
 have e1 : ∀ n,ZIr n (rd,ZDS g t,f,kn,())=some (n,Zxm (rd,ZDS g t,f,kn,()) n,()):=fun n=>by
  rw [ZXl,ZRJ]
  cases kn <;> rfl
 rw [ZbP,ZPw]
 simp only [ZXn,ZRL,e1,ZEl]
 cases t with
 | nil=>rfl
 | cons r t=>
  have hf:=ht.can.head
  have c1:decide ((((r::t).length:Nat):Int)>0)=true:=by simp
  have c2:decide ((0:Int)≤0∧(0:Int)<(((r::t).length:Nat):Int))=true:=by simp
  have g0:(ZDS g (r::t)).getD 0 (Ty.dflt ZAM)=prt g r:=rfl
  have w1:(prt g r).1=r.1:=rfl
  have w2:(((prt g r).2.1.size:Nat):Int)=r.2.1+1 - r.1:=by
   show (((seg g r.1 r.2.1).size:Nat):Int)=_
   rw [ZU4];omega
  simp only [c1,c2,cond_true,g0,w1,w2]
  unfold Zd4
  by_cases h:r.1=rd
  · simp only [Zt3 h,cond_true,if_pos h]
  · simp only [beq_false_of_ne h,cond_false,if_neg h]
theorem ZuR (s:ByteArray) (h:s.size≤4294967296):ZSS s=some (s,()):=by
 rw [ZZm,ZNi,ZIi,ZC3]
 by_cases h0:s.size=0
 ·
  have:s=⟨#[]⟩:=Zt4.mp h0
  subst this
  rfl
 ·
  have hl:=ZF3 s
  have c1:(((s.size:Nat):Int)==0)=false:=beq_false_of_ne (by omega)
  have c2:(((s.size:Nat):Int)≤4294967296)=True:=eq_true (by omega)
  have c3:((ZA0 s).length≤(List.replicate (Int.toNat ((s.size:Nat):Int)) (0:Int)).length)=True:=eq_true (by simp)
  have e:ZA0 s++List.drop (ZA0 s).length (List.replicate (Int.toNat ((s.size:Nat):Int)) (0:Int))=ZA0 s:=by
   rw [List.drop_eq_nil_of_le (by simp),List.append_nil]
  have c4:((0:Int)<(((ZA0 s).length:Nat):Int))=True:=eq_true (by rw [hl];omega)
  have c5:((((ZA0 s).length:Nat):Int)≤4294967296)=True:=eq_true (by rw [hl];omega)
  simp only [c1,cond_false,nn,c2,and_self,Int.le_refl,decide_true,cond_true,c3,e,c4,c5,Zhp,ZAK]
theorem ZuS (l:PL) (h:l.length≤4294967296):ZBh l=some l:=by
 unfold ZBh;simp [h]
def tkN (rd:Int) (t:RS) (n:Int):Int:=max 0 (min n (Zd4 rd t))
theorem ZxP (g:Int→Int) (t:RS) (s:ZAD) (hs:s.2.1=ZDS g t) (hg:ByF g) (ht:Plc t) (hl:t.length≤100000) (hrd:0≤s.1∧s.1≤4611686018427387904) (hlow : ∀ r∈t,s.1≤r.1) (hsz:Zd4 s.1 t≤4294967296) (n:Int) :
  ∃ u,ZYh s n=some ((s.1+tkN s.1 t n,ZDS g u,s.2.2.1,s.2.2.2.1,()),seg g s.1 (s.1+tkN s.1 t n - 1),s.2.2.2.1&&(s.1+tkN s.1 t n==s.2.2.1),())∧Plc u∧(∀ m,ZGV u m↔ZGV t m∧s.1+tkN s.1 t n≤m)∧u.length≤t.length:=by
 have hrdy:=Zr1 g t s hs ht
 have hnn:=ZuQ (rd:=s.1) ht.can
 obtain ⟨rd,L,f,kn,⟨⟩⟩:=s
 simp only at hs hrd hrdy hlow hsz hnn
 subst hs
 have e1:(if (if Zd4 rd t<n then Zd4 rd t else n)>0 then (if Zd4 rd t<n then Zd4 rd t else n) else 0)=tkN rd t n:=by
  unfold tkN
  split <;> split <;> omega
 have eT : ∀ (d:ByteArray) (rd':Int) (l':PL) (x:ZAD),ZKV d (rd',l',f,kn,()) x=some ((rd',l',f,kn,()),d,kn&&(rd'==f),()):=fun d rd' l' x=>by
  rw [ZZo,ZTk]
  cases kn <;> rfl
 rw [Zd0,ZST,hrdy]
 simp only [ZAK,e1,ZZq,ZTm,eT]
 by_cases hz:tkN rd t n>0
 ·
  simp only [hz,decide_true,cond_true]
  cases t with
  | nil=>unfold tkN Zd4 at hz;simp only at hz;omega
  | cons r t=>
   have hf:=ht.can.head
   have hr:=ht.rng r List.mem_cons_self
   have hr1:r.1=rd:=by
    rcases Int.lt_trichotomy r.1 rd with h | h | h
    · have:=hlow r List.mem_cons_self;omega
    · exact h
    ·
     unfold tkN Zd4 at hz
     simp only [if_neg (show ¬ r.1=rd by omega)] at hz
     omega
   have hk:tkN rd (r::t) n≤r.2.1+1 - r.1:=by
    unfold tkN Zd4
    simp only [if_pos hr1]
    omega
   have hsz':r.2.1+1 - r.1≤4294967296:=by
    unfold Zd4 at hsz
    simp only [if_pos hr1] at hsz
    exact hsz
   generalize tkN rd (r::t) n=k at *
   have hsize:(((seg g r.1 r.2.1).size:Nat):Int)=r.2.1+1 - r.1:=by rw [ZU4];omega
   rw [ZuS _ (by rw [ZEl];omega)]
   have c2:decide ((0:Int)≤0∧(0:Int)<(((ZDS g (r::t)).length:Nat):Int))=true:=by rw [ZEl];simp
   have g0:(ZDS g (r::t)).getD 0 (Ty.dflt ZAM)=(r.1,seg g r.1 r.2.1,()):=rfl
   have c3:decide ((0:Int)≤0∧(0:Int)≤k∧k≤(((seg g r.1 r.2.1).size:Nat):Int))=true:=by rw [hsize];simp;omega
   have c4:decide ((0:Int)≤k∧k≤(((seg g r.1 r.2.1).size:Nat):Int)∧(((seg g r.1 r.2.1).size:Nat):Int)≤(((seg g r.1 r.2.1).size:Nat):Int))=true:=by rw [hsize];simp;omega
   have x1:(seg g r.1 r.2.1).extract 0 (Int.toNat k)=seg g rd (rd+k - 1):=by
    have:=ZYR hg (lo:=r.1) (hi:=r.2.1) (a:=r.1) (b:=rd+k - 1) (Int.le_refl _) (by omega) (by omega)
    have e1:(r.1 - r.1).toNat=0:=by omega
    have e2:(rd+k - 1+1 - r.1).toNat=Int.toNat k:=by omega
    rw [e1,e2] at this
    rw [this,hr1]
   have x2:(seg g r.1 r.2.1).extract (Int.toNat k) (Int.toNat (((seg g r.1 r.2.1).size:Nat):Int))=seg g (rd+k) r.2.1:=by
    have:=ZYR hg (lo:=r.1) (hi:=r.2.1) (a:=rd+k) (b:=r.2.1) (by omega) (Int.le_refl _) (by omega)
    have e1:(rd+k - r.1).toNat=Int.toNat k:=by omega
    have e2:(r.2.1+1 - r.1).toNat=Int.toNat (((seg g r.1 r.2.1).size:Nat):Int):=by rw [hsize]
    rw [e1,e2] at this
    exact this
   have sc:=ZuR (seg g rd (rd+k - 1)) (by rw [ZU4];omega)
   have s0 : ∀ y,(ZDS g (r::t)).set 0 y=y::ZDS g t:=fun y=>rfl
   have gd : ∀ (y:ZAE),(y::ZDS g t).getD 0 (Ty.dflt ZAM)=y:=fun y=>rfl
   have s1 : ∀ (y z:ZAE),(y::ZDS g t).set 0 z=z::ZDS g t:=fun y z=>rfl
   have w1:IntKind.wrap .u64 k=k:=ZAh _ (by omega) (by omega)
   have w2:IntKind.wrap .u64 (r.1+k)=rd+k:=by rw [ZAh _ (by omega) (by omega),hr1]
   have w3:IntKind.wrap .u64 (rd+k)=rd+k:=ZAh _ (by omega) (by omega)
   simp only [ZAK,c2,cond_true,g0,c3,x1,sc,c4,x2,s0,gd,w1,w2,s1,w3,Zcz]
   by_cases hfull:k=r.2.1+1 - r.1
   ·
    have hnil:seg g (rd+k) r.2.1=ByteArray.mk (List.toArray ([]:List UInt8)):=Zt8 g (by omega)
    have c5:decide ((0:Int)≤1∧(1:Int)≤((((rd+k,seg g (rd+k) r.2.1,())::ZDS g t:PL).length:Nat):Int)∧((((rd+k,seg g (rd+k) r.2.1,())::ZDS g t:PL).length:Nat):Int)≤((((rd+k,seg g (rd+k) r.2.1,())::ZDS g t:PL).length:Nat):Int))=true:=by simp;omega
    have e3:List.take ((Int.toNat ((((rd+k,seg g (rd+k) r.2.1,())::ZDS g t:PL).length:Nat):Int)) - 1) (List.drop 1 ((rd+k,seg g (rd+k) r.2.1,())::ZDS g t:PL))=ZDS g t:=by
     simp
    have c6:decide (seg g (rd+k) r.2.1=ByteArray.mk (List.toArray ([]:List UInt8)))=true:=decide_eq_true hnil
    simp only [c6,cond_true,c5,e3]
    refine ⟨t,rfl,⟨ht.can.tail,fun x hx=>ht.rng x (List.mem_cons_of_mem _ hx)⟩,fun m => ?_,by simp⟩
    rw [ZCA]
    constructor
    ·
     intro h
     have:=ht.can.above h
     exact ⟨.inr h,by omega⟩
    ·
     rintro ⟨h | h,h2⟩
     · omega
     · exact h
   ·
    have hnn2 : ¬ seg g (rd+k) r.2.1=ByteArray.mk (List.toArray ([]:List UInt8)):=fun e=>by
     have h1:=congrArg ByteArray.size e
     rw [ZU4] at h1
     have h2:(ByteArray.mk (List.toArray ([]:List UInt8))).size=0:=rfl
     omega
    simp only [hnn2,decide_false,cond_false]
    have hcu:Can ((rd+k,r.2.1,())::t):=Zc0 ht.can.tail (by simp only;omega) (fun x hx=>(List.pairwise_cons.mp ht.can.apart).1 x hx)
    refine ⟨(rd+k,r.2.1,())::t,rfl,⟨hcu,fun x hx => ?_⟩,fun m => ?_,by simp⟩
    ·
     rcases List.mem_cons.mp hx with rfl | hx
     · exact ⟨by simp only;omega,hr.2⟩
     · exact ht.rng x (List.mem_cons_of_mem _ hx)
    ·
     rw [ZCA,ZCA]
     simp only
     constructor
     ·
      rintro (h | h)
      · exact ⟨.inl ⟨by omega,h.2⟩,h.1⟩
      ·
       have:=ht.can.above h
       exact ⟨.inr h,by omega⟩
     ·
      rintro ⟨h | h,h2⟩
      · exact .inl ⟨h2,h.2⟩
      · exact .inr h
 ·
  have hz0:tkN rd t n=0:=by
   have:0≤tkN rd t n:=by unfold tkN;omega
   omega
  have cz:decide ((0:Int)>0)=false:=rfl
  simp only [hz0,cz,cond_false,Int.add_zero]
  refine ⟨t,?_,ht,fun m=>⟨fun h=>⟨h,?_⟩,fun h=>h.1⟩,Nat.le_refl _⟩
  · rw [Zt8 g (by omega)]
  ·
   obtain ⟨r,hr,k1,_⟩:=h
   have:=hlow r hr
   omega
def Znh:RS→Int
 | []=>0
 | r::t=>(r.2.1+1 - r.1)+Znh t
theorem ZrG : ∀ {t:RS} {a b:Int},Can t→(∀ r∈t,a≤r.1∧r.2.1<b)→a≤b→0≤Znh t∧Znh t≤b - a
 | [],a,b,_,_,h=>⟨Int.le_refl _,by show (0:Int)≤_;omega⟩
 | r::t,a,b,hc,hr,h=>by
  have hf:=hc.head
  obtain ⟨h1,h2⟩:=hr r List.mem_cons_self
  obtain ⟨i1,i2⟩:=ZrG (t:=t) (a:=r.2.1+1) (b:=b) hc.tail (fun x hx=>by
   have:=(List.pairwise_cons.mp hc.apart).1 x hx
   exact ⟨by omega,(hr x (List.mem_cons_of_mem _ hx)).2⟩) (by omega)
  show 0≤(r.2.1+1 - r.1)+Znh t∧(r.2.1+1 - r.1)+Znh t≤b - a
  omega
theorem ZuT (g:Int→Int) : ∀ (suf pre:RS) (acc:Int) (m:Nat),suf.length<m→(pre++suf).length≤1000000→(∀ r∈suf,r.1≤r.2.1)→0≤acc→acc+Znh suf≤4611686018427387904→0≤Znh suf →
  ZIM m acc (ZDS g (pre++suf)) (((pre++suf).length:Nat):Int) ((pre.length:Nat):Int)=some (acc+Znh suf,()):=by
 intro suf
 induction suf with
 | nil=>
  intro pre acc m hm hl hf h0 h1 h2
  obtain ⟨m,rfl⟩ : ∃ k,m=k+1:=⟨m - 1,by omega⟩
  simp only [List.append_nil,ZIM,ZTn,Int.lt_irrefl,decide_false,cond_false,Znh,Int.add_zero]
 | cons x suf ih=>
  intro pre acc m hm hl hf h0 h1 h2
  obtain ⟨m,rfl⟩ : ∃ k,m=k+1:=⟨m - 1,by omega⟩
  have hx:=hf x List.mem_cons_self
  have hcs:0≤Znh suf:=by
   have : ∀ s:RS,(∀ r∈s,r.1≤r.2.1)→0≤Znh s:=by
    intro s
    induction s with
    | nil=>intro _;exact Int.le_refl _
    | cons y s ihs=>
     intro h
     have:=h y List.mem_cons_self
     have:=ihs (fun r hr=>h r (List.mem_cons_of_mem _ hr))
     show 0≤(y.2.1+1 - y.1)+Znh s
     omega
   exact this suf (fun r hr=>hf r (List.mem_cons_of_mem _ hr))
  have hc:Znh (x::suf)=(x.2.1+1 - x.1)+Znh suf:=rfl
  rw [hc] at h1 ⊢
  have e:ZDS g (pre++x::suf)=ZDS g pre++prt g x::ZDS g suf:=by simp [ZDS]
  have hpl:(ZDS g pre).length=pre.length:=ZEl g pre
  have hgd:(ZDS g pre++prt g x::ZDS g suf).getD pre.length (Ty.dflt ZAM)=prt g x:=by
   rw [← hpl];exact ZDC _ _ _ _
  have hlt:(((pre.length:Nat):Int)<(((ZDS g pre++prt g x::ZDS g suf).length:Nat):Int))=True:=by
   rw [← hpl];exact ZLV _ _ _
  have w2:(((prt g x).2.1.size:Nat):Int)=x.2.1+1 - x.1:=by
   show (((seg g x.1 x.2.1).size:Nat):Int)=_
   rw [ZU4];omega
  have w3:IntKind.wrap .i64 (acc+(x.2.1+1 - x.1))=acc+(x.2.1+1 - x.1):=wrap_i64 _ (by omega) (by omega)
  simp only [ZIM,ZTn,ZLV,nn,and_true,decide_true,cond_true,ZDD,e,hgd,hlt,w2,w3]
  rw [ZJE pre x x suf (by omega)]
  have:=ih (pre++[x]) (acc+(x.2.1+1 - x.1)) m (by simp at hm;omega) (by simpa using hl) (fun r h=>hf r (List.mem_cons_of_mem _ h)) (by omega) (by omega) hcs
  rw [← ZID,e] at this
  rw [this]
  congr 2
  omega
theorem ZuU (g:Int→Int) (t:RS) (s:ZAD) (hs:s.2.1=ZDS g t) (ht:Plc t) (hl:t.length≤1000000):ZPd s=some (Znh t,()):=by
 rw [Zd3,ZSW,ZXp,ZRP,hs]
 obtain ⟨h1,h2⟩:=ZrG (a:=0) (b:=4611686018427387904) ht.can ht.rng (by omega)
 have:=ZuT g t [] 0 (Int.toNat (((t.length:Nat):Int) - 0)+2) (by omega) (by simpa using hl) ht.can.full (by omega) (by omega) h1
 simp only [List.nil_append,List.length_nil,Int.natCast_zero,Int.zero_add] at this
 rw [ZEl]
 exact this
end Go.Proofs.YtamaklnhjagifaaGreatDoor.V
namespace Go.Proofs.YtamaklnhjagifaaGreatDoor.V
open Go.RowKit Go.Proofs.Tryz
set_option linter.unusedVariables false
set_option maxRecDepth 100000
noncomputable def ZiA:Mach prog Inv ZAq:=ZFE bas [(84,f84)] ⟨Zx6,trivial⟩ [] trivial [] trivial [] trivial
/-! ### (domino/sendq.State).end -/
@[reducible] def ZXq:List Ty:=[(.int .u64)]
def ZgZ:List Nat:=[84]
noncomputable def ZKW (a0:ZAF):Option (Int×Unit) :=
 let n1:Int:=(((ByteArray.size a0.2.2.1):Nat):Int)
 let n2:Int:=(Go.IntKind.wrap Go.IntKind.u64 n1)
 let n3:Int:=(Go.IntKind.wrap Go.IntKind.u64 (a0.1+n2))
 some (n3,())
theorem ZVQ : ∃ f,f = @ZKW:=⟨_,rfl⟩
noncomputable def ZD4:=Classical.choose ZVQ
theorem ZVR : @ZD4 = @ZKW:=Classical.choose_spec ZVQ
noncomputable def ZNn:Con:=⟨[ZAT],ZXq,fun x=>ZKW x.1⟩
noncomputable def ZDl:Con:=⟨[ZAT],ZXq,fun x=>ZD4 x.1⟩
theorem ZbX:ZNn.Sound prog Inv ZAq 84 :=
 ZAm (M:=ZiA) ZBo (f:=f84) rfl ZgZ 100000 (X:=nowhere) (fun base S0 cs0 hn hf=>ZAH.nowhere) (by intro x;kernel_rfl)
theorem ZG6:ZDl.Sound prog Inv ZAq 84:=by
 have e:ZDl=ZNn:=by unfold ZDl ZNn;rw [ZVR]
 rw [e];exact ZbX
noncomputable def Zoi:Mach prog Inv ZAq:=ZFE bas [(23,f23)] ⟨ZzC,trivial⟩ [(84,ZDl),(85,ZMf)] ⟨⟨ZG6,ZAa.callable Zx6⟩,⟨ZTU,ZAa.callable ZzE⟩,trivial⟩ [] trivial [] trivial
/-! ### domino/sendq.Write -/
@[reducible] def Zga:List Ty:=[ZAT,(.int .i64)]
def Zmh:List Nat:=[23]
noncomputable def ZSX (a0:ZAF) (a1:ByteArray) (a2:Int):Option (ZAF×Int×Unit) :=
 let s3:ByteArray:=(ByteArray.mk (List.toArray ([]:List UInt8)))
 let n4:Int:=(((ByteArray.size a1):Nat):Int)
 let n5:Int:=(if (a2>(0:Int)) then a2 else (0:Int))
 let n6:Int:=(((ByteArray.size a0.2.2.1):Nat):Int)
 let n7:Int:=(Go.IntKind.wrap Go.IntKind.i64 (n5 - n6))
 let n8:Int:=(if (n7<n4) then n7 else n4)
 bif a0.2.2.2.2.2.1 then
  some (a0,((0:Int),()))
 else
  let b9:Bool:=(decide (n8≤(0:Int)))
  bif b9 then
   some (a0,((0:Int),()))
  else
   ZAX (ZD4 a0) fun y10=>
   let n11:Int:=(Go.IntKind.wrap Go.IntKind.u64 n8)
   let n12:Int:=(Go.IntKind.wrap Go.IntKind.u64 (y10.1+n11))
   let n13:Int:=(Go.IntKind.wrap Go.IntKind.u64 (n12 - (1:Int)))
   ZAX (ZS3 a0.2.2.2.2.1 (y10.1,(n13,()))) fun y14=>
   bif (decide (((0:Int)≤(0:Int))∧(((0:Int)≤n8)∧(n8≤(((ByteArray.size a1):Nat):Int))))) then
    let s15:ByteArray:=(ByteArray.extract a1 0 (Int.toNat n8))
    bif (decide (((ByteArray.size a0.2.2.1)+(ByteArray.size s15))≤9223372036854775807)) then
     let s16:ByteArray:=(a0.2.2.1++s15)
     some ((a0.1,(a0.2.1,(s16,(a0.2.2.2.1,(y14.1,a0.2.2.2.2.2))))),(n8,()))
    else none
   else none
theorem Zd5 : ∃ f,f = @ZSX:=⟨_,rfl⟩
noncomputable def ZIN:=Classical.choose Zd5
theorem Zd6 : @ZIN = @ZSX:=Classical.choose_spec Zd5
noncomputable def ZWK:Con:=⟨[ZAT,.str,(.int .i64)],Zga,fun x=>ZSX x.1 x.2.1 x.2.2.1⟩
noncomputable def ZKX:Con:=⟨[ZAT,.str,(.int .i64)],Zga,fun x=>ZIN x.1 x.2.1 x.2.2.1⟩
theorem ZiB:ZWK.Sound prog Inv ZAq 23 :=
 ZAm (M:=Zoi) ZBo (f:=f23) rfl Zmh 100000 (X:=nowhere) (fun base S0 cs0 hn hf=>ZAH.nowhere) (by intro x;kernel_rfl)
theorem ZRQ:ZKX.Sound prog Inv ZAq 23:=by
 have e:ZKX=ZWK:=by unfold ZKX ZWK;rw [Zd6]
 rw [e];exact ZiB
noncomputable def Zmi:Mach prog Inv ZAq:=ZFE bas [(24,f24)] ⟨Zzv,trivial⟩ [] trivial [] trivial [] trivial
/-! ### domino/sendq.Finish -/
@[reducible] def Zd7:List Ty:=[ZAT]
def ZlL:List Nat:=[24]
noncomputable def ZPy (a0:ZAF):Option (ZAF×Unit) :=
 let s1:ByteArray:=(ByteArray.mk (List.toArray ([]:List UInt8)))
 bif a0.2.2.2.2.2.2.1 then
  some ((a0.1,(a0.2.1,(a0.2.2.1,(a0.2.2.2.1,(a0.2.2.2.2.1,(true,(true,a0.2.2.2.2.2.2.2))))))),())
 else
  let b2:Bool:=(!a0.2.2.2.2.2.1)
  some ((a0.1,(a0.2.1,(a0.2.2.1,(a0.2.2.2.1,(a0.2.2.2.2.1,(true,(b2,a0.2.2.2.2.2.2.2))))))),())
theorem ZbY : ∃ f,f = @ZPy:=⟨_,rfl⟩
noncomputable def ZVS:=Classical.choose ZbY
theorem ZbZ : @ZVS = @ZPy:=Classical.choose_spec ZbY
noncomputable def ZTo:Con:=⟨[ZAT],Zd7,fun x=>ZPy x.1⟩
noncomputable def ZPz:Con:=⟨[ZAT],Zd7,fun x=>ZVS x.1⟩
theorem Zgb:ZTo.Sound prog Inv ZAq 24 :=
 ZAm (M:=Zmi) ZBo (f:=f24) rfl ZlL 100000 (X:=nowhere) (fun base S0 cs0 hn hf=>ZAH.nowhere) (by intro x;kernel_rfl)
theorem ZiC:ZPz.Sound prog Inv ZAq 24:=by
 have e:ZPz=ZTo:=by unfold ZPz ZTo;rw [ZbZ]
 rw [e];exact Zgb
end Go.Proofs.YtamaklnhjagifaaGreatDoor.V
