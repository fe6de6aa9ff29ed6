/- The law StreamReset, part 10: what is proved: for every input that can be read the call of StreamReset returns true and leaves its arguments alone. No conditions but the listed tables of the card. -/
import Derived.Test.YtamaklnhjagifaaGreatDoorRows
import Derived.Test.YtamaklnhjagifaaGreatDoorCards
import Derived.Test.YtamaklnhjagifaaGreatDoorTie
import Derived.SevenTiedAt
import Derived.Test.YtamaklnhjagifaaGreatDoorZ9
/- The law StreamReset: for every input that can be read the call returns true and leaves its arguments alone: the row,and the tied card. No conditions but that the listed tables are laid (which the card ties to the program's text). -/
namespace Go.Proofs.YtamaklnhjagifaaGreatDoor.V.RowStreamReset
open Go.ChangeShapes Go.WideShapes Go.ChangeAt Go.RowKit Go.Proofs
set_option linter.unusedVariables false
set_option maxRecDepth 100000
theorem own:ownKnob Tryz.prog.godebug=none:=by kernel_rfl
set_option maxHeartbeats 20000000 in
theorem ZfS:laidOutB Tryz.prog=true:=by kernel_rfl
set_option maxHeartbeats 20000000 in
theorem ZZT (os:Os) (args:Array Value):laidMetH Tryz.prog [("math/bits.deBruijn32tab",Rows.laid_math_bits_deBruijn32tab),("math/bits.deBruijn64tab",Rows.laid_math_bits_deBruijn64tab)] ((World.doorLaid Tryz.prog 400 os).forCall (fun _ _=>0) ⟨#[],args,[]⟩).memory :=
 laidMetH_of_parts3 (fuel:=8) (laidMet_of_run' 8 (by kernel_rfl) (by kernel_rfl)) (by kernel_rfl) (by kernel_rfl)
set_option maxHeartbeats 20000000 in
theorem ZmH {W:World} (h:laidMetH Tryz.prog [("math/bits.deBruijn32tab",Rows.laid_math_bits_deBruijn32tab),("math/bits.deBruijn64tab",Rows.laid_math_bits_deBruijn64tab)] W):Inv W:=by
 rw [MakeChecks.laidMetH_plain _ _ _ (by kernel_rfl)] at h
 obtain ⟨ps,⟨g0,t0,cs0,f0,p0,q0,hg0,ht0,hv0,hd0,⟨g1,t1,cs1,f1,p1,q1,hg1,ht1,hv1,hd1,_,_⟩,_⟩,_,_⟩:=h
 obtain ⟨gg0,tt0⟩:Tryz.prog.globalNamed "math/bits.deBruijn32tab" = some 0∧(Tryz.prog.globals[0]?).map (·.type)=some 328:=⟨by kernel_rfl,by kernel_rfl⟩
 obtain rfl:=Option.some.inj (gg0.symm.trans hg0)
 obtain rfl:=Option.some.inj (tt0.symm.trans ht0)
 obtain ⟨gg1,tt1⟩:Tryz.prog.globalNamed "math/bits.deBruijn64tab" = some 1∧(Tryz.prog.globals[1]?).map (·.type)=some 329:=⟨by kernel_rfl,by kernel_rfl⟩
 obtain rfl:=Option.some.inj (gg1.symm.trans hg1)
 obtain rfl:=Option.some.inj (tt1.symm.trans ht1)
 have i1:=Ziz (k := .u8) (l:=[0,1,56,2,57,49,28,3,61,58,42,50,38,29,17,4,62,47,59,36,45,43,51,22,53,39,33,30,24,18,12,5,63,55,48,27,60,41,37,16,46,35,44,21,52,32,23,11,54,26,40,15,34,20,31,10,25,14,19,9,13,8,7,6]) hg1 hv1 Tryz.underlying329 (by kernel_rfl) (by kernel_rfl) (by kernel_rfl) (by kernel_rfl) hd1 (r:=[]) trivial
 have i0:=Ziz (k := .u8) (l:=[0,1,28,2,29,14,24,3,30,22,20,15,25,17,4,8,31,27,13,23,21,19,16,7,26,12,18,6,11,5,10,9]) hg0 hv0 Tryz.underlying328 (by kernel_rfl) (by kernel_rfl) (by kernel_rfl) (by kernel_rfl) hd0 i1.1
 exact ⟨i1.2,i0.1⟩
set_option maxHeartbeats 20000000 in
theorem ZmI (os:Os) (started:os.Started) (H:Type) (enc:TypeId×Value→H) :
  ReturnsInHanded {} Tryz.checked os 6 .any (fun w args=>(Rows.streamResetSpec.pre enc Tryz.prog Tryz.f6 [] false w args∧laidMetH Tryz.prog [("math/bits.deBruijn32tab",Rows.laid_math_bits_deBruijn32tab),("math/bits.deBruijn64tab",Rows.laid_math_bits_deBruijn64tab)] w)∧sizedMet enc Tryz.prog Tryz.f6 (OpenSpec.ofChange Rows.streamResetSpec) false w args) (Rows.streamResetSpec.post enc Tryz.prog Tryz.f6 false true false false):=by
 refine returnsInHanded_of_change_and (C:=Tryz.checked) (X:=fun w _=>laidMetH Tryz.prog [("math/bits.deBruijn32tab",Rows.laid_math_bits_deBruijn32tab),("math/bits.deBruijn64tab",Rows.laid_math_bits_deBruijn64tab)] w) (fun _ _ _ hh h=>h.of_heap hh) own started (by kernel_rfl) Tryz.func6
  (ChangeSpec.witness_shaped (enc:=enc) (C:=Tryz.checked) (os:=os) (X:=fun w _=>laidMetH Tryz.prog [("math/bits.deBruijn32tab",Rows.laid_math_bits_deBruijn32tab),("math/bits.deBruijn64tab",Rows.laid_math_bits_deBruijn64tab)] w) false (World.doorLaid Tryz.prog 400 os) (ZCU.params.map Zvf).toArray 8 rfl (World.shaped_of_RefB (by kernel_rfl) (by kernel_rfl)) (by kernel_rfl) (by kernel_rfl) (by kernel_rfl) (ZZT os _)) ?_
 intro W base args ds gs before hval hW hcnd hsz hL _
 have hI:=ZmH hL
 have hW':=hW
 obtain ⟨p,q,hA,hV,rfl,hfz,hnd⟩:=hW
 obtain ⟨x,hx,hwf⟩:=Zfq (n:=20) (ts:=ZCU.params) (by kernel_rfl) hA (fun j T v h1 h2=>hval j T v (by simpa using h1) (by simpa using h2))
 have hlen:ds.length=4:=(ZLU hA).trans (by kernel_rfl)
 obtain ⟨d1,d2,d3,d4,rfl⟩ : ∃ d1 d2 d3 d4,ds=[d1,d2,d3,d4]:=by match ds,hlen with | [d1,d2,d3,d4],_=>exact ⟨d1,d2,d3,d4,rfl⟩
 obtain ⟨rfl,rfl⟩:=trodVars_none hV
 refine (Zfr (K:=6) Zal hI hx (ZnA x hwf)).mono fun e W' ⟨he,bel⟩ => ?_
 subst he
 exact ⟨_,rfl,_,_,_,[],_,[],hW',trodAll_mk1 (shut_bool Tryz.underlying4 _),ZNK ZfS bel (by kernel_rfl) hA,rfl,bel.frame _,fun h=>by cases h⟩
set_option maxHeartbeats 20000000 in
theorem ZmJ:Rows.StreamResetSaid :=
 OpenClaim.holds_of_wide 6 Tryz.f6 rfl rfl rfl rfl rfl rfl rfl ⟨rfl,rfl,rfl,rfl,rfl⟩ rfl rfl rfl rfl rfl (by kernel_rfl) Tryz.func6 ZmG
  (of_decide_eq_true (by kernel_rfl)) (by unfold Func.isWrapper;first | (rw [if_pos (by decide +kernel)];kernel_rfl) | (rw [if_neg (by decide +kernel)];exact ⟨rfl,rfl⟩))
  (fun os started H enc _=>ZmI os started H enc)
set_option maxHeartbeats 20000000 in
theorem card:Rows.StreamResetCardSaid :=
 Claim7.holds_tied_plain_at .later [] [.data,.data] true (true, "925ab14a6ff5c654884842bc07cd8d9e12b4bff027cf1a1b23f5725f63cb080e") false
  ZmJ (fun _ h=>by cases h) (by kernel_rfl) (fun _ h=>by cases h) streamReset_row_tie rfl ⟨rfl,rfl⟩ (by kernel_rfl) rfl
  (fun f fn hf hfn=>by
   obtain rfl:f=6:=Option.some.inj ((show Tryz.prog.funcNamed "domino/dominolaw16.StreamReset" = some 6 by kernel_rfl).symm.trans hf) |>.symm
   obtain rfl:fn=Tryz.f6:=(Option.some.inj (Tryz.func6.symm.trans hfn)).symm
   exact ⟨looks,fun j t ht=>by
    have hp:Tryz.f6.params = #[9,5,69,4]:=rfl
    rw [hp] at ht
    exact ZfR t (by
     have:=List.mem_of_getElem? (l:=[9,5,69,4]) (i:=j) (a:=t) (by simpa using ht)
     exact this)⟩)
  Zxb
end Go.Proofs.YtamaklnhjagifaaGreatDoor.V.RowStreamReset
namespace Go.Proofs.YtamaklnhjagifaaGreatDoor
theorem streamReset_card:Rows.StreamResetCardSaid:=V.RowStreamReset.card
end Go.Proofs.YtamaklnhjagifaaGreatDoor
