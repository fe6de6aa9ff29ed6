/- The law IdsOnce, part 3 of 6: what is proved: for every input that can be read the call of IdsOnce returns true and leaves its arguments alone. No conditions but the listed tables of the card. -/
import Derived.Carry
import Derived.ChangeOld
import Derived.ChangeShapes
import Derived.ChangeSlices
import Derived.ChangeArms
import Derived.SizedLaws
import Derived.JoinedOf
import Derived.ShutString
import Derived.WalkKit
import Derived.ProofKit
import Derived.OpenShut
import Derived.Laws.Strings
import Derived.Test.YtjlfmolfcgennaaDoorProg
import Derived.KernelRfl
import Derived.Laws.Externs
import Derived.Lib.Builder
import Derived.Laws.Cover3
import Derived.Test.YtjlfmolfcgennaaDoorZ2
namespace Go.Proofs.YtjlfmolfcgennaaDoor.V
open Go.RowKit
section
variable {P : Program} {I : World → Prop} {g : Nat} {M : Mach P I g} {ops : Array Oper}
variable {base : Base} {S0 : Nat → Prop} {ρ : Loc} {H : Heap} {w : World} {S : Nat → Prop}
theorem slot_rel {env : List PV} {a : Act} (he : PRels ρ H w S env a.tmps.toList) (t : Tmp) : PRel ρ H w S (env.getD t .junk) (a.tmps.getD t undef) := by
 cases h : env[t]? with
 | none => simp only [List.getD, h, Option.getD_none, PRel]
 | some p =>
  obtain ⟨v, h1, h2⟩ := he.get t p h
  have : a.tmps[t]? = some v := by simpa using h1
  simp only [List.getD, h, Option.getD_some, Array.getD_eq_getD_getElem?, this]
  exact h2
theorem evalP_rel (M : Mach P I g) (hg : Low g base S0) (hI : I w) (hh : HRel base S0 ρ H w S) {env : List PV} {a : Act} (he : PRels ρ H w S env a.tmps.toList) (x : Operand) : PRel ρ H w S (evalP M.gl env x) (a.eval x) := by
 cases x with
 | tmp t => exact slot_rel he t
 | const v => rfl
 | global k => exact M.gl_ok k w S hI (hg.all hh) ρ H
 | func f => exact ⟨_, _, rfl, rfl, rfl⟩
theorem putP_rel {env : List PV} {a : Act} {p : PV} {v : Value} (he : PRels ρ H w S env a.tmps.toList) (hp : PRel ρ H w S p v) (dst : Option Tmp) : PRels ρ H w S (putP env dst p) (a.put dst v).tmps.toList := by
 cases dst with
 | none => exact he
 | some d =>
  simp only [putP, Act.put]
  have : (a.tmps.setIfInBounds d v).toList = a.tmps.toList.set d v := by simp
  rw [this]
  exact he.set d hp
theorem put_defers' (a : Act) (dst : Option Tmp) (v : Value) : (a.put dst v).defers = a.defers := by cases dst <;> rfl
theorem wanted_conc {env : List PV} {a : Act} {o : Oper} {b : Bool} (he : PRels ρ H w S env a.tmps.toList) (hw : Wanted ops o env b) : Region.wanted o (yielded ops a.tmps) = b := by
 unfold Wanted at hw
 unfold Region.wanted
 split at hw
 · rename_i hg; rw [hg]; exact hw.symm
 ·
  rename_i j want hg
  rw [hg]
  simp only
  unfold yielded
  split at hw
  · rename_i hd; rw [hd, hw]; rfl
  ·
   rename_i d hd
   rw [hd]
   have get : ∀ x, env.getD d .junk = .val x → a.tmps[d]? = some x := by
    intro x hx
    cases h : env[d]? with
    | none => rw [List.getD, h] at hx; cases hx
    | some p =>
     rw [List.getD, h] at hx
     simp only [Option.getD_some] at hx
     subst hx
     obtain ⟨v, h1, h2⟩ := he.get d _ h
     simp only [PRel] at h2
     subst h2
     simpa using h1
   split at hw
   ·
    rename_i x hx
    have := get _ hx
    simp only [Option.bind_some, this]
    rw [hw]
    cases x <;> cases want <;> rfl
   ·
    rename_i x hx
    have := get _ hx
    simp only [Option.bind_some, this, hw]
    rfl
   · exact hw.elim
theorem call_run (hg : Low g base S0) (hI : I w) (hh : HRel base S0 ρ H w S) {o : Oper} {env : List PV} {a : Act} {K : Nat} {args : List PV} (he : PRels ρ H w S env a.tmps.toList) (hc : callParts o (evalP M.gl env) = some (K, args)) (hk : Callable P K) :
  ∃ vs, (execOp a.eval o).run P w = .ok (.enter K vs) w ∧ PRels ρ H w S args vs.toList := by
 obtain ⟨dst, op, ty, pos, aft, gd⟩ := o
 unfold callParts at hc
 split at hc
 ·
  rename_i c hop
  simp only at hop
  subst hop
  split at hc
  ·
   rename_i f hcl
   split at hc
   ·
    rename_i K' first captured hf
    cases hc
    have hfr := evalP_rel M hg hI hh he f
    rw [hf] at hfr
    simp only [PRel] at hfr
    obtain ⟨fa, ca, hfv, h1, h2⟩ := hfr
    obtain ⟨fn, k1, k2, k3⟩ := hk
    refine ⟨(fa ++ c.args.map a.eval) ++ ca, ?_, ?_⟩
    ·
     simp only [execOp, resolve, hcl, hfv, Deferred.ofValue, Sem.run_bind, Sem.run_pure, Result.andThen_ok, invoke, callFunc, run_program, k1, k2]
     have : fn.body.isNone = false := by cases hb : fn.body <;> simp_all
     simp [this]
    ·
     simp only [Array.toList_append, Array.toList_map]
     exact (h1.append (PRels.map (fun x => evalP_rel M hg hI hh he x) c.args.toList)).append h2
   · cases hc
  · cases hc
 · cases hc
theorem ext_run (hg : Low g base S0) (hI : I w) (hh : HRel base S0 ρ H w S) {o : Oper} {env : List PV} {a : Act} {K : Nat} {p : PV} (he : PRels ρ H w S env a.tmps.toList) (hc : callParts o (evalP M.gl env) = some (K, [p]))
  (hk : ∀ v w, (callFunc K #[v]).run P w = .ok (.value v) w) :
  ∃ v, (execOp a.eval o).run P w = .ok (.value v) w ∧ PRel ρ H w S p v := by
 obtain ⟨dst, op, ty, pos, aft, gd⟩ := o
 unfold callParts at hc
 split at hc
 ·
  rename_i c hop
  simp only at hop
  subst hop
  split at hc
  ·
   rename_i f hcl
   split at hc
   ·
    rename_i K' first captured hf
    simp only [Option.some.injEq, Prod.mk.injEq] at hc
    obtain ⟨rfl, hargs⟩ := hc
    have hfr := evalP_rel M hg hI hh he f
    rw [hf] at hfr
    simp only [PRel] at hfr
    obtain ⟨fa, ca, hfv, h1, h2⟩ := hfr
    have hrels := (h1.append (PRels.map (fun x => evalP_rel M hg hI hh he x) c.args.toList)).append h2
    rw [hargs] at hrels
    simp only [PRels] at hrels
    obtain ⟨u, us, e1, e2, e3⟩ := hrels
    subst e3
    have hone : (fa ++ c.args.map a.eval) ++ ca = #[u] := by
     apply Array.ext'
     simpa using e1
    refine ⟨u, ?_, e2⟩
    simp only [execOp, resolve, hcl, hfv, Deferred.ofValue, Sem.run_bind, Sem.run_pure, Result.andThen_ok, invoke, hone, hk]
   · cases hc
  · cases hc
 · cases hc
theorem opstep_wp (hg : Low g base S0) (hI : I w) (hh : HRel base S0 ρ H w S) {env env' : List PV} {H' : Heap} {a : Act} {i : Nat} {ft : Ft} {Q : Exit → Act → World → Prop} {K : Act → World → Prop}
  (he : PRels ρ H w S env a.tmps.toList) (hs : OpStep M ops i env H env' H' ft)
  (hK : ∀ ρ' w' S' a', I w' → HRel base S0 ρ' H' w' S' → Ext base ρ H w S ρ' H' w' S' → PRels ρ' H' w' S' env' a'.tmps.toList → a'.defers = a.defers → K a' w') : wpOp P ops Q i K a w := by
 obtain ⟨o, e, ho, ha, rfl, rfl⟩ := hs
 unfold wpOp
 simp only [ho]
 cases ha with
 | skip hw =>
  have := wanted_conc he hw
  rw [this]
  simp only [Bool.false_eq_true, if_false]
  have hx : (keepE nothing).heap H = H := by simp [keepE, Eff.heap, setAll]
  rw [hx] at hK
  exact hK ρ w S _ hI hh Ext.refl (putP_rel he (by simp only [keepE, nothing, PRel, undef]) o.dst) (put_defers' _ _ _)
 | op hw hr =>
  have := wanted_conc he hw
  rw [this]
  simp only [if_true]
  have hap := OpR.eff_apply hr H
  obtain ⟨ρ', w', S', v, hrun, h1, h2, h3⟩ := op_did hh (fun x => evalP_rel M hg hI hh he x) hap
  left
  unfold Oper.wp
  have hI' := M.keep _ _ g (Nat.le_refl _) (h2.below.below hg.1) hI
  have fin := hK ρ' w' S' (a.put o.dst v) hI' h1 h2 (putP_rel (h2.rels he) h3 o.dst) (put_defers' _ _ _)
  rcases hrun with hrun | ⟨hrun, rfl⟩
  · rw [hrun]; exact fin
  · rw [hrun]; exact fin
 | @call Kf args c x y hw hc hk hd hF =>
  have := wanted_conc he hw
  rw [this]
  simp only [if_true]
  left
  obtain ⟨hsound, hcall⟩ := M.con_ok _ _ hk
  obtain ⟨vs, hrun, hargs⟩ := call_run hg hI hh he hc hcall
  unfold Oper.wp
  rw [hrun]
  show Calls P Kf vs w _
  obtain ⟨S1, f1, f2⟩ := frzH_rel (idsOf c.params args) hh
  have hrep := decArgs_rel f1 (fun b hb => hb) hd (f2.rels hargs)
  refine (hsound x y hF w S1 vs hI (fun b hb => ⟨hg.all f1 b hb, f1.lt b hb⟩) hrep).mono ?_
  rintro e w' ⟨v, rfl, hres, hbel⟩
  show K (a.put o.dst v) w'
  have hl : HRel base S0 ρ (frzH H (idsOf c.params args)) w' S1 := f1.later hbel.size hbel.block
  have hx2 : Ext base ρ (frzH H (idsOf c.params args)) w S1 ρ (frzH H (idsOf c.params args)) w' S1 := Ext.later f1.base_le hbel
  have hx := f2.trans hx2
  have hheap : (Eff.heap ⟨fun _ => resPV c.results y, frzEdits H (idsOf c.params args), []⟩ H) = frzH H (idsOf c.params args) := by
   simp [Eff.heap, frzEdits_heap]
  rw [hheap] at hK
  exact hK ρ w' S1 _ (M.keep _ _ g (Nat.le_refl _) (hx.below.below hg.1) hI) hl hx (putP_rel (hx.rels he) (resPV_rel hres) o.dst) (put_defers' _ _ _)
 | @ocall Kf args c x y hw hc hk hd hF =>
  have := wanted_conc he hw
  rw [this]
  simp only [if_true]
  left
  obtain ⟨hsound, hcall⟩ := M.ocon_ok _ _ hk
  obtain ⟨vs, hrun, hargs⟩ := call_run hg hI hh he hc hcall
  unfold Oper.wp
  rw [hrun]
  show Calls P Kf vs w _
  obtain ⟨S1, f1, f2⟩ := frzH_rel (idsOf c.params args) hh
  have hrep := decArgs_rel f1 (fun b hb => hb) hd (f2.rels hargs)
  refine (hsound x y hF w S1 vs hI (fun b hb => ⟨hg.all f1 b hb, f1.lt b hb⟩) hrep).mono ?_
  rintro e w' ⟨v, rfl, hres, hbel⟩
  show K (a.put o.dst v) w'
  obtain ⟨ρ', S', g1, g2, g3⟩ := f1.adopt hbel hres
  have hx := f2.trans g2
  have hlen : (frzH H (idsOf c.params args)).length = H.length := by rw [← frzEdits_heap, setAll_length]
  have hheap : (Eff.heap ⟨.all, frzEdits H (idsOf c.params args), [some (.row c.t y)]⟩ H) = frzH H (idsOf c.params args) ++ [some (.row c.t y)] := by
   simp [Eff.heap, frzEdits_heap]
  rw [hheap] at hK
  rw [hlen] at g3
  exact hK ρ' w' S' _ (M.keep _ _ g (Nat.le_refl _) (hx.below.below hg.1) hI) g1 hx (putP_rel (hx.rels he) g3 o.dst) (put_defers' _ _ _)
 | @hcall Kf args c x s r hw hc hk hm hF hbad =>
  have := wanted_conc he hw
  rw [this]
  simp only [if_true]
  left
  obtain ⟨hsound, hcall⟩ := M.hcon_ok _ _ hk
  obtain ⟨vs, hrun, hargs⟩ := call_run hg hI hh he hc hcall
  unfold Oper.wp
  rw [hrun]
  show Calls P Kf vs w _
  obtain ⟨B', S0', ρ', S', g1, g2, g3, _, g4⟩ := hcall_rel hg hh hm hargs
  refine (hsound x r hF B' S0' ρ' w S' vs hI g3 g1 g2).mono ?_
  rintro e w' ⟨_, hgood⟩
  obtain ⟨v, ρ2, S2, rfl, k1, k2, k3⟩ := hgood hbad
  show K (a.put o.dst v) w'
  obtain ⟨ρn, Sn, q1, q2, q3⟩ := g4 w' ρ2 S2 _ _ v k1 k3 k2 (freeOut_ok r)
  exact hK ρn w' Sn _ (M.keep _ _ g (Nat.le_refl _) (q2.below.below hg.1) hI) q1 q2 (putP_rel (q2.rels he) q3 o.dst) (put_defers' _ _ _)
 | @ext Kf p hw hc hk =>
  have := wanted_conc he hw
  rw [this]
  simp only [if_true]
  left
  obtain ⟨v, hrun, hv⟩ := ext_run hg hI hh he hc (M.ext_ok _ hk)
  unfold Oper.wp
  rw [hrun]
  have hx : (keepE p).heap H = H := by simp [keepE, Eff.heap, setAll]
  rw [hx] at hK
  exact hK ρ w S _ hI hh Ext.refl (putP_rel he hv o.dst) (put_defers' _ _ _)
theorem oppan_wp (hg : Low g base S0) (hI : I w) (hh : HRel base S0 ρ H w S) {env env' : List PV} {H' : Heap} {a : Act} {i : Nat} {ft : Ft} {Q : Exit → Act → World → Prop} {K : Act → World → Prop} {pv : Value}
  (he : PRels ρ H w S env a.tmps.toList) (hs : OpStepB M ops i env H env' H' ft (some pv))
  (hQ : ∀ w', Keeps base.B w w' → Q (.panic [{ v := pv, recovered := false }]) a w') : wpOp P ops Q i K a w := by
 obtain ⟨o, e, ho, ha, rfl, rfl⟩ := hs
 unfold wpOp
 simp only [ho]
 cases ha with
 | @pcall Kf args c x s r _ hw hc hk hm hF hbad =>
  have := wanted_conc he hw
  rw [this]
  simp only [if_true]
  left
  obtain ⟨hsound, hcall⟩ := M.hcon_ok _ _ hk
  obtain ⟨vs, hrun, hargs⟩ := call_run hg hI hh he hc hcall
  unfold Oper.wp
  rw [hrun]
  show Calls P Kf vs w _
  obtain ⟨B', S0', ρ', S', g1, g2, g3, ⟨gB, _⟩, g4⟩ := hcall_rel hg hh hm hargs
  refine (hsound x r hF B' S0' ρ' w S' vs hI g3 g1 g2).mono ?_
  rintro e w' ⟨hb, _⟩
  obtain ⟨rfl, hk⟩ := hb pv hbad
  exact hQ w' ⟨hk.low, fun b hb => hk.block b (gB b hb)⟩
/-! #### what is new comes to places that are kept for it -/
def Shape (f : Nat → PV) : Prop := ∀ (θ : Nat → Nat) (m n : Nat), θ m = n → ren θ (f m) = f n
theorem Shape.all : Shape .all := fun θ m n h => by simp only [ren, h]
theorem Shape.head : Shape .head := fun θ m n h => by simp only [ren, h]
theorem Shape.mp : Shape .mp := fun θ m n h => by simp only [ren, h]
theorem Shape.ptr (off : Nat) : Shape (fun k => .ptr k off) := fun θ m n h => by simp only [ren, h]
theorem Shape.cs (off len sz : Nat) : Shape (fun k => .cs k off len sz) := fun θ m n h => by simp only [ren, h]
def ShapeR : OpR → Prop
 | .new _ f _ => Shape f
 | .swap _ _ o => ∃ t l, o = .row t l
 | _ => True
theorem shape_ofOpt (o : Option PV) : ShapeR (.ofOpt o) := by cases o <;> trivial
theorem shape_ofTst (o : Tst) : ShapeR (.ofTst o) := by
 cases o with
 | none => trivial
 | some x => obtain ⟨b, p⟩ := x; trivial
theorem shape_var (T : TypeId) (cs : List PV) : ShapeR (varP P T cs) := by
 unfold varP
 repeat' split
 all_goals first | exact Shape.head | exact Shape.ptr _
theorem shape_append (sT xT : TypeId) (s x : PV) (H : Heap) : ShapeR (appendP P sT xT s x H) := by
 unfold appendP
 repeat' split
 all_goals first | trivial | exact Shape.all | exact ⟨_, _, rfl⟩
theorem shape_copy (dT sT : TypeId) (d s : PV) (H : Heap) : ShapeR (copyP P dT sT d s H) := by
 unfold copyP
 repeat' split
 all_goals trivial
theorem shape_appendZ {sT xT : TypeId} {s x : PV} {r : OpR} (h : appendZP P sT xT s x = some r) : ShapeR r := by
 unfold appendZP at h
 split at h
 ·
  simp only [Option.some.injEq] at h
  subst h
  repeat' split
  all_goals first | trivial | exact Shape.all
 · cases h
theorem shape_buildSlice (T : TypeId) (len : Nat) (parts : List (Nat × PV)) : ShapeR (buildSliceP P T len parts) := by
 unfold buildSliceP
 repeat' split
 all_goals first | trivial | exact Shape.all | exact Shape.cs _ _ _
theorem shape_convert (src dst : TypeId) (x : PV) (H : Heap) : ShapeR (convertP P src dst x H) := by
 unfold convertP
 repeat' split
 all_goals first | trivial | exact Shape.all | exact shape_ofOpt _
theorem shape_makeSlice (T : TypeId) (x y : PV) : ShapeR (makeSliceP P T x y) := by
 unfold makeSliceP
 repeat' split
 all_goals first | trivial | exact Shape.all
theorem shape_makeMap (T : TypeId) (r : Option PV) : ShapeR (makeMapP P T r) := by
 have hn : ∀ K E, ShapeR (newMapP P K E) := by
  intro K E
  unfold newMapP
  split
  ·
   rename_i k v _ _
   cases keyIs P K k && valIs P E v with
   | true => exact Shape.mp
   | false => trivial
  · exact Shape.mp
  · trivial
 unfold makeMapP
 repeat' split
 all_goals first | trivial | exact hn _ _
theorem shape_bif {c : Bool} {r : OpR} (h : ShapeR r) : ShapeR (bif c then r else .fail) := by
 cases c with
 | true => exact h
 | false => trivial
theorem shape_lookup (T : TypeId) (x ix : PV) (ok : Bool) (H : Heap) : ShapeR (lookupP P T x ix ok H) := by
 unfold lookupP
 repeat' split
 all_goals first | trivial | exact shape_bif trivial
theorem shape_insert (T : TypeId) (m k x : PV) (H : Heap) : ShapeR (insertP P T m k x H) := by
 unfold insertP
 repeat' split
 all_goals first | trivial | exact shape_bif trivial
theorem shape_mapEntry (T : TypeId) (m k : PV) (H : Heap) : ShapeR (mapEntryP P T m k H) := by
 unfold mapEntryP
 repeat' split
 all_goals first | trivial | exact shape_bif trivial
theorem shape_entryStore (m s x : PV) (H : Heap) : ShapeR (entryStoreP m s x H) := by
 unfold entryStoreP
 repeat' split
 all_goals trivial
theorem opP_shape (o : Oper) (ev : Operand → PV) (H : Heap) : ShapeR (opP P o ev H) := by
 unfold opP
 repeat' split
 all_goals first
  | trivial
  | exact shape_ofOpt _
  | exact shape_ofTst _
  | exact shape_var _ _
  | exact shape_buildSlice _ _ _
  | exact shape_makeSlice _ _ _
  | exact shape_convert _ _ _ _
  | exact shape_makeMap _ _
  | exact shape_lookup _ _ _ _ _
  | exact shape_insert _ _ _ _ _
  | exact shape_mapEntry _ _ _ _
  | exact shape_entryStore _ _ _ _
  | skip
 ·
  unfold storeO
  repeat' split
  all_goals first | trivial | exact shape_ofTst _ | exact shape_ofOpt _ | (unfold storeP; (repeat' split); all_goals trivial)
 ·
  unfold indexAddrO
  repeat' split
  all_goals first | trivial | exact shape_ofTst _ | exact shape_ofOpt _
 ·
  unfold builtinP
  repeat' split
  all_goals first | trivial | exact shape_ofTst _ | exact shape_ofOpt _ | exact shape_append _ _ _ _ _ | exact shape_copy _ _ _ _ _ | exact shape_appendZ (by assumption) | (unfold unsafeStringP; (repeat' split); all_goals trivial)
theorem new_fix (hg : Low g base S0) (hI : I w) (hh : HRel base S0 ρ H w S) {env : List PV} {a : Act} (he : PRels ρ H w S env a.tmps.toList) {o : Oper} {f : Nat → PV} {b : Bool} {x : AO} (hr : opP P o (evalP M.gl env) H = .new b f x) (hb : b = true)
  {θ : Nat → Nat} (hθ : ∀ b, b < H.length → θ b = b) : renO θ (some x) = some x := by
 subst hb
 have key : ∀ ps : List PV, (∀ (ρ : Loc) (H : Heap) (w : World) (S : Nat → Prop) (b : Nat), BlockRel ρ H w S b x → RefsL (Known H) ps) → rens θ ps = ps := by
  intro ps hps
  obtain ⟨ρ1, w1, S1, v1, _, h1, _, _⟩ := op_did hh (fun x => evalP_rel M hg hI hh he x) (show (opP P o (evalP M.gl env) H).applyTo H = some (true, f H.length, H ++ [some x]) by rw [hr]; rfl)
  obtain ⟨ρ', hh', hx'⟩ := hh.pad1
  have he' := hx'.rels he
  have hrd : ∀ b ∈ readsOf o (evalP M.gl env), (H ++ [some AO.res]).at? b = H.at? b := by
   intro b hb
   have hk : ∀ x, ∀ b ∈ ids' (evalP M.gl env x), b < H.length := by
    intro x b hb
    have hr := prel_refs (evalP_rel M hg hI hh he x)
    generalize evalP M.gl env x = p at *
    cases p <;> simp only [ids', List.mem_singleton, List.not_mem_nil] at hb <;> (subst hb; simp only [Refs] at hr; exact hr.lt)
   have hlt : b < H.length := by
    obtain ⟨dst, op, ty, pos, aft, gd⟩ := o
    cases op <;> simp only [readsOf, List.not_mem_nil, List.mem_append, List.mem_flatMap] at hb
    all_goals first | exact hk _ _ hb | (rcases hb with hb | hb <;> exact hk _ _ hb) | (obtain ⟨x, _, hb⟩ := hb; exact hk x _ hb)
   exact at_append_old hlt
  have hop := opP_congr (P := P) (o := o) (ev := evalP M.gl env) (ev' := evalP M.gl env) (fun _ _ => rfl) hrd
  obtain ⟨ρ2, w2, S2, v2, _, h2, _, _⟩ := op_did hh' (fun x => evalP_rel M hg hI hh' he' x) (show (opP P o (evalP M.gl env) (H ++ [some .res])).applyTo (H ++ [some .res]) = some (true, f (H.length + 1), (H ++ [some .res]) ++ [some x]) by rw [hop, hr]; simp [OpR.applyTo])
  have r1 := hps _ _ _ _ _ (h1.block H.length x at_append_new)
  have r2 := hps _ _ _ _ _ (h2.block (H.length + 1) x (by have := at_append_new (H := H ++ [some AO.res]) (x := some x); simpa using this))
  refine rens_fix θ (fun b q1 q2 => hθ b ?_) r1 r2
  have l1 := q1.lt
  simp at l1
  rcases Nat.lt_or_ge b H.length with h | h
  · exact h
  ·
   obtain rfl : b = H.length := by omega
   exact absurd (by rw [at_append_old (by simp), at_append_new]) q2.2
 cases x with
 | cells T cs => simp only [renO]; rw [key cs (fun _ _ _ _ _ h => by obtain ⟨_, _, _, _, _, _, k⟩ := h; exact prels_refs k)]
 | mapF k l ps => simp only [renO]; rw [key ps (fun _ _ _ _ _ h => by obtain ⟨_, _, _, _, k, _⟩ := h; exact prels_refs k)]
 | _ => rfl
theorem OpActN.shift (hg : Low g base S0) (hI : I w) (hh : HRel base S0 ρ H w S) {env : List PV} {a : Act} (he : PRels ρ H w S env a.tmps.toList) {o : Oper} {n : Nat} {e : Eff} {ft : Ft} {b : Option Value} (h : OpActN M ops o env H n e ft b) (hn : e.app ≠ [] → n + e.app.length ≤ H.length) :
  ∃ e' ft', OpAct M ops o env H e' ft' b ∧ e'.app.length = e.app.length ∧ e.val n = ren (moveF H.length n e.app.length) (e'.val H.length) ∧ e.app = e'.app.map (renO (moveF H.length n e.app.length)) ∧
   e.edits = e'.edits.map fun p => (p.1, renO (moveF H.length n e.app.length) p.2) := by
 have triv : ∀ (v : PV) (ed : List (Nat × Option AO)), v = ren (moveF H.length n 0) v ∧ ([] : List (Option AO)) = [].map (renO (moveF H.length n 0)) ∧ ed = ed.map fun p => (p.1, renO (moveF H.length n 0) p.2) := by
  intro v ed
  have hz : ∀ b, moveF H.length n 0 b = b := fun _ => moveF_zero
  refine ⟨(ren_id _ hz v).symm, rfl, ?_⟩
  rw [List.map_congr_left (g := id)]
  · simp
  · intro p _; simp only [renO_id _ hz]; rfl
 cases h with
 | skip h1 => exact ⟨_, _, .skip h1, rfl, triv _ _⟩
 | @op e h1 h2 =>
  refine ⟨_, _, .op h1 h2, rfl, ?_⟩
  have hs := opP_shape (P := P) o (evalP M.gl env) H
  generalize hr : opP P o (evalP M.gl env) H = r at h2 hs
  cases r <;> simp only [OpR.eff, Option.some.injEq, Prod.mk.injEq] at h2 <;> first | (obtain ⟨_, rfl⟩ := h2; exact triv _ _) | skip
  ·
   obtain ⟨rfl, rfl⟩ := h2
   refine ⟨(hs _ _ _ (moveF_new (j := 0) (by simp))).symm, ?_, rfl⟩
   simp only [List.map_cons, List.map_nil, List.cons.injEq, and_true]
   exact (new_fix hg hI hh he hr rfl (fun b hb => moveF_old hb)).symm
  ·
   obtain ⟨rfl, rfl⟩ := h2
   refine ⟨?_, ?_, rfl⟩
   ·
    have := moveF_new (L := H.length) (n := n) (k := 1) (j := 0) (by omega)
    simp only [Nat.add_zero] at this
    simp only [ren, List.length_cons, List.length_nil, Nat.zero_add, this]
   ·
    obtain ⟨t, l, rfl⟩ := hs
    rfl
  · cases h2
 | call h1 h2 h3 h4 h5 => exact ⟨_, _, .call h1 h2 h3 h4 h5, rfl, triv _ _⟩
 | ocall h1 h2 h3 h4 h5 =>
  refine ⟨_, _, .ocall h1 h2 h3 h4 h5, rfl, ?_, rfl, (frzEdits_ren _ _ _).symm⟩
  exact (Shape.all _ _ _ (moveF_new (j := 0) (by simp))).symm
 | @hcall K args c x s r h1 h2 h3 h4 h5 h6 =>
  have hlen : (happF s H (instBs c.qH (c.out r).2)).length = (happN s n (instBs c.qH (c.out r).2)).length := happ_length _ _ _ _
  generalize hHq : instBs c.qH (c.out r).2 = Hq at hlen
  have hlive : ∀ b, some b ∈ padR s.σ Hq.length → b < H.length := by
   intro b hb
   obtain ⟨c', hc'⟩ := List.getElem?_of_mem hb
   exact hmatch_live hh h4 _ (mem_reals ((padR_get _ _ _ _).mp hc').2)
  have hth : (fun b => moveF H.length n (happN s n Hq).length (thetaF s Hq.length H.length b)) = thetaF s Hq.length n := by
   funext c'
   have := theta_move (L := H.length) (n := n) (k := (happN s n Hq).length) (padR s.σ Hq.length) Hq (thetaF s Hq.length n) 0 (padR_length _ _).symm hlive (by simp [happN])
   simp only [Nat.add_zero] at this
   unfold thetaF
   rw [← this]
   simp only [List.getD, List.getElem?_map]
   cases (theta (padR s.σ Hq.length) H.length)[c']? with
   | some y => rfl
   | none =>
    simp only [Option.getD_none, Option.map_none]
    rcases Nat.eq_zero_or_pos H.length with h0 | h0
    ·
     by_cases hk : (happN s n Hq) = []
     · rw [hk]; exact moveF_zero
     ·
      have := hn (by unfold hEffN; rw [hHq]; exact hk)
      unfold hEffN at this
      rw [hHq] at this
      have hp : 0 < (happN s n Hq).length := List.length_pos_iff.mpr hk
      simp only at this
      omega
    · exact moveF_old h0
  refine ⟨_, _, .hcall h1 h2 h3 h4 h5 h6, ?_, ?_, ?_, ?_⟩
  · unfold hEff hEffN; rw [hHq]; exact hlen
  ·
   unfold hEff hEffN
   simp only [hHq, ren_ren]
   rw [hth]
  ·
   unfold hEff hEffN
   simp only [hHq]
   show happ (thetaF s Hq.length n) _ _ = _
   rw [← hth]
   exact happ_ren _ _ _ _
  ·
   unfold hEff hEffN
   simp only [hHq]
   show frzEdits H s.Z ++ hedits (thetaF s Hq.length n) _ _ = (frzEdits H s.Z ++ hedits (thetaF s Hq.length H.length) _ _).map _
   rw [List.map_append, frzEdits_ren, ← hth]
   congr 1
   exact hedits_ren _ _ _ _
 | pcall h1 h2 h3 h4 h5 h6 => exact ⟨_, _, .pcall h1 h2 h3 h4 h5 h6, rfl, triv _ _⟩
 | ext h1 h2 h3 => exact ⟨_, _, .ext h1 h2 h3, rfl, triv _ _⟩
theorem slotsE_at : ∀ (l : List (Option AO)) (n : Nat) (H : Heap), n + l.length ≤ H.length → ∀ j, j < l.length → (setAll H (slotsE n l)).at? (n + j) = l.getD j none
 | [], _, _, _, j, hj => by cases hj
 | x :: l, n, H, hn, j, hj => by
  simp only [List.length_cons] at hn hj
  simp only [slotsE, setAll]
  cases j with
  | zero =>
   rw [setAll_at _ _ _ (by rw [slotsE_keys, List.mem_range'_1]; omega)]
   simp only [Nat.add_zero, List.getD_cons_zero]
   exact at_set_same (by omega)
  | succ j =>
   have := slotsE_at l (n + 1) (H.set n x) (by simp; omega) j (by omega)
   rw [show n + (j + 1) = n + 1 + j by omega, this, List.getD_cons_succ]
theorem setAll_map (θ : Nat → Nat) : ∀ (es : List (Nat × Option AO)) (H : Heap) (b : Nat), renO θ (H.at? b) = H.at? b → (setAll H (es.map fun p => (p.1, renO θ p.2))).at? b = renO θ ((setAll H es).at? b)
 | [], _, _, h => h.symm
 | (k, o) :: es, H, b, h => by
  simp only [List.map_cons, setAll]
  by_cases hm : b ∈ es.map (·.1)
  ·
   -- only what comes behind counts
   have key : ∀ (es : List (Nat × Option AO)) (H H' : Heap), H.length = H'.length → b ∈ es.map (·.1) → (setAll H es).at? b = (setAll H' es).at? b := by
    intro es
    induction es with
    | nil => intro _ _ _ h; cases h
    | cons p es ih =>
     intro H H' hl hm
     simp only [setAll]
     by_cases h2 : b ∈ es.map (·.1)
     · exact ih _ _ (by simpa using hl) h2
     ·
      rw [setAll_at _ _ _ h2, setAll_at _ _ _ h2]
      simp only [List.map_cons, List.mem_cons] at hm
      have e : b = p.1 := hm.resolve_right h2
      subst e
      simp only [Heap.at?, List.getD, List.getElem?_set_self']
      by_cases hb : p.1 < H'.length
      · simp [hb, hl]
      · simp [hb, hl]
   rw [key (es.map fun p => (p.1, renO θ p.2)) (H.set k (renO θ o)) H (by simp) (by simpa using hm), key es (H.set k o) H (by simp) hm]
   exact setAll_map θ es H b h
  ·
   rw [setAll_at _ _ _ (by simpa using hm), setAll_at _ _ _ hm]
   by_cases e : k = b
   ·
    subst e
    rcases Nat.lt_or_ge k H.length with hl | hl
    · rw [at_set_same hl, at_set_same hl]
    · rw [List.set_eq_of_length_le hl, List.set_eq_of_length_le hl]; exact h.symm
   · rw [at_set_other e, at_set_other e]; exact h.symm
theorem opstepS_wp (hg : Low g base S0) (hI : I w) (hh : HRel base S0 ρ H w S) {env env' : List PV} {H' : Heap} {a : Act} {i : Nat} {ft : Ft} {Q : Exit → Act → World → Prop} {K : Act → World → Prop}
  (he : PRels ρ H w S env a.tmps.toList) (hs : OpStepS M ops i env H env' H' ft none)
  (hK : ∀ ρ' w' S' a', I w' → HRel base S0 ρ' H' w' S' → Ext base ρ H w S ρ' H' w' S' → PRels ρ' H' w' S' env' a'.tmps.toList → a'.defers = a.defers → K a' w') : wpOp P ops Q i K a w := by
 obtain ⟨o, e, n, ho, ha, hle, hres, hself, rfl, rfl⟩ := hs
 obtain ⟨e', ft', ha', q1, q2, q3, q4⟩ := ha.shift hg hI hh he hle
 obtain ⟨f1, f2⟩ := ha.facts
 refine opstep_wp hg hI hh he ⟨o, e', ho, ha', rfl, rfl⟩ (fun ρ1 w1 S1 a1 hI1 hh1 hx1 he1 hd1 => ?_)
 generalize hθ : moveF H.length n e.app.length = θ at q2 q3 q4
 have hlen : (setAll H e'.edits).length = H.length := setAll_length _ _
 have slot : ∀ {b}, n ≤ b ∧ b < n + e.app.length → b ∈ ft.new := fun h => by rw [f2, List.mem_range'_1]; exact h
 have hk' : e'.edits.map (·.1) = e.edits.map (·.1) := by rw [q4, List.map_map]; rfl
 have known : ∀ b, Known H b → θ b = b := fun b hb => by rw [← hθ]; exact moveF_old hb.lt
 have hbl : base.n ≤ (setAll H e'.edits).length := by rw [hlen]; exact hh.base_le.len
 have atE : ∀ b, ¬ (n ≤ b ∧ b < n + e.app.length) → (setAll H (e.edits ++ slotsE n e.app)).at? b = renO θ ((setAll H e'.edits).at? b) := by
  intro b hb
  rw [setAll_cat, setAll_at _ _ _ (by rw [slotsE_keys, List.mem_range'_1]; exact hb), q4]
  exact setAll_map θ _ _ _ (block_fix hh known b)
 obtain ⟨ρ2, m1, m2, m3⟩ := HRel.move (H' := setAll H (e.edits ++ slotsE n e.app)) (n := n) hh1 hbl (by rw [hlen, q1]; intro h; exact hle (by intro h2; exact h (List.length_eq_zero_iff.mp (by rw [q1, h2]; rfl))))
  (fun j hj => by
   rw [q1] at hj
   have hm := slot (b := n + j) ⟨by omega, by omega⟩
   rw [setAll_at _ _ _ (by rw [hk']; exact fun h => (hself _ hm).2 (f1 _ h))]
   exact hres _ hm) (by rw [setAll_length, hlen]) (fun b _ hb => by rw [hlen, q1, hθ]; exact atE b (by rwa [q1] at hb))
  (fun j hj => by
   rw [q1] at hj
   rw [hlen, q1, hθ, setAll_cat, slotsE_at _ _ _ (by rw [setAll_length]; exact hle (by rintro h; rw [h] at hj; cases hj)) j hj]
   conv => lhs; rw [q3]
   simp only [List.getD, List.getElem?_map]
   cases e'.app[j]? <;> rfl)
 rw [hlen, q1, hθ] at m2
 refine hK ρ2 w1 S1 a1 hI1 m1 ⟨⟨by simp [setAll_length], fun b hb => ?_⟩, ⟨fun b hb => ?_⟩, hx1.hw, hx1.hS, hx1.below⟩ ?_ hd1
 ·
  have hns : ¬ (n ≤ b ∧ b < n + e.app.length) := fun h => hb.2 (hres _ (slot h))
  obtain ⟨k1, k2⟩ := hx1.hH.fits b hb
  refine ⟨?_, fun o' ho' => ?_⟩
  ·
   have := (m2.real b k1).1
   rwa [known b hb] at this
  ·
   rw [atE b hns] at ho'
   obtain ⟨q, r1, r2, _⟩ := fits_ren ho'
   obtain ⟨o1, r3, r4⟩ := k2 q (by
    show Heap.at? (setAll H e'.edits ++ e'.app) b = _
    simp only [Heap.at?, List.getD, List.getElem?_append_left (show b < (setAll H e'.edits).length by rw [hlen]; exact hb.lt)]
    exact r1)
   exact ⟨o1, r3, r4.trans r2⟩
 ·
  have hns : ¬ (n ≤ b ∧ b < n + e.app.length) := fun h => hb.2 (hres _ (slot h))
  rw [m3 b (by rw [hlen]; exact hb.lt) (by rwa [q1])]
  exact hx1.hr.same b hb
 ·
  have := rens_rel m2 he1
  have e2 : rens θ (putP env o.dst (e'.val H.length)) = putP env o.dst (e.val n) := by
   have hfix : rens θ env = env := rens_fix θ (fun b k _ => known b k) (prels_refs he) (prels_refs he)
   have hset : ∀ (l : List PV) (d : Nat) (p : PV), rens θ (l.set d p) = (rens θ l).set d (ren θ p) := by
    intro l
    induction l with
    | nil => intro d p; rfl
    | cons x l ih => intro d p; cases d with
     | zero => rfl
     | succ d => simp only [List.set_cons_succ, rens, ih]
   cases hd : o.dst with
   | none => exact hfix
   | some d => simp only [putP, hset, hfix, q2]
  rwa [e2] at this
theorem oppanS_wp (hg : Low g base S0) (hI : I w) (hh : HRel base S0 ρ H w S) {env env' : List PV} {H' : Heap} {a : Act} {i : Nat} {ft : Ft} {Q : Exit → Act → World → Prop} {K : Act → World → Prop} {pv : Value}
  (he : PRels ρ H w S env a.tmps.toList) (hs : OpStepS M ops i env H env' H' ft (some pv))
  (hQ : ∀ w', Keeps base.B w w' → Q (.panic [{ v := pv, recovered := false }]) a w') : wpOp P ops Q i K a w := by
 obtain ⟨o, e, n, ho, ha, hle, hres, hself, rfl, rfl⟩ := hs
 obtain ⟨e', ft', ha', _⟩ := ha.shift hg hI hh he hle
 exact oppan_wp hg hI hh he ⟨o, e', ho, ha', rfl, rfl⟩ hQ
/-! #### a region in whatever order -/
inductive OpTrace (M : Mach P I g) (ops : Array Oper) : List (Nat × Ft) → List PV → Heap → List PV → Heap → Prop where
 | nil {env H} : OpTrace M ops [] env H env H
 | cons {i ft l env H env1 H1 env' H'} : OpStep M ops i env H env1 H1 ft → OpTrace M ops l env1 H1 env' H' → OpTrace M ops ((i, ft) :: l) env H env' H'
theorem OpTrace.snoc {l : List (Nat × Ft)} {env H env1 H1 env2 H2 i ft} (h : OpTrace M ops l env H env1 H1) (k : OpStep M ops i env1 H1 env2 H2 ft) : OpTrace M ops (l ++ [(i, ft)]) env H env2 H2 := by
 induction h with
 | nil => exact .cons k .nil
 | cons h1 _ ih => exact .cons h1 (ih k)
inductive TraceS (M : Mach P I g) (ops : Array Oper) : List (Nat × Ft) → List PV → Heap → List PV → Heap → Prop where
 | nil {env H} : TraceS M ops [] env H env H
 | cons {i ft l env H env1 H1 env' H'} : OpStepS M ops i env H env1 H1 ft none → TraceS M ops l env1 H1 env' H' → TraceS M ops ((i, ft) :: l) env H env' H'
def Free (ops : Array Oper) (x y : Nat × Ft) : Prop := ∃ ox oy, ops[x.1]? = some ox ∧ ops[y.1]? = some oy ∧ ox.apart ops oy = true ∧ x.2.apart y.2 = true
theorem TraceS.front {y : Nat × Ft} {l2 : List (Nat × Ft)} : ∀ {l1 : List (Nat × Ft)} {env H env' H'}, (∀ x ∈ l1, Free ops x y) → TraceS M ops (l1 ++ y :: l2) env H env' H' → TraceS M ops (y :: (l1 ++ l2)) env H env' H'
 | [], _, _, _, _, _, h => h
 | (ix, fx) :: l1, env, H, env', H', hf, h => by
  obtain ⟨iy, fy⟩ := y
  rw [List.cons_append] at h
  cases h with
  | cons h1 h2 =>
   have ih := TraceS.front (fun z hz => hf z (by simp [hz])) h2
   cases ih with
   | cons k1 k2 =>
    obtain ⟨ox, oy, e1, e2, a1, a2⟩ := hf (ix, fx) (by simp)
    obtain ⟨env1', H1', s1, s2⟩ := OpStepS.swap e1 e2 h1 k1 a1 a2
    exact .cons s1 (.cons s2 k2)
def edgesLt (ops : Array Oper) : Bool :=
 (List.range ops.size).all fun i => match ops[i]? with
  | some o => o.after.toList.all fun e => !Region.binds .any e || decide (e.on < i)
  | none => true
def depB (ops : Array Oper) : Nat → Nat → Nat → Bool
 | 0, _, _ => false
 | n + 1, j, i => match ops[j]? with
  | none => false
  | some o => o.after.toList.any (fun e => Region.binds .any e && e.on == i) || o.after.toList.any (fun e => Region.binds .any e && depB ops n e.on i)
def freeB (ops : Array Oper) (x y : Nat × Ft) : Bool :=
 match ops[x.1]?, ops[y.1]? with
 | some ox, some oy => ox.apart ops oy && x.2.apart y.2
 | _, _ => false
def lookB (x y : Ft) : Bool := y.new.all fun k => !x.reads.contains k && !x.writes.contains k
def fineB (ops : Array Oper) : List (Nat × Ft) → Bool
 | [] => true
 | x :: l => (lookB x.2 x.2 && l.all (fun y => (freeB ops x y || depB ops 4 y.1 x.1) && lookB x.2 y.2)) && fineB ops l
theorem lookB_ok {x y : Ft} (h : lookB x y = true) : ∀ k ∈ y.new, k ∉ x.reads ∧ k ∉ x.writes := by
 intro k hk
 simpa [lookB] using List.all_eq_true.mp h k hk
theorem freeB_free {x y : Nat × Ft} (h : freeB ops x y = true) : Free ops x y := by
 unfold freeB at h
 split at h
 ·
  rename_i ox oy h1 h2
  simp only [Bool.and_eq_true] at h
  exact ⟨ox, oy, h1, h2, h.1, h.2⟩
 · cases h
theorem fineB_pair : ∀ {l : List (Nat × Ft)}, fineB ops l = true → ∀ {l1 : List (Nat × Ft)} {x y l2}, l = l1 ++ y :: l2 → x ∈ l1 → Free ops x y ∨ depB ops 4 y.1 x.1 = true
 | [], _, l1, x, y, l2, e, _ => by simp at e
 | z :: l, h, l1, x, y, l2, e, hx => by
  simp only [fineB, Bool.and_eq_true] at h
  cases l1 with
  | nil => cases hx
  | cons z' l1 =>
   simp only [List.cons_append, List.cons.injEq] at e
   obtain ⟨rfl, e⟩ := e
   rcases List.mem_cons.mp hx with rfl | hx
   ·
    have := List.all_eq_true.mp h.1.2 y (by rw [e]; simp)
    simp only [Bool.and_eq_true, Bool.or_eq_true] at this
    exact this.1.imp freeB_free id
   · exact fineB_pair h.2 e hx
theorem fineB_drop : ∀ {l1 : List (Nat × Ft)} {y l2}, fineB ops (l1 ++ y :: l2) = true → fineB ops (l1 ++ l2) = true
 | [], y, l2, h => by simp only [List.nil_append, fineB, Bool.and_eq_true] at h; exact h.2
 | x :: l1, y, l2, h => by
  simp only [List.cons_append, fineB, Bool.and_eq_true] at h ⊢
  refine ⟨⟨h.1.1, ?_⟩, fineB_drop h.2⟩
  have h1 := h.1.2
  rw [List.all_eq_true] at h1 ⊢
  intro z hz
  exact h1 z (by rcases List.mem_append.mp hz with hz | hz <;> simp [hz])
theorem TraceS.frontB {y : Nat × Ft} {b : Option Value} : ∀ {l : List (Nat × Ft)} {env H env1 H1 env2 H2}, (∀ x ∈ l, Free ops x y) → TraceS M ops l env H env1 H1 → OpStepS M ops y.1 env1 H1 env2 H2 y.2 b →
  ∃ env' H', OpStepS M ops y.1 env H env' H' y.2 b
 | [], _, _, _, _, env2, H2, _, h, k => by cases h; exact ⟨env2, H2, k⟩
 | (ix, fx) :: l, env, H, env1, H1, _, _, hf, h, k => by
  cases h with
  | cons h1 h2 =>
   obtain ⟨env', H', k1⟩ := TraceS.frontB (fun z hz => hf z (by simp [hz])) h2 k
   obtain ⟨ox, oy, e1, e2, a1, a2⟩ := hf (ix, fx) (by simp)
   obtain ⟨env1', H1', s1, _⟩ := OpStepS.swap e1 e2 h1 k1 a1 a2
   exact ⟨_, _, s1⟩
theorem OpStepB.grows {i : Nat} {env env' : List PV} {H H' : Heap} {ft : Ft} {b : Option Value} (h : OpStepB M ops i env H env' H' ft b) : H'.length = H.length + ft.new.length ∧ ∀ k, H.length ≤ k → k < H'.length → k ∈ ft.new := by
 obtain ⟨o, e, _, ha, rfl, rfl⟩ := h
 obtain ⟨_, f2⟩ := ha.toN.facts
 have e1 : (e.heap H).length = H.length + e.app.length := by simp [Eff.heap, setAll_length]
 refine ⟨by rw [f2, e1]; simp, fun k h1 h2 => ?_⟩
 rw [f2, List.mem_range'_1]
 rw [e1] at h2
 exact ⟨h1, h2⟩
theorem OpTrace.tile : ∀ {l : List (Nat × Ft)} {env H env' H'}, OpTrace M ops l env H env' H' → H.length ≤ H'.length ∧ ∀ k, H.length ≤ k → k < H'.length → ∃ y ∈ l, k ∈ y.2.new := by
 intro l env H env' H' h
 induction h with
 | nil => exact ⟨Nat.le_refl _, fun k h1 h2 => by omega⟩
 | @cons i ft l env H env1 H1 env' H' h1 _ ih =>
  obtain ⟨g1, g2⟩ := OpStepB.grows h1
  refine ⟨by omega, fun k k1 k2 => ?_⟩
  rcases Nat.lt_or_ge k H1.length with hk | hk
  · exact ⟨(i, ft), by simp, g2 k k1 hk⟩
  ·
   obtain ⟨y, hy, hm⟩ := ih.2 k hk k2
   exact ⟨y, List.mem_cons_of_mem _ hy, hm⟩
theorem slotsE_append : ∀ (app : List (Option AO)) (X : Heap) (m : Nat), setAll (X ++ List.replicate (app.length + m) (some .res)) (slotsE X.length app) = (X ++ app) ++ List.replicate m (some .res)
 | [], X, m => by simp [slotsE, setAll]
 | x :: l, X, m => by
  have e : (X ++ List.replicate ((x :: l).length + m) (some AO.res)).set X.length x = (X ++ [x]) ++ List.replicate (l.length + m) (some .res) := by
   rw [show (x :: l).length + m = (l.length + m) + 1 by simp; omega, List.replicate_succ, List.set_append_right _ _ (Nat.le_refl _)]
   simp
  have := slotsE_append l (X ++ [x]) m
  simp only [slotsE, setAll]
  rw [e]
  simp only [List.length_append, List.length_cons, List.length_nil, Nat.zero_add] at this
  rw [this]
  simp
theorem OpTrace.toS : ∀ {l : List (Nat × Ft)} {env H env' H'}, OpTrace M ops l env H env' H' → fineB ops l = true → TraceS M ops l env (H ++ List.replicate (H'.length - H.length) (some .res)) env' H' := by
 intro l env H env' H' h
 induction h with
 | nil => intro _; simpa using TraceS.nil
 | @cons i ft l env H env1 H1 env' H' h1 h2 ih =>
  intro hf
  simp only [fineB, Bool.and_eq_true] at hf
  have hS := ih hf.2
  have ht := OpTrace.tile (.cons h1 h2)
  have ht1 := OpTrace.tile h2
  obtain ⟨g1, g2⟩ := OpStepB.grows h1
  have look : ∀ k, H.length ≤ k → k < H'.length → k ∉ ft.reads ∧ k ∉ ft.writes := by
   intro k k1 k2
   obtain ⟨y, hy, hm⟩ := ht.2 k k1 k2
   rcases List.mem_cons.mp hy with rfl | hy
   · exact lookB_ok hf.1.1 k hm
   ·
    have := List.all_eq_true.mp hf.1.2 y hy
    simp only [Bool.and_eq_true] at this
    exact lookB_ok this.2 k hm
  have hm : H'.length - H.length = ft.new.length + (H'.length - H1.length) := by omega
  have atP : ∀ k, k < H.length ∨ H'.length ≤ k → Heap.at? (H ++ List.replicate (H'.length - H.length) (some .res)) k = H.at? k := by
   intro k hk
   rcases hk with hk | hk
   · simp [Heap.at?, List.getD, List.getElem?_append_left hk]
   ·
    simp only [Heap.at?, List.getD]
    rw [List.getElem?_eq_none (by simp; omega), List.getElem?_eq_none (by omega)]
  refine .cons ?_ hS
  obtain ⟨o, e, ho, ha, rfl, rfl⟩ := h1
  obtain ⟨f1, f2⟩ := ha.toN.facts
  have e1 : (e.heap H).length = H.length + e.app.length := by simp [Eff.heap, setAll_length]
  refine ⟨o, e, H.length, ho, ha.toN.local (fun _ _ => rfl) (fun b hb => atP b ?_), fun _ => by simp; omega, fun k hk => ?_, lookB_ok hf.1.1, rfl, ?_⟩
  ·
   rcases Nat.lt_or_ge b H.length with h | h
   · exact .inl h
   ·
    rcases Nat.lt_or_ge b H'.length with h' | h'
    · exact absurd hb (look b h h').1
    · exact .inr h'
  ·
   rw [f2, List.mem_range'_1] at hk
   simp only [Heap.at?, List.getD]
   rw [List.getElem?_append_right (by omega), List.getElem?_replicate, if_pos (by omega)]
   rfl
  ·
   rw [setAll_cat, setAll_append _ _ _ (fun k hk hm => ?_)]
   ·
    have hX : (setAll H e.edits).length = H.length := setAll_length _ _
    have hle := ht1.1
    have := slotsE_append e.app (setAll H e.edits) (H'.length - (e.heap H).length)
    rw [hX] at this
    rw [show H'.length - H.length = e.app.length + (H'.length - (e.heap H).length) by omega, this]
    rfl
   ·
    rw [List.mem_range'_1] at hk
    simp at hk
    exact (look k hk.1 (by omega)).2 (f1 k hm)
theorem OpStepB.panS {i : Nat} {env env' : List PV} {H H' : Heap} {ft : Ft} {v : Value} (h : OpStepB M ops i env H env' H' ft (some v)) : OpStepS M ops i env H env' H' ft (some v) := by
 obtain ⟨o, e, ho, ha, rfl, rfl⟩ := h
 have hn : e.app = [] := by cases ha; rfl
 obtain ⟨f1, f2⟩ := ha.toN.facts
 rw [hn] at f2
 have f3 : ft.new = [] := f2
 refine ⟨o, e, H.length, ho, ha.toN, fun h => absurd hn h, (fun k hk => by rw [f3] at hk; cases hk), (fun k hk => by rw [f3] at hk; cases hk), rfl, ?_⟩
 simp [Eff.heap, hn, slotsE]
def Down (ops : Array Oper) (listed : Array Bool) : Prop :=
 ∀ c o, ops[c]? = some o → listed.getD c false = true → ∀ e ∈ o.after, Region.binds .any e = true → listed.getD e.on false = true
theorem dep_listed {listed : Array Bool} (hd : Down ops listed) : ∀ (n j i : Nat), depB ops n j i = true → (∀ o, ops[j]? = some o → ∀ e ∈ o.after, Region.binds .any e = true → listed.getD e.on false = true) → listed.getD i false = true
 | 0, _, _, h, _ => by simp [depB] at h
 | n + 1, j, i, h, hj => by
  simp only [depB] at h
  split at h
  · cases h
  ·
   rename_i o ho
   simp only [Bool.or_eq_true, List.any_eq_true, Bool.and_eq_true, beq_iff_eq, Array.mem_toList_iff] at h
   rcases h with ⟨e, he, hb, rfl⟩ | ⟨e, he, hb, hd'⟩
   · exact hj o ho e he hb
   · exact dep_listed hd n e.on i hd' (fun o' ho' => hd e.on o' ho' (hj o ho e he hb))
theorem trace_anyS (hel : edgesLt ops = true) (hg : Low g base S0) {Q : Exit → Act → World → Prop} {envF : List PV} {HF : Heap} : ∀ (fuel : Nat) (l : List (Nat × Ft)) (listed : Array Bool) (ρ : Loc) (env : List PV) (H : Heap) (w : World) (S : Nat → Prop) (a : Act),
  l.length ≤ fuel → listed.size = ops.size → (∀ i, i ∈ l.map (·.1) ↔ listed.getD i true = false) → (l.map (·.1)).Pairwise (· < ·) → Down ops listed → fineB ops l = true →
  I w → HRel base S0 ρ H w S → PRels ρ H w S env a.tmps.toList → TraceS M ops l env H envF HF →
  (∀ ρ' w' S' a', I w' → HRel base S0 ρ' HF w' S' → Ext base ρ H w S ρ' HF w' S' → PRels ρ' HF w' S' envF a'.tmps.toList → a'.defers = a.defers → Q .normal a' w') →
  wpAny P .any ops Q fuel listed a w := by
 have isNil : ∀ (l : List (Nat × Ft)) (listed : Array Bool), listed.size = ops.size → (∀ i, i ∈ l.map (·.1) ↔ listed.getD i true = false) → (l.map (·.1)).Pairwise (· < ·) → Region.ready .any ops listed = [] → l = [] := by
  intro l listed hsz hml hsort hr
  cases l with
  | nil => rfl
  | cons x l =>
   exfalso
   have hx : listed.getD x.1 true = false := (hml x.1).mp (by simp)
   have hlt : x.1 < ops.size := by
    rcases Nat.lt_or_ge x.1 ops.size with h | h
    · exact h
    · rw [Array.getD_eq_getD_getElem?, Array.getElem?_eq_none (by omega)] at hx; cases hx
   have : x.1 ∈ Region.ready .any ops listed := by
    rw [mem_ready]
    refine ⟨hx, ops[x.1], by simp [hlt], fun e he hb => ?_⟩
    have h1 := List.all_eq_true.mp hel x.1 (by simpa using hlt)
    simp only [hlt, Array.getElem?_eq_getElem, List.all_eq_true, Array.mem_toList_iff, Bool.or_eq_true, Bool.not_eq_true', decide_eq_true_eq] at h1
    have h2 := (h1 e he).resolve_left (by simp [hb])
    have h3 : ¬ listed.getD e.on true = false := by
     intro h
     have hm := (hml e.on).mpr h
     simp only [List.map_cons, List.mem_cons] at hm
     simp only [List.map_cons, List.pairwise_cons] at hsort
     rcases hm with hm | hm
     · omega
     · have := hsort.1 _ hm; omega
    have hlt2 : e.on < listed.size := by omega
    simp only [Array.getD_eq_getD_getElem?, Array.getElem?_eq_getElem hlt2, Option.getD_some] at h3 ⊢
    simpa using h3
   rw [hr] at this
   cases this
 intro fuel
 induction fuel with
 | zero =>
  intro l listed ρ env H w S a hl hsz hml hsort hdown hfine hI hh he ht hQ
  have : l = [] := List.length_eq_zero_iff.mp (by omega)
  subst this
  cases ht
  refine ⟨?_, hQ ρ w S a hI hh Ext.refl he rfl⟩
  cases hr : Region.ready .any ops listed with
  | nil => rfl
  | cons x xs =>
   have : x ∈ Region.ready .any ops listed := by rw [hr]; simp
   rw [mem_ready] at this
   have := (hml x).mpr this.1
   simp at this
 | succ fuel ih =>
  intro l listed ρ env H w S a hl hsz hml hsort hdown hfine hI hh he ht hQ
  refine ⟨fun hr => ?_, fun i hi => ?_⟩
  ·
   have := isNil l listed hsz hml hsort hr
   subst this
   cases ht
   exact hQ ρ w S a hI hh Ext.refl he rfl
  ·
   have hi' := hi
   rw [mem_ready] at hi'
   obtain ⟨hi0, o, ho, hedge⟩ := hi'
   obtain ⟨y, hy, rfl⟩ := List.mem_map.mp ((hml i).mpr hi0)
   obtain ⟨l1, l2, rfl⟩ := List.append_of_mem hy
   have hfree : ∀ x ∈ l1, Free ops x y := by
    intro x hx
    rcases fineB_pair hfine rfl hx with h | h
    · exact h
    ·
     exfalso
     have := dep_listed hdown 4 y.1 x.1 h (fun o' ho' => by rw [ho] at ho'; cases ho'; exact hedge)
     have h0 := (hml x.1).mp (by simp; exact .inl ⟨x.2, hx⟩)
     have hlt : x.1 < listed.size := by
      rcases Nat.lt_or_ge x.1 listed.size with h | h
      · exact h
      · rw [Array.getD_eq_getD_getElem?, Array.getElem?_eq_none h] at h0; cases h0
     simp only [Array.getD_eq_getD_getElem?, Array.getElem?_eq_getElem hlt, Option.getD_some] at this h0
     rw [this] at h0; cases h0
   obtain ⟨iy, fy⟩ := y
   have hfr := ht.front hfree
   cases hfr with
   | cons k1 k2 =>
    refine opstepS_wp hg hI hh he k1 (fun ρ' w' S' a' hI' hh' hx' he' hd' => ?_)
    have hlt : iy < listed.size := by
     rcases Nat.lt_or_ge iy listed.size with h | h
     · exact h
     · rw [Array.getD_eq_getD_getElem?, Array.getElem?_eq_none h] at hi0; cases hi0
    refine ih (l1 ++ l2) _ ρ' _ _ w' S' a' (by simp at hl ⊢; omega) (by simpa using hsz) ?_ ?_ ?_ (fineB_drop hfine) hI' hh' he' k2 (fun ρ2 w2 S2 a2 q1 q2 q3 q4 q5 => hQ ρ2 w2 S2 a2 q1 q2 (hx'.trans q3) q4 (q5.trans hd'))
    ·
     intro c
     simp only [List.map_append, List.map_cons, List.mem_append, List.mem_cons] at hml ⊢
     have hc := hml c
     by_cases e : c = iy
     ·
      subst e
      have hnd : (l1.map (·.1) ++ c :: l2.map (·.1)).Pairwise (· < ·) := by simpa using hsort
      rw [List.pairwise_append] at hnd
      have n1 : c ∉ l1.map (·.1) := fun hm => by have := hnd.2.2 c hm c (by simp); omega
      have n2 : c ∉ l2.map (·.1) := fun hm => by have := (List.pairwise_cons.mp hnd.2.1).1 c hm; omega
      simp only [n1, n2, or_self, false_iff]
      simp [hlt]
     ·
      rw [getD_set_ne true (Ne.symm e)]
      rw [← hc]
      simp [e]
    ·
     have hnd : (l1.map (·.1) ++ iy :: l2.map (·.1)).Pairwise (· < ·) := by simpa using hsort
     rw [List.map_append]
     rw [List.pairwise_append] at hnd ⊢
     exact ⟨hnd.1, (List.pairwise_cons.mp hnd.2.1).2, fun p hp q hq => hnd.2.2 p hp q (by simp [hq])⟩
    ·
     intro c oc hoc hlc e he2 hb
     by_cases ec : iy = c
     ·
      subst ec
      rw [ho] at hoc; cases hoc
      exact getD_set_true (hedge e he2 hb)
     ·
      rw [getD_set_ne false ec] at hlc
      exact getD_set_true (hdown c oc hoc hlc e he2 hb)
theorem trace_panS (hel : edgesLt ops = true) (hg : Low g base S0) {Q : Exit → Act → World → Prop} {ip : Nat} {fp : Ft} {pv : Value} {op : Oper} (hop : ops[ip]? = some op) : ∀ (fuel : Nat) (l : List (Nat × Ft)) (listed : Array Bool) (ρ : Loc) (env : List PV) (H : Heap) (w : World) (S : Nat → Prop) (a : Act) (envF : List PV) (HF : Heap) (env2 : List PV) (H2 : Heap),
  l.length ≤ fuel → listed.size = ops.size → (∀ i, i ∈ l.map (·.1) → listed.getD i true = false) → (∀ i, listed.getD i true = false → i ∈ l.map (·.1) ∨ i = ip ∨ depB ops 4 i ip = true) → listed.getD ip true = false → ip ∉ l.map (·.1) → (l.map (·.1)).Pairwise (· < ·) → Down ops listed → fineB ops l = true →
  (∀ x ∈ l, Free ops x (ip, fp) ∨ depB ops 4 ip x.1 = true) →
  I w → HRel base S0 ρ H w S → PRels ρ H w S env a.tmps.toList → TraceS M ops l env H envF HF → OpStepS M ops ip envF HF env2 H2 fp (some pv) →
  (∀ w' a', Keeps base.B w w' → a'.defers = a.defers → Q (.panic [{ v := pv, recovered := false }]) a' w') →
  wpAny P .any ops Q (fuel + 1) listed a w := by
 intro fuel
 have some_ready : ∀ (listed : Array Bool), listed.size = ops.size → listed.getD ip true = false → Region.ready .any ops listed ≠ [] := by
  intro listed hsz hip hr
  have : ∀ n j, j ≤ n → listed.getD j true = false → False := by
   intro n
   induction n with
   | zero =>
    intro j hj hl
    obtain rfl : j = 0 := by omega
    have hlt : 0 < ops.size := by
     rcases Nat.eq_zero_or_pos ops.size with h | h
     · rw [Array.getD_eq_getD_getElem?, Array.getElem?_eq_none (by omega)] at hl; cases hl
     · exact h
    have hm : 0 ∈ Region.ready .any ops listed := by
     rw [mem_ready]
     refine ⟨hl, ops[0], by simp [hlt], fun e he hb => ?_⟩
     have h1 := List.all_eq_true.mp hel 0 (by simpa using hlt)
     simp only [hlt, Array.getElem?_eq_getElem, List.all_eq_true, Array.mem_toList_iff, Bool.or_eq_true, Bool.not_eq_true', decide_eq_true_eq] at h1
     have := (h1 e he).resolve_left (by simp [hb])
     omega
    rw [hr] at hm; cases hm
   | succ n ih =>
    intro j hj hl
    have hlt : j < ops.size := by
     rcases Nat.lt_or_ge j ops.size with h | h
     · exact h
     · rw [Array.getD_eq_getD_getElem?, Array.getElem?_eq_none (by omega)] at hl; cases hl
    have hm : j ∈ Region.ready .any ops listed := by
     rw [mem_ready]
     refine ⟨hl, ops[j], by simp [hlt], fun e he hb => ?_⟩
     have h1 := List.all_eq_true.mp hel j (by simpa using hlt)
     simp only [hlt, Array.getElem?_eq_getElem, List.all_eq_true, Array.mem_toList_iff, Bool.or_eq_true, Bool.not_eq_true', decide_eq_true_eq] at h1
     have h2 := (h1 e he).resolve_left (by simp [hb])
     have h3 : ¬ listed.getD e.on true = false := fun h => ih e.on (by omega) h
     have hlt2 : e.on < listed.size := by omega
     simp only [Array.getD_eq_getD_getElem?, Array.getElem?_eq_getElem hlt2, Option.getD_some] at h3 ⊢
     simpa using h3
    rw [hr] at hm; cases hm
  exact this ip ip (Nat.le_refl _) hip
 have unlisted : ∀ (listed : Array Bool) (i : Nat), listed.getD i true = false → listed.getD i false = false := by
  intro listed i h
  rw [Array.getD_eq_getD_getElem?] at h ⊢
  cases hh : listed[i]? with
  | none => rw [hh] at h; cases h
  | some b => rw [hh] at h; simpa using h
 have notdep : ∀ (listed : Array Bool) (j : Nat) (o : Oper), Down ops listed → ops[j]? = some o → (∀ e ∈ o.after, Region.binds .any e = true → listed.getD e.on false = true) → ∀ i, listed.getD i true = false → depB ops 4 j i = true → False := by
  intro listed j o hdown ho hedge i hi hd
  have := dep_listed hdown 4 j i hd (fun o' ho' => by rw [ho] at ho'; cases ho'; exact hedge)
  rw [unlisted listed i hi] at this; cases this
 induction fuel with
 | zero =>
  intro l listed ρ env H w S a envF HF env2 H2 hl hsz hml hun hip hnp hsort hdown hfine hfree hI hh he ht hs hQ
  have hnil : l = [] := List.length_eq_zero_iff.mp (by omega)
  subst hnil
  cases ht
  refine ⟨fun hr => absurd hr (some_ready listed hsz hip), fun i hi => ?_⟩
  rw [mem_ready] at hi
  obtain ⟨hi0, o, ho, hedge⟩ := hi
  rcases hun i hi0 with h | rfl | h
  · simp at h
  · exact oppanS_wp hg hI hh he hs (fun w' hk => hQ w' a hk rfl)
  · exact (notdep listed i o hdown ho hedge ip hip h).elim
 | succ fuel ih =>
  intro l listed ρ env H w S a envF HF env2 H2 hl hsz hml hun hip hnp hsort hdown hfine hfree hI hh he ht hs hQ
  refine ⟨fun hr => absurd hr (some_ready listed hsz hip), fun i hi => ?_⟩
  rw [mem_ready] at hi
  obtain ⟨hi0, o, ho, hedge⟩ := hi
  rcases hun i hi0 with hi2 | rfl | h
  ·
   obtain ⟨y, hy, rfl⟩ := List.mem_map.mp hi2
   obtain ⟨l1, l2, rfl⟩ := List.append_of_mem hy
   have hfr0 : ∀ x ∈ l1, Free ops x y := by
    intro x hx
    rcases fineB_pair hfine rfl hx with h | h
    · exact h
    · exact (notdep listed y.1 o hdown ho hedge x.1 (hml x.1 (by simp; exact .inl ⟨x.2, hx⟩)) h).elim
   obtain ⟨iy, fy⟩ := y
   have hfr := ht.front hfr0
   cases hfr with
   | cons k1 k2 =>
    refine opstepS_wp hg hI hh he k1 (fun ρ' w' S' a' hI' hh' hx' he' hd' => ?_)
    have hlt : iy < listed.size := by
     rcases Nat.lt_or_ge iy listed.size with h | h
     · exact h
     · rw [Array.getD_eq_getD_getElem?, Array.getElem?_eq_none h] at hi0; cases hi0
    have hne : ip ≠ iy := fun e => hnp (by simp [e])
    have hnd : (l1.map (·.1) ++ iy :: l2.map (·.1)).Pairwise (· < ·) := by simpa using hsort
    refine ih (l1 ++ l2) _ ρ' _ _ w' S' a' envF HF env2 H2 (by simp at hl ⊢; omega) (by simpa using hsz) ?_ ?_ ?_ ?_ ?_ ?_ (fineB_drop hfine) (fun x hx => hfree x (by simp at hx ⊢; rcases hx with h | h <;> simp [h])) hI' hh' he' k2 hs
     (fun w2 a2 q1 q2 => hQ w2 a2 (hx'.below.trans q1) (q2.trans hd'))
    ·
     intro c hc
     rw [List.pairwise_append] at hnd
     have hcy : iy ≠ c := by
      rintro rfl
      simp only [List.map_append, List.mem_append] at hc
      rcases hc with hm | hm
      · have := hnd.2.2 iy hm iy (by simp); omega
      · have := (List.pairwise_cons.mp hnd.2.1).1 iy hm; omega
     rw [getD_set_ne true hcy]
     refine hml c ?_
     simp only [List.map_append, List.mem_append, List.map_cons, List.mem_cons] at hc ⊢
     rcases hc with h | h
     · exact .inl h
     · exact .inr (.inr h)
    ·
     intro c hc
     by_cases e : iy = c
     · subst e; simp [hlt] at hc
     ·
      rw [getD_set_ne true e] at hc
      rcases hun c hc with h | h | h
      ·
       left
       simp only [List.map_append, List.mem_append, List.map_cons, List.mem_cons] at h ⊢
       rcases h with h | h | h
       · exact .inl h
       · exact absurd h.symm e
       · exact .inr h
      · exact .inr (.inl h)
      · exact .inr (.inr h)
    · rw [getD_set_ne true (Ne.symm hne)]; exact hip
    ·
     intro h
     refine hnp ?_
     simp only [List.map_append, List.mem_append, List.map_cons, List.mem_cons] at h ⊢
     rcases h with h | h
     · exact .inl h
     · exact .inr (.inr h)
    ·
     rw [List.map_append]
     rw [List.pairwise_append] at hnd ⊢
     exact ⟨hnd.1, (List.pairwise_cons.mp hnd.2.1).2, fun p hp q hq => hnd.2.2 p hp q (by simp [hq])⟩
    ·
     intro c oc hoc hlc e he2 hb
     by_cases ec : iy = c
     ·
      subst ec
      rw [ho] at hoc; cases hoc
      exact getD_set_true (hedge e he2 hb)
     ·
      rw [getD_set_ne false ec] at hlc
      exact getD_set_true (hdown c oc hoc hlc e he2 hb)
  ·
   have hall : ∀ x ∈ l, Free ops x (i, fp) := by
    intro x hx
    rcases hfree x hx with h | h
    · exact h
    · exact (notdep listed i o hdown ho hedge x.1 (hml x.1 (List.mem_map.mpr ⟨x, hx, rfl⟩)) h).elim
   obtain ⟨env', H', hs'⟩ := TraceS.frontB (y := (i, fp)) hall ht hs
   exact oppanS_wp hg hI hh he hs' (fun w' hk => hQ w' a hk rfl)
  · exact (notdep listed i o hdown ho hedge ip hip h).elim
theorem trace_any (hel : edgesLt ops = true) (hg : Low g base S0) {Q : Exit → Act → World → Prop} {envF : List PV} {HF : Heap} (fuel : Nat) (l : List (Nat × Ft)) (listed : Array Bool) (ρ : Loc) (env : List PV) (H : Heap) (w : World) (S : Nat → Prop) (a : Act)
  (h1 : l.length ≤ fuel) (h2 : listed.size = ops.size) (h3 : ∀ i, i ∈ l.map (·.1) ↔ listed.getD i true = false) (h4 : (l.map (·.1)).Pairwise (· < ·)) (h5 : Down ops listed) (h6 : fineB ops l = true)
  (hI : I w) (hh : HRel base S0 ρ H w S) (he : PRels ρ H w S env a.tmps.toList) (ht : OpTrace M ops l env H envF HF)
  (hQ : ∀ ρ' w' S' a', I w' → HRel base S0 ρ' HF w' S' → Ext base ρ H w S ρ' HF w' S' → PRels ρ' HF w' S' envF a'.tmps.toList → a'.defers = a.defers → Q .normal a' w') :
  wpAny P .any ops Q fuel listed a w := by
 obtain ⟨ρ1, hh1, hx1⟩ := hh.pad (HF.length - H.length)
 exact trace_anyS hel hg fuel l listed ρ1 env _ w S a h1 h2 h3 h4 h5 h6 hI hh1 (hx1.rels he) (ht.toS h6) (fun ρ' w' S' a' q1 q2 q3 q4 q5 => hQ ρ' w' S' a' q1 q2 (hx1.trans q3) q4 q5)
theorem trace_pan (hel : edgesLt ops = true) (hg : Low g base S0) {Q : Exit → Act → World → Prop} {ip : Nat} {fp : Ft} {pv : Value} {op : Oper} (hop : ops[ip]? = some op) (fuel : Nat) (l : List (Nat × Ft)) (listed : Array Bool) (ρ : Loc) (env : List PV) (H : Heap) (w : World) (S : Nat → Prop) (a : Act) (envF : List PV) (HF : Heap) (env2 : List PV) (H2 : Heap)
  (h1 : l.length ≤ fuel) (h2 : listed.size = ops.size) (h3 : ∀ i, i ∈ l.map (·.1) → listed.getD i true = false) (h4 : ∀ i, listed.getD i true = false → i ∈ l.map (·.1) ∨ i = ip ∨ depB ops 4 i ip = true) (h5 : listed.getD ip true = false) (h6 : ip ∉ l.map (·.1)) (h7 : (l.map (·.1)).Pairwise (· < ·)) (h8 : Down ops listed) (h9 : fineB ops l = true)
  (h10 : ∀ x ∈ l, Free ops x (ip, fp) ∨ depB ops 4 ip x.1 = true)
  (hI : I w) (hh : HRel base S0 ρ H w S) (he : PRels ρ H w S env a.tmps.toList) (ht : OpTrace M ops l env H envF HF) (hs : OpStepB M ops ip envF HF env2 H2 fp (some pv))
  (hQ : ∀ w' a', Keeps base.B w w' → a'.defers = a.defers → Q (.panic [{ v := pv, recovered := false }]) a' w') :
  wpAny P .any ops Q (fuel + 1) listed a w := by
 obtain ⟨ρ1, hh1, hx1⟩ := hh.pad (HF.length - H.length)
 exact trace_panS hel hg hop fuel l listed ρ1 env _ w S a envF HF env2 H2 h1 h2 h3 h4 h5 h6 h7 h8 h9 h10 hI hh1 (hx1.rels he) (ht.toS h9) hs.panS hQ
end
def todoAt (c : Code) (p : List Nat) (k : List Item) : Option (Code × List Item) :=
 match p with
 | [] => some (c, k)
 | d :: p => match c with
  | .seq a b => match d with
   | 0 => todoAt a p (.code b :: k)
   | _ + 1 => todoAt b p k
  | .cond _ a b => match d with
   | 0 => todoAt a p k
   | _ + 1 => todoAt b p k
  | .block id c => todoAt c p (.inBlock id :: k)
  | .loop c => todoAt c p (.inLoop c :: k)
  | .scope c => todoAt c p (.inScope c :: k)
  | _ => none
termination_by structural p
def after (c : Code) (p : List Nat) : Option (List Nat) :=
 match p with
 | [] => none
 | d :: p => match c with
  | .seq a b => match d with
   | 0 => match after a p with
    | some q => some (0 :: q)
    | none => some [1]
   | _ + 1 => (after b p).map (1 :: ·)
  | .cond _ a b => match d with
   | 0 => (after a p).map (0 :: ·)
   | _ + 1 => (after b p).map (1 :: ·)
  | .block _ c => (after c p).map (0 :: ·)
  | .loop c => match after c p with
   | some q => some (0 :: q)
   | none => some []
  | .scope c => (after c p).map (0 :: ·)
  | _ => none
termination_by structural p
def exitP (id : Nat) (c : Code) (p : List Nat) : Option (Option (List Nat)) :=
 match p with
 | [] => none
 | d :: p => match c with
  | .seq a b => match d with
   | 0 => match exitP id a p with
    | some (some q) => some (some (0 :: q))
    | some none => some (some [1])
    | none => none
   | _ + 1 => (exitP id b p).map (Option.map (1 :: ·))
  | .cond _ a b => match d with
   | 0 => (exitP id a p).map (Option.map (0 :: ·))
   | _ + 1 => (exitP id b p).map (Option.map (1 :: ·))
  | .block id' c => match exitP id c p with
   | some q => some (q.map (0 :: ·))
   | none => if id' == id then some none else none
  | .loop c => match exitP id c p with
   | some (some q) => some (some (0 :: q))
   | some none => some (some [])
   | none => none
  | .scope c => (exitP id c p).map (Option.map (0 :: ·))
  | _ => none
termination_by structural p
def Head (c : Code) (k todo : List Item) : Prop := todo = .code c :: k ∨ ∃ d, c = .loop d ∧ todo = .inLoop d :: k
section
variable {P : Program} {b : Frame} {a : Act} {cs : List Frame} {w : World}
theorem step_inScope {c : Code} {k : List Item} : step P (lone (b.at a (.inScope c :: k)) cs w) = .next (lone (b.at a k) cs w) :=
 step_lone_go (by simp [stepG, stepG.exec, Frame.at])
theorem after_steps : ∀ (body : Code) (p : List Nat) (k0 : List Item) {c : Code} {k : List Item}, todoAt body p k0 = some (c, k) →
  match after body p with
  | some q => ∃ c' k' td, todoAt body q k0 = some (c', k') ∧ Head c' k' td ∧ Steps P (lone (b.at a k) cs w) (lone (b.at a td) cs w)
  | none => Steps P (lone (b.at a k) cs w) (lone (b.at a k0) cs w) := by
 intro body p
 induction p generalizing body with
 | nil =>
  intro k0 c k h
  simp only [todoAt, Option.some.injEq, Prod.mk.injEq] at h
  obtain ⟨rfl, rfl⟩ := h
  simp only [after]
  exact Steps.refl _ _
 | cons d p ih =>
  intro k0 c k h
  cases body with
  | seq x y =>
   cases d with
   | zero =>
    simp only [todoAt] at h
    have := ih x (.code y :: k0) h
    simp only [after]
    cases hx : after x p with
    | some q =>
     rw [hx] at this
     simp only at this ⊢
     obtain ⟨c', k', td, h1, h2, h3⟩ := this
     exact ⟨c', k', td, h1, h2, h3⟩
    | none =>
     rw [hx] at this
     simp only at this ⊢
     exact ⟨y, k0, .code y :: k0, rfl, .inl rfl, this⟩
   | succ d =>
    simp only [todoAt] at h
    have := ih y k0 h
    simp only [after]
    cases hx : after y p with
    | some q => rw [hx] at this; exact this
    | none => rw [hx] at this; exact this
  | cond o x y =>
   cases d with
   | zero =>
    simp only [todoAt] at h
    have := ih x k0 h
    simp only [after]
    cases hx : after x p with
    | some q => rw [hx] at this; exact this
    | none => rw [hx] at this; exact this
   | succ d =>
    simp only [todoAt] at h
    have := ih y k0 h
    simp only [after]
    cases hx : after y p with
    | some q => rw [hx] at this; exact this
    | none => rw [hx] at this; exact this
  | block id x =>
   simp only [todoAt] at h
   have := ih x (.inBlock id :: k0) h
   simp only [after]
   cases hx : after x p with
   | some q => rw [hx] at this; exact this
   | none => rw [hx] at this; exact this.trans (.one step_inBlock)
  | loop x =>
   simp only [todoAt] at h
   have := ih x (.inLoop x :: k0) h
   simp only [after]
   cases hx : after x p with
   | some q => rw [hx] at this; exact this
   | none =>
    rw [hx] at this
    simp only at this ⊢
    exact ⟨.loop x, k0, .inLoop x :: k0, rfl, .inr ⟨x, rfl, rfl⟩, this⟩
  | scope x =>
   simp only [todoAt] at h
   have := ih x (.inScope x :: k0) h
   simp only [after]
   cases hx : after x p with
   | some q => rw [hx] at this; exact this
   | none => rw [hx] at this; exact this.trans (.one step_inScope)
  | _ => simp [todoAt] at h
theorem exit_steps (id : Nat) : ∀ (body : Code) (p : List Nat) (k0 : List Item) {c : Code} {k : List Item}, todoAt body p k0 = some (c, k) →
  match exitP id body p with
  | some (some q) => ∃ kx c' k' td, exitTo id k = some kx ∧ todoAt body q k0 = some (c', k') ∧ Head c' k' td ∧ Steps P (lone (b.at a kx) cs w) (lone (b.at a td) cs w)
  | some none => ∃ kx, exitTo id k = some kx ∧ Steps P (lone (b.at a kx) cs w) (lone (b.at a k0) cs w)
  | none => exitTo id k = exitTo id k0 := by
 intro body p
 induction p generalizing body with
 | nil =>
  intro k0 c k h
  simp only [todoAt, Option.some.injEq, Prod.mk.injEq] at h
  obtain ⟨rfl, rfl⟩ := h
  simp only [exitP]
 | cons d p ih =>
  intro k0 c k h
  cases body with
  | seq x y =>
   cases d with
   | zero =>
    simp only [todoAt] at h
    have := ih x (.code y :: k0) h
    simp only [exitP]
    cases hx : exitP id x p with
    | some q =>
     rw [hx] at this
     cases q with
     | some q => exact this
     | none =>
      simp only at this ⊢
      obtain ⟨kx, h1, h2⟩ := this
      exact ⟨kx, y, k0, .code y :: k0, h1, rfl, .inl rfl, h2⟩
    | none => rw [hx] at this; exact this
   | succ d =>
    simp only [todoAt] at h
    have := ih y k0 h
    simp only [exitP]
    cases hx : exitP id y p with
    | some q => rw [hx] at this; cases q <;> exact this
    | none => rw [hx] at this; exact this
  | cond o x y =>
   cases d with
   | zero =>
    simp only [todoAt] at h
    have := ih x k0 h
    simp only [exitP]
    cases hx : exitP id x p with
    | some q => rw [hx] at this; cases q <;> exact this
    | none => rw [hx] at this; exact this
   | succ d =>
    simp only [todoAt] at h
    have := ih y k0 h
    simp only [exitP]
    cases hx : exitP id y p with
    | some q => rw [hx] at this; cases q <;> exact this
    | none => rw [hx] at this; exact this
  | block id' x =>
   simp only [todoAt] at h
   have := ih x (.inBlock id' :: k0) h
   simp only [exitP]
   cases hx : exitP id x p with
   | some q =>
    rw [hx] at this
    cases q with
    | some q => exact this
    | none =>
     simp only at this ⊢
     obtain ⟨kx, h1, h2⟩ := this
     exact ⟨kx, h1, h2.trans (.one step_inBlock)⟩
   | none =>
    rw [hx] at this
    simp only [exitTo] at this
    by_cases e : id' = id
    ·
     subst e
     simp only [BEq.rfl, if_true] at this ⊢
     exact ⟨k0, this, Steps.refl _ _⟩
    ·
     have e' : (id' == id) = false := by simpa using e
     simp only [e', Bool.false_eq_true, if_false] at this ⊢
     exact this
  | loop x =>
   simp only [todoAt] at h
   have := ih x (.inLoop x :: k0) h
   simp only [exitP]
   cases hx : exitP id x p with
   | some q =>
    rw [hx] at this
    cases q with
    | some q => exact this
    | none =>
     simp only at this ⊢
     obtain ⟨kx, h1, h2⟩ := this
     exact ⟨kx, .loop x, k0, .inLoop x :: k0, h1, rfl, .inr ⟨x, rfl, rfl⟩, h2⟩
   | none => rw [hx] at this; exact this
  | scope x =>
   simp only [todoAt] at h
   have := ih x (.inScope x :: k0) h
   simp only [exitP]
   cases hx : exitP id x p with
   | some q =>
    rw [hx] at this
    cases q with
    | some q => exact this
    | none =>
     simp only at this ⊢
     obtain ⟨kx, h1, h2⟩ := this
     exact ⟨kx, h1, h2.trans (.one step_inScope)⟩
   | none => rw [hx] at this; exact this
  | _ => simp [todoAt] at h
theorem todoAt_down : ∀ (body : Code) (p : List Nat) (k0 : List Item) {c : Code} {k : List Item} (d : Nat), todoAt body p k0 = some (c, k) → todoAt body (p ++ [d]) k0 = todoAt c [d] k := by
 intro body p
 induction p generalizing body with
 | nil =>
  intro k0 c k d h
  simp only [todoAt, Option.some.injEq, Prod.mk.injEq] at h
  obtain ⟨rfl, rfl⟩ := h
  rfl
 | cons e p ih =>
  intro k0 c k d h
  cases body with
  | seq x y => cases e with
   | zero => exact ih x _ d h
   | succ e => exact ih y _ d h
  | cond o x y => cases e with
   | zero => exact ih x _ d h
   | succ e => exact ih y _ d h
  | block id x => exact ih x _ d h
  | loop x => exact ih x _ d h
  | scope x => exact ih x _ d h
  | _ => simp [todoAt] at h
end
structure Fins (R : Type) where
  ret : List PV → Heap → Option R
  pan : Value → Option R
structure Fr where
  K : Nat
  path : List Nat
  ix : Option Nat
  env : List PV
  start : Option (List PV × Heap)
  feet : List (Nat × Ft)
structure Cfg where
  top : Fr
  rest : List Fr
  H : Heap
inductive St (R : Type) : Type 1 where
  | next (c : Cfg)
  | done (r : R)
  | fail
  | test (b : Bool) (s : St R)
  | two (b : Bool) (s t : St R)
  | bind {α : Type} (o : Option α) (k : α → St R)
  | bindC (c : HCon) (x : denPs c.pa × denBs c.pH) (fb : Value → St R) (fg : c.R → St R)
def St.run {R : Type} (f : Cfg → Option R) : St R → Option R
  | .next c => f c
  | .done r => some r
  | .fail => none
  | .test b s => bif b then s.run f else none
  | .two b s t => bif b then s.run f else t.run f
  | .bind o k => obind o fun y => (k y).run f
  | .bindC c x fb fg => c.elim x R (fun v => (fb v).run f) fun r => (fg r).run f
section
variable {P : Program} {I : World → Prop} {g : Nat} (M : Mach P I g) {R : Type} (fin : Fins R)
def Cfg.at (c : Cfg) (q : List Nat) : Cfg := { c with top := { c.top with path := q, ix := none, start := none, feet := [] } }
def Cfg.ref (c : Cfg) (d : Nat) (b : Bool) : Cfg := { c with top := { c.top with env := c.top.env.set d (.val (.bool b)) } }
theorem Cfg.ref_eq {c : Cfg} {d : Nat} {b : Bool} (h : c.top.env.getD d .junk = .val (.bool b)) : c.ref d b = c := by
  have : c.top.env.set d (.val (.bool b)) = c.top.env := by
    apply List.ext_getElem?
    intro i
    by_cases e : d = i
    · subst e
      rcases Nat.lt_or_ge d c.top.env.length with hl | hl
      · simp only [List.getD, List.getElem?_eq_getElem hl, Option.getD_some] at h
        simp [hl, h]
      · simp [hl]
    · simp [List.getElem?_set_ne e]
  unfold Cfg.ref
  rw [this]
def Cfg.refO (c : Cfg) (x : Operand) (b : Bool) : Cfg := match x with
  | .tmp t => c.ref t b
  | _ => c
theorem Cfg.refO_eq {G : Nat → PV} {c : Cfg} {x : Operand} {b : Bool} (h : evalP G c.top.env x = .val (.bool b)) : c.refO x b = c := by
  unfold Cfg.refO
  split
  · exact Cfg.ref_eq h
  · rfl
def res1 (P : Program) (env : List PV) (H : Heap) : ResultVar → Option PV
  | .tmp t => some (env.getD t .junk)
  | .cell a T => loadO P T (env.getD a .junk) H
def resList (P : Program) (env : List PV) (H : Heap) : List ResultVar → Option (List PV)
  | [] => some []
  | x :: l => match res1 P env H x, resList P env H l with
    | some p, some ps => some (p :: ps)
    | _, _ => none
def resultsP (P : Program) (f : Func) (env : List PV) (H : Heap) : Option (List PV) := resList P env H f.results.toList
def retSt (c : Cfg) (f : Func) : St R :=
  match resultsP P f c.top.env c.H with
  | none => .fail
  | some ps => match c.rest with
    | [] => match fin.ret ps c.H with
      | some r => .done r
      | none => .fail
    | fr :: rest => match M.fn fr.K, fr.ix with
      | some h, some i => match h.body with
        | none => .fail
        | some body => match todoAt body fr.path [] with
          | some (.region _ ops _, _) => match ops[i]? with
            | some o => .next ⟨{ fr with env := putP fr.env o.dst (oneP ps), ix := some (i + 1) }, rest, c.H⟩
            | none => .fail
          | _ => .fail
      | _, _ => .fail
def goOn (c : Cfg) (f : Func) : Option (List Nat) → St R
  | some q => .next (c.at q)
  | none => retSt M fin c f
def adv (c : Cfg) (i : Nat) (dst : Option Tmp) (p : PV) (H : Heap) (ft : Ft) : Cfg :=
  { c with top := { c.top with env := putP c.top.env dst p, ix := some (i + 1), feet := match c.top.start with | some _ => c.top.feet ++ [(i, ft)] | none => [] }, H := H }
def pickSt (c : Cfg) (i : Nat) (o : Oper) (y : Operand) : St R :=
  .next (adv c i o.dst (evalP M.gl c.top.env y) (setAll c.H [] ++ []) ((keepE (evalP M.gl c.top.env y)).ft (readsOf o (evalP M.gl c.top.env)) c.H))
def skipSt (c : Cfg) (i : Nat) (o : Oper) : St R := .next (adv c i o.dst nothing (setAll c.H [] ++ []) ⟨[], [], []⟩)
def splitSt {R : Type} (f : Nat → St R) (i : Int) : Nat → Nat → St R
  | _, 0 => .fail
  | c, n + 1 => .two (decide (i = c)) (f c) (splitSt f i (c + 1) n)
def extP (K : Nat) (args : List PV) : Option PV :=
  match args with
  | [p] => bif M.ext K then some p else none
  | _ => none
def finPan (v : Value) : St R := match fin.pan v with
  | some r => .done r
  | none => .fail
def closedV : PV → Option Value
  | .val v => some v
  | .agg ps => (valsOf ps).map fun l => .agg l.toArray
  | _ => none
def panicOf (o : Oper) (ev : Operand → PV) : Option Value := match o.op with
  | .panic x => match ev x with
    | .iface T p => (closedV p).map (.iface T)
    | _ => none
  | _ => none
def seenB (look : List Tmp) : Option Tmp → Bool
  | some d => look.contains d
  | none => false
noncomputable def late (ops : Array Oper) (i : Nat) (look : List Tmp) : Nat → Nat → List PV → Heap → Option (List (Nat × Ft))
  | 0, _, _, _ => some []
  | n + 1, j, env, H => match ops[j]? with
    | none => some []
    | some o => bif depB ops 4 j i then late ops i look n (j + 1) env H else
      match o.guard, callParts o (evalP M.gl env), opP P o (evalP M.gl env) H with
      | none, none, .still true p => bif seenB look o.dst then none else
        (late ops i look n (j + 1) (putP env o.dst p) H).map ((j, (keepE p).ft (readsOf o (evalP M.gl env)) H) :: ·)
      | _, _, _ => none
def sortedB : List Nat → Bool
  | [] => true
  | x :: l => l.all (fun y => decide (x < y)) && sortedB l
def panOk (ops : Array Oper) (l : List (Nat × Ft)) (i : Nat) (fp : Ft) : Bool :=
  edgesLt ops && fineB ops l && sortedB (l.map (·.1)) && l.all (fun x => (x.1 != i) && decide (x.1 < ops.size) && (freeB ops x (i, fp) || depB ops 4 i x.1)) &&
    (List.range ops.size).all (fun j => (l.any fun x => x.1 == j) || j == i || depB ops 4 j i) && decide (l.length + 1 ≤ ops.size)
noncomputable def badSt (c : Cfg) (ops : Array Oper) (o : Oper) (i : Nat) (ft : Ft) (v : Value) : St R :=
  match c.top.start with
  | none => finPan fin v
  | some _ => match late M ops i (o.looksAt ops) ops.size (i + 1) c.top.env c.H with
    | some l => bif panOk ops (c.top.feet ++ l) i ft then finPan fin v else .fail
    | none => .fail
noncomputable def execSt (c : Cfg) (ops : Array Oper) (o : Oper) (i : Nat) : St R :=
  match callParts o (evalP M.gl c.top.env) with
  | some (K, args) => match hfind (M.hcon K) args c.H with
   | some f => .bindC f.c f.x (fun v => badSt M fin c ops o i ⟨(reals f.s.σ ++ f.s.Z) ++ f.s.R, reals f.s.σ ++ f.s.Z, []⟩ v) fun r => .next (adv c i o.dst (ren (thetaF f.s (instBs f.c.qH (f.c.out r).2).length c.H.length) (oneP (insts f.c.qa (f.c.out r).1)))
      (setAll c.H (heditsF f.s c.H (instBs f.c.qH (f.c.out r).2)) ++ happF f.s c.H (instBs f.c.qH (f.c.out r).2)) (hFt f.c f.s r c.H))
   | none => match M.ocon K with
   | some cn => match decArgs cn.params args c.H with
      | some x => .bind (cn.F x) fun y => .next (adv c i o.dst (.all c.H.length) (setAll c.H (frzEdits c.H (idsOf cn.params args)) ++ [some (.row cn.t y)]) ⟨idsOf cn.params args, idsOf cn.params args, [c.H.length]⟩)
      | none => .fail
   | none => match M.con K with
    | some cn => match decArgs cn.params args c.H with
      | some x => .bind (cn.F x) fun y => .next (adv c i o.dst (resPV cn.results y) (setAll c.H (frzEdits c.H (idsOf cn.params args)) ++ []) ⟨idsOf cn.params args, idsOf cn.params args, []⟩)
      | none => .fail
    | none => match extP M K args with
      | some p => .next (adv c i o.dst p (setAll c.H [] ++ []) ⟨[], [], []⟩)
      | none => match c.top.start with
        | some _ => .fail
        | none => match M.fn K with
          | some fK => .next ⟨⟨K, [], none, args ++ List.replicate (fK.ntmps - args.length) nothing, none, []⟩, { c.top with ix := some i } :: c.rest, c.H⟩
          | none => .fail
  | none => match panicOf o (evalP M.gl c.top.env) with
   | some v => match c.top.start with
     | none => finPan fin v
     | some _ => .fail
   | none => match opP P o (evalP M.gl c.top.env) c.H with
    | .pick b _ _ => match o.op with
      | .pick x y z => .two b (pickSt M (c.refO x true) i o y) (pickSt M (c.refO x false) i o z)
      | _ => .fail
    | .split j n f => splitSt (fun k => .next (adv c i o.dst (f k) (setAll c.H [] ++ []) ((keepE (f k)).ft (readsOf o (evalP M.gl c.top.env)) c.H))) j 0 n
    | r => match r.eff with
      | some (b, e) => .test b (.next (adv c i o.dst (e.val c.H.length) (e.heap c.H) (e.ft (readsOf o (evalP M.gl c.top.env)) c.H)))
      | none => .fail
noncomputable def opSt (c : Cfg) (f : Func) (body : Code) (ops : Array Oper) (draw : Bool) (i : Nat) : St R :=
  match ops[i]? with
  | none => match c.top.start, draw with
    | none, false => goOn M fin c f (after body c.top.path)
    | some _, true => if fineB ops c.top.feet && edgesLt ops && decide (i = ops.size) then goOn M fin c f (after body c.top.path) else .fail
    | _, _ => .fail
  | some o =>
    match o.guard with
    | none => execSt M fin c ops o i
    | some (j, want) => match (ops[j]?).bind (·.dst) with
      | none => skipSt c i o
      | some d => match c.top.env.getD d .junk with
        | .val (.bool x) => match want with
          | true => .two x (execSt M fin (c.ref d true) ops o i) (skipSt (c.ref d false) i o)
          | false => .two x (skipSt (c.ref d true) i o) (execSt M fin (c.ref d false) ops o i)
        | .val (.tuple _) => skipSt c i o
        | _ => .fail
noncomputable def stepA (c : Cfg) : St R :=
  match M.fn c.top.K with
  | none => .fail
  | some f => match f.body with
    | none => .fail
    | some body => match todoAt body c.top.path [] with
      | none => .fail
      | some (code, _) => match c.top.ix with
        | some i => match code with
          | .region _ ops draw => opSt M fin c f body ops draw i
          | _ => .fail
        | none => match code with
          | .skip => goOn M fin c f (after body c.top.path)
          | .label _ => goOn M fin c f (after body c.top.path)
          | .seq _ _ => .next (c.at (c.top.path ++ [0]))
          | .block _ _ => .next (c.at (c.top.path ++ [0]))
          | .loop _ => .next (c.at (c.top.path ++ [0]))
          | .scope _ => .next (c.at (c.top.path ++ [0]))
          | .cond x _ _ => match evalP M.gl c.top.env x with
            | .val (.bool b) => .two b (.next ((c.refO x true).at (c.top.path ++ [0]))) (.next ((c.refO x false).at (c.top.path ++ [1])))
            | _ => .fail
          | .exit id => match exitP id body c.top.path with
            | some q => goOn M fin c f q
            | none => .fail
          | .ret => retSt M fin c f
          | .region _ _ draw => .next { c with top := { c.top with ix := some 0, start := if draw then some (c.top.env, c.H) else none, feet := [] } }
          | _ => .fail
noncomputable def runA (X : Cfg → Option (Option R)) : Nat → Cfg → Option R
  | 0, _ => none
  | n + 1, c => (stepA M fin c).run fun c' => match X c' with
    | some o => o
    | none => runA X n c'
end
section
variable {P : Program} {I : World → Prop} {g : Nat} {M : Mach P I g} {R : Type} {fin : Fins R}
variable {base : Base} {S0 : Nat → Prop} {cs0 : List Frame} {post : World → Ending → R → Prop}
def bottom : Nat → List Fr → Nat
  | K, [] => K
  | _, fr :: rest => bottom fr.K rest
structure Waits (M : Mach P I g) (ρ : Loc) (H : Heap) (w : World) (S : Nat → Prop) (fr : Fr) (conc : Frame) : Prop where
  is : ∃ (b : Frame) (a : Act) (ops : Array Oper) (id : Nat) (k : List Item) (i : Nat) (o : Oper) (f : Func) (body : Code), conc = b.at a (.inRegion ops (List.range' i (ops.size - i)) :: k) ∧ b.fn = fr.K ∧ b.kind = .normal ∧ a.defers = [] ∧ M.fn fr.K = some f ∧ f.body = some body ∧
    todoAt body fr.path [] = some (.region id ops false, k) ∧ fr.ix = some i ∧ ops[i]? = some o ∧ PRels ρ H w S fr.env a.tmps.toList ∧ fr.start = none
inductive Stack (M : Mach P I g) (cs0 : List Frame) (ρ : Loc) (H : Heap) (w : World) (S : Nat → Prop) : List Fr → List Frame → Prop where
  | nil : Stack M cs0 ρ H w S [] cs0
  | cons {fr conc frs cs} : Waits M ρ H w S fr conc → Stack M cs0 ρ H w S frs cs → Stack M cs0 ρ H w S (fr :: frs) (conc :: cs)
theorem Waits.ext {ρ ρ' : Loc} {H H' : Heap} {w w' : World} {S S' : Nat → Prop} (h : Ext base ρ H w S ρ' H' w' S') {fr : Fr} {conc : Frame} (k : Waits M ρ H w S fr conc) : Waits M ρ' H' w' S' fr conc := by
  obtain ⟨b, a, ops, id, kk, i, o, f, body, h1, h2, h3, h4, h5, h6, h7, h8, h9, h10, h11⟩ := k.is
  exact ⟨b, a, ops, id, kk, i, o, f, body, h1, h2, h3, h4, h5, h6, h7, h8, h9, h.rels h10, h11⟩
theorem Stack.ext {ρ ρ' : Loc} {H H' : Heap} {w w' : World} {S S' : Nat → Prop} (h : Ext base ρ H w S ρ' H' w' S') {frs : List Fr} {cs : List Frame} (k : Stack M cs0 ρ H w S frs cs) : Stack M cs0 ρ' H' w' S' frs cs := by
  induction k with
  | nil => exact .nil
  | cons h1 _ ih => exact .cons (h1.ext h) ih
def Stands (M : Mach P I g) (fr : Fr) (b : Frame) (a : Act) (todo : List Item) : Prop :=
  b.fn = fr.K ∧ b.kind = .normal ∧ a.defers = [] ∧ ∃ f body code k, M.fn fr.K = some f ∧ f.body = some body ∧ todoAt body fr.path [] = some (code, k) ∧
    match fr.ix with
    | none => fr.start = none ∧ Head code k todo
    | some i => ∃ id ops draw, code = .region id ops draw ∧
      match fr.start with
      | none => draw = false ∧ todo = .inRegion ops (List.range' i (ops.size - i)) :: k
      | some _ => draw = true ∧ todo = .code code :: k
def Traced (M : Mach P I g) (c : Cfg) : Prop :=
  match c.top.start with
  | none => True
  | some (e, h) => ∀ f body id ops draw k i, M.fn c.top.K = some f → f.body = some body → todoAt body c.top.path [] = some (.region id ops draw, k) → c.top.ix = some i →
    OpTrace M ops c.top.feet e h c.top.env c.H ∧ c.top.feet.map (·.1) = List.range i
def Cfg.env0 (c : Cfg) : List PV := match c.top.start with | some (e, _) => e | none => c.top.env
def Cfg.H0 (c : Cfg) : Heap := match c.top.start with | some (_, h) => h | none => c.H
def Fin (P : Program) (K0 : Nat) (base : Base) (cs0 : List Frame) (post : World → Ending → R → Prop) (w : World) (m : Machine) (r : R) : Prop :=
  ∃ fr w' e, Steps P m (lone fr cs0 w') ∧ fr.fn = K0 ∧ fr.leaving P w' e ∧ post w' e r ∧ Keeps base.B w w'
def Sound (M : Mach P I g) (base : Base) (S0 : Nat → Prop) (cs0 : List Frame) (post : World → Ending → R → Prop) (c : Cfg) (r : R) : Prop :=
  ∀ (ρ : Loc) (w : World) (S : Nat → Prop) (b : Frame) (a : Act) (todo : List Item) (cs : List Frame), I w → Low g base S0 → HRel base S0 ρ c.H0 w S → PRels ρ c.H0 w S c.env0 a.tmps.toList → Stands M c.top b a todo → Stack M cs0 ρ c.H0 w S c.rest cs → Traced M c →
    Fin P (bottom c.top.K c.rest) base cs0 post w (lone (b.at a todo) cs w) r
structure FinOk (fin : Fins R) (base : Base) (S0 : Nat → Prop) (post : World → Ending → R → Prop) : Prop where
  ret : ∀ (ps : List PV) (H : Heap) (r : R) (ρ : Loc) (w : World) (S : Nat → Prop) (v : Value), fin.ret ps H = some r → HRel base S0 ρ H w S → PRel ρ H w S (oneP ps) v → post w (.returned v) r
  pan : ∀ (v : Value) (r : R) (w : World), fin.pan v = some r → post w (.panicked [{ v, recovered := false }]) r
theorem Fin.steps {K0 : Nat} {w : World} {m m' : Machine} {r : R} (h : Steps P m m') (k : Fin P K0 base cs0 post w m' r) : Fin P K0 base cs0 post w m r := by
  obtain ⟨fr, w', v, h1, h2⟩ := k
  exact ⟨fr, w', v, h.trans h1, h2⟩
theorem Fin.world {K0 : Nat} {w w1 : World} {m : Machine} {r : R} (h : Keeps base.B w w1) (k : Fin P K0 base cs0 post w1 m r) : Fin P K0 base cs0 post w m r := by
  obtain ⟨fr, w', v, h1, h2, h3, h4, h5⟩ := k
  exact ⟨fr, w', v, h1, h2, h3, h4, h.trans h5⟩
theorem results_run {ρ : Loc} {H : Heap} {w : World} {S : Nat → Prop} (hh : HRel base S0 ρ H w S) {env : List PV} {a : Act} (he : PRels ρ H w S env a.tmps.toList) {f : Func} {ps : List PV} (h : resultsP P f env H = some ps) :
    ∃ v, (results f a.tmps).run P w = .ok v w ∧ PRel ρ H w S (oneP ps) v := by
  have slot : ∀ t, PRel ρ H w S (env.getD t .junk) (a.tmps.getD t undef) := fun t => slot_rel he t
  have list : ∀ (l : List ResultVar) (ps : List PV), resList P env H l = some ps →
      ∃ vs, (l.mapM (m := Sem) fun (x : ResultVar) => match x with | .tmp t => pure (a.tmps.getD t undef) | .cell x t => do loadVar t (← asAddr (a.tmps.getD x undef))).run P w = .ok vs w ∧ PRels ρ H w S ps vs := by
    intro l
    induction l with
    | nil => intro ps h; simp only [resList, Option.some.injEq] at h; subst h; exact ⟨[], rfl, rfl⟩
    | cons x l ih =>
      intro ps h
      simp only [resList] at h
      split at h
      · rename_i p qs hx hl
        cases h
        obtain ⟨vs, h1, h2⟩ := ih qs hl
        have one : ∃ v, (match x with | .tmp t => pure (a.tmps.getD t undef) | .cell x t => do loadVar t (← asAddr (a.tmps.getD x undef)) : Sem Value).run P w = .ok v w ∧ PRel ρ H w S p v := by
          cases x with
          | tmp t => simp only [res1, Option.some.injEq] at hx; subst hx; exact ⟨_, rfl, slot t⟩
          | cell x T =>
            simp only [res1] at hx
            obtain ⟨ad, u, hv, r1, r2⟩ := loadO_run (P := P) hh hx (slot x)
            refine ⟨u, ?_, r2⟩
            simp only [hv, asAddr, Sem.run_bind, Sem.run_pure, Result.andThen_ok, r1]
        obtain ⟨v, g1, g2⟩ := one
        refine ⟨v :: vs, ?_, ⟨v, vs, rfl, g2, h2⟩⟩
        simp only [List.mapM_cons, Sem.run_bind, g1, Result.andThen_ok, h1, Sem.run_pure]
      · cases h
  obtain ⟨vs, h1, h2⟩ := list f.results.toList ps h
  have hm : (f.results.mapM (m := Sem) fun (x : ResultVar) => match x with | .tmp t => pure (a.tmps.getD t undef) | .cell x t => do loadVar t (← asAddr (a.tmps.getD x undef))).run P w = .ok vs.toArray w := by
    rw [Array.mapM_eq_mapM_toList, Sem.run_map, h1]; rfl
  have hl := h2.length
  have hr : (results f a.tmps).run P w = (Result.ok vs.toArray w).andThen (fun vs w' => .ok (if h : vs.size = 1 then vs[0] else .tuple vs) w') := by
    unfold results
    simp only [Sem.run_bind, Sem.run_pure]
    exact congrArg (fun r => Result.andThen r _) hm
  rw [hr]
  refine ⟨_, rfl, ?_⟩
  cases ps with
  | nil =>
    simp only [PRels] at h2
    subst h2
    exact ⟨_, rfl, rfl⟩
  | cons p qs => cases qs with
    | nil =>
      simp only [PRels] at h2
      obtain ⟨u, us, rfl, g1, g2⟩ := h2
      subst g2
      simpa [oneP] using g1
    | cons q qs =>
      have : vs.toArray.size ≠ 1 := by simp at hl ⊢; omega
      rw [dif_neg this]
      exact ⟨_, rfl, h2⟩
end
section
variable {P : Program} {I : World → Prop} {g : Nat} {M : Mach P I g} {R : Type} {fin : Fins R}
variable {base : Base} {S0 : Nat → Prop} {cs0 : List Frame} {post : World → Ending → R → Prop}
theorem range'_cons {i n : Nat} (h : i < n) : List.range' i (n - i) = i :: List.range' (i + 1) (n - (i + 1)) := by
 rw [show n - i = (n - (i + 1)) + 1 by omega, List.range'_succ]
theorem wpOp_steps {ops : Array Oper} {i : Nat} {rest : List Nat} {K : Act → World → Prop} {a : Act} {w : World} (h : wpOp P ops (fun _ _ _ => False) i K a w) (b : Frame) (k : List Item) (cs : List Frame) :
  ∃ a' w', K a' w' ∧ Steps P (lone (b.at a (.inRegion ops (i :: rest) :: k)) cs w) (lone (b.at a' (.inRegion ops rest :: k)) cs w') := by
 unfold wpOp at h
 cases ho : ops[i]? with
 | none =>
  rw [ho] at h
  have hs := step_op_skip (P := P) (b := b) (a := a) (k := k) (cs := cs) (w := w) (ops := ops) (i := i) (rest := rest) (by simp [ho])
  simp only [ho, Option.bind_none, Act.put] at hs
  exact ⟨a, w, h, .one hs⟩
 | some o =>
  simp only [ho] at h
  by_cases hw : Region.wanted o (yielded ops a.tmps) = true
  ·
   simp only [hw, if_true] at h
   rcases h with h | ⟨_, a₀, w₀, hq⟩
   case inr => exact hq.elim
   simp only [Oper.wp, Oper.upon] at h
   have hg := stepG_op (P := P) (b := b) (k := k) (cs := cs) (w := w) (rest := rest) ho hw
   have hfin : ∀ v, (b.at a (.inRegion ops (i :: rest) :: k)).finish v = b.at (a.put o.dst v) (.inRegion ops rest :: k) := by
    intro v; rw [Frame.finish_at, ho]; rfl
   split at h
   ·
    rename_i v w' hr
    refine ⟨_, _, h, .one (step_lone_go ?_)⟩
    rw [hg, ← hfin]; simp [stepG.apply, hr]
   ·
    rename_i w' hr
    refine ⟨_, _, h, .one (step_lone_go ?_)⟩
    rw [hg, ← hfin]; simp [stepG.apply, hr]
   ·
    rename_i d w' hr
    refine ⟨_, _, h, .one (step_lone_go ?_)⟩
    have : ({ b.at a (.inRegion ops (i :: rest) :: k) with defers := d :: a.defers } : Frame).finish undef =
      b.at ({ a with defers := d :: a.defers }.put o.dst undef) (.inRegion ops rest :: k) := by
     have := Frame.finish_at b { a with defers := d :: a.defers } ops i rest k undef
     rw [ho] at this; exact this
    rw [hg]; simp only [stepG.apply, Sem.runT_eq, hr, GStep.bare_after]
    exact congrArg (fun fr => GStep.go { frame := fr, callers := cs, status := .running, dying := none } w') this
   ·
    rename_i f args w' hr
    obtain ⟨e, w'', fr, hR, hsteps, _, hleave⟩ := h (b.at a (.inRegion ops (i :: rest) :: k) :: cs)
    have henter : step P (lone (b.at a (.inRegion ops (i :: rest) :: k)) cs w) =
      .next (lone (Frame.enter P f args .normal) (b.at a (.inRegion ops (i :: rest) :: k) :: cs) w') :=
     step_lone_go (by rw [hg]; simp [stepG.apply, hr, Frame.at])
    cases e with
    | returned v =>
     refine ⟨_, _, hR, .head henter (hsteps.trans (.one ?_))⟩
     rw [← hfin]; exact step_leave_returned hleave
    | panicked chain => exact hR.elim
    | outgrown => obtain ⟨a₀, w₀, hq⟩ := hR; exact hq.elim
   ·
    rename_i row args w' hr
    obtain ⟨v, w'', hR, hsteps⟩ := h (b.at a (.inRegion ops (i :: rest) :: k)) cs
    have henter : step P (lone (b.at a (.inRegion ops (i :: rest) :: k)) cs w) =
      .next (lone (Frame.ofRow P row args .normal) (b.at a (.inRegion ops (i :: rest) :: k) :: cs) w') :=
     step_lone_go (by rw [hg]; simp [stepG.apply, hr, Frame.at])
    refine ⟨_, _, hR, .head henter ?_⟩
    rw [← hfin]; exact hsteps
   · exact h.elim
   · exact h.elim
  ·
   simp only [hw, if_false, Bool.false_eq_true] at h
   have hs := step_op_skip (P := P) (b := b) (a := a) (k := k) (cs := cs) (w := w) (ops := ops) (i := i) (rest := rest)
    (by simp [ho]; simpa using hw)
   simp only [ho, Option.bind_some] at hs
   exact ⟨_, _, h, .one hs⟩
theorem Sound.plain {c : Cfg} {r : R} (hs : c.top.start = none) (h : Sound M base S0 cs0 post c r) : ∀ (ρ : Loc) (w : World) (S : Nat → Prop) (b : Frame) (a : Act) (todo : List Item) (cs : List Frame), I w → Low g base S0 →
  HRel base S0 ρ c.H w S → PRels ρ c.H w S c.top.env a.tmps.toList → Stands M c.top b a todo → Stack M cs0 ρ c.H w S c.rest cs → Fin P (bottom c.top.K c.rest) base cs0 post w (lone (b.at a todo) cs w) r := by
 intro ρ w S b a todo cs hI hg hh he hst hs'
 have e1 : c.H0 = c.H := by simp [Cfg.H0, hs]
 have e2 : c.env0 = c.top.env := by simp [Cfg.env0, hs]
 exact h ρ w S b a todo cs hI hg (e1 ▸ hh) (by rw [e1, e2]; exact he) hst (by rw [e1]; exact hs') (by simp [Traced, hs])
theorem Sound.at (c : Cfg) (q : List Nat) {r : R} {ρ : Loc} {w : World} {S : Nat → Prop} {b : Frame} {a : Act} {td k : List Item} {code : Code} {cs : List Frame} {f : Func} {body : Code} (hI : I w) (hg : Low g base S0) (hh : HRel base S0 ρ c.H w S)
  (he : PRels ρ c.H w S c.top.env a.tmps.toList) (hb1 : b.fn = c.top.K) (hb2 : b.kind = .normal) (hd : a.defers = []) (hf : M.fn c.top.K = some f) (hb : f.body = some body) (ht : todoAt body q [] = some (code, k)) (htd : Head code k td)
  (hst : Stack M cs0 ρ c.H w S c.rest cs) (h : Sound M base S0 cs0 post (c.at q) r) : Fin P (bottom c.top.K c.rest) base cs0 post w (lone (b.at a td) cs w) r :=
 h ρ w S b a td cs hI hg hh he ⟨hb1, hb2, hd, f, body, code, k, hf, hb, ht, rfl, htd⟩ hst trivial
theorem raise_world {ρ : Loc} {H : Heap} {w w' : World} {S : Nat → Prop} {chain : List PanicEntry} : ∀ {rest : List Fr} {cs : List Frame} (K : Nat) (fr : Frame), Stack M cs0 ρ H w S rest cs → fr.fn = K → fr.mode = .panicking chain → fr.defers = [] → (∃ fn, P.funcs[fr.fn]? = some fn) →
  ∃ fr', Steps P (lone fr cs w') (lone fr' cs0 w') ∧ fr'.fn = bottom K rest ∧ fr'.leaving P w' (.panicked chain)
 | [], _, K, fr, h, hk, hm, hd, hf => by
  cases h
  exact ⟨fr, Steps.refl _ _, hk, hm, hd, hf⟩
 | fr0 :: rest, _, K, fr, h, hk, hm, hd, hf => by
  cases h with
  | @cons _ conc _ cs' hwait hst' =>
   obtain ⟨b', a', ops, id, k, i, o, f', body, e1, e2, e3, e4, e5, e6, e7, e8, e9, e10, e11⟩ := hwait.is
   subst e1
   have hstep := step_leave_panicked (P := P) (c := b'.at a' (.inRegion ops (List.range' i (ops.size - i)) :: k)) (cs := cs') (w := w') (fr := fr) (chain := chain) ⟨hm, hd, hf⟩
   have hfn := M.fn_ok _ _ e5
   obtain ⟨fr', s1, s2, s3⟩ := raise_world fr0.K ((b'.at a' (.inRegion ops (List.range' i (ops.size - i)) :: k)).raise chain) hst' e2 rfl e4 ⟨f', by show P.funcs[b'.fn]? = some f'; rw [e2]; exact hfn.1⟩
   exact ⟨fr', .head hstep s1, s2, s3⟩
theorem pan_fin (hfin : FinOk fin base S0 post) {c : Cfg} {f : Func} {r : R} {pv : Value} (hr : fin.pan pv = some r) (hf : M.fn c.top.K = some f) {ρ : Loc} {H : Heap} {w w' : World} {S : Nat → Prop} {b : Frame} {a : Act} {td : List Item} {cs : List Frame}
  (hb1 : b.fn = c.top.K) (hd : a.defers = []) (hst : Stack M cs0 ρ H w S c.rest cs) {m : Machine} (hk : Keeps base.B w w') (hs : Steps P m (lone { b.at a td with mode := .panicking [{ v := pv, recovered := false }] } cs w')) :
  Fin P (bottom c.top.K c.rest) base cs0 post w m r := by
 have hfn := M.fn_ok _ _ hf
 obtain ⟨fr', s1, s2, s3⟩ := raise_world c.top.K ({ b.at a td with mode := .panicking [{ v := pv, recovered := false }] } : Frame) hst hb1 rfl hd ⟨f, by show P.funcs[b.fn]? = some f; rw [hb1]; exact hfn.1⟩ (w' := w')
 exact ⟨fr', w', _, hs.trans s1, s2, s3, hfin.pan pv r w' hr, hk⟩
theorem ret_sound (hfin : FinOk fin base S0 post) {c : Cfg} {f : Func} {F : Cfg → Option R} {r : R} (hr : (retSt M fin c f).run F = some r) (hF : ∀ c', F c' = some r → Sound M base S0 cs0 post c' r)
  (hf : M.fn c.top.K = some f) {ρ : Loc} {w : World} {S : Nat → Prop} {b : Frame} {a : Act} {td : List Item} {cs : List Frame} (hI : I w) (hg : Low g base S0) (hh : HRel base S0 ρ c.H w S) (he : PRels ρ c.H w S c.top.env a.tmps.toList)
  (hb1 : b.fn = c.top.K) (hb2 : b.kind = .normal) (hd : a.defers = []) (hst : Stack M cs0 ρ c.H w S c.rest cs) :
  Fin P (bottom c.top.K c.rest) base cs0 post w (lone { b.at a td with mode := .returning } cs w) r := by
 unfold retSt at hr
 cases hps : resultsP P f c.top.env c.H with
 | none => rw [hps] at hr; cases hr
 | some ps =>
  rw [hps] at hr
  obtain ⟨v, hv1, hv2⟩ := results_run hh he hps
  have hfn := M.fn_ok _ _ hf
  have hleave : ({ b.at a td with mode := .returning } : Frame).leaving P w (.returned v) := ⟨rfl, hd, hb2, f, by show P.funcs[b.fn]? = some f; rw [hb1]; exact hfn.1, hv1⟩
  cases hrest : c.rest with
  | nil =>
   rw [hrest] at hr hst
   cases hst
   simp only at hr
   cases hfi : fin.ret ps c.H with
   | none => rw [hfi] at hr; cases hr
   | some r' =>
    rw [hfi] at hr
    simp only [St.run, Option.some.injEq] at hr
    subst hr
    exact ⟨_, w, _, Steps.refl _ _, hb1, hleave, hfin.ret ps c.H r' ρ w S v hfi hh hv2, Keeps.refl _ _⟩
  | cons fr rest =>
   rw [hrest] at hr hst
   cases hst with
   | @cons _ conc _ cs' hwait hst' =>
    obtain ⟨b', a', ops, id, k, i, o, f', body, e1, e2, e3, e4, e5, e6, e7, e8, e9, e10, e11⟩ := hwait.is
    subst e1
    simp only [e5, e8, e6, e7, e9, St.run] at hr
    have hstep := step_leave_returned (P := P) (c := b'.at a' (.inRegion ops (List.range' i (ops.size - i)) :: k)) (cs := cs') hleave
    have hlt : i < ops.size := (Array.getElem?_eq_some_iff.1 e9).1
    rw [range'_cons hlt, Frame.finish_at, e9] at hstep
    rw [range'_cons hlt]
    have hS := (hF _ hr).plain e11 ρ w S b' (a'.put o.dst v) (.inRegion ops (List.range' (i + 1) (ops.size - (i + 1))) :: k) cs' hI hg hh (putP_rel e10 hv2 o.dst)
     ⟨e2, e3, (put_defers' _ _ _).trans e4, f', body, .region id ops false, k, e5, e6, e7, id, ops, false, rfl, by rw [e11]; exact ⟨rfl, rfl⟩⟩ hst'
    exact Fin.steps (.one hstep) hS
def AfterQ (P : Program) (body : Code) (b : Frame) (a : Act) (cs : List Frame) (w : World) (k : List Item) (q : Option (List Nat)) : Prop :=
 match q with
 | some q => ∃ c' k' td, todoAt body q [] = some (c', k') ∧ Head c' k' td ∧ Steps P (lone (b.at a k) cs w) (lone (b.at a td) cs w)
 | none => Steps P (lone (b.at a k) cs w) (lone (b.at a []) cs w)
theorem afterQ {body : Code} {p : List Nat} {c : Code} {k : List Item} (h : todoAt body p [] = some (c, k)) (b : Frame) (a : Act) (cs : List Frame) (w : World) : AfterQ P body b a cs w k (after body p) := by
 have := after_steps (P := P) (b := b) (a := a) (cs := cs) (w := w) body p [] h
 unfold AfterQ
 cases hq : after body p with
 | some q => rw [hq] at this; exact this
 | none => rw [hq] at this; exact this
theorem goOn_sound (hfin : FinOk fin base S0 post) {c : Cfg} {f : Func} {F : Cfg → Option R} {r : R} {q : Option (List Nat)} (hr : (goOn M fin c f q).run F = some r) (hF : ∀ c', F c' = some r → Sound M base S0 cs0 post c' r)
  (hf : M.fn c.top.K = some f) {body : Code} (hb : f.body = some body) {ρ : Loc} {w : World} {S : Nat → Prop} {b : Frame} {a : Act} {k : List Item} {cs : List Frame} (hI : I w) (hg : Low g base S0) (hh : HRel base S0 ρ c.H w S) (he : PRels ρ c.H w S c.top.env a.tmps.toList)
  (hb1 : b.fn = c.top.K) (hb2 : b.kind = .normal) (hd : a.defers = []) (hst : Stack M cs0 ρ c.H w S c.rest cs)
  (hq : AfterQ P body b a cs w k q) :
  Fin P (bottom c.top.K c.rest) base cs0 post w (lone (b.at a k) cs w) r := by
 cases q with
 | some q =>
  obtain ⟨c', k', td, h1, h2, h3⟩ : ∃ c' k' td, todoAt body q [] = some (c', k') ∧ Head c' k' td ∧ Steps P (lone (b.at a k) cs w) (lone (b.at a td) cs w) := hq
  simp only [goOn, St.run] at hr
  exact Fin.steps h3 (Sound.at c q hI hg hh he hb1 hb2 hd hf hb h1 h2 hst (hF _ hr))
 | none =>
  simp only [goOn] at hr
  have hq' : Steps P (lone (b.at a k) cs w) (lone (b.at a []) cs w) := hq
  refine Fin.steps (hq'.trans (.one step_end)) (ret_sound hfin hr hF hf hI hg hh he hb1 hb2 hd hst)
theorem opstep_sound {c : Cfg} {f : Func} {body : Code} {id : Nat} {ops : Array Oper} {draw : Bool} {k : List Item} {i : Nat} {o : Oper} {p : PV} {H' : Heap} {ft : Ft} {r : R} (hf : M.fn c.top.K = some f) (hb : f.body = some body)
  (ht : todoAt body c.top.path [] = some (.region id ops draw, k)) (hix : c.top.ix = some i) (hs : OpStep M ops i c.top.env c.H (putP c.top.env o.dst p) H' ft)
  (h : Sound M base S0 cs0 post (adv c i o.dst p H' ft) r) : Sound M base S0 cs0 post c r := by
 intro ρ w S b a todo cs hI hg hh he hst hstack htr
 obtain ⟨hb1, hb2, hd, f', body', code, k', e1, e2, e3, e4⟩ := hst
 rw [hf] at e1; cases e1
 rw [hb] at e2; cases e2
 rw [ht] at e3; cases e3
 rw [hix] at e4
 obtain ⟨id', ops', draw', e5, e6⟩ := e4
 cases e5
 have hlt : i < ops.size := by
  obtain ⟨oo, _, ho, _⟩ := hs
  exact (Array.getElem?_eq_some_iff.1 ho).1
 cases hstart : c.top.start with
 | none =>
  rw [hstart] at e6
  obtain ⟨rfl, rfl⟩ := e6
  have eH : c.H0 = c.H := by simp [Cfg.H0, hstart]
  have eE : c.env0 = c.top.env := by simp [Cfg.env0, hstart]
  rw [eH] at hh he hstack
  rw [eE] at he
  have hwp := opstep_wp (M := M) (Q := fun _ _ _ => False) (K := fun a' w' => ∃ ρ' S', I w' ∧ HRel base S0 ρ' H' w' S' ∧ Ext base ρ c.H w S ρ' H' w' S' ∧ PRels ρ' H' w' S' (putP c.top.env o.dst p) a'.tmps.toList ∧ a'.defers = a.defers)
   hg hI hh he hs (fun ρ' w' S' a' h1 h2 h3 h4 h5 => ⟨ρ', S', h1, h2, h3, h4, h5⟩)
  rw [range'_cons hlt]
  obtain ⟨a', w', ⟨ρ', S', h1, h2, h3, h4, h5⟩, hsteps⟩ := wpOp_steps hwp b (rest := List.range' (i + 1) (ops.size - (i + 1))) k cs
  refine Fin.steps hsteps (Fin.world h3.below ?_)
  have hsn : (adv c i o.dst p H' ft).top.start = none := hstart
  exact h.plain hsn ρ' w' S' b a' _ cs h1 hg h2 h4 ⟨hb1, hb2, h5.trans hd, f, body, .region id ops false, k, hf, hb, ht, id, ops, false, rfl, by rw [hsn]; exact ⟨rfl, rfl⟩⟩ (hstack.ext h3)
 | some s =>
  obtain ⟨e, h0⟩ := s
  rw [hstart] at e6
  obtain ⟨rfl, rfl⟩ := e6
  have hsn : (adv c i o.dst p H' ft).top.start = some (e, h0) := hstart
  have eH : (adv c i o.dst p H' ft).H0 = c.H0 := by simp [Cfg.H0, hsn, hstart]
  have eE : (adv c i o.dst p H' ft).env0 = c.env0 := by simp [Cfg.env0, hsn, hstart]
  refine h ρ w S b a _ cs hI hg (eH ▸ hh) (by rw [eH, eE]; exact he) ⟨hb1, hb2, hd, f, body, .region id ops true, k, hf, hb, ht, id, ops, true, rfl, by rw [hsn]; exact ⟨rfl, rfl⟩⟩ (by rw [eH]; exact hstack) ?_
  simp only [Traced, hsn]
  intro f2 body2 id2 ops2 draw2 k2 i2 q1 q2 q3 q4
  have q1' : M.fn c.top.K = some f2 := q1
  rw [hf] at q1'; cases q1'
  rw [hb] at q2; cases q2
  have q3' : todoAt body c.top.path [] = _ := q3
  rw [ht] at q3'; cases q3'
  have q4' : some (i + 1) = some i2 := q4
  cases q4'
  simp only [Traced, hstart] at htr
  obtain ⟨t1, t2⟩ := htr f body id ops true k i hf hb ht hix
  have hfeet : (adv c i o.dst p H' ft).top.feet = c.top.feet ++ [(i, ft)] := by simp [adv, hstart]
  rw [hfeet]
  refine ⟨t1.snoc hs, ?_⟩
  rw [List.map_append, t2, List.range_succ]
  rfl
end
section
variable {P : Program} {I : World → Prop} {g : Nat} {M : Mach P I g} {R : Type} {fin : Fins R}
variable {base : Base} {S0 : Nat → Prop} {cs0 : List Frame} {post : World → Ending → R → Prop}
theorem step_scope' {b : Frame} {a : Act} {c : Code} {k : List Item} {cs : List Frame} {w : World} : Go.step P (lone (b.at a (.code (.scope c) :: k)) cs w) = .next (lone (b.at a (.code c :: .inScope c :: k)) cs w) :=
 step_lone_go (by simp [stepG, stepG.exec, Frame.at])
theorem enter_step {ops : Array Oper} {i : Nat} {rest : List Nat} {o : Oper} {a : Act} {w : World} {K : Nat} {vs : Array Value} (ho : ops[i]? = some o) (hw : Region.wanted o (yielded ops a.tmps) = true)
  (hr : (execOp a.eval o).run P w = .ok (.enter K vs) w) (b : Frame) (k : List Item) (cs : List Frame) :
  Go.step P (lone (b.at a (.inRegion ops (i :: rest) :: k)) cs w) = .next (lone (Frame.enter P K vs .normal) (b.at a (.inRegion ops (i :: rest) :: k) :: cs) w) := by
 have hg := stepG_op (P := P) (b := b) (k := k) (cs := cs) (w := w) (rest := rest) ho hw
 exact step_lone_go (by rw [hg]; simp [stepG.apply, hr, Frame.at])
theorem PRels.replicate {ρ : Loc} {H : Heap} {w : World} {S : Nat → Prop} (n : Nat) : PRels ρ H w S (List.replicate n nothing) (List.replicate n undef) := by
 induction n with
 | zero => exact rfl
 | succ n ih => exact ⟨undef, _, List.replicate_succ, rfl, ih⟩
theorem St.run_bind {α : Type} {o : Option α} {k : α → St R} {F : Cfg → Option R} {r : R} (h : (St.bind o k).run F = some r) : ∃ y, o = some y ∧ (k y).run F = some r := by
 cases o with
 | none => cases h
 | some y => exact ⟨y, rfl, h⟩
theorem wanted_bool {ops : Array Oper} {o : Oper} {env : List PV} {j : Nat} {want x : Bool} {d : Tmp} (hgd : o.guard = some (j, want)) (hd0 : (ops[j]?).bind (·.dst) = some d) (hx : env.getD d .junk = .val (.bool x)) : Wanted ops o env (x == want) := by
 unfold Wanted
 rw [hgd]
 simp only [hd0, hx]
theorem wanted_none {ops : Array Oper} {o : Oper} {env : List PV} {j : Nat} {want : Bool} (hgd : o.guard = some (j, want)) (hd0 : (ops[j]?).bind (·.dst) = none) : Wanted ops o env false := by
 unfold Wanted
 rw [hgd]
 simp only [hd0]
theorem wanted_undef {ops : Array Oper} {o : Oper} {env : List PV} {j : Nat} {want : Bool} {d : Tmp} {us : Array Value} (hgd : o.guard = some (j, want)) (hd0 : (ops[j]?).bind (·.dst) = some d) (hx : env.getD d .junk = .val (.tuple us)) : Wanted ops o env false := by
 unfold Wanted
 rw [hgd]
 simp only [hd0, hx]
theorem extP_some {K : Nat} {args : List PV} {p : PV} (h : extP M K args = some p) : args = [p] ∧ M.ext K = true := by
 unfold extP at h
 split at h
 ·
  cases he : M.ext K with
  | false => rw [he] at h; cases h
  | true => rw [he] at h; cases h; exact ⟨rfl, rfl⟩
 · cases h
theorem splitSt_run {f : Nat → St R} {i : Int} {F : Cfg → Option R} {r : R} : ∀ (n c : Nat), (splitSt f i c n).run F = some r → ∃ m : Nat, m < c + n ∧ i = m ∧ (f m).run F = some r
 | 0, _, h => by cases h
 | n + 1, c, h => by
  simp only [splitSt, St.run] at h
  by_cases e : i = c
  ·
   simp only [e, decide_true, cond_true] at h
   exact ⟨c, by omega, e, h⟩
  ·
   simp only [e, decide_false, cond_false] at h
   obtain ⟨m, h1, h2, h3⟩ := splitSt_run n (c + 1) h
   exact ⟨m, by omega, h2, h3⟩
theorem closedV_rel {ρ : Loc} {H : Heap} {w : World} {S : Nat → Prop} {p : PV} {u v : Value} (h : closedV p = some u) (hp : PRel ρ H w S p v) : v = u := by
 cases p with
 | val x => simp only [closedV, Option.some.injEq] at h; subst h; simpa only [PRel] using hp
 | agg ps =>
  simp only [closedV] at h
  cases hv : valsOf ps with
  | none => rw [hv] at h; cases h
  | some l =>
   rw [hv] at h
   simp only [Option.map_some, Option.some.injEq] at h
   subst h
   simp only [PRel] at hp
   obtain ⟨us, rfl, hu⟩ := hp
   have := valsOf_rel hv hu
   rw [← this]
 | _ => cases h
theorem panic_run (hg : Low g base S0) {w : World} (hI : I w) {ρ : Loc} {H : Heap} {S : Nat → Prop} (hh : HRel base S0 ρ H w S) {o : Oper} {env : List PV} {a : Act} {pv : Value} (he : PRels ρ H w S env a.tmps.toList) (hp : panicOf o (evalP M.gl env) = some pv) :
  (execOp a.eval o).run P w = .halt (.panic pv) w := by
 obtain ⟨dst, op, ty, pos, aft, gd⟩ := o
 unfold panicOf at hp
 split at hp
 ·
  rename_i x hop
  simp only at hop
  subst hop
  split at hp
  ·
   rename_i T p hx
   have hr := evalP_rel M hg hI hh he x
   rw [hx] at hr
   simp only [PRel] at hr
   obtain ⟨u, hu, hpu⟩ := hr
   cases hc : closedV p with
   | none => rw [hc] at hp; cases hp
   | some u' =>
    rw [hc] at hp
    simp only [Option.map_some, Option.some.injEq] at hp
    subst hp
    have := closedV_rel hc hpu
    subst this
    simp only [execOp, hu]
    rfl
  · cases hp
 · cases hp
theorem pan_now (hfin : FinOk fin base S0 post) {c : Cfg} {f : Func} {body : Code} {id : Nat} {ops : Array Oper} {draw : Bool} {k : List Item} {i : Nat} {r : R} {pv : Value} (hf : M.fn c.top.K = some f) (hb : f.body = some body)
  (ht : todoAt body c.top.path [] = some (.region id ops draw, k)) (hix : c.top.ix = some i) (hstart : c.top.start = none) (hlt : i < ops.size) (hr : fin.pan pv = some r)
  (hp : ∀ (ρ : Loc) (w : World) (S : Nat → Prop) (a : Act), I w → Low g base S0 → HRel base S0 ρ c.H w S → PRels ρ c.H w S c.top.env a.tmps.toList →
   wpOp P ops (fun e a' w' => e = .panic [{ v := pv, recovered := false }] ∧ a'.defers = a.defers ∧ Keeps base.B w w') i (fun _ _ => False) a w) : Sound M base S0 cs0 post c r := by
 intro ρ w S b a todo cs hI hg hh he hst hstack htr
 obtain ⟨hb1, hb2, hd, f', body', code, k', e1, e2, e3, e4⟩ := hst
 rw [hf] at e1; cases e1
 rw [hb] at e2; cases e2
 rw [ht] at e3; cases e3
 rw [hix] at e4
 obtain ⟨id', ops', draw', e5, e6⟩ := e4
 cases e5
 rw [hstart] at e6
 obtain ⟨rfl, rfl⟩ := e6
 have eH : c.H0 = c.H := by simp [Cfg.H0, hstart]
 have eE : c.env0 = c.top.env := by simp [Cfg.env0, hstart]
 rw [eH] at hh he hstack
 rw [eE] at he
 have hwp := hp ρ w S a hI hg hh he
 rw [range'_cons hlt]
 have hops : wpOps P ops (fun e a' w' => e = .panic [{ v := pv, recovered := false }] ∧ a'.defers = a.defers ∧ Keeps base.B w w') (i :: List.range' (i + 1) (ops.size - (i + 1))) a w := by
  rw [wpOps_cons]
  exact wpOp_mono (fun _ _ h => h.elim) hwp
 obtain ⟨e, a', w', ⟨rfl, hd', hk⟩, harr⟩ := wp_ops _ a w hops b k cs
 obtain ⟨td, hsteps⟩ := harr
 exact pan_fin hfin hr hf hb1 (hd'.trans hd) hstack hk hsteps
theorem sortedB_pairwise : ∀ {l : List Nat}, sortedB l = true → l.Pairwise (· < ·)
 | [], _ => .nil
 | x :: l, h => by
  simp only [sortedB, Bool.and_eq_true, List.all_eq_true, decide_eq_true_eq] at h
  exact .cons h.1 (sortedB_pairwise h.2)
theorem OpTrace.append {l1 l2 : List (Nat × Ft)} {env H env1 H1 env2 H2} {ops : Array Oper} (h : OpTrace M ops l1 env H env1 H1) (k : OpTrace M ops l2 env1 H1 env2 H2) : OpTrace M ops (l1 ++ l2) env H env2 H2 := by
 induction h with
 | nil => exact k
 | cons h1 _ ih => exact .cons h1 (ih k)
theorem late_trace {ops : Array Oper} {i : Nat} {look : List Tmp} : ∀ {n j : Nat} {env : List PV} {H : Heap} {l : List (Nat × Ft)}, late M ops i look n j env H = some l →
  ∃ envF, OpTrace M ops l env H envF H ∧ ∀ t ∈ look, envF.getD t .junk = env.getD t .junk
 | 0, _, env, H, l, h => by simp only [late, Option.some.injEq] at h; subst h; exact ⟨env, .nil, fun _ _ => rfl⟩
 | n + 1, j, env, H, l, h => by
  simp only [late] at h
  split at h
  · simp only [Option.some.injEq] at h; subst h; exact ⟨env, .nil, fun _ _ => rfl⟩
  ·
   rename_i o ho
   cases hdep : depB ops 4 j i with
   | true => rw [hdep] at h; exact late_trace h
   | false =>
    rw [hdep] at h
    simp only [cond_false] at h
    split at h
    ·
     rename_i p hgd hcp hop
     cases hl : seenB look o.dst with
     | true => rw [hl] at h; cases h
     | false =>
      rw [hl] at h
      simp only [cond_false] at h
      cases hrec : late M ops i look n (j + 1) (putP env o.dst p) H with
      | none => rw [hrec] at h; cases h
      | some l' =>
       rw [hrec] at h
       simp only [Option.map_some, Option.some.injEq] at h
       subst h
       obtain ⟨envF, ht, hk⟩ := late_trace hrec
       have hx : (keepE p).heap H = H := by simp [keepE, Eff.heap, setAll]
       refine ⟨envF, .cons ⟨o, keepE p, ho, OpAct.op (by simp [Wanted, hgd]) (by rw [hop]; rfl), rfl, hx.symm⟩ ht, fun t htl => (hk t htl).trans (putP_getD fun d hd e => ?_)⟩
       rw [hd] at hl
       subst e
       have : look.contains d = true := by simpa using htl
       simp only [seenB, this] at hl
       cases hl
    · cases h
theorem badSt_sound (hfin : FinOk fin base S0 post) {c : Cfg} {f : Func} {body : Code} {id : Nat} {ops : Array Oper} {draw : Bool} {k : List Item} {i : Nat} {o : Oper} {r : R} {F : Cfg → Option R} {ft : Ft} {pv : Value} {env' : List PV} {H' : Heap} (hf : M.fn c.top.K = some f) (hb : f.body = some body)
  (ht : todoAt body c.top.path [] = some (.region id ops draw, k)) (hix : c.top.ix = some i) (ho : ops[i]? = some o) (hs : OpStepB M ops i c.top.env c.H env' H' ft (some pv))
  (hr : (badSt M fin c ops o i ft pv).run F = some r) : Sound M base S0 cs0 post c r := by
 have hlt : i < ops.size := (Array.getElem?_eq_some_iff.1 ho).1
 have hpan : ∀ {x : St R}, x = finPan fin pv → x.run F = some r → fin.pan pv = some r := by
  rintro _ rfl h
  unfold finPan at h
  split at h
  ·
   rename_i r' hr'
   simp only [St.run, Option.some.injEq] at h
   subst h; exact hr'
  · cases h
 unfold badSt at hr
 cases hstart : c.top.start with
 | none =>
  rw [hstart] at hr
  exact pan_now hfin hf hb ht hix hstart hlt (hpan rfl hr) (fun ρ w S a hI hg hh he => oppan_wp hg hI hh he hs (fun w' hk => ⟨rfl, rfl, hk⟩))
 | some st =>
  rw [hstart] at hr
  simp only at hr
  split at hr
  rotate_left
  · cases hr
  rename_i l hl
  cases hok : panOk ops (c.top.feet ++ l) i ft with
  | false => rw [hok] at hr; cases hr
  | true =>
   rw [hok] at hr
   have hpanr := hpan rfl hr
   obtain ⟨e0, h0⟩ := st
   intro ρ w S b a todo cs hI hg hh he hst hstack htr
   obtain ⟨hb1, hb2, hd, f', body', code, k', e1, e2, e3, e4⟩ := hst
   rw [hf] at e1; cases e1
   rw [hb] at e2; cases e2
   rw [ht] at e3; cases e3
   rw [hix] at e4
   obtain ⟨id', ops', draw', e5, e6⟩ := e4
   cases e5
   rw [hstart] at e6
   obtain ⟨rfl, rfl⟩ := e6
   have eH : c.H0 = h0 := by simp [Cfg.H0, hstart]
   have eE : c.env0 = e0 := by simp [Cfg.env0, hstart]
   rw [eH] at hh he hstack
   rw [eE] at he
   simp only [Traced, hstart] at htr
   obtain ⟨t1, _⟩ := htr f body id ops true k i hf hb ht hix
   obtain ⟨envF, t2, hlook⟩ := late_trace hl
   have t3 := t1.append t2
   obtain ⟨oo, ee, ho2, ha, _, _⟩ := hs
   rw [ho] at ho2; cases ho2
   have hs' : OpStepB M ops i envF c.H _ _ ft (some pv) := ⟨o, ee, ho, ha.local hlook (fun _ _ => rfl) (.inl rfl), rfl, rfl⟩
   simp only [panOk, Bool.and_eq_true, decide_eq_true_eq] at hok
   obtain ⟨⟨⟨⟨⟨hel, hfine⟩, hsort⟩, hall⟩, hcov⟩, hsz⟩ := hok
   simp only [List.all_eq_true, Bool.and_eq_true, bne_iff_ne, ne_eq, Bool.or_eq_true, beq_iff_eq, List.any_eq_true, List.mem_range, decide_eq_true_eq] at hall hcov
   have hdr : HRel base S0 ρ h0 w.drew S := hh.drew
   have hIw : I w.drew := M.keep _ _ g (Nat.le_refl _) ((Below.refl _ _).drew) hI
   have hrep : ∀ j, (Array.replicate ops.size false).getD j true = false ↔ j < ops.size := by
    intro j
    by_cases hj : j < ops.size
    · simp [hj]
    · simp [hj]
   have hany := trace_pan (M := M) (base := base) (S0 := S0) hel hg (Q := fun e a' w' => e = .panic [{ v := pv, recovered := false }] ∧ a'.defers = a.defers ∧ Keeps base.B w w') ho
    (ops.size - 1) (c.top.feet ++ l) (Array.replicate ops.size false) ρ e0 h0 w.drew S a envF c.H _ _
    (by omega) (by simp)
    (fun j hj => by
     obtain ⟨x, hx, rfl⟩ := List.mem_map.mp hj
     exact (hrep x.1).mpr (hall x hx).1.2)
    (fun j hj => by
     rcases hcov j ((hrep j).mp hj) with (⟨x, hx, rfl⟩ | h) | h
     · exact .inl (List.mem_map.mpr ⟨x, hx, rfl⟩)
     · exact .inr (.inl h)
     · exact .inr (.inr h))
    ((hrep i).mpr hlt)
    (fun hm => by
     obtain ⟨x, hx, e⟩ := List.mem_map.mp hm
     exact (hall x hx).1.1 e)
    (sortedB_pairwise hsort)
    (fun c1 o1 _ hl => by
     have hl' : (Array.replicate ops.size false).getD c1 false = true := hl
     by_cases hj : c1 < ops.size
     · simp [hj] at hl'
     · simp [hj] at hl')
    hfine
    (fun x hx => by
     rcases (hall x hx).2 with h | h
     · exact .inl (freeB_free h)
     · exact .inr h)
    hIw hdr ((Ext.drew hh).rels he) t3 hs'
    (fun w' a' q1 q2 => ⟨rfl, q2, (Ext.drew hh).below.trans q1⟩)
   rw [show ops.size - 1 + 1 = ops.size by omega] at hany
   have hwp := wp_region_any (id := id) M.mixed hany
   obtain ⟨e, a', w', ⟨rfl, hd', hk⟩, harr⟩ := hwp b k cs
   obtain ⟨td, hsteps⟩ := harr
   exact pan_fin hfin hpanr hf hb1 (hd'.trans hd) hstack hk hsteps
theorem execSt_sound (hfin : FinOk fin base S0 post) {c : Cfg} {f : Func} {body : Code} {id : Nat} {ops : Array Oper} {draw : Bool} {k : List Item} {i : Nat} {o : Oper} {r : R} {F : Cfg → Option R} (hf : M.fn c.top.K = some f) (hb : f.body = some body)
  (ht : todoAt body c.top.path [] = some (.region id ops draw, k)) (hix : c.top.ix = some i) (ho : ops[i]? = some o) (hw : Wanted ops o c.top.env true)
  (hr : (execSt M fin c ops o i).run F = some r) (hF : ∀ c', F c' = some r → Sound M base S0 cs0 post c' r) : Sound M base S0 cs0 post c r := by
 unfold execSt at hr
 split at hr
 ·
  rename_i K args hcp
  split at hr
  ·
   rename_i f0 hfd
   obtain ⟨hmem, hmt⟩ := hfind_ok hfd
   obtain ⟨y, hy, ⟨pv, hbad, hr⟩ | ⟨hbad, hr⟩⟩ := f0.c.elim_is _ _ _ _ _ hr
   · exact badSt_sound hfin hf hb ht hix ho ⟨o, _, ho, OpAct.pcall hw hcp hmem hmt hy hbad, rfl, rfl⟩ hr
   · exact opstep_sound hf hb ht hix ⟨o, _, ho, OpAct.hcall hw hcp hmem hmt hy hbad, rfl, rfl⟩ (hF _ hr)
  split at hr
  ·
   rename_i cn hcon
   split at hr
   ·
    rename_i x hx
    obtain ⟨y, hy, hr⟩ := St.run_bind hr
    exact opstep_sound hf hb ht hix ⟨o, _, ho, OpAct.ocall hw hcp hcon hx hy, rfl, rfl⟩ (hF _ hr)
   · cases hr
  split at hr
  ·
   rename_i cn hcon
   split at hr
   ·
    rename_i x hx
    obtain ⟨y, hy, hr⟩ := St.run_bind hr
    exact opstep_sound hf hb ht hix ⟨o, _, ho, OpAct.call hw hcp hcon hx hy, rfl, rfl⟩ (hF _ hr)
   · cases hr
  ·
   split at hr
   ·
    rename_i p hext
    obtain ⟨rfl, hext2⟩ := extP_some hext
    simp only [St.run] at hr
    exact opstep_sound hf hb ht hix ⟨o, _, ho, OpAct.ext hw hcp hext2, rfl, rfl⟩ (hF _ hr)
   split at hr
   · cases hr
   ·
    rename_i hstart
    split at hr
    ·
     rename_i fK hfK
     simp only [St.run] at hr
     intro ρ w S b a todo cs hI hg hh he hst hstack htr
     obtain ⟨hb1, hb2, hd, f', body', code, k', e1, e2, e3, e4⟩ := hst
     rw [hf] at e1; cases e1
     rw [hb] at e2; cases e2
     rw [ht] at e3; cases e3
     rw [hix] at e4
     obtain ⟨id', ops', draw', e5, e6⟩ := e4
     cases e5
     rw [hstart] at e6
     obtain ⟨rfl, rfl⟩ := e6
     have eH : c.H0 = c.H := by simp [Cfg.H0, hstart]
     have eE : c.env0 = c.top.env := by simp [Cfg.env0, hstart]
     rw [eH] at hh he hstack
     rw [eE] at he
     have hlt : i < ops.size := (Array.getElem?_eq_some_iff.1 ho).1
     obtain ⟨hfn1, hfn2, hfn3⟩ := M.fn_ok _ _ hfK
     obtain ⟨vs, hrun, hargs⟩ := call_run hg hI hh he hcp ⟨fK, hfn1, hfn2, hfn3⟩
     obtain ⟨bodyK, hbK⟩ := Option.isSome_iff_exists.mp hfn3
     have hstep := enter_step (rest := List.range' (i + 1) (ops.size - (i + 1))) ho (wanted_conc he hw) hrun b k cs
     have henter : Frame.enter P K vs .normal =
       ({ (default : Frame) with fn := K, kind := .normal } : Frame).at { tmps := vs ++ Array.replicate (fK.ntmps - vs.size) undef, defers := [] } [.code bodyK] := by
      simp [Frame.enter, Frame.at, hfn1, hbK]
     rw [henter] at hstep
     rw [range'_cons hlt]
     refine Fin.steps (.one hstep) ?_
     have hlen : args.length = vs.size := by simpa using hargs.length
     refine (hF _ hr).plain rfl ρ w S _ _ _ _ hI hg hh ?_ ⟨rfl, rfl, rfl, fK, bodyK, bodyK, [], hfK, hbK, rfl, rfl, .inl rfl⟩ (.cons ⟨b, a, ops, id, k, i, o, f, body, ?_, hb1, hb2, hd, hf, hb, ht, rfl, ho, he, hstart⟩ hstack)
     ·
      have : (vs ++ Array.replicate (fK.ntmps - vs.size) undef).toList = vs.toList ++ List.replicate (fK.ntmps - args.length) undef := by simp [hlen]
      simp only [this]
      exact hargs.append (PRels.replicate _)
     · rw [range'_cons hlt]
    · cases hr
 ·
  split at hr
  ·
   -- a panic
   rename_i pv hpv
   split at hr
   rotate_left
   · cases hr
   rename_i hstart
   have hlt : i < ops.size := (Array.getElem?_eq_some_iff.1 ho).1
   have hpan : fin.pan pv = some r := by
    unfold finPan at hr
    split at hr
    ·
     rename_i r' hr'
     simp only [St.run, Option.some.injEq] at hr
     subst hr; exact hr'
    · cases hr
   refine pan_now hfin hf hb ht hix hstart hlt hpan (fun ρ w S a hI hg hh he => ?_)
   unfold wpOp
   simp only [ho]
   rw [wanted_conc he hw]
   simp only [if_true]
   left
   unfold Oper.wp
   rw [panic_run hg hI hh he hpv]
   exact ⟨rfl, rfl, Keeps.refl _ _⟩
  split at hr
  ·
   rename_i b p q hop
   split at hr
   rotate_left
   · cases hr
   rename_i x y z hopp
   have hxyz : evalP M.gl c.top.env x = .val (.bool b) ∧ p = evalP M.gl c.top.env y ∧ q = evalP M.gl c.top.env z := by
    unfold opP at hop
    rw [hopp] at hop
    simp only at hop
    split at hop
    ·
     rename_i t ht
     simp only [OpR.pick.injEq] at hop
     obtain ⟨rfl, rfl, rfl⟩ := hop
     exact ⟨ht, rfl, rfl⟩
    · cases hop
   obtain ⟨hx, rfl, rfl⟩ := hxyz
   simp only [St.run] at hr
   have act : ∀ t : PV, t = (if b then evalP M.gl c.top.env y else evalP M.gl c.top.env z) → OpStep M ops i c.top.env c.H (putP c.top.env o.dst t) (setAll c.H [] ++ []) ((keepE t).ft (readsOf o (evalP M.gl c.top.env)) c.H) := by
    rintro t rfl
    exact ⟨o, keepE (if b then evalP M.gl c.top.env y else evalP M.gl c.top.env z), ho, OpAct.op hw (by rw [hop]; rfl), rfl, rfl⟩
   cases b with
   | true =>
    rw [Cfg.refO_eq hx] at hr
    exact opstep_sound hf hb ht hix (act _ rfl) (hF _ hr)
   | false =>
    rw [Cfg.refO_eq hx] at hr
    exact opstep_sound hf hb ht hix (act _ rfl) (hF _ hr)
  ·
   rename_i j n f hop
   obtain ⟨m, hlt, rfl, hr2⟩ := splitSt_run n 0 hr
   refine opstep_sound hf hb ht hix ⟨o, keepE (f m), ho, OpAct.op hw (by rw [hop]; simp only [OpR.eff]; rw [decide_eq_true (by omega)]; rfl), rfl, rfl⟩ (hF _ hr2)
  ·
   split at hr
   ·
    rename_i b e heff
    simp only [St.run] at hr
    cases b with
    | false => simp at hr
    | true =>
     simp only [cond_true] at hr
     exact opstep_sound hf hb ht hix ⟨o, e, ho, OpAct.op hw heff, rfl, rfl⟩ (hF _ hr)
   · cases hr
theorem opSt_sound (hfin : FinOk fin base S0 post) {c : Cfg} {f : Func} {body : Code} {id : Nat} {ops : Array Oper} {draw : Bool} {k : List Item} {i : Nat} {r : R} {F : Cfg → Option R} (hf : M.fn c.top.K = some f) (hb : f.body = some body)
  (ht : todoAt body c.top.path [] = some (.region id ops draw, k)) (hix : c.top.ix = some i)
  (hr : (opSt M fin c f body ops draw i).run F = some r) (hF : ∀ c', F c' = some r → Sound M base S0 cs0 post c' r) : Sound M base S0 cs0 post c r := by
 unfold opSt at hr
 split at hr
 ·
  -- the region's end
  rename_i hnone
  have hge : ops.size ≤ i := by
   rcases Nat.lt_or_ge i ops.size with h | h
   · simp [h] at hnone
   · exact h
  intro ρ w S b a todo cs hI hg hh he hst hstack htr
  obtain ⟨hb1, hb2, hd, f', body', code, k', e1, e2, e3, e4⟩ := hst
  rw [hf] at e1; cases e1
  rw [hb] at e2; cases e2
  rw [ht] at e3; cases e3
  rw [hix] at e4
  obtain ⟨id', ops', draw', e5, e6⟩ := e4
  cases e5
  split at hr
  ·
   rename_i hstart
   rw [hstart] at e6
   obtain ⟨_, rfl⟩ := e6
   have eH : c.H0 = c.H := by simp [Cfg.H0, hstart]
   have eE : c.env0 = c.top.env := by simp [Cfg.env0, hstart]
   rw [eH] at hh he hstack
   rw [eE] at he
   have hemp : List.range' i (ops.size - i) = [] := by rw [show ops.size - i = 0 by omega]; rfl
   rw [hemp]
   exact Fin.steps (.one step_region_end) (goOn_sound hfin hr hF hf hb hI hg hh he hb1 hb2 hd hstack (afterQ ht _ _ _ _))
  ·
   rename_i st hstart
   obtain ⟨e0, h0⟩ := st
   rw [hstart] at e6
   obtain ⟨_, rfl⟩ := e6
   have eH : c.H0 = h0 := by simp [Cfg.H0, hstart]
   have eE : c.env0 = e0 := by simp [Cfg.env0, hstart]
   rw [eH] at hh he hstack
   rw [eE] at he
   split at hr
   ·
    rename_i hcond
    simp only [Bool.and_eq_true, decide_eq_true_eq] at hcond
    obtain ⟨⟨hfine, hedge⟩, hisz⟩ := hcond
    simp only [Traced, hstart] at htr
    obtain ⟨t1, t2⟩ := htr f body id ops true k i hf hb ht hix
    have hdr : HRel base S0 ρ h0 w.drew S := hh.drew
    have hIw : I w.drew := M.keep _ _ g (Nat.le_refl _) ((Below.refl _ _).drew) hI
    have hany := trace_any (M := M) (base := base) (S0 := S0) hedge hg (Q := fun e a' w' => e = .normal ∧ ∃ ρ' S', I w' ∧ HRel base S0 ρ' c.H w' S' ∧ Ext base ρ h0 w S ρ' c.H w' S' ∧ PRels ρ' c.H w' S' c.top.env a'.tmps.toList ∧ a'.defers = a.defers)
     ops.size c.top.feet (Array.replicate ops.size false) ρ e0 h0 w.drew S a
     (by have := congrArg List.length t2; simp at this; omega) (by simp)
     (fun j => by
      rw [t2, List.mem_range, hisz]
      by_cases hj : j < ops.size
      · simp [hj]
      · simp [hj])
     (by rw [t2]; exact List.pairwise_lt_range)
     (fun c1 o1 _ hl => by
      have hl' : (Array.replicate ops.size false).getD c1 false = true := hl
      by_cases hj : c1 < ops.size
      · simp [hj] at hl'
      · simp [hj] at hl')
     hfine hIw hdr ((Ext.drew hh).rels he) t1
     (fun ρ' w' S' a' q1 q2 q3 q4 q5 => ⟨rfl, ρ', S', q1, q2, (Ext.drew hh).trans q3, q4, q5⟩)
    have hwp := wp_region_any (id := id) M.mixed hany
    obtain ⟨e, a', w', ⟨rfl, ρ', S', q1, q2, q3, q4, q5⟩, harr⟩ := hwp b k cs
    exact Fin.steps harr (Fin.world q3.below (goOn_sound hfin hr hF hf hb q1 hg q2 q4 hb1 hb2 (q5.trans hd) (hstack.ext q3) (afterQ ht _ _ _ _)))
   · cases hr
  · cases hr
 ·
  rename_i o ho
  have skip : (Wanted ops o c.top.env false) → (F (adv c i o.dst nothing (setAll c.H [] ++ []) ⟨[], [], []⟩) = some r) → Sound M base S0 cs0 post c r :=
   fun hw hk => opstep_sound hf hb ht hix ⟨o, keepE nothing, ho, OpAct.skip hw, rfl, rfl⟩ (hF _ hk)
  split at hr
  ·
   rename_i hgd
   exact execSt_sound hfin hf hb ht hix ho (by simp [Wanted, hgd]) hr hF
  ·
   rename_i j want hgd
   split at hr
   ·
    rename_i hd0
    exact skip (wanted_none hgd hd0) hr
   ·
    rename_i d hd0
    split at hr
    ·
     rename_i x hx
     cases want with
     | true =>
      simp only [St.run] at hr
      cases x with
      | true => rw [Cfg.ref_eq hx] at hr; exact execSt_sound hfin hf hb ht hix ho (wanted_bool hgd hd0 hx) hr hF
      | false => rw [Cfg.ref_eq hx] at hr; exact skip (wanted_bool hgd hd0 hx) hr
     | false =>
      simp only [St.run] at hr
      cases x with
      | true => rw [Cfg.ref_eq hx] at hr; exact skip (wanted_bool hgd hd0 hx) hr
      | false => rw [Cfg.ref_eq hx] at hr; exact execSt_sound hfin hf hb ht hix ho (wanted_bool hgd hd0 hx) hr hF
    ·
     rename_i us hx
     exact skip (wanted_undef hgd hd0 hx) hr
    · cases hr
theorem step_sound (hfin : FinOk fin base S0 post) {c : Cfg} {r : R} {F : Cfg → Option R} (hr : (stepA M fin c).run F = some r) (hF : ∀ c', F c' = some r → Sound M base S0 cs0 post c' r) : Sound M base S0 cs0 post c r := by
 unfold stepA at hr
 split at hr
 · cases hr
 ·
  rename_i f hf
  split at hr
  · cases hr
  ·
   rename_i body hb
   split at hr
   · cases hr
   ·
    rename_i code k ht
    split at hr
    ·
     rename_i i hix
     split at hr
     ·
      rename_i id ops draw
      exact opSt_sound hfin hf hb ht hix hr hF
     · cases hr
    ·
     rename_i hix
     intro ρ w S b a todo cs hI hg hh he hst hstack htr
     obtain ⟨hb1, hb2, hd, f', body', code', k', e1, e2, e3, e4⟩ := hst
     rw [hf] at e1; cases e1
     rw [hb] at e2; cases e2
     rw [ht] at e3; cases e3
     rw [hix] at e4
     obtain ⟨hstart, hhead⟩ := e4
     have eH : c.H0 = c.H := by simp [Cfg.H0, hstart]
     have eE : c.env0 = c.top.env := by simp [Cfg.env0, hstart]
     rw [eH] at hh he hstack
     rw [eE] at he
     have aft : ∀ (a : Act) (w : World), AfterQ P body b a cs w k (after body c.top.path) := fun a w => afterQ ht b a cs w
     have down : ∀ (d : Nat), todoAt body (c.top.path ++ [d]) [] = todoAt code [d] k := fun d => todoAt_down body c.top.path [] d ht
     split at hr
     ·
      -- skip
      rcases hhead with rfl | ⟨d, hd', _⟩
      · exact Fin.steps (.one step_skip) (goOn_sound hfin hr hF hf hb hI hg hh he hb1 hb2 hd hstack (aft a w))
      · cases hd'
     ·
      rcases hhead with rfl | ⟨d, hd', _⟩
      · exact Fin.steps (.one step_label) (goOn_sound hfin hr hF hf hb hI hg hh he hb1 hb2 hd hstack (aft a w))
      · cases hd'
     ·
      -- seq
      rcases hhead with rfl | ⟨d, hd', _⟩
      · exact Fin.steps (.one step_seq) (Sound.at c _ hI hg hh he hb1 hb2 hd hf hb (down 0) (.inl rfl) hstack (hF _ hr))
      · cases hd'
     ·
      -- block
      rcases hhead with rfl | ⟨d, hd', _⟩
      · exact Fin.steps (.one step_block) (Sound.at c _ hI hg hh he hb1 hb2 hd hf hb (down 0) (.inl rfl) hstack (hF _ hr))
      · cases hd'
     ·
      -- loop
      rcases hhead with rfl | ⟨d, hd', rfl⟩
      · exact Fin.steps (.one step_loop) (Sound.at c _ hI hg hh he hb1 hb2 hd hf hb (down 0) (.inl rfl) hstack (hF _ hr))
      ·
       cases hd'
       exact Fin.steps (.one step_inLoop) (Sound.at c _ hI hg hh he hb1 hb2 hd hf hb (down 0) (.inl rfl) hstack (hF _ hr))
     ·
      -- scope
      rcases hhead with rfl | ⟨d, hd', _⟩
      · exact Fin.steps (.one step_scope') (Sound.at c _ hI hg hh he hb1 hb2 hd hf hb (down 0) (.inl rfl) hstack (hF _ hr))
      · cases hd'
     ·
      -- cond
      rename_i x y z
      rcases hhead with rfl | ⟨d, hd', _⟩
      ·
       split at hr
       ·
        rename_i t hx
        have hv := evalP_rel M hg hI hh he x
        rw [hx] at hv
        simp only [PRel] at hv
        simp only [St.run] at hr
        refine Fin.steps (.one (step_cond hv)) ?_
        cases t with
        | true => rw [Cfg.refO_eq hx] at hr; exact Sound.at c _ hI hg hh he hb1 hb2 hd hf hb (down 0) (.inl rfl) hstack (hF _ hr)
        | false => rw [Cfg.refO_eq hx] at hr; exact Sound.at c _ hI hg hh he hb1 hb2 hd hf hb (down 1) (.inl rfl) hstack (hF _ hr)
       · cases hr
      · cases hd'
     ·
      -- exit
      rename_i id
      rcases hhead with rfl | ⟨d, hd', _⟩
      ·
       have hex := exit_steps (P := P) (b := b) (a := a) (cs := cs) (w := w) id body c.top.path [] ht
       split at hr
       ·
        rename_i q hq
        rw [hq] at hex
        cases q with
        | some q =>
         obtain ⟨kx, c', k', td, h1, h2, h3, h4⟩ := hex
         exact Fin.steps (.one (step_exit h1)) (goOn_sound hfin hr hF hf hb hI hg hh he hb1 hb2 hd hstack ⟨c', k', td, h2, h3, h4⟩)
        | none =>
         obtain ⟨kx, h1, h2⟩ := hex
         exact Fin.steps (.one (step_exit h1)) (goOn_sound hfin hr hF hf hb hI hg hh he hb1 hb2 hd hstack h2)
       · cases hr
      · cases hd'
     ·
      -- ret
      rcases hhead with rfl | ⟨d, hd', _⟩
      · exact Fin.steps (.one step_ret) (ret_sound hfin hr hF hf hI hg hh he hb1 hb2 hd hstack)
      · cases hd'
     ·
      -- region
      rename_i id ops draw
      rcases hhead with rfl | ⟨d, hd', _⟩
      ·
       simp only [St.run] at hr
       have hS := hF _ hr
       cases draw with
       | false =>
        refine Fin.steps (.one step_region) ?_
        refine hS.plain rfl ρ w S b a _ cs hI hg hh he ⟨hb1, hb2, hd, f, body, .region id ops false, k, hf, hb, ht, id, ops, false, rfl, rfl, ?_⟩ hstack
        rw [List.range_eq_range']
        rfl
       | true =>
        refine hS ρ w S b a _ cs hI hg hh he ⟨hb1, hb2, hd, f, body, .region id ops true, k, hf, hb, ht, id, ops, true, rfl, rfl, rfl⟩ hstack ?_
        simp only [Traced, if_true]
        intro f2 body2 id2 ops2 draw2 k2 i2 q1 q2 q3 q4
        cases q4
        exact ⟨.nil, rfl⟩
      · cases hd'
     · cases hr
theorem runA_sound (hfin : FinOk fin base S0 post) {X : Cfg → Option (Option R)} {r : R} (hX : ∀ c, X c = some (some r) → Sound M base S0 cs0 post c r) : ∀ (n : Nat) (c : Cfg), runA M fin X n c = some r → Sound M base S0 cs0 post c r
 | 0, _, h => by cases h
 | n + 1, c, h => by
  refine step_sound hfin h (fun c' hc' => ?_)
  split at hc'
  · rename_i o ho; exact hX c' (by rw [ho, hc'])
  · exact runA_sound hfin hX n c' hc'
end
section
variable {P : Program} {I : World → Prop} {g : Nat} {M : Mach P I g}
def finP (c : Con) : Fins (denL c.results) := ⟨fun ps H => decArgs c.results ps H, fun _ => none⟩
def Ret {R : Type} (p : World → Value → R → Prop) (w : World) (e : Ending) (r : R) : Prop := ∃ v, e = .returned v ∧ p w v r
def startP (K ntmps : Nat) (ps : List PV) : Cfg := ⟨⟨K, [], none, ps ++ List.replicate (ntmps - ps.length) nothing, none, []⟩, [], []⟩
theorem pvsOf_length : ∀ (ts : List Ty) (x : denL ts), (pvsOf ts x).length = ts.length
 | [], _ => rfl
 | _ :: ts, x => by simp [pvsOf, pvsOf_length ts]
def Base.all (w : World) : Base := ⟨fun b => b < w.heap.size, 0, fun _ => none, []⟩
theorem Keeps.all {w w' : World} (h : Keeps (Base.all w).B w w') : Below w.heap.size w w' := h.below fun _ hb => hb
theorem HRel.empty {w : World} {S : Nat → Prop} (hS : ∀ b, S b → b < w.heap.size) : HRel (Base.all w) S (fun _ => none) [] w S :=
 ⟨⟨fun _ h => h, Nat.zero_le _, fun _ h => absurd h (Nat.not_lt_zero _), fun _ h => absurd h (Nat.not_lt_zero _), fun _ h => absurd h (Nat.not_lt_zero _)⟩, hS, fun blk => ⟨fun h => .inl h, fun h => by
   rcases h with h | ⟨b, o, n, h1, _⟩
   · exact h
   · have := at_lt h1; simp at this⟩,
  fun b o blk n h1 _ => by have := at_lt h1; simp at this, fun b b' o o' blk n n' h1 _ _ _ => by have := at_lt h1; simp at this, fun b o h1 => by have := at_lt h1; simp at this⟩
theorem finP_ok (c : Con) (base : Base) (S0 : Nat → Prop) : FinOk (finP c) base S0 (Ret fun w v r => RepRes w S0 c.results r v) := by
 refine ⟨fun ps H r ρ w S v hf hh hv => ⟨v, rfl, ?_⟩, fun v r w h => by cases h⟩
 obtain ⟨S1, f1, f2⟩ := frzH_rel (idsOf c.results ps) hh
 have hS : ∀ b, b < w.heap.size → S0 b → S1 b := fun b _ h => (f1.own b).mpr (.inl h)
 unfold finP at hf
 obtain ⟨params, results, F⟩ := c
 simp only at hf f1 f2 r ⊢
 have list : ∀ vs, PRels ρ H w S ps vs → RepVs w S0 results r vs := fun vs hvs =>
  (decArgs_rel f1 (fun b hb => hb) hf (f2.rels hvs)).mono (Same.refl _ _) (fun b hb h => hS b hb h)
 unfold RepRes
 split
 ·
  rename_i t r
  cases ps with
  | nil => simp [decArgs] at hf
  | cons p qs => cases qs with
   | nil =>
    obtain ⟨u, us, e, h1, h2⟩ := list [v] ⟨v, [], rfl, hv, rfl⟩
    simp at e
    obtain ⟨rfl, rfl⟩ := e
    exact h1
   | cons q qs =>
    simp only [decArgs] at hf
    (repeat' split at hf) <;> first | cases hf | skip
    all_goals (rename_i h; simp at h)
 ·
  rename_i r hne
  have tup : ∃ us, v = .tuple us ∧ PRels ρ H w S ps us.toList := by
   cases ps with
   | nil => exact hv
   | cons p qs => cases qs with
    | nil =>
     exfalso
     cases results with
     | nil => simp [decArgs] at hf
     | cons t ts => cases ts with
      | nil => exact hne t r rfl HEq.rfl
      | cons t2 ts =>
       simp only [decArgs] at hf
       (repeat' split at hf) <;> first | cases hf | skip
       all_goals (rename_i h; simp [decArgs] at h)
    | cons q qs => exact hv
  obtain ⟨us, rfl, h1⟩ := tup
  exact ⟨us, rfl, list _ h1⟩
theorem RepVs.length {w : World} {S : Nat → Prop} : ∀ {ts : List Ty} {x : denL ts} {vs : List Value}, RepVs w S ts x vs → vs.length = ts.length
 | [], _, _, h => by obtain rfl := h; rfl
 | _ :: _, _, _, h => by obtain ⟨u, us, rfl, _, h2⟩ := h; simp [RepVs.length h2]
theorem comes_of_steps {m m' : Machine} {e : Ending} (h : Steps P m m') (he : e ≠ .outgrown) : Comes P m m' e := by
 cases e with
 | outgrown => exact absurd rfl he
 | _ => exact h
theorem call_sound {R : Type} {post : Base → (Nat → Prop) → World → Ending → R → Prop} {y : R} {ts : List Ty} {x : denL ts} (hret : ∀ b S w e, post b S w e y → e ≠ .outgrown) (hgI : ∀ w, I w → g ≤ w.heap.size) {K : Nat} {f : Func} (hf : M.fn K = some f)
  (h : ∀ base S0 cs0, base.n = 0 → Sound M base S0 cs0 (post base S0) (startP K f.ntmps (pvsOf ts x)) y) (w : World) (S : Nat → Prop) (args : Array Value) (hI : I w) (hS : ∀ b, S b → g ≤ b ∧ b < w.heap.size) (hargs : RepVs w S ts x args.toList) :
  Calls P K args w fun e w' => post (Base.all w) S w' e y ∧ Below w.heap.size w w' := by
 intro cs
 obtain ⟨hfn, _, hbody⟩ := M.fn_ok _ _ hf
 obtain ⟨body, hb⟩ := Option.isSome_iff_exists.mp hbody
 have henter : Frame.enter P K args .normal = ({ (default : Frame) with fn := K, kind := .normal } : Frame).at { tmps := args ++ Array.replicate (f.ntmps - args.size) undef, defers := [] } [.code body] := by
  simp [Frame.enter, Frame.at, hfn, hb]
 have hlen : (pvsOf ts x).length = args.size := by rw [pvsOf_length]; have := hargs.length; simp at this; omega
 have := h (Base.all w) S cs rfl (fun _ => none) w S ({ (default : Frame) with fn := K, kind := .normal } : Frame) { tmps := args ++ Array.replicate (f.ntmps - args.size) undef, defers := [] } [.code body] cs hI ⟨fun b hb => Nat.lt_of_lt_of_le hb (hgI w hI), fun b hb => (hS b hb).1⟩ (HRel.empty fun b hb => (hS b hb).2)
  (by
   have e : (args ++ Array.replicate (f.ntmps - args.size) undef).toList = args.toList ++ List.replicate (f.ntmps - (pvsOf ts x).length) undef := by simp [hlen]
   simp only [e]
   exact (pvsOf_rel hargs).append (PRels.replicate _))
  ⟨rfl, rfl, rfl, f, body, body, [], hf, hb, rfl, rfl, .inl rfl⟩ .nil trivial
 obtain ⟨fr, w', e, h1, h2, h3, h4, h5⟩ := this
 refine ⟨e, w', fr, ⟨h4, h5.all⟩, ?_, h2, h3⟩
 rw [henter]
 exact comes_of_steps h1 (hret _ _ _ _ h4)
theorem con_sound (hgI : ∀ w, I w → g ≤ w.heap.size) {K : Nat} {c : Con} {f : Func} (hf : M.fn K = some f)
  (h : ∀ x y, c.F x = some y → ∀ base S0 cs0, base.n = 0 → Sound M base S0 cs0 (Ret fun w v r => RepRes w S0 c.results r v) (startP K f.ntmps (pvsOf c.params x)) y) : c.Sound P I g K :=
 fun x y hxy w S args hI hS hargs => (call_sound (post := fun _ S0 => Ret fun w v r => RepRes w S0 c.results r v) (fun _ _ _ _ h => by obtain ⟨v, rfl, _⟩ := h; simp) hgI hf (fun base S0 cs0 hn => h x y hxy base S0 cs0 hn) w S args hI hS hargs).mono fun e w' h => by
  obtain ⟨⟨v, e1, e2⟩, e3⟩ := h
  exact ⟨v, e1, e2, e3⟩
def finO (t : Ty) : Fins (List t.den) := ⟨fun ps H => match ps with
 | [.all b] => match H.at? b with
  | some (.row _ m) => castL m
  | _ => none
 | [.val (.slice none 0 0)] => some []
 | [.sl b 0 k] => match H.at? b with
  | some (.row _ m) => (castL m).map fun l => l.take k
  | _ => none
 | _ => none, fun _ => none⟩
def OPost (t : Ty) (base : Base) (S0 : Nat → Prop) : World → Ending → List t.den → Prop := Ret fun w v r => OwnRow base.B w S0 t r v
theorem finO_ok (t : Ty) (base : Base) (S0 : Nat → Prop) : FinOk (finO t) base S0 (OPost t base S0) := by
 refine ⟨fun ps H r ρ w S v hf hh hv => ⟨v, rfl, ?_⟩, fun v r w h => by cases h⟩
 simp only [finO] at hf
 split at hf
 ·
  rename_i b
  split at hf
  ·
   rename_i t' m ho
   obtain ⟨rfl, rfl⟩ := castL_some hf
   have hv : PRel ρ H w S (.all b) v := hv
   simp only [PRel] at hv
   rcases hv.2 _ ho rfl with ⟨blk, n, cap, hr, rfl, hle, hn⟩ | ⟨h0, rfl⟩
   ·
    rcases hh.block _ _ ho with ⟨blk', arr, elem, fz, h1, h2, h3, h4, h5⟩ | ⟨h1, _⟩
    ·
     rw [hr] at h1; cases h1
     exact .inr ⟨blk, arr, elem, fz, cap, S, rfl, hle, hn, (hh.from_ b _ _ _ ho hr).1, h2, h3, fun b hb => (hh.own b).mpr (.inl hb), (hh.own blk).mpr (.inr ⟨b, _, _, ho, rfl, hr⟩), h4, h5⟩
    · rw [hr] at h1; cases h1
   · exact .inl ⟨List.length_eq_zero_iff.mp h0, rfl⟩
  · cases hf
 ·
  cases hf
  have hv : PRel ρ H w S (.val (.slice none 0 0)) v := hv
  simp only [PRel] at hv
  exact .inl ⟨rfl, hv⟩
 ·
  rename_i b k
  split at hf
  ·
   rename_i t' m ho
   obtain ⟨l, hl, rfl⟩ := Option.map_eq_some_iff.mp hf
   obtain ⟨rfl, rfl⟩ := castL_some hl
   have hv : PRel ρ H w S (.sl b 0 k) v := hv
   simp only [PRel] at hv
   obtain ⟨hk, ⟨blk, n, cap, hr, rfl, hle, hn⟩ | ⟨h0, a, rfl, ha⟩⟩ := hv.2 _ ho rfl
   ·
    have hk' : k ≤ l.length := by simpa [AO.len] using hk
    rcases hh.block _ _ ho with ⟨blk', arr, elem, fz, h1, h2, h3, h4, h5⟩ | ⟨h1, _⟩
    ·
     rw [hr] at h1; cases h1
     have hlen : (l.take k).length = k := by simp; omega
     refine .inr ⟨blk, arr, elem, fz, cap, S, by rw [hlen]; simp, by rw [hlen]; exact hle, by simpa [AO.elemSize] using hn, (hh.from_ b _ _ _ ho hr).1, h2, h3, fun b hb => (hh.own b).mpr (.inl hb), (hh.own blk).mpr (.inr ⟨b, _, _, ho, rfl, hr⟩), fun i hi => ?_, h5⟩
     obtain ⟨vs, g1, g2⟩ := h4 i (by omega)
     exact ⟨vs, by rw [List.getElem_take]; exact g1, g2⟩
    · rw [hr] at h1; cases h1
   ·
    subst h0
    rw [ha trivial]
    exact .inl ⟨by simp, rfl⟩
  · cases hf
 · cases hf
theorem ocon_sound (hgI : ∀ w, I w → g ≤ w.heap.size) {K : Nat} {c : OCon} {f : Func} (hf : M.fn K = some f)
  (h : ∀ x y, c.F x = some y → ∀ base S0 cs0, base.n = 0 → Sound M base S0 cs0 (OPost c.t base S0) (startP K f.ntmps (pvsOf c.params x)) y) : c.Sound P I g K :=
 fun x y hxy w S args hI hS hargs => (call_sound (post := fun base S0 => OPost c.t base S0) (fun _ _ _ _ h => by obtain ⟨v, rfl, _⟩ := h; simp) hgI hf (fun base S0 cs0 hn => h x y hxy base S0 cs0 hn) w S args hI hS hargs).mono fun e w' h => by
  obtain ⟨⟨v, e1, e2⟩, e3⟩ := h
  exact ⟨v, e1, e2, e3⟩
end
universe u
section
variable {α : Type u}
def kInt (i : IntKind) (k : IntKind → α) : α := match i with
 | .i8 => k .i8 | .i16 => k .i16 | .i32 => k .i32 | .i64 => k .i64 | .u8 => k .u8 | .u16 => k .u16 | .u32 => k .u32 | .u64 => k .u64
def kVal (v : Value) (k : Value → α) : α := match v with
 | .int i n => kInt i fun i => k (.int i n)
 | .bool b => k (.bool b)
 | .string s => k (.string s)
 | .tuple us => k (.tuple us)
 | v => k v
def kBool (b : Bool) (k : Bool → α) : α := match b with
 | true => k true
 | false => k false
theorem kInt_eq (i : IntKind) (k : IntKind → α) : kInt i k = k i := by cases i <;> rfl
theorem kVal_eq (v : Value) (k : Value → α) : kVal v k = k v := by cases v <;> simp only [kVal, kInt_eq]
theorem kBool_eq (b : Bool) (k : Bool → α) : kBool b k = k b := by cases b <;> rfl
def kNat (tbl : List Nat) (n : Nat) (k : Nat → α) : α := match tbl with
 | [] => k n
 | t :: tbl => bif Nat.beq n t then k t else kNat tbl n k
termination_by structural tbl
theorem kNat_eq : ∀ (tbl : List Nat) (n : Nat) (k : Nat → α), kNat tbl n k = k n
 | [], _, _ => rfl
 | t :: tbl, n, k => by
  rw [kNat]
  cases h : Nat.beq n t with
  | true => simp [Nat.eq_of_beq_eq_true h]
  | false => exact kNat_eq tbl n k
def small : List Nat := [0, 1, 2, 3, 4, 5, 6, 7, 8, 9, 10, 11, 12, 13, 14, 15, 16, 17, 18, 19, 20, 21, 22, 23, 24, 25, 26, 27, 28, 29, 30, 31, 32, 33, 34, 35, 36, 37, 38, 39, 40]
mutual
def kPV (p : PV) (k : PV → α) : α := match p with
 | .val v => kVal v fun v => k (.val v)
 | .rows t l c => kBool c fun c => k (.rows t l c)
 | .sl b off len => kNat small b fun b => k (.sl b off len)
 | .all b => kNat small b fun b => k (.all b)
 | .cs b off len sz => kNat small b fun b => k (.cs b off len sz)
 | .ptr b off => kNat small b fun b => kNat small off fun off => k (.ptr b off)
 | .rptr b i j => kNat small b fun b => kNat small j fun j => k (.rptr b i j)
 | .pin t x j => k (.pin t x j)
 | .func fn f c => kPVs f fun f => kPVs c fun c => k (.func fn f c)
 | .iface t x => kPV x fun x => k (.iface t x)
 | .agg cs => kPVs cs fun cs => k (.agg cs)
 | .tuple vs => kPVs vs fun vs => k (.tuple vs)
 | .emp => k .emp
 | .junk => k .junk
 | .tab t l => k (.tab t l)
 | .head b => kNat small b fun b => k (.head b)
 | .nos b off => kNat small b fun b => kNat small off fun off => k (.nos b off)
 | .mp b => kNat small b fun b => k (.mp b)
termination_by structural p
def kPVs (ps : List PV) (k : List PV → α) : α := match ps with
 | [] => k []
 | p :: ps => kPV p fun p => kPVs ps fun ps => k (p :: ps)
termination_by structural ps
end
mutual
theorem kPV_eq : ∀ (p : PV) (k : PV → α), kPV p k = k p
 | .val v, k => kVal_eq v _
 | .rows t l c, k => kBool_eq c _
 | .sl b off len, k => kNat_eq _ _ _
 | .all b, k => kNat_eq _ _ _
 | .cs b off len sz, k => kNat_eq _ _ _
 | .ptr b off, k => by rw [kPV, kNat_eq, kNat_eq]
 | .rptr b i j, k => by rw [kPV, kNat_eq, kNat_eq]
 | .pin t x j, k => rfl
 | .func fn f c, k => by rw [kPV, kPVs_eq f, kPVs_eq c]
 | .iface t x, k => by rw [kPV, kPV_eq x]
 | .agg cs, k => by rw [kPV, kPVs_eq cs]
 | .tuple vs, k => by rw [kPV, kPVs_eq vs]
 | .emp, k => rfl
 | .junk, k => rfl
 | .tab t l, k => rfl
 | .head b, k => by rw [kPV, kNat_eq]
 | .nos b off, k => by rw [kPV, kNat_eq, kNat_eq]
 | .mp b, k => by rw [kPV, kNat_eq]
theorem kPVs_eq : ∀ (ps : List PV) (k : List PV → α), kPVs ps k = k ps
 | [], k => rfl
 | p :: ps, k => by rw [kPVs, kPV_eq p, kPVs_eq ps]
end
def kAO (o : Option AO) (k : Option AO → α) : α := match o with
 | none => k none
 | some (.cells e cs) => kPVs cs fun cs => k (some (.cells e cs))
 | some (.row t l) => k (some (.row t l))
 | some (.fro t l) => k (some (.fro t l))
 | some .res => k (some .res)
 | some (.map kt vt l) => k (some (.map kt vt l))
 | some (.mapF kt l ps) => kPVs ps fun ps => k (some (.mapF kt l ps))
theorem kAO_eq (o : Option AO) (k : Option AO → α) : kAO o k = k o := by
 cases o with
 | none => rfl
 | some o => cases o <;> first | rfl | exact kPVs_eq _ _
def kHeap (H : Heap) (k : Heap → α) : α := match H with
 | [] => k []
 | o :: H => kAO o fun o => kHeap H fun H => k (o :: H)
termination_by structural H
theorem kHeap_eq : ∀ (H : Heap) (k : Heap → α), kHeap H k = k H
 | [], _ => rfl
 | o :: H, k => by rw [kHeap, kAO_eq, kHeap_eq H]
def kList {β : Type} (l : List β) (k : List β → α) : α := match l with
 | [] => k []
 | x :: l => kList l fun l => k (x :: l)
termination_by structural l
theorem kList_eq {β : Type} : ∀ (l : List β) (k : List β → α), kList l k = k l
 | [], _ => rfl
 | x :: l, k => by rw [kList, kList_eq l]
def kFt (x : Nat × Ft) (k : Nat × Ft → α) : α := match x with
 | (i, ⟨r, w, n⟩) => kList r fun r => kList w fun w => kList n fun n => k (i, ⟨r, w, n⟩)
theorem kFt_eq (x : Nat × Ft) (k : Nat × Ft → α) : kFt x k = k x := by
 obtain ⟨i, r, w, n⟩ := x
 simp only [kFt, kList_eq]
def kFts (l : List (Nat × Ft)) (k : List (Nat × Ft) → α) : α := match l with
 | [] => k []
 | x :: l => kFt x fun x => kFts l fun l => k (x :: l)
termination_by structural l
theorem kFts_eq : ∀ (l : List (Nat × Ft)) (k : List (Nat × Ft) → α), kFts l k = k l
 | [], _ => rfl
 | x :: l, k => by rw [kFts, kFt_eq, kFts_eq l]
def kFr (Ks : List Nat) (f : Fr) (k : Fr → α) : α := match f with
 | ⟨K, path, ix, env, start, feet⟩ => kNat Ks K fun K => kList path fun path => kPVs env fun env => kFts feet fun feet => match ix with
  | none => match start with
   | none => k ⟨K, path, none, env, none, feet⟩
   | some (e, h) => k ⟨K, path, none, env, some (e, h), feet⟩
  | some i => kNat small i fun i => match start with
   | none => k ⟨K, path, some i, env, none, feet⟩
   | some (e, h) => k ⟨K, path, some i, env, some (e, h), feet⟩
theorem kFr_eq (Ks : List Nat) (f : Fr) (k : Fr → α) : kFr Ks f k = k f := by
 obtain ⟨K, path, ix, env, start, feet⟩ := f
 simp only [kFr, kNat_eq, kList_eq, kPVs_eq, kFts_eq]
 cases ix <;> cases start <;> rfl
def kFrs (Ks : List Nat) (l : List Fr) (k : List Fr → α) : α := match l with
 | [] => k []
 | x :: l => kFr Ks x fun x => kFrs Ks l fun l => k (x :: l)
termination_by structural l
theorem kFrs_eq (Ks : List Nat) : ∀ (l : List Fr) (k : List Fr → α), kFrs Ks l k = k l
 | [], _ => rfl
 | x :: l, k => by rw [kFrs, kFr_eq, kFrs_eq Ks l]
def kCfg (Ks : List Nat) (c : Cfg) (k : Cfg → α) : α := match c with
 | ⟨top, rest, H⟩ => kFr Ks top fun top => kFrs Ks rest fun rest => kHeap H fun H => k ⟨top, rest, H⟩
theorem kCfg_eq (Ks : List Nat) (c : Cfg) (k : Cfg → α) : kCfg Ks c k = k c := by
 obtain ⟨top, rest, H⟩ := c
 simp only [kCfg, kFr_eq, kFrs_eq, kHeap_eq]
end
section
variable {P : Program} {I : World → Prop} {g : Nat} (M : Mach P I g) {R : Type} (fin : Fins R)
noncomputable def runB (Ks : List Nat) (X : Cfg → Option (Option R)) : Nat → Cfg → Option R
 | 0, _ => none
 | n + 1, c => (stepA M fin c).run fun c' => kCfg Ks c' fun c' => match X c' with
  | some o => o
  | none => runB Ks X n c'
theorem runB_eq (Ks : List Nat) (X : Cfg → Option (Option R)) : ∀ (n : Nat) (c : Cfg), runB M fin Ks X n c = runA M fin X n c
 | 0, _ => rfl
 | n + 1, c => by
  simp only [runB, runA, kCfg_eq]
  congr 1
  all_goals (funext c'; rw [runB_eq Ks X n]; try (cases X c' <;> rfl))
end
structure FPat where
 K : Nat
 path : List Nat
 ix : Option Nat
 env : List Pat
 pad : Nat
structure CPat where
 top : FPat
 rest : List FPat
 H : List HPat
 fix : Nat
@[reducible] def denFs : List FPat → Type
 | [] => Unit
 | f :: fs => denPs f.env × denFs fs
@[reducible] def denC (c : CPat) : Type := denPs c.top.env × denFs c.rest × denBs c.H
def instF (f : FPat) (x : denPs f.env) : Fr := ⟨f.K, f.path, f.ix, insts f.env x ++ List.replicate f.pad .junk, none, []⟩
def instFs : (fs : List FPat) → denFs fs → List Fr
 | [], _ => []
 | f :: fs, x => instF f x.1 :: instFs fs x.2
def instC (c : CPat) (x : denC c) : Cfg := ⟨instF c.top x.1, instFs c.rest x.2.1, instBs c.H x.2.2⟩
def eqNats : List Nat → List Nat → Bool
 | [], [] => true
 | a :: l, b :: m => Nat.beq a b && eqNats l m
 | _, _ => false
def eqIx : Option Nat → Option Nat → Bool
 | none, none => true
 | some a, some b => Nat.beq a b
 | _, _ => false
theorem eqNats_ok : ∀ {l m : List Nat}, eqNats l m = true → l = m
 | [], [], _ => rfl
 | a :: l, b :: m, h => by
  simp only [eqNats, Bool.and_eq_true] at h
  rw [Nat.eq_of_beq_eq_true h.1, eqNats_ok h.2]
 | [], _ :: _, h => by cases h
 | _ :: _, [], h => by cases h
theorem eqIx_ok : ∀ {l m : Option Nat}, eqIx l m = true → l = m
 | none, none, _ => rfl
 | some a, some b, h => by rw [Nat.eq_of_beq_eq_true h]
 | none, some _, h => by cases h
 | some _, none, h => by cases h
def isNoneB {α : Type u} : Option α → Bool
 | none => true
 | some _ => false
def atF (f : FPat) (fr : Fr) : Bool := Nat.beq fr.K f.K && eqNats fr.path f.path && eqIx fr.ix f.ix && isNoneB fr.start && Nat.beq fr.env.length (f.env.length + f.pad)
def atFs : List FPat → List Fr → Bool
 | [], [] => true
 | f :: fs, fr :: frs => atF f fr && atFs fs frs
 | _, _ => false
section
variable {β : Type u} (H : Heap)
def pmsT (ps : List Pat) (vs : List PV) (s : Sig) (k : denPs ps → Sig → Option β) : Option β := match ps, k with
 | [], k => k () s
 | p :: ps, k => match vs with
  | v :: vs => pm H p v s fun x s => pmsT ps vs s fun y s => k (x, y) s
  | [] => none
termination_by structural ps
def pmFs : (fs : List FPat) → List Fr → Sig → (denFs fs → Sig → Option β) → Option β
 | [], _, s, k => k () s
 | f :: fs, frs, s, k => match frs with
  | fr :: frs => pmsT H f.env fr.env s fun x s => pmFs fs frs s fun y s => k (x, y) s
  | [] => none
end
def pmC {β : Type u} (p : CPat) (c : Cfg) (k : denC p → Option β) : Option β :=
 bif atF p.top c.top && atFs p.rest c.rest then
  pmsT c.H p.top.env c.top.env (sig0 p.fix p.H.length) fun x s => pmFs c.H p.rest c.rest s fun y s => pmBs c.H p.H 0 s fun z s => bif s.fine p.H && Nat.ble p.fix p.H.length then k (x, y, z) else none
 else none
theorem isNoneB_ok {α : Type u} {o : Option α} (h : isNoneB o = true) : o = none := by cases o with | none => rfl | some _ => cases h
section
variable {P : Program} {I : World → Prop} {g : Nat} {M : Mach P I g} {R : Type} {fin : Fins R}
variable {base : Base} {S0 : Nat → Prop} {cs0 : List Frame} {post : World → Ending → R → Prop}
variable {ρ : Loc} {H : Heap} {w : World} {S : Nat → Prop} {β : Type u}
theorem Waits.turn {H' : Heap} {ρ' : Loc} {S' : Nat → Prop} {fr fr' : Fr} {conc : Frame} (hK : fr'.K = fr.K) (hp : fr'.path = fr.path) (hi : fr'.ix = fr.ix) (hs : fr'.start = none)
  (he : ∀ us, PRels ρ H w S fr.env us → PRels ρ' H' w S' fr'.env us) (k : Waits M ρ H w S fr conc) : Waits M ρ' H' w S' fr' conc := by
 obtain ⟨b, a, ops, id, kk, i, o, f, body, h1, h2, h3, h4, h5, h6, h7, h8, h9, h10, h11⟩ := k.is
 exact ⟨b, a, ops, id, kk, i, o, f, body, h1, hK ▸ h2, h3, h4, hK ▸ h5, h6, hp ▸ h7, hi ▸ h8, h9, he _ h10, hs⟩
theorem atF_ok {f : FPat} {fr : Fr} (h : atF f fr = true) (x : denPs f.env) : (instF f x).K = fr.K ∧ (instF f x).path = fr.path ∧ (instF f x).ix = fr.ix ∧ fr.start = none := by
 simp only [atF, Bool.and_eq_true] at h
 obtain ⟨⟨⟨⟨h1, h2⟩, h3⟩, h4⟩, _⟩ := h
 exact ⟨(Nat.eq_of_beq_eq_true h1).symm, (eqNats_ok h2).symm, (eqIx_ok h3).symm, isNoneB_ok h4⟩
theorem PRels.junks {ρ : Loc} {H : Heap} {w : World} {S : Nat → Prop} : ∀ (us : List Value) {n : Nat}, us.length = n → PRels ρ H w S (List.replicate n .junk) us
 | [], _, h => by subst h; rfl
 | u :: us, n, h => by
  subst h
  exact ⟨u, us, rfl, trivial, PRels.junks us rfl⟩
theorem pmsT_ok (hh : HRel base S0 ρ H w S) : ∀ (ps : List Pat) (vs : List PV) (s : Sig) (k : denPs ps → Sig → Option β) (y : β) (n : Nat), vs.length = ps.length + n → pmsT H ps vs s k = some y →
  ∃ x s', k x s' = some y ∧ s.le s' ∧ TakesL ρ H w S s' vs (insts ps x ++ List.replicate n .junk)
 | [], vs, s, k, y, n, hl, h => ⟨(), s, h, s.le_refl, fun H' ρ' S' _ us hu => by
   have := hu.length
   exact PRels.junks us (by simp at hl; omega)⟩
 | p :: ps, vs, s, k, y, n, hl, h => by
  cases vs with
  | nil => simp at hl; omega
  | cons v vs =>
   simp only [pmsT] at h
   obtain ⟨x1, s1, h3, l1, t1⟩ := pm_ok hh _ _ _ _ _ h
   obtain ⟨x2, s2, h4, l2, t2⟩ := pmsT_ok hh ps vs s1 _ y n (by simp at hl; omega) h3
   refine ⟨(x1, x2), s2, h4, Sig.le_trans l1 l2, fun H' ρ' S' g us hu => ?_⟩
   simp only [PRels] at hu
   obtain ⟨u, us', rfl, g1, g2⟩ := hu
   exact ⟨u, _, rfl, t1.le l2 H' ρ' S' g u g1, t2 H' ρ' S' g us' g2⟩
theorem atF_len {f : FPat} {fr : Fr} (h : atF f fr = true) : fr.env.length = f.env.length + f.pad := by
 simp only [atF, Bool.and_eq_true] at h
 exact Nat.eq_of_beq_eq_true h.2
theorem pmFs_ok (hh : HRel base S0 ρ H w S) : ∀ (fs : List FPat) (frs : List Fr) (s : Sig) (k : denFs fs → Sig → Option β) (y : β), atFs fs frs = true → pmFs H fs frs s k = some y →
  ∃ x s', k x s' = some y ∧ s.le s' ∧ ∀ sF, s'.le sF → ∀ H' ρ' S', Good sF H ρ w S H' ρ' S' → ∀ cs, Stack M cs0 ρ H w S frs cs → Stack M cs0 ρ' H' w S' (instFs fs x) cs
 | [], frs, s, k, y, ha, h => by
  cases frs with
  | nil => exact ⟨(), s, h, s.le_refl, fun _ _ _ _ _ _ cs hs => by cases hs; exact .nil⟩
  | cons _ _ => cases ha
 | f :: fs, frs, s, k, y, ha, h => by
  cases frs with
  | nil => cases ha
  | cons fr frs =>
   simp only [atFs, Bool.and_eq_true] at ha
   simp only [pmFs] at h
   obtain ⟨x1, s1, h3, l1, t1⟩ := pmsT_ok hh _ _ _ _ _ _ (atF_len ha.1) h
   obtain ⟨x2, s2, h4, l2, t2⟩ := pmFs_ok hh fs frs s1 _ y ha.2 h3
   refine ⟨(x1, x2), s2, h4, Sig.le_trans l1 l2, fun sF hF H' ρ' S' g cs hs => ?_⟩
   cases hs with
   | cons w1 r1 =>
    obtain ⟨e1, e2, e3, e4⟩ := atF_ok ha.1 x1
    exact .cons (w1.turn e1 e2 e3 rfl (t1.le (Sig.le_trans l2 hF) H' ρ' S' g)) (t2 sF hF H' ρ' S' g _ r1)
theorem bottom_eq : ∀ (fs : List FPat) (frs : List Fr) (x : denFs fs) (K : Nat), atFs fs frs = true → bottom K (instFs fs x) = bottom K frs
 | [], [], _, _, _ => rfl
 | f :: fs, fr :: frs, x, K, h => by
  simp only [atFs, Bool.and_eq_true] at h
  obtain ⟨e1, _⟩ := atF_ok h.1 x.1
  simp only [instFs, bottom]
  rw [e1]
  exact bottom_eq fs frs x.2 _ h.2
 | [], _ :: _, _, _, h => by cases h
 | _ :: _, [], _, _, h => by cases h
theorem pmC_ok {p : CPat} {c : Cfg} {k : denC p → Option β} {y : β} {r : R} (hfix : base.n ≤ p.fix) (h : pmC p c k = some y) (hS : ∀ x, k x = some y → Sound M base S0 cs0 post (instC p x) r) : Sound M base S0 cs0 post c r := by
 unfold pmC at h
 obtain ⟨ha, h⟩ := bif_some h
 simp only [Bool.and_eq_true] at ha
 obtain ⟨ha1, ha2⟩ := ha
 have hst : c.top.start = none := by
  simp only [atF, Bool.and_eq_true] at ha1
  exact isNoneB_ok ha1.1.2
 intro ρ w S b a todo cs hI hg hh he hstand hstack htr
 have eH : c.H0 = c.H := by unfold Cfg.H0; rw [hst]
 have eE : c.env0 = c.top.env := by unfold Cfg.env0; rw [hst]
 rw [eH] at hh hstack he
 rw [eE] at he
 obtain ⟨x1, s1, h1, l1, t1⟩ := pmsT_ok hh _ _ _ _ _ _ (atF_len ha1) h
 obtain ⟨x2, s2, h2, l2, t2⟩ := pmFs_ok (M := M) (cs0 := cs0) hh _ _ _ _ _ ha2 h1
 obtain ⟨x3, s3, h3, l3, t3⟩ := pmBs_ok hh _ _ _ _ _ h2
 obtain ⟨hf, h4⟩ := bif_some h3
 simp only [Bool.and_eq_true] at hf
 obtain ⟨hf, hle⟩ := hf
 have hle : p.fix ≤ p.H.length := Nat.le_of_ble_eq_true hle
 have l13 := Sig.le_trans l1 (Sig.le_trans l2 l3)
 obtain ⟨ρ', S', hh', good⟩ := good_of hh (x := x3) (s3 := s3) hfix hle hf (by rw [l13.2.2, sig0_length hle]) (fun c hc => l13.1 _ _ (sig0_at hc))
  (fun i hi => by have := (t3 s3 s3.le_refl i hi).2; rwa [Nat.zero_add] at this)
 let H' := instBs p.H x3
 obtain ⟨e1, e2, e3, e4⟩ := atF_ok ha1 x1
 have hS1 := hS (x1, x2, x3) h4
 have := hS1 ρ' w S' b a todo cs hI hg hh' (t1.le (Sig.le_trans l2 l3) H' ρ' S' good _ he) ?_ (t2 s3 l3 H' ρ' S' good cs hstack) trivial
 ·
  show Fin P (bottom c.top.K c.rest) base cs0 post w (lone (b.at a todo) cs w) r
  have eb : bottom (instC p (x1, x2, x3)).top.K (instC p (x1, x2, x3)).rest = bottom c.top.K c.rest := by
   show bottom (instF p.top x1).K (instFs p.rest x2) = _
   rw [bottom_eq _ _ _ _ ha2, e1]
  rw [eb] at this
  exact this
 ·
  obtain ⟨h1, h2, h3, f, body, code, kk, h5, h6, h7, h8⟩ := hstand
  refine ⟨h1.trans e1.symm, h2, h3, f, body, code, kk, ?_, h6, ?_, ?_⟩
  ·
   show M.fn (instF p.top x1).K = _
   rw [e1]; exact h5
  ·
   show todoAt body (instF p.top x1).path [] = _
   rw [e2]; exact h7
  ·
   show match (instF p.top x1).ix with | none => _ | some i => _
   rw [e3]
   cases hix : c.top.ix with
   | none =>
    rw [hix] at h8
    exact ⟨rfl, h8.2⟩
   | some i =>
    rw [hix, hst] at h8
    exact h8
end
def cut {R : Type} (p : CPat) (J : denC p → Option R) (X : Cfg → Option (Option R)) : Cfg → Option (Option R) := fun c =>
 match pmC p c fun x => some (J x) with
 | some o => some o
 | none => X c
def nowhere {R : Type} : Cfg → Option (Option R) := fun _ => none
section
variable {P : Program} {I : World → Prop} {g : Nat} (M : Mach P I g) {R : Type} (fin : Fins R)
variable (base : Base) (S0 : Nat → Prop) (cs0 : List Frame) (post : World → Ending → R → Prop)
def OSound (X : Cfg → Option (Option R)) : Prop := ∀ c r, X c = some (some r) → Sound M base S0 cs0 post c r
def JSound (p : CPat) (J : denC p → Option R) : Prop := ∀ x r, J x = some r → Sound M base S0 cs0 post (instC p x) r
variable {M fin base S0 cs0 post}
theorem OSound.nowhere : OSound M base S0 cs0 post (nowhere (R := R)) := fun _ _ h => by cases h
theorem OSound.cut {X : Cfg → Option (Option R)} (hX : OSound M base S0 cs0 post X) {p : CPat} (hfix : base.n ≤ p.fix) {J : denC p → Option R} (hJ : JSound M base S0 cs0 post p J) : OSound M base S0 cs0 post (cut p J X) := by
 intro c r h
 unfold V.cut at h
 split at h
 ·
  rename_i o ho
  cases h
  exact pmC_ok hfix ho (fun x hx => hJ x r (by simpa using hx))
 · exact hX c r h
theorem run_sound (hfin : FinOk fin base S0 post) {X : Cfg → Option (Option R)} (hX : OSound M base S0 cs0 post X) {Ks : List Nat} {n : Nat} {c : Cfg} {r : R} (h : runB M fin Ks X n c = some r) : Sound M base S0 cs0 post c r :=
 runA_sound hfin (fun c' h' => hX c' r h') n c ((runB_eq M fin Ks X n c).symm.trans h)
theorem JSound.join (hfin : FinOk fin base S0 post) {X : Cfg → Option (Option R)} (hX : OSound M base S0 cs0 post X) (Ks : List Nat) (n : Nat) {p : CPat} {J : denC p → Option R} (h : ∀ x, J x = runB M fin Ks X n (instC p x)) : JSound M base S0 cs0 post p J :=
 fun x _ hx => run_sound hfin hX ((h x).symm.trans hx)
theorem JSound.loop (hfin : FinOk fin base S0 post) {X : Cfg → Option (Option R)} (hX : OSound M base S0 cs0 post X) (Ks : List Nat) (n : Nat) {p : CPat} (hfix : base.n ≤ p.fix) {L : Nat → denC p → Option R} (h0 : ∀ x, L 0 x = none) (hs : ∀ m x, L (m + 1) x = runB M fin Ks (cut p (L m) X) n (instC p x)) :
  ∀ m, JSound M base S0 cs0 post p (L m) := by
 intro m
 induction m with
 | zero => intro x r h; rw [h0] at h; cases h
 | succ m ih => exact JSound.join hfin (hX.cut hfix ih) Ks n (hs m)
theorem JSound.loop' (hfin : FinOk fin base S0 post) (Ks : List Nat) (n : Nat) {p : CPat} {A : Type} (un : A → denC p → Option R) (X' : A → Cfg → Option (Option R)) (hX' : ∀ k, JSound M base S0 cs0 post p (un k) → OSound M base S0 cs0 post (X' k))
  (L : Nat → A) (h0 : ∀ x, un (L 0) x = none) (hs : ∀ m x, un (L (m + 1)) x = runB M fin Ks (X' (L m)) n (instC p x)) : ∀ m, JSound M base S0 cs0 post p (un (L m)) := by
 intro m
 induction m with
 | zero => intro x r h; rw [h0] at h; cases h
 | succ m ih => exact JSound.join hfin (hX' _ ih) Ks n (hs m)
end
def finR (rs : List Ty) : Fins (denL rs) := ⟨fun ps H => decArgs rs ps H, fun _ => none⟩
def Post (rs : List Ty) (S0 : Nat → Prop) : World → Ending → denL rs → Prop := Ret fun w v r => RepRes w S0 rs r v
theorem con_run {P : Program} {I : World → Prop} {g : Nat} {M : Mach P I g} (hgI : ∀ w, I w → g ≤ w.heap.size) {K : Nat} {c : Con} {f : Func} (hf : M.fn K = some f) (Ks : List Nat) (n : Nat)
  {X : Cfg → Option (Option (denL c.results))} (hX : ∀ base S0 cs0, base.n = 0 → FinOk (finR c.results) base S0 (Post c.results S0) → OSound M base S0 cs0 (Post c.results S0) X)
  (h : ∀ x, c.F x = runB M (finR c.results) Ks X n (startP K f.ntmps (pvsOf c.params x))) : c.Sound P I g K :=
 con_sound hgI hf fun x _ hxy base S0 cs0 hn => run_sound (finP_ok c base S0) (hX base S0 cs0 hn (finP_ok c base S0)) ((h x).symm.trans hxy)
/-! #### contracts of functions that are given blocks -/
def finH (c : HCon) : Fins c.R := ⟨fun ps H => 
 pms H c.qa ps (sig0 c.pH.length c.qH.length) fun x s => pmBs H c.qH 0 s fun z s => bif s.fine c.qH && Nat.ble c.pH.length c.qH.length then some (c.proj (x, z)) else none, c.pan⟩
def HPost (c : HCon) (base : Base) (S0 : Nat → Prop) (w : World) (e : Ending) (r : c.R) : Prop :=
 (∀ pv, c.bad r = some pv → e = .panicked [{ v := pv, recovered := false }]) ∧ (c.bad r = none → ∃ v ρ' S', e = .returned v ∧ HRel base S0 ρ' (instBs c.qH (c.out r).2) w S' ∧ PRel ρ' (instBs c.qH (c.out r).2) w S' (oneP (insts c.qa (c.out r).1)) v)
theorem pms_len {H : Heap} {β : Type} : ∀ (qs : List Pat) (vs : List PV) (s : Sig) (k : denPs qs → Sig → Option β) (y : β), pms H qs vs s k = some y → qs.length = vs.length
 | [], vs, s, k, y, h => by
  simp only [pms] at h
  split at h
  · rfl
  · cases h
 | q :: qs, vs, s, k, y, h => by
  simp only [pms] at h
  split at h
  ·
   obtain ⟨x1, s1, h3, _⟩ := pm_local _ _ _ _ _ h
   simp [pms_len qs _ _ _ _ h3]
  · cases h
theorem insts_len : ∀ (qs : List Pat) (x : denPs qs), (insts qs x).length = qs.length
 | [], _ => rfl
 | _ :: qs, x => by simp [insts, insts_len qs]
theorem finH_ok (c : HCon) {base : Base} (hn : base.n = c.pH.length) (S0 : Nat → Prop) : FinOk (finH c) base S0 (HPost c base S0) := by
 refine ⟨fun ps H r ρ w S v hf hh hv => ?_, fun v r w h => ⟨fun pv hb => (by rw [c.pan_bad v r h] at hb; cases hb; rfl), fun hb => (by rw [c.pan_bad v r h] at hb; cases hb)⟩⟩
 simp only [finH] at hf
 have hlen := pms_len _ _ _ _ _ hf
 obtain ⟨x1, s1, h1, l1, t1⟩ := pms_ok hh _ _ _ _ _ hf
 obtain ⟨x3, s3, h3, l3, t3⟩ := pmBs_ok hh _ _ _ _ _ h1
 obtain ⟨hchk, hxs⟩ := bif_some h3
 simp only [Option.some.injEq] at hxs
 subst hxs
 simp only [Bool.and_eq_true] at hchk
 obtain ⟨hfine, hle⟩ := hchk
 have hle : c.pH.length ≤ c.qH.length := Nat.le_of_ble_eq_true hle
 have l13 := Sig.le_trans l1 l3
 obtain ⟨ρ', S', hh', good⟩ := good_of hh (x := x3) (s3 := s3) (n0 := c.pH.length) (Nat.le_of_eq hn) hle hfine (by rw [l13.2.2, sig0_length hle]) (fun c hc => l13.1 _ _ (sig0_at hc))
  (fun i hi => by have := (t3 s3 s3.le_refl i hi).2; rwa [Nat.zero_add] at this)
 refine ⟨fun pv hb => (by rw [c.good] at hb; cases hb), fun _ => ?_⟩
 rw [c.out_proj]
 refine ⟨v, ρ', S', rfl, hh', ?_⟩
 have tt : ∀ us, PRels ρ H w S ps us → PRels ρ' (instBs c.qH x3) w S' (insts c.qa x1) us := t1.le l3 _ ρ' S' good
 have hl2 : (insts c.qa x1).length = ps.length := (insts_len _ _).trans hlen
 show PRel ρ' (instBs c.qH x3) w S' (oneP (insts c.qa x1)) v
 match ps, hv, tt, hl2 with
 | [p], hv, tt, hl2 =>
  have := tt [v] ⟨v, [], rfl, hv, rfl⟩
  match hq : insts c.qa x1, hl2 with
  | [q], _ =>
   rw [hq] at this
   simp only [PRels] at this
   obtain ⟨u, us, e, g1, _⟩ := this
   simp at e
   rw [e.1]
   exact g1
 | [], hv, tt, hl2 =>
  match hq : insts c.qa x1, hl2 with
  | [], _ => exact hv
 | p :: q :: ps, hv, tt, hl2 =>
  have hv' : PRel ρ H w S (.tuple (p :: q :: ps)) v := hv
  simp only [PRel] at hv'
  obtain ⟨us, rfl, h⟩ := hv'
  have := tt _ h
  match hq : insts c.qa x1, hl2 with
  | a :: b :: l, _ =>
   rw [hq] at this
   exact ⟨us, rfl, this⟩
def startH (K ntmps : Nat) (ps : List PV) (H : Heap) : Cfg := ⟨⟨K, [], none, ps ++ List.replicate (ntmps - ps.length) nothing, none, []⟩, [], H⟩
theorem hcon_sound {P : Program} {I : World → Prop} {g : Nat} {M : Mach P I g} {K : Nat} {c : HCon} {f : Func} (hf : M.fn K = some f)
  (h : ∀ x r, c.F x = some r → ∀ base S0 cs0, base.n = c.pH.length → Sound M base S0 cs0 (HPost c base S0) (startH K f.ntmps (insts c.pa x.1) (instBs c.pH x.2)) r) : c.Sound P I g K := by
 intro x y hxy B S0 ρ w S args hI hg hh hargs cs
 obtain ⟨hfn, _, hbody⟩ := M.fn_ok _ _ hf
 obtain ⟨body, hb⟩ := Option.isSome_iff_exists.mp hbody
 have henter : Frame.enter P K args .normal = ({ (default : Frame) with fn := K, kind := .normal } : Frame).at { tmps := args ++ Array.replicate (f.ntmps - args.size) undef, defers := [] } [.code body] := by
  simp [Frame.enter, Frame.at, hfn, hb]
 have hlen : (insts c.pa x.1).length = args.size := by have := hargs.length; simpa using this
 have := h x y hxy ⟨B, c.pH.length, ρ, instBs c.pH x.2⟩ S0 cs rfl ρ w S ({ (default : Frame) with fn := K, kind := .normal } : Frame) { tmps := args ++ Array.replicate (f.ntmps - args.size) undef, defers := [] } [.code body] cs hI hg hh
  (by
   have e : (args ++ Array.replicate (f.ntmps - args.size) undef).toList = args.toList ++ List.replicate (f.ntmps - (insts c.pa x.1).length) undef := by simp [hlen]
   simp only [e]
   exact hargs.append (PRels.replicate _))
  ⟨rfl, rfl, rfl, f, body, body, [], hf, hb, rfl, rfl, .inl rfl⟩ .nil trivial
 obtain ⟨fr, w', e, h1, h2, h3, ⟨h4, h4'⟩, h5⟩ := this
 refine ⟨e, w', fr, ⟨fun pv hb => ⟨h4 pv hb, h5⟩, fun hb => ?_⟩, ?_, h2, h3⟩
 ·
  obtain ⟨v, ρ', S', rfl, q1, q2⟩ := h4' hb
  exact ⟨v, ρ', S', rfl, q1, q2, h5⟩
 ·
  rw [henter]
  refine comes_of_steps h1 ?_
  cases hb : c.bad y with
  | some pv => rw [h4 pv hb]; simp
  | none => obtain ⟨v, ρ', S', rfl, q1, q2⟩ := h4' hb; simp
theorem hcon_run {P : Program} {I : World → Prop} {g : Nat} {M : Mach P I g} {K : Nat} {c : HCon} {f : Func} (hf : M.fn K = some f) (Ks : List Nat) (n : Nat)
  {X : Cfg → Option (Option c.R)} (hX : ∀ base S0 cs0, base.n = c.pH.length → FinOk (finH c) base S0 (HPost c base S0) → OSound M base S0 cs0 (HPost c base S0) X)
  (h : ∀ x, c.F x = runB M (finH c) Ks X n (startH K f.ntmps (insts c.pa x.1) (instBs c.pH x.2))) : c.Sound P I g K :=
 hcon_sound hf fun x _ hxy base S0 cs0 hn => run_sound (finH_ok c hn S0) (hX base S0 cs0 hn (finH_ok c hn S0)) ((h x).symm.trans hxy)
def FnOk (P : Program) (K : Nat) (f : Func) : Prop := P.funcs[K]? = some f ∧ (f.name == "runtime.NumGoroutine") = false ∧ f.body.isSome = true
theorem FnOk.callable {P : Program} {K : Nat} {f : Func} (h : FnOk P K f) : Callable P K := ⟨f, h⟩
def FnsOk (P : Program) : List (Nat × Func) → Prop
 | [] => True
 | x :: l => FnOk P x.1 x.2 ∧ FnsOk P l
def ConsOk (P : Program) (I : World → Prop) (g : Nat) : List (Nat × Con) → Prop
 | [] => True
 | x :: l => (x.2.Sound P I g x.1 ∧ Callable P x.1) ∧ ConsOk P I g l
def OConsOk (P : Program) (I : World → Prop) (g : Nat) : List (Nat × OCon) → Prop
 | [] => True
 | x :: l => (x.2.Sound P I g x.1 ∧ Callable P x.1) ∧ OConsOk P I g l
def HConsOk (P : Program) (I : World → Prop) (g : Nat) : List (Nat × HCon) → Prop
 | [] => True
 | x :: l => (x.2.Sound P I g x.1 ∧ Callable P x.1) ∧ HConsOk P I g l
def pickL : List (Nat × HCon) → Nat → List HCon
 | [], _ => []
 | (a, b) :: l, K => bif Nat.beq a K then b :: pickL l K else pickL l K
theorem pickL_ok {P : Program} {I : World → Prop} {g : Nat} : ∀ {l : List (Nat × HCon)}, HConsOk P I g l → ∀ {K c}, c ∈ pickL l K → c.Sound P I g K ∧ Callable P K
 | [], _, _, _, h => by cases h
 | (a, b) :: l, hl, K, f, h => by
  simp only [pickL] at h
  cases e : Nat.beq a K with
  | true =>
   rw [e] at h
   obtain rfl := Nat.eq_of_beq_eq_true e
   rcases List.mem_cons.mp h with rfl | h
   · exact hl.1
   · exact pickL_ok hl.2 h
  | false => rw [e] at h; exact pickL_ok hl.2 h
def pick0 {α : Type} : List (Nat × α) → Nat → Option α
 | [], _ => none
 | (a, b) :: l, K => bif Nat.beq a K then some b else pick0 l K
theorem pickF_ok {P : Program} : ∀ {l : List (Nat × Func)}, FnsOk P l → ∀ {K f}, pick0 l K = some f → FnOk P K f
 | [], _, _, _, h => by cases h
 | (a, b) :: l, hl, K, f, h => by
  simp only [pick0] at h
  cases e : Nat.beq a K with
  | true =>
   rw [e] at h; cases h
   obtain rfl := Nat.eq_of_beq_eq_true e
   exact hl.1
  | false => rw [e] at h; exact pickF_ok hl.2 h
theorem pickC_ok {P : Program} {I : World → Prop} {g : Nat} : ∀ {l : List (Nat × Con)}, ConsOk P I g l → ∀ {K c}, pick0 l K = some c → c.Sound P I g K ∧ Callable P K
 | [], _, _, _, h => by cases h
 | (a, b) :: l, hl, K, f, h => by
  simp only [pick0] at h
  cases e : Nat.beq a K with
  | true =>
   rw [e] at h; cases h
   obtain rfl := Nat.eq_of_beq_eq_true e
   exact hl.1
  | false => rw [e] at h; exact pickC_ok hl.2 h
theorem pickO_ok {P : Program} {I : World → Prop} {g : Nat} : ∀ {l : List (Nat × OCon)}, OConsOk P I g l → ∀ {K c}, pick0 l K = some c → c.Sound P I g K ∧ Callable P K
 | [], _, _, _, h => by cases h
 | (a, b) :: l, hl, K, f, h => by
  simp only [pick0] at h
  cases e : Nat.beq a K with
  | true =>
   rw [e] at h; cases h
   obtain rfl := Nat.eq_of_beq_eq_true e
   exact hl.1
  | false => rw [e] at h; exact pickO_ok hl.2 h
structure Bas (P : Program) (I : World → Prop) (g : Nat) where
 keep : ∀ w w' B, g ≤ B → Below B w w' → I w → I w'
 mixed : P.follows .mixedOrders = true
 ext : Nat → Bool
 ext_ok : ∀ K, ext K = true → ∀ v w, (callFunc K #[v]).run P w = .ok (.value v) w
 gl : Nat → PV
 gl_ok : ∀ k w S, I w → (∀ b, S b → g ≤ b) → ∀ ρ H, PRel ρ H w S (gl k) (.pointer (some ⟨k, 0, none⟩))
def mach {P : Program} {I : World → Prop} {g : Nat} (B : Bas P I g)
  (fns : List (Nat × Func)) (hf : FnsOk P fns) (cons : List (Nat × Con)) (hc : ConsOk P I g cons) (ocons : List (Nat × OCon)) (ho : OConsOk P I g ocons) (hcons : List (Nat × HCon)) (hh : HConsOk P I g hcons) : Mach P I g where
 fn := pick0 fns
 fn_ok := fun _ _ h => pickF_ok hf h
 con := pick0 cons
 con_ok := fun _ _ h => pickC_ok hc h
 ocon := pick0 ocons
 ocon_ok := fun _ _ h => pickO_ok ho h
 hcon := pickL hcons
 hcon_ok := fun _ _ h => pickL_ok hh h
 keep := B.keep
 mixed := B.mixed
 ext := B.ext
 ext_ok := B.ext_ok
 gl := B.gl
 gl_ok := B.gl_ok
def TabsIn (w : World) : List (Nat × (Σ t : Ty, List t.den)) → Prop
 | [] => True
 | x :: l => (∃ arr e fz, w.heap[x.1]? = some (.cells arr e fz) ∧ ∀ i (h : i < x.2.2.length), ∃ vs, Rep w (fun _ => True) x.2.1 x.2.2[i] vs ∧ At arr (i * x.2.1.size) vs) ∧ TabsIn w l
def tabPV (l : List (Nat × (Σ t : Ty, List t.den))) (k : Nat) : PV := match pick0 l k with
 | some x => .tab x.1 x.2
 | none => .junk
def tabsBelow (g : Nat) : List (Nat × (Σ t : Ty, List t.den)) → Bool
 | [] => true
 | x :: l => decide (x.1 < g) && tabsBelow g l
theorem TabsIn.keep {g : Nat} {w w' : World} {B : Nat} (hB : g ≤ B) (hb : Below B w w') : ∀ {l : List (Nat × (Σ t : Ty, List t.den))}, tabsBelow g l = true → TabsIn w l → TabsIn w' l
 | [], _, h => h
 | x :: l, hg, h => by
  simp only [tabsBelow, Bool.and_eq_true, decide_eq_true_eq] at hg
  obtain ⟨⟨arr, e, fz, h1, h2⟩, h3⟩ := h
  refine ⟨⟨arr, e, fz, (hb.block x.1 (by omega)).trans h1, fun i hi => ?_⟩, TabsIn.keep hB hb hg.2 h3⟩
  obtain ⟨vs, k1, k2⟩ := h2 i hi
  refine ⟨vs, k1.mono ⟨hb.size, fun b _ hs => absurd trivial hs⟩ (fun _ _ h => h), k2⟩
theorem tab_rel {g : Nat} {w : World} {S : Nat → Prop} (hS : ∀ b, S b → g ≤ b) {ρ : Loc} {H : Heap} {k : Nat} : ∀ {l : List (Nat × (Σ t : Ty, List t.den))}, tabsBelow g l = true → TabsIn w l → PRel ρ H w S (tabPV l k) (.pointer (some ⟨k, 0, none⟩))
 | [], _, _ => by simp [tabPV, pick0, PRel]
 | (a, x) :: l, hg, h => by
  simp only [tabsBelow, Bool.and_eq_true, decide_eq_true_eq] at hg
  obtain ⟨⟨arr, e, fz, h1, h2⟩, h3⟩ := h
  unfold tabPV
  simp only [pick0]
  cases ek : Nat.beq a k with
  | true =>
   obtain rfl := Nat.eq_of_beq_eq_true ek
   simp only [cond_true, PRel]
   refine ⟨a, 0, arr, e, fz, rfl, fun hs => by have := hS a hs; omega, h1, fun i hi => ?_⟩
   obtain ⟨vs, k1, k2⟩ := h2 i hi
   exact ⟨vs, k1.mono (Same.refl _ _) (fun _ _ _ => trivial), by simpa using k2⟩
  | false =>
   simp only [cond_false]
   exact tab_rel hS hg.2 h3
def Wf : (t : Ty) → t.den → Prop
 | .unit, _ => True
 | .int k, n => (Lit.int k n).wf = true
 | .byt _, n => (Lit.int .u8 n).wf = true
 | .bool, _ => True
 | .str, s => s.size ≤ maxLen
 | .pair a b, x => Wf a x.1 ∧ Wf b x.2
 | .slice t, l => l.length ≤ maxLen ∧ ∀ x ∈ l, Wf t x
def Wfs : (ts : List Ty) → denL ts → Prop
 | [], _ => True
 | t :: ts, x => Wf t x.1 ∧ Wfs ts x.2
def layF (P : Program) (lay : TypeId → Ty → Bool) : List Field → Nat → Ty → Bool
 | [], _, .unit => true
 | f :: fs, off, .pair a b => f.offset == off && P.cellsOf f.type == a.size && lay f.type a && layF P lay fs (off + a.size) b
 | _, _, _ => false
def layA (lay : Ty → Bool) (sz : Nat) : Nat → Ty → Bool
 | 0, .unit => true
 | n + 1, .pair a b => a.size == sz && lay a && layA lay sz n b
 | _, _ => false
def lay (P : Program) : Nat → TypeId → Ty → Bool
 | 0, _, _ => false
 | n + 1, T, t => match P.underlying T with
  | some .bool => match t with
   | .bool => true
   | _ => false
  | some (.int k) => match t with
   | .int k' => decide (k = k')
   | .byt _ => decide (k = .u8)
   | _ => false
  | some .string => match t with
   | .str => true
   | _ => false
  | some (.slice e) => match t with
   | .slice t => lay P n e t && P.cellsOf e == t.size && decide (0 < t.size)
   | _ => false
  | some (.struct fs) => t.isAgg && P.cellsOf T == t.size && layF P (lay P n) fs.toList 0 t
  | some (.array m e) => t.isAgg && P.cellsOf T == t.size && layA (lay P n e) (P.cellsOf e) m t
  | _ => false
section
variable {H : Type} {enc : TypeId × Value → H} {P : Program} {w : World}
theorem at_cells {a : Addr} {n : Nat} {cs : List Value} (h : w.cells? 0 a n = some cs) (hn : 0 < n) : ∃ arr elem fz, a.spot = none ∧ w.heap[a.block]? = some (.cells arr elem fz) ∧ At arr a.off cs := by
 obtain ⟨_, h2, h3⟩ := World.cells?_some h
 have key : ∀ i, i < n → w.cell? (a.add i) = cs[i]? := h3
 have h0 := key 0 hn
 have hs : cs[0]? = some cs[0] := List.getElem?_eq_getElem (by omega)
 rw [hs] at h0
 have e0 : a.add 0 = a := by simp [Addr.add]
 rw [e0] at h0
 unfold World.cell? at h0
 split at h0
 ·
  rename_i arr elem fz hb
  split at h0
  · cases h0
  ·
   rename_i hsp
   have hspn : a.spot = none := by simpa using hsp
   refine ⟨arr, elem, fz, hspn, hb, fun j hj => ?_⟩
   have := key j (by omega)
   have e : (a.add j).block = a.block ∧ (a.add j).off = a.off + j ∧ (a.add j).spot = none := by
    unfold Addr.add
    split
    · rename_i hj0; subst hj0; exact ⟨rfl, rfl, hspn⟩
    · exact ⟨rfl, rfl, rfl⟩
   unfold World.cell? at this
   rw [e.1, hb] at this
   simp only [e.2.2, Option.isSome_none, Bool.false_eq_true, if_false, e.2.1] at this
   rw [this]
   exact List.getElem?_eq_getElem hj
 · cases h0
theorem choose_list {α : Type} (R : Nat → α → Prop) : ∀ (n : Nat), (∀ i, i < n → ∃ x, R i x) → ∃ l : List α, l.length = n ∧ ∀ i (h : i < l.length), R i l[i]
 | 0, _ => ⟨[], rfl, fun i h => by simp at h⟩
 | n + 1, h => by
  obtain ⟨l, h1, h2⟩ := choose_list R n (fun i hi => h i (by omega))
  obtain ⟨x, hx⟩ := h n (by omega)
  refine ⟨l ++ [x], by simp [h1], fun i hi => ?_⟩
  by_cases e : i < l.length
  · rw [List.getElem_append_left e]; exact h2 i e
  ·
   have : i = n := by simp at hi; omega
   subst this
   simp [h1, hx]
def noS : Nat → Prop := fun _ => False
theorem struct_rep {f : TypeId → List Value → Prop} {L : TypeId → Ty → Bool} (hL : ∀ T t cs, L T t = true → f T cs → ∃ x : t.den, Rep w noS t x cs ∧ Wf t x) {cs : List Value} :
  ∀ (fs : List Field) (off : Nat) (t : Ty), layF P L fs off t = true → off + t.size = cs.length → (∀ (i : Nat) (fd : Field), fs[i]? = some fd → f fd.type ((cs.drop fd.offset).take (P.cellsOf fd.type))) → ∃ x : t.den, Rep w noS t x (cs.drop off) ∧ Wf t x
 | [], off, t, h, hs, _ => by
  cases t <;> simp [layF] at h
  simp [Ty.size] at hs
  exact ⟨(), by simp [Rep]; omega, trivial⟩
 | fd :: fs, off, t, h, hs, hf => by
  cases t <;> simp [layF] at h
  rename_i a b
  obtain ⟨⟨⟨h1, h2⟩, h3⟩, h4⟩ := h
  simp [Ty.size] at hs
  obtain ⟨x1, r1, w1⟩ := hL _ _ _ h3 (hf 0 fd rfl)
  obtain ⟨x2, r2, w2⟩ := struct_rep hL fs (off + a.size) b h4 (by omega) (fun i fd' hi => hf (i + 1) fd' (by simpa using hi))
  refine ⟨(x1, x2), ⟨_, _, ?_, r1, r2⟩, w1, w2⟩
  rw [h1, h2, ← List.drop_drop, List.take_append_drop]
theorem array_rep {f : List Value → Prop} {L : Ty → Bool} {sz : Nat} (hL : ∀ t cs, L t = true → f cs → ∃ x : t.den, Rep w noS t x cs ∧ Wf t x) {cs : List Value} :
  ∀ (n off : Nat) (t : Ty), layA L sz n t = true → off * sz + t.size = cs.length → (∀ i, i < n → f ((cs.drop ((off + i) * sz)).take sz)) → ∃ x : t.den, Rep w noS t x (cs.drop (off * sz)) ∧ Wf t x
 | 0, off, t, h, hs, _ => by
  cases t <;> simp [layA] at h
  simp [Ty.size] at hs
  exact ⟨(), by simp [Rep]; omega, trivial⟩
 | n + 1, off, t, h, hs, hf => by
  cases t <;> simp [layA] at h
  rename_i a b
  obtain ⟨⟨h1, h3⟩, h4⟩ := h
  simp [Ty.size] at hs
  obtain ⟨x1, r1, w1⟩ := hL _ _ h3 (by simpa using hf 0 (by omega))
  obtain ⟨x2, r2, w2⟩ := array_rep hL (cs := cs) n (off + 1) b h4 (by rw [Nat.add_mul, Nat.one_mul]; omega) (fun i hi => by have := hf (i + 1) (by omega); rwa [show off + (i + 1) = off + 1 + i by omega] at this)
  refine ⟨(x1, x2), ⟨_, _, ?_, r1, r2⟩, w1, w2⟩
  rw [Nat.add_mul, Nat.one_mul, ← List.drop_drop, List.take_append_drop]
theorem trod_rep : ∀ (n : Nat) (T : TypeId) (t : Ty) (fuel : Nat) (cs : List Value) (y : DataW H × List MemPlace), lay P n T t = true → DataW.trod enc P w 0 (fun _ => true) true fuel T cs = some y →
  ∃ x : t.den, Rep w noS t x cs ∧ Wf t x := by
 intro n
 induction n with
 | zero => intro T t fuel cs y h; simp [lay] at h
 | succ n ih =>
  intro T t fuel cs y h hy
  simp only [lay] at h
  split at h
  ·
   rename_i hu
   split at h
   ·
    obtain ⟨b, rfl, _⟩ := DataW.trod_bool hu hy
    exact ⟨b, rfl, trivial⟩
   · cases h
  ·
   rename_i k hu
   split at h
   ·
    rename_i k'
    simp only [decide_eq_true_eq] at h
    subst h
    obtain ⟨m, rfl, _, hw⟩ := DataW.trod_int hu hy
    exact ⟨m, rfl, hw⟩
   ·
    simp only [decide_eq_true_eq] at h
    subst h
    obtain ⟨m, rfl, _, hw⟩ := DataW.trod_int hu hy
    exact ⟨m, rfl, hw⟩
   · cases h
  ·
   rename_i hu
   split at h
   ·
    obtain ⟨s, rfl, _, hw⟩ := DataW.trod_string hu hy
    exact ⟨s, rfl, hw⟩
   · cases h
  ·
   rename_i e hu
   split at h
   ·
    rename_i t
    simp only [Bool.and_eq_true, beq_iff_eq, decide_eq_true_eq] at h
    obtain ⟨⟨h1, h2⟩, h3⟩ := h
    rcases DataW.trod_slice hu hy with ⟨rfl, _⟩ | ⟨a, len, cap, elems, rest, m, _, rfl, _, _, hl, hm, hlen, hel, _⟩
    · exact ⟨[], ⟨_, rfl, none, 0, rfl, Nat.le_refl _, fun h => absurd rfl h⟩, by simp [Wf]⟩
    ·
     have each : ∀ i, i < len → ∃ x : t.den, ∃ cs', w.cells? 0 (a.add (i * t.size)) t.size = some cs' ∧ Rep w noS t x cs' ∧ Wf t x := by
      intro i hi
      have hx := hel i hi
      rw [List.getElem?_eq_getElem (by omega), Option.bind_eq_some_iff] at hx
      obtain ⟨cs', c1, c2⟩ := hx
      obtain ⟨x, r1, r2⟩ := ih e t m cs' _ h1 c2
      exact ⟨x, cs', by rw [← h2]; exact c1, r1, r2⟩
     obtain ⟨l, l1, l2⟩ := choose_list _ len each
     refine ⟨l, ⟨_, rfl, some a, cap, by rw [l1], by omega, fun hne => ?_⟩, by rw [l1]; omega, fun x hx => ?_⟩
     ·
      have hpos : 0 < l.length := List.length_pos_iff.mpr hne
      obtain ⟨cs0, c1, c2, _⟩ := l2 0 hpos
      obtain ⟨arr, elem, fz, q1, q2, q3⟩ := at_cells c1 h3
      simp only [Nat.zero_mul] at q1 q2
      have e0 : a.add 0 = a := by simp [Addr.add]
      rw [e0] at q1 q2
      refine ⟨a.block, a.off, arr, elem, fz, by cases a; simp_all, fun h => h, q2, fun i hi => ?_⟩
      obtain ⟨cs', d1, d2, _⟩ := l2 i hi
      obtain ⟨arr', elem', fz', p1, p2, p3⟩ := at_cells d1 h3
      have e1 : (a.add (i * t.size)).block = a.block := by unfold Addr.add; split <;> rfl
      have e2 : (a.add (i * t.size)).off = a.off + i * t.size := by unfold Addr.add; split <;> simp_all
      rw [e1, q2] at p2
      simp only [Option.some.injEq, Obj.cells.injEq] at p2
      obtain ⟨rfl, _, _⟩ := p2
      rw [e2] at p3
      exact ⟨cs', d2, p3⟩
     ·
      obtain ⟨i, hi, rfl⟩ := List.getElem_of_mem hx
      obtain ⟨_, _, _, hw⟩ := l2 i hi
      exact hw
   · cases h
  ·
   rename_i fs hu
   simp only [Bool.and_eq_true, beq_iff_eq] at h
   obtain ⟨⟨_, h1⟩, h2⟩ := h
   obtain ⟨xs, m, _, _, hlen, hxl, hx⟩ := DataW.trod_struct hu hy
   have := struct_rep (w := w) (P := P) (f := fun T cs => ∃ y, DataW.trod enc P w 0 (fun _ => true) true m T cs = some y) (L := lay P n) (fun T t cs hl hf => by obtain ⟨y, hy⟩ := hf; exact ih T t m cs y hl hy) (cs := cs) fs.toList 0 t h2 (by omega)
    (fun i fd hi => ⟨xs[i]'(by have := (List.getElem?_eq_some_iff.mp hi).1; simp at this; omega), by
     rw [hx i fd (by simpa using hi)]
     exact List.getElem?_eq_getElem _⟩)
   simpa using this
  ·
   rename_i m e hu
   simp only [Bool.and_eq_true, beq_iff_eq] at h
   obtain ⟨⟨_, h1⟩, h2⟩ := h
   obtain ⟨xs, fu, _, _, hlen, hxl, hx⟩ := DataW.trod_array hu hy
   have := array_rep (w := w) (f := fun cs => ∃ y, DataW.trod enc P w 0 (fun _ => true) true fu e cs = some y) (L := lay P n e) (sz := P.cellsOf e) (fun t cs hl hf => by obtain ⟨y, hy⟩ := hf; exact ih e t fu cs y hl hy) (cs := cs) m 0 t h2 (by omega)
    (fun i hi => ⟨xs[i]'(by omega), by
     rw [Nat.zero_add, hx i hi]
     exact List.getElem?_eq_getElem _⟩)
   simpa using this
  · cases h
end
def layAll (P : Program) (n : Nat) : List TypeId → List Ty → Bool
 | [], [] => true
 | T :: Ts, t :: ts => lay P n T t && layAll P n Ts ts
 | _, _ => false
def zeroCells : Ty → List Value
 | .unit => []
 | .int k => [.int k 0]
 | .byt _ => [.int .u8 0]
 | .bool => [.bool false]
 | .str => [.string ⟨#[]⟩]
 | .pair a b => zeroCells a ++ zeroCells b
 | .slice _ => [.slice none 0 0]
def zeroV (t : Ty) : Value := if t.isAgg then .agg (zeroCells t).toArray else (zeroCells t).headD undef
section
variable {H : Type} {enc : TypeId × Value → H} {P : Program} {w : World}
theorem okWide_shape {n : Nat} {T : TypeId} {t : Ty} {r : Reach} {base : Nat} {v : Value} (hl : lay P n T t = true) (h : Value.okWide P w r base T v) : (t.isAgg = true → ∃ us, v = .agg us) ∧ (t.isAgg = false → v.oneCell' = true) := by
 cases n with
 | zero => simp [lay] at hl
 | succ n =>
  simp only [lay] at hl
  unfold Value.okWide at h
  split at hl
  ·
   rename_i hu
   split at hl
   ·
    rw [hu] at h
    simp only [Cell.okWide, Cell.ok, hu] at h
    refine ⟨(fun h => by cases h), fun _ => ?_⟩
    cases v <;> first | rfl | simp at h
   · cases hl
  ·
   rename_i k hu
   split at hl
   ·
    rw [hu] at h
    simp only [Cell.okWide, Cell.ok, hu] at h
    refine ⟨(fun h => by cases h), fun _ => ?_⟩
    cases v <;> first | rfl | simp at h
   ·
    rw [hu] at h
    simp only [Cell.okWide, Cell.ok, hu] at h
    refine ⟨(fun h => by cases h), fun _ => ?_⟩
    cases v <;> first | rfl | simp at h
   · cases hl
  ·
   rename_i hu
   split at hl
   ·
    rw [hu] at h
    simp only [Cell.okWide, Cell.ok, hu] at h
    refine ⟨(fun h => by cases h), fun _ => ?_⟩
    cases v <;> first | rfl | simp at h
   · cases hl
  ·
   rename_i e hu
   split at hl
   ·
    rw [hu] at h
    simp only [Cell.okWide, Cell.ok, hu] at h
    refine ⟨(fun h => by cases h), fun _ => ?_⟩
    cases v <;> first | rfl | simp at h
   · cases hl
  ·
   rename_i fs hu
   simp only [Bool.and_eq_true] at hl
   rw [hu] at h
   obtain ⟨cs, e, _⟩ := h
   exact ⟨fun _ => ⟨cs, e⟩, fun h => by rw [hl.1.1] at h; cases h⟩
  ·
   rename_i m e hu
   simp only [Bool.and_eq_true] at hl
   rw [hu] at h
   obtain ⟨cs, e, _⟩ := h
   exact ⟨fun _ => ⟨cs, e⟩, fun h => by rw [hl.1.1] at h; cases h⟩
  · cases hl
theorem args_rep {n : Nat} {r : Reach} {base : Nat} : ∀ {Ts : List TypeId} {ts : List Ty} {vs : List Value} {ds : List (DataW H)} {p : List MemPlace}, layAll P n Ts ts = true → DataW.TrodAll enc P w 0 (fun _ => true) true Ts vs ds p →
  (∀ (j : Nat) T v, Ts[j]? = some T → vs[j]? = some v → Value.okWide P w r base T v) → ∃ x : denL ts, RepVs w noS ts x vs ∧ Wfs ts x
 | [], ts, vs, ds, p, hl, h, _ => by
  cases ts <;> simp [layAll] at hl
  cases vs with
  | nil => exact ⟨(), rfl, trivial⟩
  | cons _ _ => cases ds <;> exact h.elim
 | T :: Ts, ts, vs, ds, p, hl, h, hv => by
  cases ts with
  | nil => simp [layAll] at hl
  | cons t ts =>
   simp only [layAll, Bool.and_eq_true] at hl
   cases vs with
   | nil => exact h.elim
   | cons v vs =>
    cases ds with
    | nil => exact h.elim
    | cons d ds =>
     obtain ⟨p1, q1, ⟨fuel, hd⟩, hr, _⟩ := h
     obtain ⟨x1, r1, w1⟩ := trod_rep n T t fuel _ _ hl.1 hd
     obtain ⟨x2, r2, w2⟩ := args_rep hl.2 hr (fun j T v h1 h2 => hv (j + 1) T v (by simpa using h1) (by simpa using h2))
     obtain ⟨s1, s2⟩ := okWide_shape hl.1 (hv 0 T v rfl rfl)
     exact ⟨(x1, x2), ⟨v, vs, rfl, ⟨r1, s1, s2⟩, r2⟩, w1, w2⟩
theorem trodAll_length : ∀ {Ts : List TypeId} {vs : List Value} {ds : List (DataW H)} {p : List MemPlace}, DataW.TrodAll enc P w 0 (fun _ => true) true Ts vs ds p → ds.length = Ts.length
 | [], vs, ds, p, h => by cases vs <;> cases ds <;> first | rfl | exact h.elim
 | T :: Ts, vs, ds, p, h => by
  cases vs with
  | nil => exact h.elim
  | cons v vs => cases ds with
   | nil => exact h.elim
   | cons d ds =>
    obtain ⟨p1, q1, hd, hq, e⟩ := h
    simp [trodAll_length hq]
def readAll (P : Program) : List TypeId → Bool
 | [] => true
 | T :: Ts => P.readableRec T && decide (T < P.types.size) && readAll P Ts
theorem trodAll_below (hl : laidOutB P = true) {w' : World} (hb : Below w.heap.size w w') : ∀ {Ts : List TypeId} {vs : List Value} {ds : List (DataW H)} {p : List MemPlace}, readAll P Ts = true →
  DataW.TrodAll enc P w 0 (fun _ => true) true Ts vs ds p → DataW.TrodAll enc P w' 0 (fun b => decide (b < w.heap.size)) true Ts vs ds p
 | [], vs, ds, p, _, h => by cases vs <;> cases ds <;> exact h
 | T :: Ts, vs, ds, p, hr, h => by
  simp only [readAll, Bool.and_eq_true, decide_eq_true_eq] at hr
  cases vs with
  | nil => exact h.elim
  | cons v vs =>
   cases ds with
   | nil => exact h.elim
   | cons d ds =>
    obtain ⟨p1, q1, hd, hq, e⟩ := h
    have hlt : ∀ x ∈ p1, x.block < w.heap.size := by obtain ⟨m, hm⟩ := hd; exact DataW.trod_lt m _ _ _ hm
    exact ⟨p1, q1, Below.trod hl hr.1.1 hr.1.2 hd hb hlt, trodAll_below hl hb hr.2 hq, e⟩
end
theorem law_calls {P : Program} {I : World → Prop} {g : Nat} {K : Nat} {ts : List Ty} {F : denL ts → Option (denL [Ty.bool])} (hs : (Con.mk ts [.bool] F).Sound P I g K) {w : World} (hI : I w) {args : Array Value} {x : denL ts} (hx : RepVs w noS ts x args.toList)
  (hF : F x = some (true, ())) : Calls P K args w fun e w' => e = .returned (.bool true) ∧ Below w.heap.size w w' := by
 refine (hs x (true, ()) hF w noS args hI (fun _ h => h.elim) hx).mono fun e w' h => ?_
 obtain ⟨v, rfl, hv, hb⟩ := h
 refine ⟨?_, hb⟩
 have : v.cells.toList = [.bool true] := hv.1
 have ho := hv.2.2 rfl
 rw [cells_one ho] at this
 simp at this
 rw [this]
theorem wrap_i64 (n : Int) (h0 : -9223372036854775808 ≤ n) (h1 : n ≤ 9223372036854775807) : IntKind.wrap .i64 n = n := by
 unfold IntKind.wrap
 simp [IntKind.signed, IntKind.bits]
 split <;> omega
theorem wrap_u64 (n : Int) (h0 : 0 ≤ n) (h1 : n ≤ 18446744073709551615) : IntKind.wrap .u64 n = n := by
 simp only [IntKind.wrap, IntKind.signed, IntKind.bits]
 simp
 omega
theorem wf_u64 {n : Int} (h : (Lit.int .u64 n).wf = true) : 0 ≤ n ∧ n ≤ 18446744073709551615 := by
 simp only [Lit.wf, IntKind.min, IntKind.max, IntKind.signed, IntKind.bits, Bool.and_eq_true] at h
 simp at h; omega
@[simp] theorem obind_some {α β : Type} (y : α) (k : α → Option β) : obind (some y) k = k y := rfl
@[simp] theorem obind_none {α β : Type} (k : α → Option β) : obind none k = none := rfl
section mid
variable {α : Type}
@[simp] theorem getD_mid (pre : List α) (x : α) (suf : List α) (d : α) : (pre ++ x :: suf).getD pre.length d = x := by simp [List.getD]
@[simp] theorem set_mid (pre : List α) (x y : α) (suf : List α) : (pre ++ x :: suf).set pre.length y = pre ++ y :: suf := by simp
theorem nn (n : Nat) : ((0 : Int) ≤ ((n : Nat) : Int)) = True := by simp
theorem mid_lt (pre : List α) (x : α) (suf : List α) : (((pre.length : Nat) : Int) < (((pre ++ x :: suf).length : Nat) : Int)) = True := by simp; omega
theorem mid_end (pre : List α) : (((pre.length : Nat) : Int) < (((pre ++ []).length : Nat) : Int)) = False := by simp
theorem mid_next (pre : List α) (x y : α) (suf : List α) (h : (pre ++ x :: suf).length ≤ 4294967296) : IntKind.wrap .i64 (((pre.length : Nat) : Int) + 1) = (((pre ++ [y]).length : Nat) : Int) := by
 simp at h
 rw [wrap_i64 _ (by omega) (by omega)]; simp
theorem mid_next' (pre : List α) (x y : α) (suf : List α) (h : (pre ++ x :: suf).length ≤ 9223372036854775807) : IntKind.wrap .i64 (((pre.length : Nat) : Int) + 1) = (((pre ++ [y]).length : Nat) : Int) := by
 simp at h
 rw [wrap_i64 _ (by omega) (by omega)]; simp
theorem snoc_app (pre : List α) (x : α) (suf : List α) : pre ++ x :: suf = (pre ++ [x]) ++ suf := by simp
theorem toNat_len (pre : List α) : Int.toNat ((pre.length : Nat) : Int) = pre.length := by simp
end mid
theorem beq_of {α : Type} [BEq α] [LawfulBEq α] {a b : α} (h : a = b) : (a == b) = true := by subst h; exact beq_self_eq_true a
theorem toList_beq (a b : ByteArray) : (a.toList == b.toList) = decide (a = b) := by
 rw [ByteArray.toList_eq, ByteArray.toList_eq]
 by_cases h : a = b
 · simp [h]
 ·
  simp only [h, decide_false]
  refine beq_false_of_ne fun e => h ?_
  cases a; cases b; simp at e; simpa using e
theorem byt_eq {a b : ByteArray} : a = b ↔ a.data.toList = b.data.toList := by
 constructor
 · rintro rfl; rfl
 · intro e; cases a; cases b; simpa using e
theorem app_data (a b : ByteArray) : (a ++ b).data.toList = a.data.toList ++ b.data.toList := by simp
def mapI {α β : Type} (g : Int → α → β) : Int → List α → List β
 | _, [] => []
 | k, x :: l => g k x :: mapI g (k + 1) l
@[simp] theorem mapI_length {α β : Type} (g : Int → α → β) : ∀ (k : Int) (l : List α), (mapI g k l).length = l.length
 | _, [] => rfl
 | k, x :: l => by simp [mapI, mapI_length g (k + 1) l]
theorem bytesStr_data : ∀ (l : List Int), (bytesStr l).data.toList = l.map fun n => UInt8.ofNat n.toNat := by
 have key : ∀ (l : List Int) (r : ByteArray), (l.foldl (fun r n => r.push (UInt8.ofNat n.toNat)) r).data.toList = r.data.toList ++ l.map fun n => UInt8.ofNat n.toNat := by
  intro l
  induction l with
  | nil => intro r; simp
  | cons x l ih => intro r; rw [List.foldl_cons, ih]; simp
 intro l
 unfold bytesStr
 rw [key]; rfl
theorem strBytes_range (s : ByteArray) : ∀ n ∈ strBytes s, 0 ≤ n ∧ n ≤ 255 := by
 intro n hn
 obtain ⟨b, _, rfl⟩ := List.mem_map.mp hn
 have := b.toNat_lt
 omega
theorem strBytes_len (s : ByteArray) : (strBytes s).length = s.size := by
 show (s.data.toList.map _).length = s.data.size
 simp
theorem strBytes_app (a b : ByteArray) : strBytes (a ++ b) = strBytes a ++ strBytes b := by
 show (a ++ b).data.toList.map _ = _
 rw [app_data, List.map_append]
theorem toNat_inj : Function.Injective (fun b : UInt8 => (b.toNat : Int)) := by
 intro a b h
 have h2 : a.toNat = b.toNat := Int.ofNat.inj h
 exact UInt8.toNat_inj.mp h2
theorem strBytes_inj {a b : ByteArray} : strBytes a = strBytes b ↔ a = b := by
 constructor
 ·
  intro h
  rw [byt_eq]
  exact (List.map_inj_right (fun x y h => toNat_inj h)).mp h
 · rintro rfl; rfl
theorem strBytes_bytesStr {l : List Int} (h : ∀ n ∈ l, 0 ≤ n ∧ n ≤ 255) : strBytes (bytesStr l) = l := by
 show (bytesStr l).data.toList.map _ = l
 rw [bytesStr_data, List.map_map]
 have : ∀ n ∈ l, ((fun b : UInt8 => (b.toNat : Int)) ∘ fun n : Int => UInt8.ofNat n.toNat) n = id n := by
  intro n hn
  obtain ⟨h0, h1⟩ := h n hn
  simp only [Function.comp, id, UInt8.toNat_ofNat']
  omega
 rw [List.map_congr_left this, List.map_id]
theorem bytesStr_inj {a b : List Int} (ha : ∀ n ∈ a, 0 ≤ n ∧ n ≤ 255) (hb : ∀ n ∈ b, 0 ≤ n ∧ n ≤ 255) : bytesStr a = bytesStr b ↔ a = b := by
 constructor
 ·
  intro h
  rw [← strBytes_bytesStr ha, h, strBytes_bytesStr hb]
 · rintro rfl; rfl
theorem bytesStr_size (l : List Int) : (bytesStr l).size = l.length := by
 show (bytesStr l).data.size = _
 rw [← Array.length_toList, bytesStr_data]; simp
theorem byteAt_is (s : ByteArray) (i : Int) : byteAt s i = (strBytes s).getD i.toNat 0 := by
 unfold byteAt
 show (((s.data.toList.getD i.toNat 0).toNat : Nat) : Int) = (s.data.toList.map fun b => (b.toNat : Int)).getD i.toNat 0
 rw [List.getD_eq_getElem?_getD, List.getD_eq_getElem?_getD, List.getElem?_map]
 cases s.data.toList[i.toNat]? <;> rfl
theorem strBytes_extract (s : ByteArray) (a b : Nat) : strBytes (s.extract a b) = ((strBytes s).take b).drop a := by
 show (s.extract a b).data.toList.map _ = ((s.data.toList.map _).take b).drop a
 rw [ByteArray.data_extract]
 simp [Array.toList_extract, List.extract, List.drop_take, List.map_take, List.map_drop]
theorem wrap_u8 (n : Int) : IntKind.wrap .u8 n = n % 256 := by
 simp only [IntKind.wrap, IntKind.signed, IntKind.bits]; simp
theorem wrap_u64' (n : Int) : IntKind.wrap .u64 n = n % 18446744073709551616 := by
 simp only [IntKind.wrap, IntKind.signed, IntKind.bits]; simp
theorem bits_or_u64 (x y : Int) (hx : 0 ≤ x ∧ x < 18446744073709551616) (hy : 0 ≤ y ∧ y < 18446744073709551616) : bits .or .u64 x y = ((x.toNat ||| y.toNat : Nat) : Int) := by
 rw [bits_eq, bitsF, wrap_u64']
 show (((BitVec.ofInt 64 x ||| BitVec.ofInt 64 y).toNat : Nat) : Int) % 18446744073709551616 = _
 have ex : (BitVec.ofInt 64 x).toNat = x.toNat := by rw [BitVec.toNat_ofInt]; omega
 have ey : (BitVec.ofInt 64 y).toNat = y.toNat := by rw [BitVec.toNat_ofInt]; omega
 rw [BitVec.toNat_or, ex, ey]
 have : x.toNat ||| y.toNat < 2 ^ 64 := Nat.or_lt_two_pow (by omega) (by omega)
 omega
theorem bits_and_u64 (x y : Int) (hx : 0 ≤ x ∧ x < 18446744073709551616) (hy : 0 ≤ y ∧ y < 18446744073709551616) : bits .and .u64 x y = ((x.toNat &&& y.toNat : Nat) : Int) := by
 rw [bits_eq, bitsF, wrap_u64']
 show (((BitVec.ofInt 64 x &&& BitVec.ofInt 64 y).toNat : Nat) : Int) % 18446744073709551616 = _
 have ex : (BitVec.ofInt 64 x).toNat = x.toNat := by rw [BitVec.toNat_ofInt]; omega
 have ey : (BitVec.ofInt 64 y).toNat = y.toNat := by rw [BitVec.toNat_ofInt]; omega
 rw [BitVec.toNat_and, ex, ey]
 have : x.toNat &&& y.toNat ≤ x.toNat := Nat.and_le_left
 omega
theorem bits_or_u8 (x y : Int) (hx : 0 ≤ x ∧ x < 256) (hy : 0 ≤ y ∧ y < 256) : bits .or .u8 x y = ((x.toNat ||| y.toNat : Nat) : Int) := by
 rw [bits_eq, bitsF, wrap_u8]
 show (((BitVec.ofInt 8 x ||| BitVec.ofInt 8 y).toNat : Nat) : Int) % 256 = _
 have ex : (BitVec.ofInt 8 x).toNat = x.toNat := by rw [BitVec.toNat_ofInt]; omega
 have ey : (BitVec.ofInt 8 y).toNat = y.toNat := by rw [BitVec.toNat_ofInt]; omega
 rw [BitVec.toNat_or, ex, ey]
 have : x.toNat ||| y.toNat < 2 ^ 8 := Nat.or_lt_two_pow (by omega) (by omega)
 omega
end Go.Proofs.YtjlfmolfcgennaaDoor.V
namespace Go.Proofs.YtjlfmolfcgennaaDoor.V
theorem xs_inj (s : Nat) (hs : 0 < s) (x y : BitVec 64) (h : x ^^^ (x >>> s) = y ^^^ (y >>> s)) : x = y := by
 have h1 : (x ^^^ y) = (x ^^^ y) >>> s := by
  apply BitVec.eq_of_getLsbD_eq
  intro i hi
  have := congrArg (fun z => z.getLsbD i) h
  simp only [BitVec.getLsbD_xor, BitVec.getLsbD_ushiftRight] at this ⊢
  revert this
  cases x.getLsbD i <;> cases y.getLsbD i <;> cases x.getLsbD (s + i) <;> cases y.getLsbD (s + i) <;> simp
 have h2 := congrArg BitVec.toNat h1
 rw [BitVec.toNat_ushiftRight, Nat.shiftRight_eq_div_pow] at h2
 have h3 : (x ^^^ y).toNat = 0 := by
  rcases Nat.eq_zero_or_pos (x ^^^ y).toNat with h | h
  · exact h
  ·
   have h4 : (x ^^^ y).toNat / 2 ^ s < (x ^^^ y).toNat := Nat.div_lt_self h (Nat.one_lt_two_pow (by omega))
   omega
 have h5 : x ^^^ y = 0#64 := BitVec.eq_of_toNat_eq (by simpa using h3)
 exact BitVec.xor_eq_zero_iff.mp h5
theorem mul_inj' (c d : BitVec 64) (h : c * d = 1#64) (x y : BitVec 64) (e : x * c = y * c) : x = y := by
 have := congrArg (· * d) e
 simpa [BitVec.mul_assoc, h] using this
def mixB (z : BitVec 64) : BitVec 64 :=
 let z0 := z + 11400714819323198485#64
 let z1 := (z0 ^^^ z0 >>> 30) * 13787848793156543929#64
 let z2 := (z1 ^^^ z1 >>> 27) * 10723151780598845931#64
 z2 ^^^ z2 >>> 31
theorem mixB_inj (x y : BitVec 64) (h : mixB x = mixB y) : x = y := by
 have h1 := xs_inj 31 (by decide) _ _ h
 have h2 := mul_inj' _ 3573116690164977347#64 (by decide) _ _ h1
 have h3 := xs_inj 27 (by decide) _ _ h2
 have h4 := mul_inj' _ 10871156337175269513#64 (by decide) _ _ h3
 have h5 := xs_inj 30 (by decide) _ _ h4
 exact (BitVec.add_left_inj _).mp h5
def mixI (z : Int) : Int := ((mixB (BitVec.ofInt 64 z)).toNat : Int)
theorem mixI_range (z : Int) : 0 ≤ mixI z ∧ mixI z < 18446744073709551616 := by
 unfold mixI
 have := (mixB (BitVec.ofInt 64 z)).isLt
 omega
theorem ofInt_inj (x y : Int) (h : BitVec.ofInt 64 x = BitVec.ofInt 64 y) (hx : 0 ≤ x ∧ x < 18446744073709551616) (hy : 0 ≤ y ∧ y < 18446744073709551616) : x = y := by
 have := congrArg BitVec.toNat h
 simp only [BitVec.toNat_ofInt] at this
 omega
theorem mixI_inj (x y : Int) (h : mixI x = mixI y) (hx : 0 ≤ x ∧ x < 18446744073709551616) (hy : 0 ≤ y ∧ y < 18446744073709551616) : x = y := by
 unfold mixI at h
 refine ofInt_inj x y (mixB_inj _ _ (BitVec.eq_of_toNat_eq ?_)) hx hy
 omega
end Go.Proofs.YtjlfmolfcgennaaDoor.V
namespace Go.Proofs.YtjlfmolfcgennaaDoor.V
open Go.RowKit Go.Proofs.Tryd
set_option maxRecDepth 100000
def tabs : List (Nat × (Σ t : Ty, List t.den)) := [(0, ⟨.int .u8, [0, 1, 28, 2, 29, 14, 24, 3, 30, 22, 20, 15, 25, 17, 4, 8, 31, 27, 13, 23, 21, 19, 16, 7, 26, 12, 18, 6, 11, 5, 10, 9]⟩), (1, ⟨.int .u8, [0, 1, 56, 2, 57, 49, 28, 3, 61, 58, 42, 50, 38, 29, 17, 4, 62, 47, 59, 36, 45, 43, 51, 22, 53, 39, 33, 30, 24, 18, 12, 5, 63, 55, 48, 27, 60, 41, 37, 16, 46, 35, 44, 21, 52, 32, 23, 11, 54, 26, 40, 15, 34, 20, 31, 10, 25, 14, 19, 9, 13, 8, 7, 6]⟩)]
def Inv (w : World) : Prop := 2 ≤ w.heap.size ∧ TabsIn w tabs
def gInv : Nat := 2
theorem inv_g : ∀ w, Inv w → gInv ≤ w.heap.size := fun _ h => h.1
theorem ext70 (v : Value) (w : World) : (callFunc 70 #[v]).run prog w = .ok (.value v) w := by
 rw [run_callFunc_extern func70 (by kernel_rfl) (by kernel_rfl) (by kernel_rfl) (e := Extern.AbiNoEscape.same) (by kernel_rfl), Lib.run_noEscape]
 rfl
noncomputable def bas : Bas prog Inv gInv where
 keep := fun _ _ _ hB hb h => ⟨Nat.le_trans h.1 hb.size, h.2.keep hB hb (by decide)⟩
 mixed := by kernel_rfl
 ext := fun K => Nat.beq K 70
 ext_ok := fun K h v w => by
  obtain rfl := Nat.eq_of_beq_eq_true h
  exact ext70 v w
 gl := tabPV tabs
 gl_ok := fun k _ _ hI hS _ _ => tab_rel hS (l := tabs) (by decide) hI.2
abbrev D_runtime_errorAddressString : Type := (ByteArray × (Int × Unit))
@[reducible] def T_ranges_Range : Ty := (.pair (.int .u64) (.pair (.int .u64) .unit))
abbrev D_ranges_Range : Type := (Int × (Int × Unit))
abbrev D_runtime_boundsError : Type := (Int × (Int × (Bool × (Int × Unit))))
@[reducible] def T_ids_Own : Ty := (.pair (.int .u64) (.pair .str (.pair .str (.pair .bool (.pair .bool .unit)))))
abbrev D_ids_Own : Type := (Int × (ByteArray × (ByteArray × (Bool × (Bool × Unit)))))
abbrev D_4_int : Type := (Int × (Int × (Int × (Int × Unit))))
@[reducible] def T_ids_Given : Ty := (.pair (.int .u64) (.pair .str (.pair .str (.pair .bool (.pair .bool (.pair .bool .unit))))))
abbrev D_ids_Given : Type := (Int × (ByteArray × (ByteArray × (Bool × (Bool × (Bool × Unit))))))
abbrev D_2_struct_shift_int_times_uint64 : Type := (D_ranges_Range × (D_ranges_Range × Unit))
@[reducible] def T_8_uint8 : Ty := (.pair (.int .u8) (.pair (.int .u8) (.pair (.int .u8) (.pair (.int .u8) (.pair (.int .u8) (.pair (.int .u8) (.pair (.int .u8) (.pair (.int .u8) .unit))))))))
abbrev D_8_uint8 : Type := (Int × (Int × (Int × (Int × (Int × (Int × (Int × (Int × Unit))))))))
@[reducible] def T_8_uint64 : Ty := (.pair (.int .u64) (.pair (.int .u64) (.pair (.int .u64) (.pair (.int .u64) (.pair (.int .u64) (.pair (.int .u64) (.pair (.int .u64) (.pair (.int .u64) .unit))))))))
abbrev D_8_uint64 : Type := (Int × (Int × (Int × (Int × (Int × (Int × (Int × (Int × Unit))))))))
@[reducible] def T_frame_Frame : Ty := (.pair (.int .u64) (.pair (.int .u64) (.pair (.int .u64) (.pair (.int .u64) (.pair (.int .u64) (.pair (.int .u64) (.pair (.int .u64) (.pair (.int .u64) (.pair .bool (.pair .str (.pair .str (.pair .str (.pair (.slice T_ranges_Range) .unit)))))))))))))
abbrev D_frame_Frame : Type := (Int × (Int × (Int × (Int × (Int × (Int × (Int × (Int × (Bool × (ByteArray × (ByteArray × (ByteArray × ((List D_ranges_Range) × Unit)))))))))))))
@[reducible] def T_ids_State : Ty := (.pair (.int .u64) (.pair (.int .i64) (.pair (.int .i64) (.pair (.slice T_ids_Own) (.pair (.slice T_ids_Given) (.pair (.int .u64) (.pair (.int .u64) .unit)))))))
abbrev D_ids_State : Type := (Int × (Int × (Int × ((List D_ids_Own) × ((List D_ids_Given) × (Int × (Int × Unit)))))))
@[reducible] def T_law18_Act : Ty := (.pair (.int .i64) (.pair (.int .i64) (.pair T_frame_Frame .unit)))
abbrev D_law18_Act : Type := (Int × (Int × (D_frame_Frame × Unit)))
theorem ok3 : FnOk prog 3 f3 := ⟨func3, by decide +kernel, by kernel_rfl⟩
theorem ok4 : FnOk prog 4 f4 := ⟨func4, by decide +kernel, by kernel_rfl⟩
theorem ok5 : FnOk prog 5 f5 := ⟨func5, by decide +kernel, by kernel_rfl⟩
theorem ok6 : FnOk prog 6 f6 := ⟨func6, by decide +kernel, by kernel_rfl⟩
theorem ok7 : FnOk prog 7 f7 := ⟨func7, by decide +kernel, by kernel_rfl⟩
theorem ok8 : FnOk prog 8 f8 := ⟨func8, by decide +kernel, by kernel_rfl⟩
theorem ok9 : FnOk prog 9 f9 := ⟨func9, by decide +kernel, by kernel_rfl⟩
theorem ok10 : FnOk prog 10 f10 := ⟨func10, by decide +kernel, by kernel_rfl⟩
theorem ok11 : FnOk prog 11 f11 := ⟨func11, by decide +kernel, by kernel_rfl⟩
theorem ok12 : FnOk prog 12 f12 := ⟨func12, by decide +kernel, by kernel_rfl⟩
theorem ok13 : FnOk prog 13 f13 := ⟨func13, by decide +kernel, by kernel_rfl⟩
theorem ok14 : FnOk prog 14 f14 := ⟨func14, by decide +kernel, by kernel_rfl⟩
theorem ok15 : FnOk prog 15 f15 := ⟨func15, by decide +kernel, by kernel_rfl⟩
theorem ok16 : FnOk prog 16 f16 := ⟨func16, by decide +kernel, by kernel_rfl⟩
theorem ok17 : FnOk prog 17 f17 := ⟨func17, by decide +kernel, by kernel_rfl⟩
theorem ok18 : FnOk prog 18 f18 := ⟨func18, by decide +kernel, by kernel_rfl⟩
theorem ok19 : FnOk prog 19 f19 := ⟨func19, by decide +kernel, by kernel_rfl⟩
theorem ok20 : FnOk prog 20 f20 := ⟨func20, by decide +kernel, by kernel_rfl⟩
theorem ok21 : FnOk prog 21 f21 := ⟨func21, by decide +kernel, by kernel_rfl⟩
theorem ok22 : FnOk prog 22 f22 := ⟨func22, by decide +kernel, by kernel_rfl⟩
theorem ok23 : FnOk prog 23 f23 := ⟨func23, by decide +kernel, by kernel_rfl⟩
theorem ok24 : FnOk prog 24 f24 := ⟨func24, by decide +kernel, by kernel_rfl⟩
theorem ok25 : FnOk prog 25 f25 := ⟨func25, by decide +kernel, by kernel_rfl⟩
theorem ok26 : FnOk prog 26 f26 := ⟨func26, by decide +kernel, by kernel_rfl⟩
theorem ok27 : FnOk prog 27 f27 := ⟨func27, by decide +kernel, by kernel_rfl⟩
theorem ok28 : FnOk prog 28 f28 := ⟨func28, by decide +kernel, by kernel_rfl⟩
theorem ok29 : FnOk prog 29 f29 := ⟨func29, by decide +kernel, by kernel_rfl⟩
theorem ok30 : FnOk prog 30 f30 := ⟨func30, by decide +kernel, by kernel_rfl⟩
theorem ok31 : FnOk prog 31 f31 := ⟨func31, by decide +kernel, by kernel_rfl⟩
theorem ok32 : FnOk prog 32 f32 := ⟨func32, by decide +kernel, by kernel_rfl⟩
theorem ok33 : FnOk prog 33 f33 := ⟨func33, by decide +kernel, by kernel_rfl⟩
theorem ok34 : FnOk prog 34 f34 := ⟨func34, by decide +kernel, by kernel_rfl⟩
theorem ok35 : FnOk prog 35 f35 := ⟨func35, by decide +kernel, by kernel_rfl⟩
theorem ok36 : FnOk prog 36 f36 := ⟨func36, by decide +kernel, by kernel_rfl⟩
theorem ok37 : FnOk prog 37 f37 := ⟨func37, by decide +kernel, by kernel_rfl⟩
theorem ok38 : FnOk prog 38 f38 := ⟨func38, by decide +kernel, by kernel_rfl⟩
theorem ok39 : FnOk prog 39 f39 := ⟨func39, by decide +kernel, by kernel_rfl⟩
theorem ok40 : FnOk prog 40 f40 := ⟨func40, by decide +kernel, by kernel_rfl⟩
theorem ok41 : FnOk prog 41 f41 := ⟨func41, by decide +kernel, by kernel_rfl⟩
theorem ok42 : FnOk prog 42 f42 := ⟨func42, by decide +kernel, by kernel_rfl⟩
theorem ok43 : FnOk prog 43 f43 := ⟨func43, by decide +kernel, by kernel_rfl⟩
theorem ok44 : FnOk prog 44 f44 := ⟨func44, by decide +kernel, by kernel_rfl⟩
theorem ok45 : FnOk prog 45 f45 := ⟨func45, by decide +kernel, by kernel_rfl⟩
theorem ok46 : FnOk prog 46 f46 := ⟨func46, by decide +kernel, by kernel_rfl⟩
theorem ok47 : FnOk prog 47 f47 := ⟨func47, by decide +kernel, by kernel_rfl⟩
theorem ok48 : FnOk prog 48 f48 := ⟨func48, by decide +kernel, by kernel_rfl⟩
theorem ok49 : FnOk prog 49 f49 := ⟨func49, by decide +kernel, by kernel_rfl⟩
theorem ok50 : FnOk prog 50 f50 := ⟨func50, by decide +kernel, by kernel_rfl⟩
theorem ok51 : FnOk prog 51 f51 := ⟨func51, by decide +kernel, by kernel_rfl⟩
theorem ok52 : FnOk prog 52 f52 := ⟨func52, by decide +kernel, by kernel_rfl⟩
theorem ok53 : FnOk prog 53 f53 := ⟨func53, by decide +kernel, by kernel_rfl⟩
theorem ok54 : FnOk prog 54 f54 := ⟨func54, by decide +kernel, by kernel_rfl⟩
theorem ok56 : FnOk prog 56 f56 := ⟨func56, by decide +kernel, by kernel_rfl⟩
theorem ok57 : FnOk prog 57 f57 := ⟨func57, by decide +kernel, by kernel_rfl⟩
theorem ok58 : FnOk prog 58 f58 := ⟨func58, by decide +kernel, by kernel_rfl⟩
theorem ok59 : FnOk prog 59 f59 := ⟨func59, by decide +kernel, by kernel_rfl⟩
theorem ok60 : FnOk prog 60 f60 := ⟨func60, by decide +kernel, by kernel_rfl⟩
theorem ok61 : FnOk prog 61 f61 := ⟨func61, by decide +kernel, by kernel_rfl⟩
theorem ok62 : FnOk prog 62 f62 := ⟨func62, by decide +kernel, by kernel_rfl⟩
theorem ok63 : FnOk prog 63 f63 := ⟨func63, by decide +kernel, by kernel_rfl⟩
theorem ok64 : FnOk prog 64 f64 := ⟨func64, by decide +kernel, by kernel_rfl⟩
theorem ok65 : FnOk prog 65 f65 := ⟨func65, by decide +kernel, by kernel_rfl⟩
theorem ok66 : FnOk prog 66 f66 := ⟨func66, by decide +kernel, by kernel_rfl⟩
theorem ok67 : FnOk prog 67 f67 := ⟨func67, by decide +kernel, by kernel_rfl⟩
theorem ok68 : FnOk prog 68 f68 := ⟨func68, by decide +kernel, by kernel_rfl⟩
theorem ok69 : FnOk prog 69 f69 := ⟨func69, by decide +kernel, by kernel_rfl⟩
theorem ok71 : FnOk prog 71 f71 := ⟨func71, by decide +kernel, by kernel_rfl⟩
theorem ok72 : FnOk prog 72 f72 := ⟨func72, by decide +kernel, by kernel_rfl⟩
theorem ok73 : FnOk prog 73 f73 := ⟨func73, by decide +kernel, by kernel_rfl⟩
theorem ok74 : FnOk prog 74 f74 := ⟨func74, by decide +kernel, by kernel_rfl⟩
theorem ok75 : FnOk prog 75 f75 := ⟨func75, by decide +kernel, by kernel_rfl⟩
theorem ok76 : FnOk prog 76 f76 := ⟨func76, by decide +kernel, by kernel_rfl⟩
theorem ok77 : FnOk prog 77 f77 := ⟨func77, by decide +kernel, by kernel_rfl⟩
theorem ok78 : FnOk prog 78 f78 := ⟨func78, by decide +kernel, by kernel_rfl⟩
theorem ok79 : FnOk prog 79 f79 := ⟨func79, by decide +kernel, by kernel_rfl⟩
theorem ok80 : FnOk prog 80 f80 := ⟨func80, by decide +kernel, by kernel_rfl⟩
end Go.Proofs.YtjlfmolfcgennaaDoor.V
namespace Go.Proofs.YtjlfmolfcgennaaDoor.V
open Go.RowKit
section
variable {P : Program} {I : World → Prop} {g : Nat} {M : Mach P I g} {R : Type} {fin : Fins R}
variable {base : Base} {S0 : Nat → Prop} {cs0 : List Frame} {post : World → Ending → R → Prop}
theorem nil_sound {c : Cfg} {f : Func} {body : Code} {id : Nat} {ops : Array Oper} {k : List Item} {i : Nat} {o : Oper} {T e : TypeId} {x : Operand} {yT : TypeId} {t : Ty} {l : List t.den} {cl : Bool} {r : R} (hf : M.fn c.top.K = some f) (hb : f.body = some body)
  (ht : todoAt body c.top.path [] = some (.region id ops false, k)) (hix : c.top.ix = some i) (hstart : c.top.start = none) (ho : ops[i]? = some o) (hgd : o.guard = none) (hop : o.op = .binOp .eql T x (.const (.slice none 0 0)) yT)
  (hu : P.underlying T = some (.slice e)) (hx : evalP M.gl c.top.env x = .rows t l cl)
  (h1 : l = [] → Sound M base S0 cs0 post (adv c i o.dst (.val (.bool true)) c.H ⟨[], [], []⟩) r) (h2 : Sound M base S0 cs0 post (adv c i o.dst (.val (.bool false)) c.H ⟨[], [], []⟩) r) : Sound M base S0 cs0 post c r := by
 intro ρ w S b a todo cs hI hg hh he hst hstack htr
 obtain ⟨hb1, hb2, hd, f', body', code, k', e1, e2, e3, e4⟩ := hst
 rw [hf] at e1; cases e1
 rw [hb] at e2; cases e2
 rw [ht] at e3; cases e3
 rw [hix] at e4
 obtain ⟨id', ops', draw', e5, e6⟩ := e4
 cases e5
 have hlt : i < ops.size := (Array.getElem?_eq_some_iff.1 ho).1
 rw [hstart] at e6
 obtain ⟨_, rfl⟩ := e6
 have eH : c.H0 = c.H := by simp [Cfg.H0, hstart]
 have eE : c.env0 = c.top.env := by simp [Cfg.env0, hstart]
 rw [eH] at hh he hstack
 rw [eE] at he
 have hv := evalP_rel M hg hI hh he x
 rw [hx] at hv
 simp only [PRel] at hv
 obtain ⟨⟨ad, cap, hve, _, hne⟩, _⟩ := hv
 have hS : Sound M base S0 cs0 post (adv c i o.dst (.val (.bool ad.isNone)) c.H ⟨[], [], []⟩) r := by
  cases ad with
  | none =>
   refine h1 ?_
   rcases List.eq_nil_or_concat l with h | ⟨_, _, h⟩
   · exact h
   ·
    have : l ≠ [] := by rw [h]; simp
    obtain ⟨_, _, _, _, _, e, _⟩ := hne this
    cases e
  | some _ => exact h2
 have hrun : (execOp a.eval o).run P w = .ok (.value (.bool ad.isNone)) w := by
  obtain ⟨dst, op, ty, pos, aft, gd⟩ := o
  simp only at hop
  subst hop
  have := run_equal_slice_nil (P := P) w T e ad l.length cap hu
  have hc : a.eval (.const (.slice none 0 0)) = .slice none 0 0 := rfl
  simp only [execOp, hve, hc]
  simp [eqGuard, binOp, this]
 have hwp : wpOp P ops (fun _ _ _ => False) i (fun a' w' => w' = w ∧ a' = a.put o.dst (.bool ad.isNone)) a w := by
  unfold wpOp
  simp only [ho]
  have : Region.wanted o (yielded ops a.tmps) = true := by simp [Region.wanted, hgd]
  rw [this]
  simp only [if_true]
  left
  unfold Oper.wp
  rw [hrun]
  exact ⟨rfl, rfl⟩
 rw [range'_cons hlt]
 obtain ⟨a', w', ⟨rfl, rfl⟩, hsteps⟩ := wpOp_steps hwp b (rest := List.range' (i + 1) (ops.size - (i + 1))) k cs
 refine Fin.steps hsteps ?_
 have hsn : (adv c i o.dst (.val (.bool ad.isNone)) c.H ⟨[], [], []⟩).top.start = none := hstart
 exact hS.plain hsn ρ _ S b _ _ cs hI hg hh (putP_rel he (p := .val (.bool ad.isNone)) (v := .bool ad.isNone) (by simp only [PRel]) o.dst) ⟨hb1, hb2, (put_defers' _ _ _).trans hd, f, body, .region id ops false, k, hf, hb, ht, id, ops, false, rfl, by rw [hsn]; exact ⟨rfl, rfl⟩⟩ hstack
theorem nos_split {c : Cfg} {r : R} (b j : Nat) {e : TypeId} {cs : List PV} (b' off : Nat) (hs : c.top.start = none) (ho : c.H.at? b = some (.cells e cs)) (hj : cs[j]? = some (.nos b' off))
  (h1 : Sound M base S0 cs0 post { c with H := c.H.set b (some (.cells e (cs.set j (.val (.pointer none))))) } r) (h2 : Sound M base S0 cs0 post { c with H := c.H.set b (some (.cells e (cs.set j (.ptr b' off)))) } r) : Sound M base S0 cs0 post c r := by
 intro ρ w S b0 a todo cs' hI hg hh he hst hstack htr
 have eH : c.H0 = c.H := by simp [Cfg.H0, hs]
 have eE : c.env0 = c.top.env := by simp [Cfg.env0, hs]
 rw [eH] at hh he hstack
 rw [eE] at he
 obtain ⟨blk, arr, fz, q1, q2, q3, q4⟩ := hh.block _ _ ho
 obtain ⟨v, hv1, hv2⟩ := q4.get j _ hj
 have go : ∀ p : PV, (∀ {H'}, Ext base ρ c.H w S ρ H' w S → PRel ρ H' w S p v) → Sound M base S0 cs0 post { c with H := c.H.set b (some (.cells e (cs.set j p))) } r → Fin P (bottom c.top.K c.rest) base cs0 post w (lone (b0.at a todo) cs' w) r := by
  intro p hp hS
  obtain ⟨g1, g2⟩ := hh.turn (w' := w) (o' := .cells e (cs.set j p)) ho rfl rfl (.cells (by simp)) q1 rfl (fun _ _ => rfl) ⟨rfl, rfl, rfl⟩ (fun hx => by
   refine ⟨blk, arr, fz, q1, q2, q3, ?_⟩
   have hset := (q4.mono hx.hH hx.hr hx.hw hx.hS).set j (hp hx)
   have : arr.toList.set j v = arr.toList := by
    apply List.ext_getElem?
    intro i
    by_cases e : j = i
    ·
     subst e
     rw [List.getElem?_set_self', hv1]
     rfl
    · rw [List.getElem?_set_ne e]
   rwa [this] at hset)
  have hsn : ({ c with H := c.H.set b (some (.cells e (cs.set j p))) } : Cfg).top.start = none := hs
  refine hS.plain hsn ρ w S b0 a todo cs' hI hg g1 (g2.rels he) hst (hstack.ext g2)
 simp only [PRel] at hv2
 obtain ⟨hkn, hv2⟩ := hv2
 rcases hv2 with rfl | hv2
 · exact go _ (fun _ => by simp only [PRel]) h1
 ·
  refine go _ (fun {H'} hx => ?_) h2
  have : PRel ρ c.H w S (.ptr b' off) v := by simp only [PRel]; exact ⟨⟨hkn, hv2.1⟩, hv2.2⟩
  exact hx.rel this
end
end Go.Proofs.YtjlfmolfcgennaaDoor.V
namespace Go.Proofs.YtjlfmolfcgennaaDoor.V
open Go.RowKit Go.Proofs.Tryd
set_option maxRecDepth 100000
set_option linter.unusedVariables false
noncomputable def m_math_bits_RotateLeft64 : Mach prog Inv gInv := mach bas [(69, f69)] ⟨ok69, trivial⟩ [] trivial [] trivial [] trivial
/-! ### math/bits.RotateLeft64 -/
@[reducible] def r_math_bits_RotateLeft64 : List Ty := [(.int .u64)]
def ks_math_bits_RotateLeft64 : List Nat := [69]
noncomputable def b_math_bits_RotateLeft64 (a0 : Int) (a1 : Int) : Option (Int × Unit) :=
 let n2 : Int := (Go.IntKind.wrap Go.IntKind.u64 a1)
 let n3 : Int := (bits Go.BinOp.and Go.IntKind.u64 n2 (63 : Int))
 bif (decide ((0 : Int) ≤ n3)) then
  let n4 : Int := (Go.IntKind.wrap Go.IntKind.u64 (a0 * ((2 : Int) ^ (Min.min (Int.toNat n3) 64))))
  let n5 : Int := (Go.IntKind.wrap Go.IntKind.u64 ((64 : Int) - n3))
  bif (decide ((0 : Int) ≤ n5)) then
   let n6 : Int := (Int.fdiv a0 ((2 : Int) ^ (Min.min (Int.toNat n5) 64)))
   let n7 : Int := (bits Go.BinOp.or Go.IntKind.u64 n4 n6)
   some (n7, ())
  else none
 else none
theorem ex_math_bits_RotateLeft64 : ∃ f, f = @b_math_bits_RotateLeft64 := ⟨_, rfl⟩
noncomputable def math_bits_RotateLeft64 := Classical.choose ex_math_bits_RotateLeft64
theorem math_bits_RotateLeft64_eq : @math_bits_RotateLeft64 = @b_math_bits_RotateLeft64 := Classical.choose_spec ex_math_bits_RotateLeft64
noncomputable def cb_math_bits_RotateLeft64 : Con := ⟨[(.int .u64), (.int .i64)], r_math_bits_RotateLeft64, fun x => b_math_bits_RotateLeft64 x.1 x.2.1⟩
noncomputable def c_math_bits_RotateLeft64 : Con := ⟨[(.int .u64), (.int .i64)], r_math_bits_RotateLeft64, fun x => math_bits_RotateLeft64 x.1 x.2.1⟩
theorem cb_math_bits_RotateLeft64_ok : cb_math_bits_RotateLeft64.Sound prog Inv gInv 69 :=
 con_run (M := m_math_bits_RotateLeft64) inv_g (f := f69) rfl ks_math_bits_RotateLeft64 100000 (X := nowhere) (fun base S0 cs0 hn hf => OSound.nowhere) (by intro x; kernel_rfl)
theorem c_math_bits_RotateLeft64_ok : c_math_bits_RotateLeft64.Sound prog Inv gInv 69 := by
 have e : c_math_bits_RotateLeft64 = cb_math_bits_RotateLeft64 := by unfold c_math_bits_RotateLeft64 cb_math_bits_RotateLeft64; rw [math_bits_RotateLeft64_eq]
 rw [e]; exact cb_math_bits_RotateLeft64_ok
noncomputable def m_varint_split : Mach prog Inv gInv := mach bas [(57, f57)] ⟨ok57, trivial⟩ [(69, c_math_bits_RotateLeft64)] ⟨⟨c_math_bits_RotateLeft64_ok, FnOk.callable ok69⟩, trivial⟩ [] trivial [] trivial
/-! ### domino/varint.split -/
@[reducible] def r_varint_split : List Ty := [T_8_uint8]
def ks_varint_split : List Nat := [57]
noncomputable def b_varint_split (a0 : Int) : Option (D_8_uint8 × Unit) :=
 obind (math_bits_RotateLeft64 a0 (8 : Int)) fun y1 =>
 let n2 : Int := (Go.IntKind.wrap Go.IntKind.u8 y1.1)
 obind (math_bits_RotateLeft64 a0 (16 : Int)) fun y3 =>
 let n4 : Int := (Go.IntKind.wrap Go.IntKind.u8 y3.1)
 obind (math_bits_RotateLeft64 a0 (24 : Int)) fun y5 =>
 let n6 : Int := (Go.IntKind.wrap Go.IntKind.u8 y5.1)
 obind (math_bits_RotateLeft64 a0 (32 : Int)) fun y7 =>
 let n8 : Int := (Go.IntKind.wrap Go.IntKind.u8 y7.1)
 obind (math_bits_RotateLeft64 a0 (40 : Int)) fun y9 =>
 let n10 : Int := (Go.IntKind.wrap Go.IntKind.u8 y9.1)
 obind (math_bits_RotateLeft64 a0 (48 : Int)) fun y11 =>
 let n12 : Int := (Go.IntKind.wrap Go.IntKind.u8 y11.1)
 obind (math_bits_RotateLeft64 a0 (56 : Int)) fun y13 =>
 let n14 : Int := (Go.IntKind.wrap Go.IntKind.u8 y13.1)
 obind (math_bits_RotateLeft64 a0 (64 : Int)) fun y15 =>
 let n16 : Int := (Go.IntKind.wrap Go.IntKind.u8 y15.1)
 some ((n2, (n4, (n6, (n8, (n10, (n12, (n14, (n16, ())))))))), ())
theorem ex_varint_split : ∃ f, f = @b_varint_split := ⟨_, rfl⟩
noncomputable def varint_split := Classical.choose ex_varint_split
theorem varint_split_eq : @varint_split = @b_varint_split := Classical.choose_spec ex_varint_split
noncomputable def cb_varint_split : Con := ⟨[(.int .u64)], r_varint_split, fun x => b_varint_split x.1⟩
noncomputable def c_varint_split : Con := ⟨[(.int .u64)], r_varint_split, fun x => varint_split x.1⟩
theorem cb_varint_split_ok : cb_varint_split.Sound prog Inv gInv 57 :=
 con_run (M := m_varint_split) inv_g (f := f57) rfl ks_varint_split 100000 (X := nowhere) (fun base S0 cs0 hn hf => OSound.nowhere) (by intro x; kernel_rfl)
theorem c_varint_split_ok : c_varint_split.Sound prog Inv gInv 57 := by
 have e : c_varint_split = cb_varint_split := by unfold c_varint_split cb_varint_split; rw [varint_split_eq]
 rw [e]; exact cb_varint_split_ok
noncomputable def m_math_bits_Len64 : Mach prog Inv gInv := mach bas [(78, f78)] ⟨ok78, trivial⟩ [] trivial [] trivial [] trivial
/-! ### math/bits.Len64 -/
@[reducible] def r_math_bits_Len64 : List Ty := [(.int .i64)]
def ks_math_bits_Len64 : List Nat := [78]
abbrev H_math_bits_Len64 (base : Base) (S0 : Nat → Prop) := base.n = 0 ∧ FinOk (finR r_math_bits_Len64) base S0 (Post r_math_bits_Len64 S0)
abbrev J_math_bits_Len64 (base : Base) (S0 : Nat → Prop) (cs0 : List Go.Frame) (p : CPat) (J : denC p → Option (denL r_math_bits_Len64)) := JSound m_math_bits_Len64 base S0 cs0 (Post r_math_bits_Len64 S0) p J
abbrev O_math_bits_Len64 (base : Base) (S0 : Nat → Prop) (cs0 : List Go.Frame) (X : Cfg → Option (Option (denL r_math_bits_Len64))) := OSound m_math_bits_Len64 base S0 cs0 (Post r_math_bits_Len64 S0) X
@[reducible] noncomputable def p_math_bits_Len64_1 : CPat := ⟨⟨78, [1, 1, 1], none, [.int .u64, .any, .int .i64], 22⟩, [], [], 0⟩
@[reducible] noncomputable def u_math_bits_Len64_1 (k : Int → Int → Option (Int × Unit)) : denC p_math_bits_Len64_1 → Option (Int × Unit) := fun x => k x.1.1 x.1.2.2.1
noncomputable def b_math_bits_Len64_1 (i10 : Int) (i11 : Int) : Option (Int × Unit) :=
 let b12 : Bool := (decide (i10 ≥ (256 : Int)))
 bif b12 then
  let n13 : Int := (Int.fdiv i10 (256 : Int))
  let n14 : Int := (Go.IntKind.wrap Go.IntKind.i64 (i11 + (8 : Int)))
  let n23 : Int := (Go.IntKind.wrap Go.IntKind.u8 n13)
  bif (decide (((0 : Int) ≤ n23) ∧ (n23 < (256 : Int)))) then
   let n24 : Int := (byteAt (ByteArray.mk (List.toArray (List.append (List.append ((0 : UInt8) :: ((1 : UInt8) :: ((2 : UInt8) :: ((2 : UInt8) :: ((3 : UInt8) :: ((3 : UInt8) :: ((3 : UInt8) :: ((3 : UInt8) :: ((4 : UInt8) :: ((4 : UInt8) :: ((4 : UInt8) :: ((4 : UInt8) :: ((4 : UInt8) :: ((4 : UInt8) :: ((4 : UInt8) :: ((4 : UInt8) :: ((5 : UInt8) :: ((5 : UInt8) :: ((5 : UInt8) :: ((5 : UInt8) :: ((5 : UInt8) :: ((5 : UInt8) :: ((5 : UInt8) :: ((5 : UInt8) :: ((5 : UInt8) :: ((5 : UInt8) :: ((5 : UInt8) :: ((5 : UInt8) :: ((5 : UInt8) :: ((5 : UInt8) :: ((5 : UInt8) :: ((5 : UInt8) :: ((6 : UInt8) :: ((6 : UInt8) :: ((6 : UInt8) :: ((6 : UInt8) :: ((6 : UInt8) :: ((6 : UInt8) :: ((6 : UInt8) :: ((6 : UInt8) :: ((6 : UInt8) :: ((6 : UInt8) :: ((6 : UInt8) :: ((6 : UInt8) :: ((6 : UInt8) :: ((6 : UInt8) :: ((6 : UInt8) :: ((6 : UInt8) :: ((6 : UInt8) :: ((6 : UInt8) :: ((6 : UInt8) :: ((6 : UInt8) :: ((6 : UInt8) :: ((6 : UInt8) :: ((6 : UInt8) :: ((6 : UInt8) :: ((6 : UInt8) :: ((6 : UInt8) :: ((6 : UInt8) :: ((6 : UInt8) :: ((6 : UInt8) :: ((6 : UInt8) :: ((6 : UInt8) :: ((6 : UInt8) :: ([] : List UInt8))))))))))))))))))))))))))))))))))))))))))))))))))))))))))))))))) ((7 : UInt8) :: ((7 : UInt8) :: ((7 : UInt8) :: ((7 : UInt8) :: ((7 : UInt8) :: ((7 : UInt8) :: ((7 : UInt8) :: ((7 : UInt8) :: ((7 : UInt8) :: ((7 : UInt8) :: ((7 : UInt8) :: ((7 : UInt8) :: ((7 : UInt8) :: ((7 : UInt8) :: ((7 : UInt8) :: ((7 : UInt8) :: ((7 : UInt8) :: ((7 : UInt8) :: ((7 : UInt8) :: ((7 : UInt8) :: ((7 : UInt8) :: ((7 : UInt8) :: ((7 : UInt8) :: ((7 : UInt8) :: ((7 : UInt8) :: ((7 : UInt8) :: ((7 : UInt8) :: ((7 : UInt8) :: ((7 : UInt8) :: ((7 : UInt8) :: ((7 : UInt8) :: ((7 : UInt8) :: ((7 : UInt8) :: ((7 : UInt8) :: ((7 : UInt8) :: ((7 : UInt8) :: ((7 : UInt8) :: ((7 : UInt8) :: ((7 : UInt8) :: ((7 : UInt8) :: ((7 : UInt8) :: ((7 : UInt8) :: ((7 : UInt8) :: ((7 : UInt8) :: ((7 : UInt8) :: ((7 : UInt8) :: ((7 : UInt8) :: ((7 : UInt8) :: ((7 : UInt8) :: ((7 : UInt8) :: ((7 : UInt8) :: ((7 : UInt8) :: ((7 : UInt8) :: ((7 : UInt8) :: ((7 : UInt8) :: ((7 : UInt8) :: ((7 : UInt8) :: ((7 : UInt8) :: ((7 : UInt8) :: ((7 : UInt8) :: ((7 : UInt8) :: ((7 : UInt8) :: ((7 : UInt8) :: ((7 : UInt8) :: ([] : List UInt8)))))))))))))))))))))))))))))))))))))))))))))))))))))))))))))))))) (List.append ((8 : UInt8) :: ((8 : UInt8) :: ((8 : UInt8) :: ((8 : UInt8) :: ((8 : UInt8) :: ((8 : UInt8) :: ((8 : UInt8) :: ((8 : UInt8) :: ((8 : UInt8) :: ((8 : UInt8) :: ((8 : UInt8) :: ((8 : UInt8) :: ((8 : UInt8) :: ((8 : UInt8) :: ((8 : UInt8) :: ((8 : UInt8) :: ((8 : UInt8) :: ((8 : UInt8) :: ((8 : UInt8) :: ((8 : UInt8) :: ((8 : UInt8) :: ((8 : UInt8) :: ((8 : UInt8) :: ((8 : UInt8) :: ((8 : UInt8) :: ((8 : UInt8) :: ((8 : UInt8) :: ((8 : UInt8) :: ((8 : UInt8) :: ((8 : UInt8) :: ((8 : UInt8) :: ((8 : UInt8) :: ((8 : UInt8) :: ((8 : UInt8) :: ((8 : UInt8) :: ((8 : UInt8) :: ((8 : UInt8) :: ((8 : UInt8) :: ((8 : UInt8) :: ((8 : UInt8) :: ((8 : UInt8) :: ((8 : UInt8) :: ((8 : UInt8) :: ((8 : UInt8) :: ((8 : UInt8) :: ((8 : UInt8) :: ((8 : UInt8) :: ((8 : UInt8) :: ((8 : UInt8) :: ((8 : UInt8) :: ((8 : UInt8) :: ((8 : UInt8) :: ((8 : UInt8) :: ((8 : UInt8) :: ((8 : UInt8) :: ((8 : UInt8) :: ((8 : UInt8) :: ((8 : UInt8) :: ((8 : UInt8) :: ((8 : UInt8) :: ((8 : UInt8) :: ((8 : UInt8) :: ((8 : UInt8) :: ((8 : UInt8) :: ([] : List UInt8))))))))))))))))))))))))))))))))))))))))))))))))))))))))))))))))) ((8 : UInt8) :: ((8 : UInt8) :: ((8 : UInt8) :: ((8 : UInt8) :: ((8 : UInt8) :: ((8 : UInt8) :: ((8 : UInt8) :: ((8 : UInt8) :: ((8 : UInt8) :: ((8 : UInt8) :: ((8 : UInt8) :: ((8 : UInt8) :: ((8 : UInt8) :: ((8 : UInt8) :: ((8 : UInt8) :: ((8 : UInt8) :: ((8 : UInt8) :: ((8 : UInt8) :: ((8 : UInt8) :: ((8 : UInt8) :: ((8 : UInt8) :: ((8 : UInt8) :: ((8 : UInt8) :: ((8 : UInt8) :: ((8 : UInt8) :: ((8 : UInt8) :: ((8 : UInt8) :: ((8 : UInt8) :: ((8 : UInt8) :: ((8 : UInt8) :: ((8 : UInt8) :: ((8 : UInt8) :: ((8 : UInt8) :: ((8 : UInt8) :: ((8 : UInt8) :: ((8 : UInt8) :: ((8 : UInt8) :: ((8 : UInt8) :: ((8 : UInt8) :: ((8 : UInt8) :: ((8 : UInt8) :: ((8 : UInt8) :: ((8 : UInt8) :: ((8 : UInt8) :: ((8 : UInt8) :: ((8 : UInt8) :: ((8 : UInt8) :: ((8 : UInt8) :: ((8 : UInt8) :: ((8 : UInt8) :: ((8 : UInt8) :: ((8 : UInt8) :: ((8 : UInt8) :: ((8 : UInt8) :: ((8 : UInt8) :: ((8 : UInt8) :: ((8 : UInt8) :: ((8 : UInt8) :: ((8 : UInt8) :: ((8 : UInt8) :: ((8 : UInt8) :: ((8 : UInt8) :: ((8 : UInt8) :: ((8 : UInt8) :: ([] : List UInt8))))))))))))))))))))))))))))))))))))))))))))))))))))))))))))))))))))) n23)
   let n25 : Int := (Go.IntKind.wrap Go.IntKind.i64 n24)
   let n26 : Int := (Go.IntKind.wrap Go.IntKind.i64 (n14 + n25))
   some (n26, ())
  else none
 else
  let n19 : Int := (Go.IntKind.wrap Go.IntKind.u8 i10)
  bif (decide (((0 : Int) ≤ n19) ∧ (n19 < (256 : Int)))) then
   let n20 : Int := (byteAt (ByteArray.mk (List.toArray (List.append (List.append ((0 : UInt8) :: ((1 : UInt8) :: ((2 : UInt8) :: ((2 : UInt8) :: ((3 : UInt8) :: ((3 : UInt8) :: ((3 : UInt8) :: ((3 : UInt8) :: ((4 : UInt8) :: ((4 : UInt8) :: ((4 : UInt8) :: ((4 : UInt8) :: ((4 : UInt8) :: ((4 : UInt8) :: ((4 : UInt8) :: ((4 : UInt8) :: ((5 : UInt8) :: ((5 : UInt8) :: ((5 : UInt8) :: ((5 : UInt8) :: ((5 : UInt8) :: ((5 : UInt8) :: ((5 : UInt8) :: ((5 : UInt8) :: ((5 : UInt8) :: ((5 : UInt8) :: ((5 : UInt8) :: ((5 : UInt8) :: ((5 : UInt8) :: ((5 : UInt8) :: ((5 : UInt8) :: ((5 : UInt8) :: ((6 : UInt8) :: ((6 : UInt8) :: ((6 : UInt8) :: ((6 : UInt8) :: ((6 : UInt8) :: ((6 : UInt8) :: ((6 : UInt8) :: ((6 : UInt8) :: ((6 : UInt8) :: ((6 : UInt8) :: ((6 : UInt8) :: ((6 : UInt8) :: ((6 : UInt8) :: ((6 : UInt8) :: ((6 : UInt8) :: ((6 : UInt8) :: ((6 : UInt8) :: ((6 : UInt8) :: ((6 : UInt8) :: ((6 : UInt8) :: ((6 : UInt8) :: ((6 : UInt8) :: ((6 : UInt8) :: ((6 : UInt8) :: ((6 : UInt8) :: ((6 : UInt8) :: ((6 : UInt8) :: ((6 : UInt8) :: ((6 : UInt8) :: ((6 : UInt8) :: ((6 : UInt8) :: ((6 : UInt8) :: ([] : List UInt8))))))))))))))))))))))))))))))))))))))))))))))))))))))))))))))))) ((7 : UInt8) :: ((7 : UInt8) :: ((7 : UInt8) :: ((7 : UInt8) :: ((7 : UInt8) :: ((7 : UInt8) :: ((7 : UInt8) :: ((7 : UInt8) :: ((7 : UInt8) :: ((7 : UInt8) :: ((7 : UInt8) :: ((7 : UInt8) :: ((7 : UInt8) :: ((7 : UInt8) :: ((7 : UInt8) :: ((7 : UInt8) :: ((7 : UInt8) :: ((7 : UInt8) :: ((7 : UInt8) :: ((7 : UInt8) :: ((7 : UInt8) :: ((7 : UInt8) :: ((7 : UInt8) :: ((7 : UInt8) :: ((7 : UInt8) :: ((7 : UInt8) :: ((7 : UInt8) :: ((7 : UInt8) :: ((7 : UInt8) :: ((7 : UInt8) :: ((7 : UInt8) :: ((7 : UInt8) :: ((7 : UInt8) :: ((7 : UInt8) :: ((7 : UInt8) :: ((7 : UInt8) :: ((7 : UInt8) :: ((7 : UInt8) :: ((7 : UInt8) :: ((7 : UInt8) :: ((7 : UInt8) :: ((7 : UInt8) :: ((7 : UInt8) :: ((7 : UInt8) :: ((7 : UInt8) :: ((7 : UInt8) :: ((7 : UInt8) :: ((7 : UInt8) :: ((7 : UInt8) :: ((7 : UInt8) :: ((7 : UInt8) :: ((7 : UInt8) :: ((7 : UInt8) :: ((7 : UInt8) :: ((7 : UInt8) :: ((7 : UInt8) :: ((7 : UInt8) :: ((7 : UInt8) :: ((7 : UInt8) :: ((7 : UInt8) :: ((7 : UInt8) :: ((7 : UInt8) :: ((7 : UInt8) :: ((7 : UInt8) :: ([] : List UInt8)))))))))))))))))))))))))))))))))))))))))))))))))))))))))))))))))) (List.append ((8 : UInt8) :: ((8 : UInt8) :: ((8 : UInt8) :: ((8 : UInt8) :: ((8 : UInt8) :: ((8 : UInt8) :: ((8 : UInt8) :: ((8 : UInt8) :: ((8 : UInt8) :: ((8 : UInt8) :: ((8 : UInt8) :: ((8 : UInt8) :: ((8 : UInt8) :: ((8 : UInt8) :: ((8 : UInt8) :: ((8 : UInt8) :: ((8 : UInt8) :: ((8 : UInt8) :: ((8 : UInt8) :: ((8 : UInt8) :: ((8 : UInt8) :: ((8 : UInt8) :: ((8 : UInt8) :: ((8 : UInt8) :: ((8 : UInt8) :: ((8 : UInt8) :: ((8 : UInt8) :: ((8 : UInt8) :: ((8 : UInt8) :: ((8 : UInt8) :: ((8 : UInt8) :: ((8 : UInt8) :: ((8 : UInt8) :: ((8 : UInt8) :: ((8 : UInt8) :: ((8 : UInt8) :: ((8 : UInt8) :: ((8 : UInt8) :: ((8 : UInt8) :: ((8 : UInt8) :: ((8 : UInt8) :: ((8 : UInt8) :: ((8 : UInt8) :: ((8 : UInt8) :: ((8 : UInt8) :: ((8 : UInt8) :: ((8 : UInt8) :: ((8 : UInt8) :: ((8 : UInt8) :: ((8 : UInt8) :: ((8 : UInt8) :: ((8 : UInt8) :: ((8 : UInt8) :: ((8 : UInt8) :: ((8 : UInt8) :: ((8 : UInt8) :: ((8 : UInt8) :: ((8 : UInt8) :: ((8 : UInt8) :: ((8 : UInt8) :: ((8 : UInt8) :: ((8 : UInt8) :: ((8 : UInt8) :: ((8 : UInt8) :: ([] : List UInt8))))))))))))))))))))))))))))))))))))))))))))))))))))))))))))))))) ((8 : UInt8) :: ((8 : UInt8) :: ((8 : UInt8) :: ((8 : UInt8) :: ((8 : UInt8) :: ((8 : UInt8) :: ((8 : UInt8) :: ((8 : UInt8) :: ((8 : UInt8) :: ((8 : UInt8) :: ((8 : UInt8) :: ((8 : UInt8) :: ((8 : UInt8) :: ((8 : UInt8) :: ((8 : UInt8) :: ((8 : UInt8) :: ((8 : UInt8) :: ((8 : UInt8) :: ((8 : UInt8) :: ((8 : UInt8) :: ((8 : UInt8) :: ((8 : UInt8) :: ((8 : UInt8) :: ((8 : UInt8) :: ((8 : UInt8) :: ((8 : UInt8) :: ((8 : UInt8) :: ((8 : UInt8) :: ((8 : UInt8) :: ((8 : UInt8) :: ((8 : UInt8) :: ((8 : UInt8) :: ((8 : UInt8) :: ((8 : UInt8) :: ((8 : UInt8) :: ((8 : UInt8) :: ((8 : UInt8) :: ((8 : UInt8) :: ((8 : UInt8) :: ((8 : UInt8) :: ((8 : UInt8) :: ((8 : UInt8) :: ((8 : UInt8) :: ((8 : UInt8) :: ((8 : UInt8) :: ((8 : UInt8) :: ((8 : UInt8) :: ((8 : UInt8) :: ((8 : UInt8) :: ((8 : UInt8) :: ((8 : UInt8) :: ((8 : UInt8) :: ((8 : UInt8) :: ((8 : UInt8) :: ((8 : UInt8) :: ((8 : UInt8) :: ((8 : UInt8) :: ((8 : UInt8) :: ((8 : UInt8) :: ((8 : UInt8) :: ((8 : UInt8) :: ((8 : UInt8) :: ((8 : UInt8) :: ((8 : UInt8) :: ([] : List UInt8))))))))))))))))))))))))))))))))))))))))))))))))))))))))))))))))))))) n19)
   let n21 : Int := (Go.IntKind.wrap Go.IntKind.i64 n20)
   let n22 : Int := (Go.IntKind.wrap Go.IntKind.i64 (i11 + n21))
   some (n22, ())
  else none
theorem ex_math_bits_Len64_1 : ∃ f, f = @b_math_bits_Len64_1 := ⟨_, rfl⟩
noncomputable def math_bits_Len64_1 := Classical.choose ex_math_bits_Len64_1
theorem math_bits_Len64_1_eq : @math_bits_Len64_1 = @b_math_bits_Len64_1 := Classical.choose_spec ex_math_bits_Len64_1
theorem s_math_bits_Len64_1 {base S0 cs0} (hfin : H_math_bits_Len64 base S0) : J_math_bits_Len64 base S0 cs0 p_math_bits_Len64_1 (u_math_bits_Len64_1 (math_bits_Len64_1)) :=
 JSound.join hfin.2 (OSound.nowhere) ks_math_bits_Len64 100000 (by rw [math_bits_Len64_1_eq]; intro x; kernel_rfl)
noncomputable def x_math_bits_Len64_1 : Cfg → Option (Option (Int × Unit)) := cut p_math_bits_Len64_1 (u_math_bits_Len64_1 (math_bits_Len64_1)) (nowhere)
theorem o_math_bits_Len64_1 {base S0 cs0} (hfin : H_math_bits_Len64 base S0) : O_math_bits_Len64 base S0 cs0 (x_math_bits_Len64_1) := OSound.cut (OSound.nowhere) (Nat.le_of_eq hfin.1) (s_math_bits_Len64_1 hfin)
@[reducible] noncomputable def p_math_bits_Len64_0 : CPat := ⟨⟨78, [1, 1], none, [.int .u64, .any, .int .i64], 22⟩, [], [], 0⟩
@[reducible] noncomputable def u_math_bits_Len64_0 (k : Int → Int → Option (Int × Unit)) : denC p_math_bits_Len64_0 → Option (Int × Unit) := fun x => k x.1.1 x.1.2.2.1
noncomputable def b_math_bits_Len64_0 (i4 : Int) (i5 : Int) : Option (Int × Unit) :=
 let b6 : Bool := (decide (i4 ≥ (65536 : Int)))
 bif b6 then
  let n7 : Int := (Int.fdiv i4 (65536 : Int))
  let n8 : Int := (Go.IntKind.wrap Go.IntKind.i64 (i5 + (16 : Int)))
  math_bits_Len64_1 n7 n8
 else
  math_bits_Len64_1 i4 i5
theorem ex_math_bits_Len64_0 : ∃ f, f = @b_math_bits_Len64_0 := ⟨_, rfl⟩
noncomputable def math_bits_Len64_0 := Classical.choose ex_math_bits_Len64_0
theorem math_bits_Len64_0_eq : @math_bits_Len64_0 = @b_math_bits_Len64_0 := Classical.choose_spec ex_math_bits_Len64_0
theorem s_math_bits_Len64_0 {base S0 cs0} (hfin : H_math_bits_Len64 base S0) : J_math_bits_Len64 base S0 cs0 p_math_bits_Len64_0 (u_math_bits_Len64_0 (math_bits_Len64_0)) :=
 JSound.join hfin.2 (o_math_bits_Len64_1 hfin) ks_math_bits_Len64 100000 (by rw [math_bits_Len64_0_eq]; intro x; kernel_rfl)
noncomputable def x_math_bits_Len64_0 : Cfg → Option (Option (Int × Unit)) := cut p_math_bits_Len64_0 (u_math_bits_Len64_0 (math_bits_Len64_0)) (x_math_bits_Len64_1)
theorem o_math_bits_Len64_0 {base S0 cs0} (hfin : H_math_bits_Len64 base S0) : O_math_bits_Len64 base S0 cs0 (x_math_bits_Len64_0) := OSound.cut (o_math_bits_Len64_1 hfin) (Nat.le_of_eq hfin.1) (s_math_bits_Len64_0 hfin)
noncomputable def b_math_bits_Len64 (a0 : Int) : Option (Int × Unit) :=
 let b1 : Bool := (decide (a0 ≥ (4294967296 : Int)))
 bif b1 then
  let n2 : Int := (Int.fdiv a0 (4294967296 : Int))
  math_bits_Len64_0 n2 (32 : Int)
 else
  math_bits_Len64_0 a0 (0 : Int)
theorem ex_math_bits_Len64 : ∃ f, f = @b_math_bits_Len64 := ⟨_, rfl⟩
noncomputable def math_bits_Len64 := Classical.choose ex_math_bits_Len64
theorem math_bits_Len64_eq : @math_bits_Len64 = @b_math_bits_Len64 := Classical.choose_spec ex_math_bits_Len64
noncomputable def cb_math_bits_Len64 : Con := ⟨[(.int .u64)], r_math_bits_Len64, fun x => b_math_bits_Len64 x.1⟩
noncomputable def c_math_bits_Len64 : Con := ⟨[(.int .u64)], r_math_bits_Len64, fun x => math_bits_Len64 x.1⟩
theorem cb_math_bits_Len64_ok : cb_math_bits_Len64.Sound prog Inv gInv 78 :=
 con_run (M := m_math_bits_Len64) inv_g (f := f78) rfl ks_math_bits_Len64 100000 (X := x_math_bits_Len64_0) (fun base S0 cs0 hn hf => have hfin : H_math_bits_Len64 base S0 := ⟨hn, hf⟩; o_math_bits_Len64_0 hfin) (by intro x; kernel_rfl)
theorem c_math_bits_Len64_ok : c_math_bits_Len64.Sound prog Inv gInv 78 := by
 have e : c_math_bits_Len64 = cb_math_bits_Len64 := by unfold c_math_bits_Len64 cb_math_bits_Len64; rw [math_bits_Len64_eq]
 rw [e]; exact cb_math_bits_Len64_ok
noncomputable def m_varint_Size : Mach prog Inv gInv := mach bas [(76, f76)] ⟨ok76, trivial⟩ [(78, c_math_bits_Len64)] ⟨⟨c_math_bits_Len64_ok, FnOk.callable ok78⟩, trivial⟩ [] trivial [] trivial
/-! ### domino/varint.Size -/
@[reducible] def r_varint_Size : List Ty := [(.int .i64)]
def ks_varint_Size : List Nat := [76]
noncomputable def b_varint_Size (a0 : Int) : Option (Int × Unit) :=
 obind (math_bits_Len64 a0) fun y1 =>
 let b2 : Bool := (decide (y1.1 ≤ (6 : Int)))
 bif b2 then
  some ((1 : Int), ())
 else
  obind (math_bits_Len64 a0) fun y3 =>
  let b4 : Bool := (decide (y3.1 ≤ (14 : Int)))
  bif b4 then
   some ((2 : Int), ())
  else
   obind (math_bits_Len64 a0) fun y5 =>
   let b6 : Bool := (decide (y5.1 ≤ (30 : Int)))
   bif b6 then
    some ((4 : Int), ())
   else
    obind (math_bits_Len64 a0) fun y7 =>
    let b8 : Bool := (decide (y7.1 ≤ (62 : Int)))
    bif b8 then
     some ((8 : Int), ())
    else
     some ((0 : Int), ())
theorem ex_varint_Size : ∃ f, f = @b_varint_Size := ⟨_, rfl⟩
noncomputable def varint_Size := Classical.choose ex_varint_Size
theorem varint_Size_eq : @varint_Size = @b_varint_Size := Classical.choose_spec ex_varint_Size
noncomputable def cb_varint_Size : Con := ⟨[(.int .u64)], r_varint_Size, fun x => b_varint_Size x.1⟩
noncomputable def c_varint_Size : Con := ⟨[(.int .u64)], r_varint_Size, fun x => varint_Size x.1⟩
theorem cb_varint_Size_ok : cb_varint_Size.Sound prog Inv gInv 76 :=
 con_run (M := m_varint_Size) inv_g (f := f76) rfl ks_varint_Size 100000 (X := nowhere) (fun base S0 cs0 hn hf => OSound.nowhere) (by intro x; kernel_rfl)
theorem c_varint_Size_ok : c_varint_Size.Sound prog Inv gInv 76 := by
 have e : c_varint_Size = cb_varint_Size := by unfold c_varint_Size cb_varint_Size; rw [varint_Size_eq]
 rw [e]; exact cb_varint_Size_ok
noncomputable def m_math_bits_TrailingZeros32 : Mach prog Inv gInv := mach bas [(79, f79)] ⟨ok79, trivial⟩ [] trivial [] trivial [] trivial
/-! ### math/bits.TrailingZeros32 -/
@[reducible] def r_math_bits_TrailingZeros32 : List Ty := [(.int .i64)]
def ks_math_bits_TrailingZeros32 : List Nat := [79]
noncomputable def b_math_bits_TrailingZeros32 (a0 : Int) : Option (Int × Unit) :=
 let b1 : Bool := (a0 == (0 : Int))
 bif b1 then
  some ((32 : Int), ())
 else
  let n2 : Int := (Go.IntKind.wrap Go.IntKind.u32 ((0 : Int) - a0))
  let n3 : Int := (bits Go.BinOp.and Go.IntKind.u32 a0 n2)
  let n4 : Int := (Go.IntKind.wrap Go.IntKind.u32 (n3 * (125613361 : Int)))
  let n5 : Int := (Int.fdiv n4 (134217728 : Int))
  bif (decide (((0 : Int) ≤ n5) ∧ (n5 < (32 : Int)))) then
   let x6 : Int := (List.getD ((0 : Int) :: ((1 : Int) :: ((28 : Int) :: ((2 : Int) :: ((29 : Int) :: ((14 : Int) :: ((24 : Int) :: ((3 : Int) :: ((30 : Int) :: ((22 : Int) :: ((20 : Int) :: ((15 : Int) :: ((25 : Int) :: ((17 : Int) :: ((4 : Int) :: ((8 : Int) :: ((31 : Int) :: ((27 : Int) :: ((13 : Int) :: ((23 : Int) :: ((21 : Int) :: ((19 : Int) :: ((16 : Int) :: ((7 : Int) :: ((26 : Int) :: ((12 : Int) :: ((18 : Int) :: ((6 : Int) :: ((11 : Int) :: ((5 : Int) :: ((10 : Int) :: ((9 : Int) :: ([] : List Int))))))))))))))))))))))))))))))))) (Int.toNat n5) (0 : Int))
   let n7 : Int := (Go.IntKind.wrap Go.IntKind.i64 x6)
   some (n7, ())
  else none
theorem ex_math_bits_TrailingZeros32 : ∃ f, f = @b_math_bits_TrailingZeros32 := ⟨_, rfl⟩
noncomputable def math_bits_TrailingZeros32 := Classical.choose ex_math_bits_TrailingZeros32
theorem math_bits_TrailingZeros32_eq : @math_bits_TrailingZeros32 = @b_math_bits_TrailingZeros32 := Classical.choose_spec ex_math_bits_TrailingZeros32
noncomputable def cb_math_bits_TrailingZeros32 : Con := ⟨[(.int .u32)], r_math_bits_TrailingZeros32, fun x => b_math_bits_TrailingZeros32 x.1⟩
noncomputable def c_math_bits_TrailingZeros32 : Con := ⟨[(.int .u32)], r_math_bits_TrailingZeros32, fun x => math_bits_TrailingZeros32 x.1⟩
theorem cb_math_bits_TrailingZeros32_ok : cb_math_bits_TrailingZeros32.Sound prog Inv gInv 79 :=
 con_run (M := m_math_bits_TrailingZeros32) inv_g (f := f79) rfl ks_math_bits_TrailingZeros32 100000 (X := nowhere) (fun base S0 cs0 hn hf => OSound.nowhere) (by intro x; kernel_rfl)
theorem c_math_bits_TrailingZeros32_ok : c_math_bits_TrailingZeros32.Sound prog Inv gInv 79 := by
 have e : c_math_bits_TrailingZeros32 = cb_math_bits_TrailingZeros32 := by unfold c_math_bits_TrailingZeros32 cb_math_bits_TrailingZeros32; rw [math_bits_TrailingZeros32_eq]
 rw [e]; exact cb_math_bits_TrailingZeros32_ok
noncomputable def m_math_bits_TrailingZeros64 : Mach prog Inv gInv := mach bas [(80, f80)] ⟨ok80, trivial⟩ [] trivial [] trivial [] trivial
/-! ### math/bits.TrailingZeros64 -/
@[reducible] def r_math_bits_TrailingZeros64 : List Ty := [(.int .i64)]
def ks_math_bits_TrailingZeros64 : List Nat := [80]
noncomputable def b_math_bits_TrailingZeros64 (a0 : Int) : Option (Int × Unit) :=
 let b1 : Bool := (a0 == (0 : Int))
 bif b1 then
  some ((64 : Int), ())
 else
  let n2 : Int := (Go.IntKind.wrap Go.IntKind.u64 ((0 : Int) - a0))
  let n3 : Int := (bits Go.BinOp.and Go.IntKind.u64 a0 n2)
  let n4 : Int := (Go.IntKind.wrap Go.IntKind.u64 (n3 * (285870213051353865 : Int)))
  let n5 : Int := (Int.fdiv n4 (288230376151711744 : Int))
  bif (decide (((0 : Int) ≤ n5) ∧ (n5 < (64 : Int)))) then
   let x6 : Int := (List.getD ((0 : Int) :: ((1 : Int) :: ((56 : Int) :: ((2 : Int) :: ((57 : Int) :: ((49 : Int) :: ((28 : Int) :: ((3 : Int) :: ((61 : Int) :: ((58 : Int) :: ((42 : Int) :: ((50 : Int) :: ((38 : Int) :: ((29 : Int) :: ((17 : Int) :: ((4 : Int) :: ((62 : Int) :: ((47 : Int) :: ((59 : Int) :: ((36 : Int) :: ((45 : Int) :: ((43 : Int) :: ((51 : Int) :: ((22 : Int) :: ((53 : Int) :: ((39 : Int) :: ((33 : Int) :: ((30 : Int) :: ((24 : Int) :: ((18 : Int) :: ((12 : Int) :: ((5 : Int) :: ((63 : Int) :: ((55 : Int) :: ((48 : Int) :: ((27 : Int) :: ((60 : Int) :: ((41 : Int) :: ((37 : Int) :: ((16 : Int) :: ((46 : Int) :: ((35 : Int) :: ((44 : Int) :: ((21 : Int) :: ((52 : Int) :: ((32 : Int) :: ((23 : Int) :: ((11 : Int) :: ((54 : Int) :: ((26 : Int) :: ((40 : Int) :: ((15 : Int) :: ((34 : Int) :: ((20 : Int) :: ((31 : Int) :: ((10 : Int) :: ((25 : Int) :: ((14 : Int) :: ((19 : Int) :: ((9 : Int) :: ((13 : Int) :: ((8 : Int) :: ((7 : Int) :: ((6 : Int) :: ([] : List Int))))))))))))))))))))))))))))))))))))))))))))))))))))))))))))))))) (Int.toNat n5) (0 : Int))
   let n7 : Int := (Go.IntKind.wrap Go.IntKind.i64 x6)
   some (n7, ())
  else none
theorem ex_math_bits_TrailingZeros64 : ∃ f, f = @b_math_bits_TrailingZeros64 := ⟨_, rfl⟩
noncomputable def math_bits_TrailingZeros64 := Classical.choose ex_math_bits_TrailingZeros64
theorem math_bits_TrailingZeros64_eq : @math_bits_TrailingZeros64 = @b_math_bits_TrailingZeros64 := Classical.choose_spec ex_math_bits_TrailingZeros64
noncomputable def cb_math_bits_TrailingZeros64 : Con := ⟨[(.int .u64)], r_math_bits_TrailingZeros64, fun x => b_math_bits_TrailingZeros64 x.1⟩
noncomputable def c_math_bits_TrailingZeros64 : Con := ⟨[(.int .u64)], r_math_bits_TrailingZeros64, fun x => math_bits_TrailingZeros64 x.1⟩
theorem cb_math_bits_TrailingZeros64_ok : cb_math_bits_TrailingZeros64.Sound prog Inv gInv 80 :=
 con_run (M := m_math_bits_TrailingZeros64) inv_g (f := f80) rfl ks_math_bits_TrailingZeros64 100000 (X := nowhere) (fun base S0 cs0 hn hf => OSound.nowhere) (by intro x; kernel_rfl)
theorem c_math_bits_TrailingZeros64_ok : c_math_bits_TrailingZeros64.Sound prog Inv gInv 80 := by
 have e : c_math_bits_TrailingZeros64 = cb_math_bits_TrailingZeros64 := by unfold c_math_bits_TrailingZeros64 cb_math_bits_TrailingZeros64; rw [math_bits_TrailingZeros64_eq]
 rw [e]; exact cb_math_bits_TrailingZeros64_ok
noncomputable def m_math_bits_TrailingZeros : Mach prog Inv gInv := mach bas [(77, f77)] ⟨ok77, trivial⟩ [(79, c_math_bits_TrailingZeros32), (80, c_math_bits_TrailingZeros64)] ⟨⟨c_math_bits_TrailingZeros32_ok, FnOk.callable ok79⟩, ⟨c_math_bits_TrailingZeros64_ok, FnOk.callable ok80⟩, trivial⟩ [] trivial [] trivial
/-! ### math/bits.TrailingZeros -/
@[reducible] def r_math_bits_TrailingZeros : List Ty := [(.int .i64)]
def ks_math_bits_TrailingZeros : List Nat := [77]
noncomputable def b_math_bits_TrailingZeros (a0 : Int) : Option (Int × Unit) :=
 obind (math_bits_TrailingZeros64 a0) fun y1 =>
 some y1
theorem ex_math_bits_TrailingZeros : ∃ f, f = @b_math_bits_TrailingZeros := ⟨_, rfl⟩
noncomputable def math_bits_TrailingZeros := Classical.choose ex_math_bits_TrailingZeros
theorem math_bits_TrailingZeros_eq : @math_bits_TrailingZeros = @b_math_bits_TrailingZeros := Classical.choose_spec ex_math_bits_TrailingZeros
noncomputable def cb_math_bits_TrailingZeros : Con := ⟨[(.int .u64)], r_math_bits_TrailingZeros, fun x => b_math_bits_TrailingZeros x.1⟩
noncomputable def c_math_bits_TrailingZeros : Con := ⟨[(.int .u64)], r_math_bits_TrailingZeros, fun x => math_bits_TrailingZeros x.1⟩
theorem cb_math_bits_TrailingZeros_ok : cb_math_bits_TrailingZeros.Sound prog Inv gInv 77 :=
 con_run (M := m_math_bits_TrailingZeros) inv_g (f := f77) rfl ks_math_bits_TrailingZeros 100000 (X := nowhere) (fun base S0 cs0 hn hf => OSound.nowhere) (by intro x; kernel_rfl)
theorem c_math_bits_TrailingZeros_ok : c_math_bits_TrailingZeros.Sound prog Inv gInv 77 := by
 have e : c_math_bits_TrailingZeros = cb_math_bits_TrailingZeros := by unfold c_math_bits_TrailingZeros cb_math_bits_TrailingZeros; rw [math_bits_TrailingZeros_eq]
 rw [e]; exact cb_math_bits_TrailingZeros_ok
noncomputable def m_varint_Put : Mach prog Inv gInv := mach bas [(74, f74)] ⟨ok74, trivial⟩ [(57, c_varint_split), (76, c_varint_Size), (77, c_math_bits_TrailingZeros)] ⟨⟨c_varint_split_ok, FnOk.callable ok57⟩, ⟨c_varint_Size_ok, FnOk.callable ok76⟩, ⟨c_math_bits_TrailingZeros_ok, FnOk.callable ok77⟩, trivial⟩ [] trivial [] trivial
/-! ### domino/varint.Put -/
@[reducible] def r_varint_Put : List Ty := [.str, (.int .i64)]
def ks_varint_Put : List Nat := [74]
noncomputable def b_varint_Put (a0 : Int) : Option (ByteArray × Int × Unit) :=
 let s1 : ByteArray := (ByteArray.mk (List.toArray ([] : List UInt8)))
 obind (varint_Size a0) fun y2 =>
 let b3 : Bool := (y2.1 == (0 : Int))
 bif b3 then
  let s4 : ByteArray := (ByteArray.mk (List.toArray ([] : List UInt8)))
  some (s4, ((1 : Int), ()))
 else
  obind (varint_split a0) fun y5 =>
  let n6 : Int := (Go.IntKind.wrap Go.IntKind.i64 ((8 : Int) - y2.1))
  bif (decide (((List.length (y5.1.1 :: (y5.1.2.1 :: (y5.1.2.2.1 :: (y5.1.2.2.2.1 :: (y5.1.2.2.2.2.1 :: (y5.1.2.2.2.2.2.1 :: (y5.1.2.2.2.2.2.2.1 :: (y5.1.2.2.2.2.2.2.2.1 :: ([] : List Int)))))))))) = 8) ∧ (((0 : Int) ≤ n6) ∧ (n6 < (8 : Int))))) then
   let i7 : Nat := (Int.toNat n6)
   let n8 : Int := (List.getD (y5.1.1 :: (y5.1.2.1 :: (y5.1.2.2.1 :: (y5.1.2.2.2.1 :: (y5.1.2.2.2.2.1 :: (y5.1.2.2.2.2.2.1 :: (y5.1.2.2.2.2.2.2.1 :: (y5.1.2.2.2.2.2.2.2.1 :: ([] : List Int))))))))) i7 (0 : Int))
   let n9 : Int := (Go.IntKind.wrap Go.IntKind.u64 y2.1)
   obind (math_bits_TrailingZeros n9) fun y10 =>
   let n11 : Int := (Go.IntKind.wrap Go.IntKind.u8 y10.1)
   let n12 : Int := (Go.IntKind.wrap Go.IntKind.u8 (n11 * (64 : Int)))
   let n13 : Int := (bits Go.BinOp.or Go.IntKind.u8 n8 n12)
   bif (decide (((List.length (y5.1.1 :: (y5.1.2.1 :: (y5.1.2.2.1 :: (y5.1.2.2.2.1 :: (y5.1.2.2.2.2.1 :: (y5.1.2.2.2.2.2.1 :: (y5.1.2.2.2.2.2.2.1 :: (y5.1.2.2.2.2.2.2.2.1 :: ([] : List Int)))))))))) = 8) ∧ (((0 : Int) ≤ n6) ∧ (n6 < (8 : Int))))) then
    let i14 : Nat := (Int.toNat n6)
    let l15 : (List Int) := (List.set (y5.1.1 :: (y5.1.2.1 :: (y5.1.2.2.1 :: (y5.1.2.2.2.1 :: (y5.1.2.2.2.2.1 :: (y5.1.2.2.2.2.2.1 :: (y5.1.2.2.2.2.2.2.1 :: (y5.1.2.2.2.2.2.2.2.1 :: ([] : List Int))))))))) i14 n13)
    bif (decide (((List.length l15) = 8) ∧ (((0 : Int) ≤ n6) ∧ ((n6 ≤ (8 : Int)) ∧ (((8 : Int) ≤ (8 : Int)) ∧ (n6 < (8 : Int))))))) then
     let o16 : Nat := (Int.toNat n6)
     let k17 : Nat := (8 - (Int.toNat n6))
     let s18 : ByteArray := (bytesStr (List.take k17 (List.drop o16 l15)))
     some (s18, ((0 : Int), ()))
    else none
   else none
  else none
theorem ex_varint_Put : ∃ f, f = @b_varint_Put := ⟨_, rfl⟩
noncomputable def varint_Put := Classical.choose ex_varint_Put
theorem varint_Put_eq : @varint_Put = @b_varint_Put := Classical.choose_spec ex_varint_Put
noncomputable def cb_varint_Put : Con := ⟨[(.int .u64)], r_varint_Put, fun x => b_varint_Put x.1⟩
noncomputable def c_varint_Put : Con := ⟨[(.int .u64)], r_varint_Put, fun x => varint_Put x.1⟩
theorem cb_varint_Put_ok : cb_varint_Put.Sound prog Inv gInv 74 :=
 con_run (M := m_varint_Put) inv_g (f := f74) rfl ks_varint_Put 100000 (X := nowhere) (fun base S0 cs0 hn hf => OSound.nowhere) (by intro x; kernel_rfl)
theorem c_varint_Put_ok : c_varint_Put.Sound prog Inv gInv 74 := by
 have e : c_varint_Put = cb_varint_Put := by unfold c_varint_Put cb_varint_Put; rw [varint_Put_eq]
 rw [e]; exact cb_varint_Put_ok
noncomputable def m_strings_Builder_copyCheck_h0 : Mach prog Inv gInv := mach bas [(58, f58)] ⟨ok58, trivial⟩ [] trivial [] trivial [] trivial
@[reducible] noncomputable def pa_strings_Builder_copyCheck_h0 : List Pat := [.ptr 0 1]
@[reducible] noncomputable def pH_strings_Builder_copyCheck_h0 : List HPat := [.cells 100 [.int .u64, .nilPtr, .nilSlice]]
/-! ### (*strings.Builder).copyCheck -/
abbrev R_strings_Builder_copyCheck_h0 : Type := Int × Unit
@[reducible] noncomputable def qa_strings_Builder_copyCheck_h0 : List Pat := []
@[reducible] noncomputable def qH_strings_Builder_copyCheck_h0 : List HPat := [.cells 100 [.int .u64, .ptr 0 1, .nilSlice]]
def ks_strings_Builder_copyCheck_h0 : List Nat := [58]
noncomputable def b_strings_Builder_copyCheck_h0 (i0 : Int) : Option R_strings_Builder_copyCheck_h0 :=
 some (i0, ())
theorem ex_strings_Builder_copyCheck_h0 : ∃ f, f = @b_strings_Builder_copyCheck_h0 := ⟨_, rfl⟩
noncomputable def strings_Builder_copyCheck_h0 := Classical.choose ex_strings_Builder_copyCheck_h0
theorem strings_Builder_copyCheck_h0_eq : @strings_Builder_copyCheck_h0 = @b_strings_Builder_copyCheck_h0 := Classical.choose_spec ex_strings_Builder_copyCheck_h0
noncomputable def hb_strings_Builder_copyCheck_h0 : HCon := HCon.mk0 pa_strings_Builder_copyCheck_h0 pH_strings_Builder_copyCheck_h0 qa_strings_Builder_copyCheck_h0 qH_strings_Builder_copyCheck_h0 R_strings_Builder_copyCheck_h0 (fun x => b_strings_Builder_copyCheck_h0 x.2.1.1) (fun r => ((), ((r.1, ((), ((), ()))), ()))) (fun y => (y.2.1.1, ())) (fun _ => rfl)
noncomputable def h_strings_Builder_copyCheck_h0 : HCon := HCon.mk0 pa_strings_Builder_copyCheck_h0 pH_strings_Builder_copyCheck_h0 qa_strings_Builder_copyCheck_h0 qH_strings_Builder_copyCheck_h0 R_strings_Builder_copyCheck_h0 (fun x => strings_Builder_copyCheck_h0 x.2.1.1) (fun r => ((), ((r.1, ((), ((), ()))), ()))) (fun y => (y.2.1.1, ())) (fun _ => rfl)
theorem hb_strings_Builder_copyCheck_h0_ok : hb_strings_Builder_copyCheck_h0.Sound prog Inv gInv 58 :=
 hcon_run (M := m_strings_Builder_copyCheck_h0) (f := f58) rfl ks_strings_Builder_copyCheck_h0 100000 (X := nowhere) (fun base S0 cs0 hn hf => OSound.nowhere) (by intro x; kernel_rfl)
theorem h_strings_Builder_copyCheck_h0_ok : h_strings_Builder_copyCheck_h0.Sound prog Inv gInv 58 := by
 have e : h_strings_Builder_copyCheck_h0 = hb_strings_Builder_copyCheck_h0 := by unfold h_strings_Builder_copyCheck_h0 hb_strings_Builder_copyCheck_h0; rw [strings_Builder_copyCheck_h0_eq]
 rw [e]; exact hb_strings_Builder_copyCheck_h0_ok
noncomputable def m_strings_Builder_WriteString_h0 : Mach prog Inv gInv := mach bas [(47, f47), (58, f58)] ⟨ok47, ok58, trivial⟩ [] trivial [] trivial [(58, h_strings_Builder_copyCheck_h0)] ⟨⟨h_strings_Builder_copyCheck_h0_ok, FnOk.callable ok58⟩, trivial⟩
@[reducible] noncomputable def pa_strings_Builder_WriteString_h0 : List Pat := [.ptr 0 1, .str]
@[reducible] noncomputable def pH_strings_Builder_WriteString_h0 : List HPat := [.cells 100 [.int .u64, .nilPtr, .nilSlice]]
/-! ### (*strings.Builder).WriteString -/
abbrev R_strings_Builder_WriteString_h0 : Type := Int × Int × (List Int) × Unit
@[reducible] noncomputable def qa_strings_Builder_WriteString_h0 : List Pat := [.int .i64, .nilIface]
@[reducible] noncomputable def qH_strings_Builder_WriteString_h0 : List HPat := [.cells 100 [.int .u64, .ptr 0 1, .all 1], .row (.byt 5)]
def ks_strings_Builder_WriteString_h0 : List Nat := [47, 58]
noncomputable def b_strings_Builder_WriteString_h0 (s0 : ByteArray) (i1 : Int) : Option R_strings_Builder_WriteString_h0 :=
 obind (strings_Builder_copyCheck_h0 i1) fun y2 =>
 bif (decide ((List.length (strBytes s0)) ≤ 4294967296)) then
  let l3 : (List Int) := (strBytes s0)
  let n4 : Int := (((ByteArray.size s0) : Nat) : Int)
  some (n4, (y2.1, (l3, ())))
 else none
theorem ex_strings_Builder_WriteString_h0 : ∃ f, f = @b_strings_Builder_WriteString_h0 := ⟨_, rfl⟩
noncomputable def strings_Builder_WriteString_h0 := Classical.choose ex_strings_Builder_WriteString_h0
theorem strings_Builder_WriteString_h0_eq : @strings_Builder_WriteString_h0 = @b_strings_Builder_WriteString_h0 := Classical.choose_spec ex_strings_Builder_WriteString_h0
noncomputable def hb_strings_Builder_WriteString_h0 : HCon := HCon.mk0 pa_strings_Builder_WriteString_h0 pH_strings_Builder_WriteString_h0 qa_strings_Builder_WriteString_h0 qH_strings_Builder_WriteString_h0 R_strings_Builder_WriteString_h0 (fun x => b_strings_Builder_WriteString_h0 x.1.2.1 x.2.1.1) (fun r => ((r.1, ((), ())), ((r.2.1, ((), ((), ()))), (r.2.2.1, ())))) (fun y => (y.1.1, y.2.1.1, y.2.2.1, ())) (fun _ => rfl)
noncomputable def h_strings_Builder_WriteString_h0 : HCon := HCon.mk0 pa_strings_Builder_WriteString_h0 pH_strings_Builder_WriteString_h0 qa_strings_Builder_WriteString_h0 qH_strings_Builder_WriteString_h0 R_strings_Builder_WriteString_h0 (fun x => strings_Builder_WriteString_h0 x.1.2.1 x.2.1.1) (fun r => ((r.1, ((), ())), ((r.2.1, ((), ((), ()))), (r.2.2.1, ())))) (fun y => (y.1.1, y.2.1.1, y.2.2.1, ())) (fun _ => rfl)
theorem hb_strings_Builder_WriteString_h0_ok : hb_strings_Builder_WriteString_h0.Sound prog Inv gInv 47 :=
 hcon_run (M := m_strings_Builder_WriteString_h0) (f := f47) rfl ks_strings_Builder_WriteString_h0 100000 (X := nowhere) (fun base S0 cs0 hn hf => OSound.nowhere) (by intro x; kernel_rfl)
theorem h_strings_Builder_WriteString_h0_ok : h_strings_Builder_WriteString_h0.Sound prog Inv gInv 47 := by
 have e : h_strings_Builder_WriteString_h0 = hb_strings_Builder_WriteString_h0 := by unfold h_strings_Builder_WriteString_h0 hb_strings_Builder_WriteString_h0; rw [strings_Builder_WriteString_h0_eq]
 rw [e]; exact hb_strings_Builder_WriteString_h0_ok
noncomputable def m_strings_Builder_copyCheck_h1 : Mach prog Inv gInv := mach bas [(58, f58)] ⟨ok58, trivial⟩ [] trivial [] trivial [] trivial
@[reducible] noncomputable def pa_strings_Builder_copyCheck_h1 : List Pat := [.ptr 0 1]
@[reducible] noncomputable def pH_strings_Builder_copyCheck_h1 : List HPat := [.cells 100 [.int .u64, .nos 0 1, .all 1], .row (.byt 5)]
/-! ### (*strings.Builder).copyCheck -/
abbrev R_strings_Builder_copyCheck_h1 : Type := Int × (List Int) × Unit
@[reducible] noncomputable def qa_strings_Builder_copyCheck_h1 : List Pat := []
@[reducible] noncomputable def qH_strings_Builder_copyCheck_h1 : List HPat := [.cells 100 [.int .u64, .ptr 0 1, .all 1], .row (.byt 5)]
def ks_strings_Builder_copyCheck_h1 : List Nat := [58]
noncomputable def b_strings_Builder_copyCheck_h1 (i0 : Int) (l1 : (List Int)) : Option R_strings_Builder_copyCheck_h1 :=
 some (i0, (l1, ()))
theorem ex_strings_Builder_copyCheck_h1 : ∃ f, f = @b_strings_Builder_copyCheck_h1 := ⟨_, rfl⟩
noncomputable def strings_Builder_copyCheck_h1 := Classical.choose ex_strings_Builder_copyCheck_h1
theorem strings_Builder_copyCheck_h1_eq : @strings_Builder_copyCheck_h1 = @b_strings_Builder_copyCheck_h1 := Classical.choose_spec ex_strings_Builder_copyCheck_h1
noncomputable def hb_strings_Builder_copyCheck_h1 : HCon := HCon.mk0 pa_strings_Builder_copyCheck_h1 pH_strings_Builder_copyCheck_h1 qa_strings_Builder_copyCheck_h1 qH_strings_Builder_copyCheck_h1 R_strings_Builder_copyCheck_h1 (fun x => b_strings_Builder_copyCheck_h1 x.2.1.1 x.2.2.1) (fun r => ((), ((r.1, ((), ((), ()))), (r.2.1, ())))) (fun y => (y.2.1.1, y.2.2.1, ())) (fun _ => rfl)
noncomputable def h_strings_Builder_copyCheck_h1 : HCon := HCon.mk0 pa_strings_Builder_copyCheck_h1 pH_strings_Builder_copyCheck_h1 qa_strings_Builder_copyCheck_h1 qH_strings_Builder_copyCheck_h1 R_strings_Builder_copyCheck_h1 (fun x => strings_Builder_copyCheck_h1 x.2.1.1 x.2.2.1) (fun r => ((), ((r.1, ((), ((), ()))), (r.2.1, ())))) (fun y => (y.2.1.1, y.2.2.1, ())) (fun _ => rfl)
theorem hb_strings_Builder_copyCheck_h1_ok : hb_strings_Builder_copyCheck_h1.Sound prog Inv gInv 58 :=
 hcon_sound (M := m_strings_Builder_copyCheck_h1) (f := f58) rfl fun x r hxy base S0 cs0 hn => nos_split 0 1 0 1 rfl rfl rfl (run_sound (finH_ok hb_strings_Builder_copyCheck_h1 hn S0) OSound.nowhere (Ks := ks_strings_Builder_copyCheck_h1) (n := 1000) (by refine Eq.trans (Eq.symm ?_) hxy; kernel_rfl)) (run_sound (finH_ok hb_strings_Builder_copyCheck_h1 hn S0) OSound.nowhere (Ks := ks_strings_Builder_copyCheck_h1) (n := 1000) (by refine Eq.trans (Eq.symm ?_) hxy; kernel_rfl))
theorem h_strings_Builder_copyCheck_h1_ok : h_strings_Builder_copyCheck_h1.Sound prog Inv gInv 58 := by
 have e : h_strings_Builder_copyCheck_h1 = hb_strings_Builder_copyCheck_h1 := by unfold h_strings_Builder_copyCheck_h1 hb_strings_Builder_copyCheck_h1; rw [strings_Builder_copyCheck_h1_eq]
 rw [e]; exact hb_strings_Builder_copyCheck_h1_ok
noncomputable def m_strings_Builder_WriteString_h1 : Mach prog Inv gInv := mach bas [(47, f47), (58, f58)] ⟨ok47, ok58, trivial⟩ [] trivial [] trivial [(58, h_strings_Builder_copyCheck_h0), (58, h_strings_Builder_copyCheck_h1)] ⟨⟨h_strings_Builder_copyCheck_h0_ok, FnOk.callable ok58⟩, ⟨h_strings_Builder_copyCheck_h1_ok, FnOk.callable ok58⟩, trivial⟩
@[reducible] noncomputable def pa_strings_Builder_WriteString_h1 : List Pat := [.ptr 0 1, .str]
@[reducible] noncomputable def pH_strings_Builder_WriteString_h1 : List HPat := [.cells 100 [.int .u64, .nos 0 1, .all 1], .row (.byt 5)]
/-! ### (*strings.Builder).WriteString -/
abbrev R_strings_Builder_WriteString_h1 : Type := Int × Int × (List Int) × Unit
@[reducible] noncomputable def qa_strings_Builder_WriteString_h1 : List Pat := [.int .i64, .nilIface]
@[reducible] noncomputable def qH_strings_Builder_WriteString_h1 : List HPat := [.cells 100 [.int .u64, .ptr 0 1, .all 2], .dead, .row (.byt 5)]
def ks_strings_Builder_WriteString_h1 : List Nat := [47, 58]
noncomputable def b_strings_Builder_WriteString_h1 (s0 : ByteArray) (i1 : Int) (l2 : (List Int)) : Option R_strings_Builder_WriteString_h1 :=
 obind (strings_Builder_copyCheck_h1 i1 l2) fun y3 =>
 bif (decide (((List.length y3.2.1) + (List.length (strBytes s0))) ≤ 4294967296)) then
  let l4 : (List Int) := (y3.2.1 ++ (strBytes s0))
  let n5 : Int := (((ByteArray.size s0) : Nat) : Int)
  some (n5, (y3.1, (l4, ())))
 else none
theorem ex_strings_Builder_WriteString_h1 : ∃ f, f = @b_strings_Builder_WriteString_h1 := ⟨_, rfl⟩
noncomputable def strings_Builder_WriteString_h1 := Classical.choose ex_strings_Builder_WriteString_h1
theorem strings_Builder_WriteString_h1_eq : @strings_Builder_WriteString_h1 = @b_strings_Builder_WriteString_h1 := Classical.choose_spec ex_strings_Builder_WriteString_h1
noncomputable def hb_strings_Builder_WriteString_h1 : HCon := HCon.mk0 pa_strings_Builder_WriteString_h1 pH_strings_Builder_WriteString_h1 qa_strings_Builder_WriteString_h1 qH_strings_Builder_WriteString_h1 R_strings_Builder_WriteString_h1 (fun x => b_strings_Builder_WriteString_h1 x.1.2.1 x.2.1.1 x.2.2.1) (fun r => ((r.1, ((), ())), ((r.2.1, ((), ((), ()))), ((), (r.2.2.1, ()))))) (fun y => (y.1.1, y.2.1.1, y.2.2.2.1, ())) (fun _ => rfl)
noncomputable def h_strings_Builder_WriteString_h1 : HCon := HCon.mk0 pa_strings_Builder_WriteString_h1 pH_strings_Builder_WriteString_h1 qa_strings_Builder_WriteString_h1 qH_strings_Builder_WriteString_h1 R_strings_Builder_WriteString_h1 (fun x => strings_Builder_WriteString_h1 x.1.2.1 x.2.1.1 x.2.2.1) (fun r => ((r.1, ((), ())), ((r.2.1, ((), ((), ()))), ((), (r.2.2.1, ()))))) (fun y => (y.1.1, y.2.1.1, y.2.2.2.1, ())) (fun _ => rfl)
theorem hb_strings_Builder_WriteString_h1_ok : hb_strings_Builder_WriteString_h1.Sound prog Inv gInv 47 :=
 hcon_run (M := m_strings_Builder_WriteString_h1) (f := f47) rfl ks_strings_Builder_WriteString_h1 100000 (X := nowhere) (fun base S0 cs0 hn hf => OSound.nowhere) (by intro x; kernel_rfl)
theorem h_strings_Builder_WriteString_h1_ok : h_strings_Builder_WriteString_h1.Sound prog Inv gInv 47 := by
 have e : h_strings_Builder_WriteString_h1 = hb_strings_Builder_WriteString_h1 := by unfold h_strings_Builder_WriteString_h1 hb_strings_Builder_WriteString_h1; rw [strings_Builder_WriteString_h1_eq]
 rw [e]; exact hb_strings_Builder_WriteString_h1_ok
noncomputable def m_strings_Builder_copyCheck_h2 : Mach prog Inv gInv := mach bas [(58, f58)] ⟨ok58, trivial⟩ [] trivial [] trivial [] trivial
@[reducible] noncomputable def pa_strings_Builder_copyCheck_h2 : List Pat := [.ptr 0 0]
@[reducible] noncomputable def pH_strings_Builder_copyCheck_h2 : List HPat := [.cells 98 [.nilPtr, .nilSlice]]
/-! ### (*strings.Builder).copyCheck -/
abbrev R_strings_Builder_copyCheck_h2 : Type := Unit
@[reducible] noncomputable def qa_strings_Builder_copyCheck_h2 : List Pat := []
@[reducible] noncomputable def qH_strings_Builder_copyCheck_h2 : List HPat := [.cells 98 [.ptr 0 0, .nilSlice]]
def ks_strings_Builder_copyCheck_h2 : List Nat := [58]
noncomputable def b_strings_Builder_copyCheck_h2 : Option R_strings_Builder_copyCheck_h2 :=
 some ()
theorem ex_strings_Builder_copyCheck_h2 : ∃ f, f = @b_strings_Builder_copyCheck_h2 := ⟨_, rfl⟩
noncomputable def strings_Builder_copyCheck_h2 := Classical.choose ex_strings_Builder_copyCheck_h2
theorem strings_Builder_copyCheck_h2_eq : @strings_Builder_copyCheck_h2 = @b_strings_Builder_copyCheck_h2 := Classical.choose_spec ex_strings_Builder_copyCheck_h2
noncomputable def hb_strings_Builder_copyCheck_h2 : HCon := HCon.mk0 pa_strings_Builder_copyCheck_h2 pH_strings_Builder_copyCheck_h2 qa_strings_Builder_copyCheck_h2 qH_strings_Builder_copyCheck_h2 R_strings_Builder_copyCheck_h2 (fun x => b_strings_Builder_copyCheck_h2) (fun r => ((), (((), ((), ())), ()))) (fun y => (())) (fun _ => rfl)
noncomputable def h_strings_Builder_copyCheck_h2 : HCon := HCon.mk0 pa_strings_Builder_copyCheck_h2 pH_strings_Builder_copyCheck_h2 qa_strings_Builder_copyCheck_h2 qH_strings_Builder_copyCheck_h2 R_strings_Builder_copyCheck_h2 (fun x => strings_Builder_copyCheck_h2) (fun r => ((), (((), ((), ())), ()))) (fun y => (())) (fun _ => rfl)
theorem hb_strings_Builder_copyCheck_h2_ok : hb_strings_Builder_copyCheck_h2.Sound prog Inv gInv 58 :=
 hcon_run (M := m_strings_Builder_copyCheck_h2) (f := f58) rfl ks_strings_Builder_copyCheck_h2 100000 (X := nowhere) (fun base S0 cs0 hn hf => OSound.nowhere) (by intro x; kernel_rfl)
theorem h_strings_Builder_copyCheck_h2_ok : h_strings_Builder_copyCheck_h2.Sound prog Inv gInv 58 := by
 have e : h_strings_Builder_copyCheck_h2 = hb_strings_Builder_copyCheck_h2 := by unfold h_strings_Builder_copyCheck_h2 hb_strings_Builder_copyCheck_h2; rw [strings_Builder_copyCheck_h2_eq]
 rw [e]; exact hb_strings_Builder_copyCheck_h2_ok
noncomputable def m_strings_Builder_copyCheck_h3 : Mach prog Inv gInv := mach bas [(58, f58)] ⟨ok58, trivial⟩ [] trivial [] trivial [] trivial
@[reducible] noncomputable def pa_strings_Builder_copyCheck_h3 : List Pat := [.ptr 0 0]
@[reducible] noncomputable def pH_strings_Builder_copyCheck_h3 : List HPat := [.cells 98 [.nos 0 0, .all 1], .row (.byt 5)]
/-! ### (*strings.Builder).copyCheck -/
abbrev R_strings_Builder_copyCheck_h3 : Type := (List Int) × Unit
@[reducible] noncomputable def qa_strings_Builder_copyCheck_h3 : List Pat := []
@[reducible] noncomputable def qH_strings_Builder_copyCheck_h3 : List HPat := [.cells 98 [.ptr 0 0, .all 1], .row (.byt 5)]
def ks_strings_Builder_copyCheck_h3 : List Nat := [58]
noncomputable def b_strings_Builder_copyCheck_h3 (l0 : (List Int)) : Option R_strings_Builder_copyCheck_h3 :=
 some (l0, ())
theorem ex_strings_Builder_copyCheck_h3 : ∃ f, f = @b_strings_Builder_copyCheck_h3 := ⟨_, rfl⟩
noncomputable def strings_Builder_copyCheck_h3 := Classical.choose ex_strings_Builder_copyCheck_h3
theorem strings_Builder_copyCheck_h3_eq : @strings_Builder_copyCheck_h3 = @b_strings_Builder_copyCheck_h3 := Classical.choose_spec ex_strings_Builder_copyCheck_h3
noncomputable def hb_strings_Builder_copyCheck_h3 : HCon := HCon.mk0 pa_strings_Builder_copyCheck_h3 pH_strings_Builder_copyCheck_h3 qa_strings_Builder_copyCheck_h3 qH_strings_Builder_copyCheck_h3 R_strings_Builder_copyCheck_h3 (fun x => b_strings_Builder_copyCheck_h3 x.2.2.1) (fun r => ((), (((), ((), ())), (r.1, ())))) (fun y => (y.2.2.1, ())) (fun _ => rfl)
noncomputable def h_strings_Builder_copyCheck_h3 : HCon := HCon.mk0 pa_strings_Builder_copyCheck_h3 pH_strings_Builder_copyCheck_h3 qa_strings_Builder_copyCheck_h3 qH_strings_Builder_copyCheck_h3 R_strings_Builder_copyCheck_h3 (fun x => strings_Builder_copyCheck_h3 x.2.2.1) (fun r => ((), (((), ((), ())), (r.1, ())))) (fun y => (y.2.2.1, ())) (fun _ => rfl)
theorem hb_strings_Builder_copyCheck_h3_ok : hb_strings_Builder_copyCheck_h3.Sound prog Inv gInv 58 :=
 hcon_sound (M := m_strings_Builder_copyCheck_h3) (f := f58) rfl fun x r hxy base S0 cs0 hn => nos_split 0 0 0 0 rfl rfl rfl (run_sound (finH_ok hb_strings_Builder_copyCheck_h3 hn S0) OSound.nowhere (Ks := ks_strings_Builder_copyCheck_h3) (n := 1000) (by refine Eq.trans (Eq.symm ?_) hxy; kernel_rfl)) (run_sound (finH_ok hb_strings_Builder_copyCheck_h3 hn S0) OSound.nowhere (Ks := ks_strings_Builder_copyCheck_h3) (n := 1000) (by refine Eq.trans (Eq.symm ?_) hxy; kernel_rfl))
theorem h_strings_Builder_copyCheck_h3_ok : h_strings_Builder_copyCheck_h3.Sound prog Inv gInv 58 := by
 have e : h_strings_Builder_copyCheck_h3 = hb_strings_Builder_copyCheck_h3 := by unfold h_strings_Builder_copyCheck_h3 hb_strings_Builder_copyCheck_h3; rw [strings_Builder_copyCheck_h3_eq]
 rw [e]; exact hb_strings_Builder_copyCheck_h3_ok
noncomputable def m_varint_Puts : Mach prog Inv gInv := mach bas [(64, f64), (47, f47), (49, f49), (58, f58)] ⟨ok64, ok47, ok49, ok58, trivial⟩ [(74, c_varint_Put)] ⟨⟨c_varint_Put_ok, FnOk.callable ok74⟩, trivial⟩ [] trivial [(58, h_strings_Builder_copyCheck_h0), (47, h_strings_Builder_WriteString_h0), (58, h_strings_Builder_copyCheck_h1), (47, h_strings_Builder_WriteString_h1), (58, h_strings_Builder_copyCheck_h2), (58, h_strings_Builder_copyCheck_h3)] ⟨⟨h_strings_Builder_copyCheck_h0_ok, FnOk.callable ok58⟩, ⟨h_strings_Builder_WriteString_h0_ok, FnOk.callable ok47⟩, ⟨h_strings_Builder_copyCheck_h1_ok, FnOk.callable ok58⟩, ⟨h_strings_Builder_WriteString_h1_ok, FnOk.callable ok47⟩, ⟨h_strings_Builder_copyCheck_h2_ok, FnOk.callable ok58⟩, ⟨h_strings_Builder_copyCheck_h3_ok, FnOk.callable ok58⟩, trivial⟩
/-! ### domino/varint.Puts -/
@[reducible] def r_varint_Puts : List Ty := [.str, (.int .i64)]
def ks_varint_Puts : List Nat := [64, 47, 49, 58]
abbrev H_varint_Puts (base : Base) (S0 : Nat → Prop) := base.n = 0 ∧ FinOk (finR r_varint_Puts) base S0 (Post r_varint_Puts S0)
abbrev J_varint_Puts (base : Base) (S0 : Nat → Prop) (cs0 : List Go.Frame) (p : CPat) (J : denC p → Option (denL r_varint_Puts)) := JSound m_varint_Puts base S0 cs0 (Post r_varint_Puts S0) p J
abbrev O_varint_Puts (base : Base) (S0 : Nat → Prop) (cs0 : List Go.Frame) (X : Cfg → Option (Option (denL r_varint_Puts))) := OSound m_varint_Puts base S0 cs0 (Post r_varint_Puts S0) X
@[reducible] noncomputable def p_varint_Puts_0 : CPat := ⟨⟨64, [1, 1, 0, 1, 0], none, [.any, .any, .any, .any, .ptr 0 0, .any, .any, .any, .any, .rows (.int .u64) false, .int .i64, .int .i64], 15⟩, [], [.cells 98 [.nos 0 0, .all 1], .row (.byt 5)], 0⟩
@[reducible] noncomputable def u_varint_Puts_0 (k : (List Int) → Int → Int → (List Int) → Option (ByteArray × Int × Unit)) : denC p_varint_Puts_0 → Option (ByteArray × Int × Unit) := fun x => k x.1.2.2.2.2.2.2.2.2.2.1 x.1.2.2.2.2.2.2.2.2.2.2.1 x.1.2.2.2.2.2.2.2.2.2.2.2.1 x.2.2.2.1
noncomputable def t_varint_Puts_0 (k0 : (List Int) → Int → Int → (List Int) → Option (ByteArray × Int × Unit)) (l15 : (List Int)) (i16 : Int) (i17 : Int) (l18 : (List Int)) : Option (ByteArray × Int × Unit) :=
 let b19 : Bool := (decide (i17 < i16))
 bif b19 then
  bif (decide (((0 : Int) ≤ i17) ∧ (i17 < (((List.length l15) : Nat) : Int)))) then
   let x20 : Int := (List.getD l15 (Int.toNat i17) (0 : Int))
   obind (varint_Put x20) fun y21 =>
   let b22 : Bool := (y21.2.1 != (0 : Int))
   bif b22 then
    let s26 : ByteArray := (ByteArray.mk (List.toArray ([] : List UInt8)))
    some (s26, y21.2)
   else
    obind (strings_Builder_copyCheck_h3 l18) fun y27 =>
    bif (decide (((List.length y27.1) + (List.length (strBytes y21.1))) ≤ 4294967296)) then
     let l28 : (List Int) := (y27.1 ++ (strBytes y21.1))
     let n29 : Int := (((ByteArray.size y21.1) : Nat) : Int)
     let n30 : Int := (Go.IntKind.wrap Go.IntKind.i64 (i17 + (1 : Int)))
     k0 l15 i16 n30 l28
    else none
  else none
 else
  let s23 : ByteArray := (ByteArray.mk (List.toArray ([] : List UInt8)))
  let n24 : Int := (((List.length l18) : Nat) : Int)
  bif (decide ((n24 = (((List.length l18) : Nat) : Int)) ∧ (n24 ≤ (4294967296 : Int)))) then
   let s25 : ByteArray := (bytesStr l18)
   some (s25, ((0 : Int), ()))
  else none
noncomputable def varint_Puts_0 : Nat → (List Int) → Int → Int → (List Int) → Option (ByteArray × Int × Unit)
 | 0 => fun _ _ _ _ => none
 | m + 1 => t_varint_Puts_0 (varint_Puts_0 m)
noncomputable def b_varint_Puts_0' (l15 : (List Int)) (i16 : Int) (i17 : Int) (l18 : (List Int)) : Option (ByteArray × Int × Unit) := varint_Puts_0 (Int.toNat (i16 - i17) + 2) l15 i16 i17 l18
theorem ex_varint_Puts_0' : ∃ f, f = @b_varint_Puts_0' := ⟨_, rfl⟩
noncomputable def varint_Puts_0' := Classical.choose ex_varint_Puts_0'
theorem varint_Puts_0'_eq : @varint_Puts_0' = @b_varint_Puts_0' := Classical.choose_spec ex_varint_Puts_0'
theorem s_varint_Puts_0 {base S0 cs0} (hfin : H_varint_Puts base S0) : ∀ m, J_varint_Puts base S0 cs0 p_varint_Puts_0 (u_varint_Puts_0 (varint_Puts_0 m)) :=
 JSound.loop' hfin.2 ks_varint_Puts 100000 u_varint_Puts_0 (fun k0 => cut p_varint_Puts_0 (u_varint_Puts_0 k0) (nowhere)) (fun k0 h0 => OSound.cut (OSound.nowhere) (Nat.le_of_eq hfin.1) h0) (varint_Puts_0) (by intro x; rfl) (by intro m x; kernel_rfl)
theorem s_varint_Puts_0' {base S0 cs0} (hfin : H_varint_Puts base S0) : J_varint_Puts base S0 cs0 p_varint_Puts_0 (u_varint_Puts_0 (varint_Puts_0')) := by
 rw [varint_Puts_0'_eq]; exact fun x r hx => s_varint_Puts_0 hfin _ x r hx
noncomputable def x_varint_Puts_0 : Cfg → Option (Option (ByteArray × Int × Unit)) := cut p_varint_Puts_0 (u_varint_Puts_0 (varint_Puts_0')) (nowhere)
theorem o_varint_Puts_0 {base S0 cs0} (hfin : H_varint_Puts base S0) : O_varint_Puts base S0 cs0 (x_varint_Puts_0) := OSound.cut (OSound.nowhere) (Nat.le_of_eq hfin.1) (s_varint_Puts_0' hfin)
noncomputable def b_varint_Puts (a0 : (List Int)) : Option (ByteArray × Int × Unit) :=
 let s1 : ByteArray := (ByteArray.mk (List.toArray ([] : List UInt8)))
 let n2 : Int := (((List.length a0) : Nat) : Int)
 varint_Puts_0' a0 n2 (0 : Int) ([] : List Int)
theorem ex_varint_Puts : ∃ f, f = @b_varint_Puts := ⟨_, rfl⟩
noncomputable def varint_Puts := Classical.choose ex_varint_Puts
theorem varint_Puts_eq : @varint_Puts = @b_varint_Puts := Classical.choose_spec ex_varint_Puts
noncomputable def cb_varint_Puts : Con := ⟨[(.slice (.int .u64))], r_varint_Puts, fun x => b_varint_Puts x.1⟩
noncomputable def c_varint_Puts : Con := ⟨[(.slice (.int .u64))], r_varint_Puts, fun x => varint_Puts x.1⟩
theorem cb_varint_Puts_ok : cb_varint_Puts.Sound prog Inv gInv 64 :=
 con_run (M := m_varint_Puts) inv_g (f := f64) rfl ks_varint_Puts 100000 (X := x_varint_Puts_0) (fun base S0 cs0 hn hf => have hfin : H_varint_Puts base S0 := ⟨hn, hf⟩; o_varint_Puts_0 hfin) (by intro x; kernel_rfl)
theorem c_varint_Puts_ok : c_varint_Puts.Sound prog Inv gInv 64 := by
 have e : c_varint_Puts = cb_varint_Puts := by unfold c_varint_Puts cb_varint_Puts; rw [varint_Puts_eq]
 rw [e]; exact cb_varint_Puts_ok
end Go.Proofs.YtjlfmolfcgennaaDoor.V
