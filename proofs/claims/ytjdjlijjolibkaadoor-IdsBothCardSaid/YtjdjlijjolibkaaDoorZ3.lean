/- The law IdsBoth, part 3 of 6: what is proved: for every input that can be read the call of IdsBoth returns true and leaves its arguments alone. No conditions but the listed tables of the card. -/
import Derived.Carry
import Derived.ChangeOld
import Derived.ChangeShapes
import Derived.ChangeSlices
import Derived.ChangeArms
import Derived.SizedLaws
import Derived.JoinedOf
import Derived.ShutString
import Derived.WalkKit
import Derived.ProofKit
import Derived.OpenShut
import Derived.Laws.Strings
import Derived.Test.YtjdjlijjolibkaaDoorProg
import Derived.KernelRfl
import Derived.Laws.Externs
import Derived.Lib.Builder
import Derived.Laws.Cover3
import Derived.Test.YtjdjlijjolibkaaDoorZ2
/- The pure machine, part o: its steps, and that memory goes with them. -/
namespace Go.Proofs.YtjdjlijjolibkaaDoor.V
open Go.RowKit
structure Fins (R : Type) where
  ret : List PV → Heap → Option R
  pan : Value → Option R
structure Fr where
  K : Nat
  path : List Nat
  ix : Option Nat
  env : List PV
  start : Option (List PV × Heap)
  feet : List (Nat × Ft)
structure Cfg where
  top : Fr
  rest : List Fr
  H : Heap
inductive St (R : Type) : Type 1 where
  | next (c : Cfg)
  | done (r : R)
  | fail
  | test (b : Bool) (s : St R)
  | two (b : Bool) (s t : St R)
  | bind {α : Type} (o : Option α) (k : α → St R)
  | bindC (c : HCon) (x : denPs c.pa × denBs c.pH) (fb : Value → St R) (fg : c.R → St R)
def St.run {R : Type} (f : Cfg → Option R) : St R → Option R
  | .next c => f c
  | .done r => some r
  | .fail => none
  | .test b s => bif b then s.run f else none
  | .two b s t => bif b then s.run f else t.run f
  | .bind o k => obind o fun y => (k y).run f
  | .bindC c x fb fg => c.elim x R (fun v => (fb v).run f) fun r => (fg r).run f
section
variable {P : Program} {I : World → Prop} {g : Nat} (M : Mach P I g) {R : Type} (fin : Fins R)
def Cfg.at (c : Cfg) (q : List Nat) : Cfg := { c with top := { c.top with path := q, ix := none, start := none, feet := [] } }
def Cfg.ref (c : Cfg) (d : Nat) (b : Bool) : Cfg := { c with top := { c.top with env := c.top.env.set d (.val (.bool b)) } }
theorem Cfg.ref_eq {c : Cfg} {d : Nat} {b : Bool} (h : c.top.env.getD d .junk = .val (.bool b)) : c.ref d b = c := by
  have : c.top.env.set d (.val (.bool b)) = c.top.env := by
    apply List.ext_getElem?
    intro i
    by_cases e : d = i
    · subst e
      rcases Nat.lt_or_ge d c.top.env.length with hl | hl
      · simp only [List.getD, List.getElem?_eq_getElem hl, Option.getD_some] at h
        simp [hl, h]
      · simp [hl]
    · simp [List.getElem?_set_ne e]
  unfold Cfg.ref
  rw [this]
def Cfg.refO (c : Cfg) (x : Operand) (b : Bool) : Cfg := match x with
  | .tmp t => c.ref t b
  | _ => c
theorem Cfg.refO_eq {G : Nat → PV} {c : Cfg} {x : Operand} {b : Bool} (h : evalP G c.top.env x = .val (.bool b)) : c.refO x b = c := by
  unfold Cfg.refO
  split
  · exact Cfg.ref_eq h
  · rfl
def res1 (P : Program) (env : List PV) (H : Heap) : ResultVar → Option PV
  | .tmp t => some (env.getD t .junk)
  | .cell a T => loadO P T (env.getD a .junk) H
def resList (P : Program) (env : List PV) (H : Heap) : List ResultVar → Option (List PV)
  | [] => some []
  | x :: l => match res1 P env H x, resList P env H l with
    | some p, some ps => some (p :: ps)
    | _, _ => none
def resultsP (P : Program) (f : Func) (env : List PV) (H : Heap) : Option (List PV) := resList P env H f.results.toList
def retSt (c : Cfg) (f : Func) : St R :=
  match resultsP P f c.top.env c.H with
  | none => .fail
  | some ps => match c.rest with
    | [] => match fin.ret ps c.H with
      | some r => .done r
      | none => .fail
    | fr :: rest => match M.fn fr.K, fr.ix with
      | some h, some i => match h.body with
        | none => .fail
        | some body => match todoAt body fr.path [] with
          | some (.region _ ops _, _) => match ops[i]? with
            | some o => .next ⟨{ fr with env := putP fr.env o.dst (oneP ps), ix := some (i + 1) }, rest, c.H⟩
            | none => .fail
          | _ => .fail
      | _, _ => .fail
def goOn (c : Cfg) (f : Func) : Option (List Nat) → St R
  | some q => .next (c.at q)
  | none => retSt M fin c f
def adv (c : Cfg) (i : Nat) (dst : Option Tmp) (p : PV) (H : Heap) (ft : Ft) : Cfg :=
  { c with top := { c.top with env := putP c.top.env dst p, ix := some (i + 1), feet := match c.top.start with | some _ => c.top.feet ++ [(i, ft)] | none => [] }, H := H }
def pickSt (c : Cfg) (i : Nat) (o : Oper) (y : Operand) : St R :=
  .next (adv c i o.dst (evalP M.gl c.top.env y) (setAll c.H [] ++ []) ((keepE (evalP M.gl c.top.env y)).ft (readsOf o (evalP M.gl c.top.env)) c.H))
def skipSt (c : Cfg) (i : Nat) (o : Oper) : St R := .next (adv c i o.dst nothing (setAll c.H [] ++ []) ⟨[], [], []⟩)
def splitSt {R : Type} (f : Nat → St R) (i : Int) : Nat → Nat → St R
  | _, 0 => .fail
  | c, n + 1 => .two (decide (i = c)) (f c) (splitSt f i (c + 1) n)
def extP (K : Nat) (args : List PV) : Option PV :=
  match args with
  | [p] => bif M.ext K then some p else none
  | _ => none
def finPan (v : Value) : St R := match fin.pan v with
  | some r => .done r
  | none => .fail
def closedV : PV → Option Value
  | .val v => some v
  | .agg ps => (valsOf ps).map fun l => .agg l.toArray
  | _ => none
def panicOf (o : Oper) (ev : Operand → PV) : Option Value := match o.op with
  | .panic x => match ev x with
    | .iface T p => (closedV p).map (.iface T)
    | _ => none
  | _ => none
def seenB (look : List Tmp) : Option Tmp → Bool
  | some d => look.contains d
  | none => false
noncomputable def late (ops : Array Oper) (i : Nat) (look : List Tmp) : Nat → Nat → List PV → Heap → Option (List (Nat × Ft))
  | 0, _, _, _ => some []
  | n + 1, j, env, H => match ops[j]? with
    | none => some []
    | some o => bif depB ops 4 j i then late ops i look n (j + 1) env H else
      match o.guard, callParts o (evalP M.gl env), opP P o (evalP M.gl env) H with
      | none, none, .still true p => bif seenB look o.dst then none else
        (late ops i look n (j + 1) (putP env o.dst p) H).map ((j, (keepE p).ft (readsOf o (evalP M.gl env)) H) :: ·)
      | _, _, _ => none
def sortedB : List Nat → Bool
  | [] => true
  | x :: l => l.all (fun y => decide (x < y)) && sortedB l
def panOk (ops : Array Oper) (l : List (Nat × Ft)) (i : Nat) (fp : Ft) : Bool :=
  edgesLt ops && fineB ops l && sortedB (l.map (·.1)) && l.all (fun x => (x.1 != i) && decide (x.1 < ops.size) && (freeB ops x (i, fp) || depB ops 4 i x.1)) &&
    (List.range ops.size).all (fun j => (l.any fun x => x.1 == j) || j == i || depB ops 4 j i) && decide (l.length + 1 ≤ ops.size)
noncomputable def badSt (c : Cfg) (ops : Array Oper) (o : Oper) (i : Nat) (ft : Ft) (v : Value) : St R :=
  match c.top.start with
  | none => finPan fin v
  | some _ => match late M ops i (o.looksAt ops) ops.size (i + 1) c.top.env c.H with
    | some l => bif panOk ops (c.top.feet ++ l) i ft then finPan fin v else .fail
    | none => .fail
noncomputable def execSt (c : Cfg) (ops : Array Oper) (o : Oper) (i : Nat) : St R :=
  match callParts o (evalP M.gl c.top.env) with
  | some (K, args) => match hfind (M.hcon K) args c.H with
   | some f => .bindC f.c f.x (fun v => badSt M fin c ops o i ⟨(reals f.s.σ ++ f.s.Z) ++ f.s.R, reals f.s.σ ++ f.s.Z, []⟩ v) fun r => .next (adv c i o.dst (ren (thetaF f.s (instBs f.c.qH (f.c.out r).2).length c.H.length) (oneP (insts f.c.qa (f.c.out r).1)))
      (setAll c.H (heditsF f.s c.H (instBs f.c.qH (f.c.out r).2)) ++ happF f.s c.H (instBs f.c.qH (f.c.out r).2)) (hFt f.c f.s r c.H))
   | none => match M.ocon K with
   | some cn => match decArgs cn.params args c.H with
      | some x => .bind (cn.F x) fun y => .next (adv c i o.dst (.all c.H.length) (setAll c.H (frzEdits c.H (idsOf cn.params args)) ++ [some (.row cn.t y)]) ⟨idsOf cn.params args, idsOf cn.params args, [c.H.length]⟩)
      | none => .fail
   | none => match M.con K with
    | some cn => match decArgs cn.params args c.H with
      | some x => .bind (cn.F x) fun y => .next (adv c i o.dst (resPV cn.results y) (setAll c.H (frzEdits c.H (idsOf cn.params args)) ++ []) ⟨idsOf cn.params args, idsOf cn.params args, []⟩)
      | none => .fail
    | none => match extP M K args with
      | some p => .next (adv c i o.dst p (setAll c.H [] ++ []) ⟨[], [], []⟩)
      | none => match c.top.start with
        | some _ => .fail
        | none => match M.fn K with
          | some fK => .next ⟨⟨K, [], none, args ++ List.replicate (fK.ntmps - args.length) nothing, none, []⟩, { c.top with ix := some i } :: c.rest, c.H⟩
          | none => .fail
  | none => match panicOf o (evalP M.gl c.top.env) with
   | some v => match c.top.start with
     | none => finPan fin v
     | some _ => .fail
   | none => match opP P o (evalP M.gl c.top.env) c.H with
    | .pick b _ _ => match o.op with
      | .pick x y z => .two b (pickSt M (c.refO x true) i o y) (pickSt M (c.refO x false) i o z)
      | _ => .fail
    | .split j n f => splitSt (fun k => .next (adv c i o.dst (f k) (setAll c.H [] ++ []) ((keepE (f k)).ft (readsOf o (evalP M.gl c.top.env)) c.H))) j 0 n
    | r => match r.eff with
      | some (b, e) => .test b (.next (adv c i o.dst (e.val c.H.length) (e.heap c.H) (e.ft (readsOf o (evalP M.gl c.top.env)) c.H)))
      | none => .fail
noncomputable def opSt (c : Cfg) (f : Func) (body : Code) (ops : Array Oper) (draw : Bool) (i : Nat) : St R :=
  match ops[i]? with
  | none => match c.top.start, draw with
    | none, false => goOn M fin c f (after body c.top.path)
    | some _, true => if fineB ops c.top.feet && edgesLt ops && decide (i = ops.size) then goOn M fin c f (after body c.top.path) else .fail
    | _, _ => .fail
  | some o =>
    match o.guard with
    | none => execSt M fin c ops o i
    | some (j, want) => match (ops[j]?).bind (·.dst) with
      | none => skipSt c i o
      | some d => match c.top.env.getD d .junk with
        | .val (.bool x) => match want with
          | true => .two x (execSt M fin (c.ref d true) ops o i) (skipSt (c.ref d false) i o)
          | false => .two x (skipSt (c.ref d true) i o) (execSt M fin (c.ref d false) ops o i)
        | .val (.tuple _) => skipSt c i o
        | _ => .fail
noncomputable def stepA (c : Cfg) : St R :=
  match M.fn c.top.K with
  | none => .fail
  | some f => match f.body with
    | none => .fail
    | some body => match todoAt body c.top.path [] with
      | none => .fail
      | some (code, _) => match c.top.ix with
        | some i => match code with
          | .region _ ops draw => opSt M fin c f body ops draw i
          | _ => .fail
        | none => match code with
          | .skip => goOn M fin c f (after body c.top.path)
          | .label _ => goOn M fin c f (after body c.top.path)
          | .seq _ _ => .next (c.at (c.top.path ++ [0]))
          | .block _ _ => .next (c.at (c.top.path ++ [0]))
          | .loop _ => .next (c.at (c.top.path ++ [0]))
          | .scope _ => .next (c.at (c.top.path ++ [0]))
          | .cond x _ _ => match evalP M.gl c.top.env x with
            | .val (.bool b) => .two b (.next ((c.refO x true).at (c.top.path ++ [0]))) (.next ((c.refO x false).at (c.top.path ++ [1])))
            | _ => .fail
          | .exit id => match exitP id body c.top.path with
            | some q => goOn M fin c f q
            | none => .fail
          | .ret => retSt M fin c f
          | .region _ _ draw => .next { c with top := { c.top with ix := some 0, start := if draw then some (c.top.env, c.H) else none, feet := [] } }
          | _ => .fail
noncomputable def runA (X : Cfg → Option (Option R)) : Nat → Cfg → Option R
  | 0, _ => none
  | n + 1, c => (stepA M fin c).run fun c' => match X c' with
    | some o => o
    | none => runA X n c'
end
section
variable {P : Program} {I : World → Prop} {g : Nat} {M : Mach P I g} {R : Type} {fin : Fins R}
variable {base : Base} {S0 : Nat → Prop} {cs0 : List Frame} {post : World → Ending → R → Prop}
def bottom : Nat → List Fr → Nat
  | K, [] => K
  | _, fr :: rest => bottom fr.K rest
structure Waits (M : Mach P I g) (ρ : Loc) (H : Heap) (w : World) (S : Nat → Prop) (fr : Fr) (conc : Frame) : Prop where
  is : ∃ (b : Frame) (a : Act) (ops : Array Oper) (id : Nat) (k : List Item) (i : Nat) (o : Oper) (f : Func) (body : Code), conc = b.at a (.inRegion ops (List.range' i (ops.size - i)) :: k) ∧ b.fn = fr.K ∧ b.kind = .normal ∧ a.defers = [] ∧ M.fn fr.K = some f ∧ f.body = some body ∧
    todoAt body fr.path [] = some (.region id ops false, k) ∧ fr.ix = some i ∧ ops[i]? = some o ∧ PRels ρ H w S fr.env a.tmps.toList ∧ fr.start = none
inductive Stack (M : Mach P I g) (cs0 : List Frame) (ρ : Loc) (H : Heap) (w : World) (S : Nat → Prop) : List Fr → List Frame → Prop where
  | nil : Stack M cs0 ρ H w S [] cs0
  | cons {fr conc frs cs} : Waits M ρ H w S fr conc → Stack M cs0 ρ H w S frs cs → Stack M cs0 ρ H w S (fr :: frs) (conc :: cs)
theorem Waits.ext {ρ ρ' : Loc} {H H' : Heap} {w w' : World} {S S' : Nat → Prop} (h : Ext base ρ H w S ρ' H' w' S') {fr : Fr} {conc : Frame} (k : Waits M ρ H w S fr conc) : Waits M ρ' H' w' S' fr conc := by
  obtain ⟨b, a, ops, id, kk, i, o, f, body, h1, h2, h3, h4, h5, h6, h7, h8, h9, h10, h11⟩ := k.is
  exact ⟨b, a, ops, id, kk, i, o, f, body, h1, h2, h3, h4, h5, h6, h7, h8, h9, h.rels h10, h11⟩
theorem Stack.ext {ρ ρ' : Loc} {H H' : Heap} {w w' : World} {S S' : Nat → Prop} (h : Ext base ρ H w S ρ' H' w' S') {frs : List Fr} {cs : List Frame} (k : Stack M cs0 ρ H w S frs cs) : Stack M cs0 ρ' H' w' S' frs cs := by
  induction k with
  | nil => exact .nil
  | cons h1 _ ih => exact .cons (h1.ext h) ih
def Stands (M : Mach P I g) (fr : Fr) (b : Frame) (a : Act) (todo : List Item) : Prop :=
  b.fn = fr.K ∧ b.kind = .normal ∧ a.defers = [] ∧ ∃ f body code k, M.fn fr.K = some f ∧ f.body = some body ∧ todoAt body fr.path [] = some (code, k) ∧
    match fr.ix with
    | none => fr.start = none ∧ Head code k todo
    | some i => ∃ id ops draw, code = .region id ops draw ∧
      match fr.start with
      | none => draw = false ∧ todo = .inRegion ops (List.range' i (ops.size - i)) :: k
      | some _ => draw = true ∧ todo = .code code :: k
def Traced (M : Mach P I g) (c : Cfg) : Prop :=
  match c.top.start with
  | none => True
  | some (e, h) => ∀ f body id ops draw k i, M.fn c.top.K = some f → f.body = some body → todoAt body c.top.path [] = some (.region id ops draw, k) → c.top.ix = some i →
    OpTrace M ops c.top.feet e h c.top.env c.H ∧ c.top.feet.map (·.1) = List.range i
def Cfg.env0 (c : Cfg) : List PV := match c.top.start with | some (e, _) => e | none => c.top.env
def Cfg.H0 (c : Cfg) : Heap := match c.top.start with | some (_, h) => h | none => c.H
def Fin (P : Program) (K0 : Nat) (base : Base) (cs0 : List Frame) (post : World → Ending → R → Prop) (w : World) (m : Machine) (r : R) : Prop :=
  ∃ fr w' e, Steps P m (lone fr cs0 w') ∧ fr.fn = K0 ∧ fr.leaving P w' e ∧ post w' e r ∧ Keeps base.B w w'
def Sound (M : Mach P I g) (base : Base) (S0 : Nat → Prop) (cs0 : List Frame) (post : World → Ending → R → Prop) (c : Cfg) (r : R) : Prop :=
  ∀ (ρ : Loc) (w : World) (S : Nat → Prop) (b : Frame) (a : Act) (todo : List Item) (cs : List Frame), I w → Low g base S0 → HRel base S0 ρ c.H0 w S → PRels ρ c.H0 w S c.env0 a.tmps.toList → Stands M c.top b a todo → Stack M cs0 ρ c.H0 w S c.rest cs → Traced M c →
    Fin P (bottom c.top.K c.rest) base cs0 post w (lone (b.at a todo) cs w) r
structure FinOk (fin : Fins R) (base : Base) (S0 : Nat → Prop) (post : World → Ending → R → Prop) : Prop where
  ret : ∀ (ps : List PV) (H : Heap) (r : R) (ρ : Loc) (w : World) (S : Nat → Prop) (v : Value), fin.ret ps H = some r → HRel base S0 ρ H w S → PRel ρ H w S (oneP ps) v → post w (.returned v) r
  pan : ∀ (v : Value) (r : R) (w : World), fin.pan v = some r → post w (.panicked [{ v, recovered := false }]) r
theorem Fin.steps {K0 : Nat} {w : World} {m m' : Machine} {r : R} (h : Steps P m m') (k : Fin P K0 base cs0 post w m' r) : Fin P K0 base cs0 post w m r := by
  obtain ⟨fr, w', v, h1, h2⟩ := k
  exact ⟨fr, w', v, h.trans h1, h2⟩
theorem Fin.world {K0 : Nat} {w w1 : World} {m : Machine} {r : R} (h : Keeps base.B w w1) (k : Fin P K0 base cs0 post w1 m r) : Fin P K0 base cs0 post w m r := by
  obtain ⟨fr, w', v, h1, h2, h3, h4, h5⟩ := k
  exact ⟨fr, w', v, h1, h2, h3, h4, h.trans h5⟩
theorem results_run {ρ : Loc} {H : Heap} {w : World} {S : Nat → Prop} (hh : HRel base S0 ρ H w S) {env : List PV} {a : Act} (he : PRels ρ H w S env a.tmps.toList) {f : Func} {ps : List PV} (h : resultsP P f env H = some ps) :
    ∃ v, (results f a.tmps).run P w = .ok v w ∧ PRel ρ H w S (oneP ps) v := by
  have slot : ∀ t, PRel ρ H w S (env.getD t .junk) (a.tmps.getD t undef) := fun t => slot_rel he t
  have list : ∀ (l : List ResultVar) (ps : List PV), resList P env H l = some ps →
      ∃ vs, (l.mapM (m := Sem) fun (x : ResultVar) => match x with | .tmp t => pure (a.tmps.getD t undef) | .cell x t => do loadVar t (← asAddr (a.tmps.getD x undef))).run P w = .ok vs w ∧ PRels ρ H w S ps vs := by
    intro l
    induction l with
    | nil => intro ps h; simp only [resList, Option.some.injEq] at h; subst h; exact ⟨[], rfl, rfl⟩
    | cons x l ih =>
      intro ps h
      simp only [resList] at h
      split at h
      · rename_i p qs hx hl
        cases h
        obtain ⟨vs, h1, h2⟩ := ih qs hl
        have one : ∃ v, (match x with | .tmp t => pure (a.tmps.getD t undef) | .cell x t => do loadVar t (← asAddr (a.tmps.getD x undef)) : Sem Value).run P w = .ok v w ∧ PRel ρ H w S p v := by
          cases x with
          | tmp t => simp only [res1, Option.some.injEq] at hx; subst hx; exact ⟨_, rfl, slot t⟩
          | cell x T =>
            simp only [res1] at hx
            obtain ⟨ad, u, hv, r1, r2⟩ := loadO_run (P := P) hh hx (slot x)
            refine ⟨u, ?_, r2⟩
            simp only [hv, asAddr, Sem.run_bind, Sem.run_pure, Result.andThen_ok, r1]
        obtain ⟨v, g1, g2⟩ := one
        refine ⟨v :: vs, ?_, ⟨v, vs, rfl, g2, h2⟩⟩
        simp only [List.mapM_cons, Sem.run_bind, g1, Result.andThen_ok, h1, Sem.run_pure]
      · cases h
  obtain ⟨vs, h1, h2⟩ := list f.results.toList ps h
  have hm : (f.results.mapM (m := Sem) fun (x : ResultVar) => match x with | .tmp t => pure (a.tmps.getD t undef) | .cell x t => do loadVar t (← asAddr (a.tmps.getD x undef))).run P w = .ok vs.toArray w := by
    rw [Array.mapM_eq_mapM_toList, Sem.run_map, h1]; rfl
  have hl := h2.length
  have hr : (results f a.tmps).run P w = (Result.ok vs.toArray w).andThen (fun vs w' => .ok (if h : vs.size = 1 then vs[0] else .tuple vs) w') := by
    unfold results
    simp only [Sem.run_bind, Sem.run_pure]
    exact congrArg (fun r => Result.andThen r _) hm
  rw [hr]
  refine ⟨_, rfl, ?_⟩
  cases ps with
  | nil =>
    simp only [PRels] at h2
    subst h2
    exact ⟨_, rfl, rfl⟩
  | cons p qs => cases qs with
    | nil =>
      simp only [PRels] at h2
      obtain ⟨u, us, rfl, g1, g2⟩ := h2
      subst g2
      simpa [oneP] using g1
    | cons q qs =>
      have : vs.toArray.size ≠ 1 := by simp at hl ⊢; omega
      rw [dif_neg this]
      exact ⟨_, rfl, h2⟩
end
end Go.Proofs.YtjdjlijjolibkaaDoor.V
/- The pure machine, part p: whoever goes on soundly, goes soundly. -/
namespace Go.Proofs.YtjdjlijjolibkaaDoor.V
open Go.RowKit
section
variable {P : Program} {I : World → Prop} {g : Nat} {M : Mach P I g} {R : Type} {fin : Fins R}
variable {base : Base} {S0 : Nat → Prop} {cs0 : List Frame} {post : World → Ending → R → Prop}
theorem range'_cons {i n : Nat} (h : i < n) : List.range' i (n - i) = i :: List.range' (i + 1) (n - (i + 1)) := by
  rw [show n - i = (n - (i + 1)) + 1 by omega, List.range'_succ]
theorem wpOp_steps {ops : Array Oper} {i : Nat} {rest : List Nat} {K : Act → World → Prop} {a : Act} {w : World} (h : wpOp P ops (fun _ _ _ => False) i K a w) (b : Frame) (k : List Item) (cs : List Frame) :
    ∃ a' w', K a' w' ∧ Steps P (lone (b.at a (.inRegion ops (i :: rest) :: k)) cs w) (lone (b.at a' (.inRegion ops rest :: k)) cs w') := by
  unfold wpOp at h
  cases ho : ops[i]? with
  | none =>
    rw [ho] at h
    have hs := step_op_skip (P := P) (b := b) (a := a) (k := k) (cs := cs) (w := w) (ops := ops) (i := i) (rest := rest) (by simp [ho])
    simp only [ho, Option.bind_none, Act.put] at hs
    exact ⟨a, w, h, .one hs⟩
  | some o =>
    simp only [ho] at h
    by_cases hw : Region.wanted o (yielded ops a.tmps) = true
    · simp only [hw, if_true] at h
      rcases h with h | ⟨_, a₀, w₀, hq⟩
      case inr => exact hq.elim
      simp only [Oper.wp, Oper.upon] at h
      have hg := stepG_op (P := P) (b := b) (k := k) (cs := cs) (w := w) (rest := rest) ho hw
      have hfin : ∀ v, (b.at a (.inRegion ops (i :: rest) :: k)).finish v = b.at (a.put o.dst v) (.inRegion ops rest :: k) := by
        intro v; rw [Frame.finish_at, ho]; rfl
      split at h
      · rename_i v w' hr
        refine ⟨_, _, h, .one (step_lone_go ?_)⟩
        rw [hg, ← hfin]; simp [stepG.apply, hr]
      · rename_i w' hr
        refine ⟨_, _, h, .one (step_lone_go ?_)⟩
        rw [hg, ← hfin]; simp [stepG.apply, hr]
      · rename_i d w' hr
        refine ⟨_, _, h, .one (step_lone_go ?_)⟩
        have : ({ b.at a (.inRegion ops (i :: rest) :: k) with defers := d :: a.defers } : Frame).finish undef =
            b.at ({ a with defers := d :: a.defers }.put o.dst undef) (.inRegion ops rest :: k) := by
          have := Frame.finish_at b { a with defers := d :: a.defers } ops i rest k undef
          rw [ho] at this; exact this
        rw [hg]; simp only [stepG.apply, Sem.runT_eq, hr, GStep.bare_after]
        exact congrArg (fun fr => GStep.go { frame := fr, callers := cs, status := .running, dying := none } w') this
      · rename_i f args w' hr
        obtain ⟨e, w'', fr, hR, hsteps, _, hleave⟩ := h (b.at a (.inRegion ops (i :: rest) :: k) :: cs)
        have henter : step P (lone (b.at a (.inRegion ops (i :: rest) :: k)) cs w) =
            .next (lone (Frame.enter P f args .normal) (b.at a (.inRegion ops (i :: rest) :: k) :: cs) w') :=
          step_lone_go (by rw [hg]; simp [stepG.apply, hr, Frame.at])
        cases e with
        | returned v =>
          refine ⟨_, _, hR, .head henter (hsteps.trans (.one ?_))⟩
          rw [← hfin]; exact step_leave_returned hleave
        | panicked chain => exact hR.elim
        | outgrown => obtain ⟨a₀, w₀, hq⟩ := hR; exact hq.elim
      · rename_i row args w' hr
        obtain ⟨v, w'', hR, hsteps⟩ := h (b.at a (.inRegion ops (i :: rest) :: k)) cs
        have henter : step P (lone (b.at a (.inRegion ops (i :: rest) :: k)) cs w) =
            .next (lone (Frame.ofRow P row args .normal) (b.at a (.inRegion ops (i :: rest) :: k) :: cs) w') :=
          step_lone_go (by rw [hg]; simp [stepG.apply, hr, Frame.at])
        refine ⟨_, _, hR, .head henter ?_⟩
        rw [← hfin]; exact hsteps
      · exact h.elim
      · exact h.elim
    · simp only [hw, if_false, Bool.false_eq_true] at h
      have hs := step_op_skip (P := P) (b := b) (a := a) (k := k) (cs := cs) (w := w) (ops := ops) (i := i) (rest := rest)
        (by simp [ho]; simpa using hw)
      simp only [ho, Option.bind_some] at hs
      exact ⟨_, _, h, .one hs⟩
theorem Sound.plain {c : Cfg} {r : R} (hs : c.top.start = none) (h : Sound M base S0 cs0 post c r) : ∀ (ρ : Loc) (w : World) (S : Nat → Prop) (b : Frame) (a : Act) (todo : List Item) (cs : List Frame), I w → Low g base S0 →
    HRel base S0 ρ c.H w S → PRels ρ c.H w S c.top.env a.tmps.toList → Stands M c.top b a todo → Stack M cs0 ρ c.H w S c.rest cs → Fin P (bottom c.top.K c.rest) base cs0 post w (lone (b.at a todo) cs w) r := by
  intro ρ w S b a todo cs hI hg hh he hst hs'
  have e1 : c.H0 = c.H := by simp [Cfg.H0, hs]
  have e2 : c.env0 = c.top.env := by simp [Cfg.env0, hs]
  exact h ρ w S b a todo cs hI hg (e1 ▸ hh) (by rw [e1, e2]; exact he) hst (by rw [e1]; exact hs') (by simp [Traced, hs])
theorem Sound.at (c : Cfg) (q : List Nat) {r : R} {ρ : Loc} {w : World} {S : Nat → Prop} {b : Frame} {a : Act} {td k : List Item} {code : Code} {cs : List Frame} {f : Func} {body : Code} (hI : I w) (hg : Low g base S0) (hh : HRel base S0 ρ c.H w S)
    (he : PRels ρ c.H w S c.top.env a.tmps.toList) (hb1 : b.fn = c.top.K) (hb2 : b.kind = .normal) (hd : a.defers = []) (hf : M.fn c.top.K = some f) (hb : f.body = some body) (ht : todoAt body q [] = some (code, k)) (htd : Head code k td)
    (hst : Stack M cs0 ρ c.H w S c.rest cs) (h : Sound M base S0 cs0 post (c.at q) r) : Fin P (bottom c.top.K c.rest) base cs0 post w (lone (b.at a td) cs w) r :=
  h ρ w S b a td cs hI hg hh he ⟨hb1, hb2, hd, f, body, code, k, hf, hb, ht, rfl, htd⟩ hst trivial
theorem raise_world {ρ : Loc} {H : Heap} {w w' : World} {S : Nat → Prop} {chain : List PanicEntry} : ∀ {rest : List Fr} {cs : List Frame} (K : Nat) (fr : Frame), Stack M cs0 ρ H w S rest cs → fr.fn = K → fr.mode = .panicking chain → fr.defers = [] → (∃ fn, P.funcs[fr.fn]? = some fn) →
    ∃ fr', Steps P (lone fr cs w') (lone fr' cs0 w') ∧ fr'.fn = bottom K rest ∧ fr'.leaving P w' (.panicked chain)
  | [], _, K, fr, h, hk, hm, hd, hf => by
    cases h
    exact ⟨fr, Steps.refl _ _, hk, hm, hd, hf⟩
  | fr0 :: rest, _, K, fr, h, hk, hm, hd, hf => by
    cases h with
    | @cons _ conc _ cs' hwait hst' =>
      obtain ⟨b', a', ops, id, k, i, o, f', body, e1, e2, e3, e4, e5, e6, e7, e8, e9, e10, e11⟩ := hwait.is
      subst e1
      have hstep := step_leave_panicked (P := P) (c := b'.at a' (.inRegion ops (List.range' i (ops.size - i)) :: k)) (cs := cs') (w := w') (fr := fr) (chain := chain) ⟨hm, hd, hf⟩
      have hfn := M.fn_ok _ _ e5
      obtain ⟨fr', s1, s2, s3⟩ := raise_world fr0.K ((b'.at a' (.inRegion ops (List.range' i (ops.size - i)) :: k)).raise chain) hst' e2 rfl e4 ⟨f', by show P.funcs[b'.fn]? = some f'; rw [e2]; exact hfn.1⟩
      exact ⟨fr', .head hstep s1, s2, s3⟩
theorem pan_fin (hfin : FinOk fin base S0 post) {c : Cfg} {f : Func} {r : R} {pv : Value} (hr : fin.pan pv = some r) (hf : M.fn c.top.K = some f) {ρ : Loc} {H : Heap} {w w' : World} {S : Nat → Prop} {b : Frame} {a : Act} {td : List Item} {cs : List Frame}
    (hb1 : b.fn = c.top.K) (hd : a.defers = []) (hst : Stack M cs0 ρ H w S c.rest cs) {m : Machine} (hk : Keeps base.B w w') (hs : Steps P m (lone { b.at a td with mode := .panicking [{ v := pv, recovered := false }] } cs w')) :
    Fin P (bottom c.top.K c.rest) base cs0 post w m r := by
  have hfn := M.fn_ok _ _ hf
  obtain ⟨fr', s1, s2, s3⟩ := raise_world c.top.K ({ b.at a td with mode := .panicking [{ v := pv, recovered := false }] } : Frame) hst hb1 rfl hd ⟨f, by show P.funcs[b.fn]? = some f; rw [hb1]; exact hfn.1⟩ (w' := w')
  exact ⟨fr', w', _, hs.trans s1, s2, s3, hfin.pan pv r w' hr, hk⟩
theorem ret_sound (hfin : FinOk fin base S0 post) {c : Cfg} {f : Func} {F : Cfg → Option R} {r : R} (hr : (retSt M fin c f).run F = some r) (hF : ∀ c', F c' = some r → Sound M base S0 cs0 post c' r)
    (hf : M.fn c.top.K = some f) {ρ : Loc} {w : World} {S : Nat → Prop} {b : Frame} {a : Act} {td : List Item} {cs : List Frame} (hI : I w) (hg : Low g base S0) (hh : HRel base S0 ρ c.H w S) (he : PRels ρ c.H w S c.top.env a.tmps.toList)
    (hb1 : b.fn = c.top.K) (hb2 : b.kind = .normal) (hd : a.defers = []) (hst : Stack M cs0 ρ c.H w S c.rest cs) :
    Fin P (bottom c.top.K c.rest) base cs0 post w (lone { b.at a td with mode := .returning } cs w) r := by
  unfold retSt at hr
  cases hps : resultsP P f c.top.env c.H with
  | none => rw [hps] at hr; cases hr
  | some ps =>
    rw [hps] at hr
    obtain ⟨v, hv1, hv2⟩ := results_run hh he hps
    have hfn := M.fn_ok _ _ hf
    have hleave : ({ b.at a td with mode := .returning } : Frame).leaving P w (.returned v) := ⟨rfl, hd, hb2, f, by show P.funcs[b.fn]? = some f; rw [hb1]; exact hfn.1, hv1⟩
    cases hrest : c.rest with
    | nil =>
      rw [hrest] at hr hst
      cases hst
      simp only at hr
      cases hfi : fin.ret ps c.H with
      | none => rw [hfi] at hr; cases hr
      | some r' =>
        rw [hfi] at hr
        simp only [St.run, Option.some.injEq] at hr
        subst hr
        exact ⟨_, w, _, Steps.refl _ _, hb1, hleave, hfin.ret ps c.H r' ρ w S v hfi hh hv2, Keeps.refl _ _⟩
    | cons fr rest =>
      rw [hrest] at hr hst
      cases hst with
      | @cons _ conc _ cs' hwait hst' =>
        obtain ⟨b', a', ops, id, k, i, o, f', body, e1, e2, e3, e4, e5, e6, e7, e8, e9, e10, e11⟩ := hwait.is
        subst e1
        simp only [e5, e8, e6, e7, e9, St.run] at hr
        have hstep := step_leave_returned (P := P) (c := b'.at a' (.inRegion ops (List.range' i (ops.size - i)) :: k)) (cs := cs') hleave
        have hlt : i < ops.size := (Array.getElem?_eq_some_iff.1 e9).1
        rw [range'_cons hlt, Frame.finish_at, e9] at hstep
        rw [range'_cons hlt]
        have hS := (hF _ hr).plain e11 ρ w S b' (a'.put o.dst v) (.inRegion ops (List.range' (i + 1) (ops.size - (i + 1))) :: k) cs' hI hg hh (putP_rel e10 hv2 o.dst)
          ⟨e2, e3, (put_defers' _ _ _).trans e4, f', body, .region id ops false, k, e5, e6, e7, id, ops, false, rfl, by rw [e11]; exact ⟨rfl, rfl⟩⟩ hst'
        exact Fin.steps (.one hstep) hS
def AfterQ (P : Program) (body : Code) (b : Frame) (a : Act) (cs : List Frame) (w : World) (k : List Item) (q : Option (List Nat)) : Prop :=
  match q with
  | some q => ∃ c' k' td, todoAt body q [] = some (c', k') ∧ Head c' k' td ∧ Steps P (lone (b.at a k) cs w) (lone (b.at a td) cs w)
  | none => Steps P (lone (b.at a k) cs w) (lone (b.at a []) cs w)
theorem afterQ {body : Code} {p : List Nat} {c : Code} {k : List Item} (h : todoAt body p [] = some (c, k)) (b : Frame) (a : Act) (cs : List Frame) (w : World) : AfterQ P body b a cs w k (after body p) := by
  have := after_steps (P := P) (b := b) (a := a) (cs := cs) (w := w) body p [] h
  unfold AfterQ
  cases hq : after body p with
  | some q => rw [hq] at this; exact this
  | none => rw [hq] at this; exact this
theorem goOn_sound (hfin : FinOk fin base S0 post) {c : Cfg} {f : Func} {F : Cfg → Option R} {r : R} {q : Option (List Nat)} (hr : (goOn M fin c f q).run F = some r) (hF : ∀ c', F c' = some r → Sound M base S0 cs0 post c' r)
    (hf : M.fn c.top.K = some f) {body : Code} (hb : f.body = some body) {ρ : Loc} {w : World} {S : Nat → Prop} {b : Frame} {a : Act} {k : List Item} {cs : List Frame} (hI : I w) (hg : Low g base S0) (hh : HRel base S0 ρ c.H w S) (he : PRels ρ c.H w S c.top.env a.tmps.toList)
    (hb1 : b.fn = c.top.K) (hb2 : b.kind = .normal) (hd : a.defers = []) (hst : Stack M cs0 ρ c.H w S c.rest cs)
    (hq : AfterQ P body b a cs w k q) :
    Fin P (bottom c.top.K c.rest) base cs0 post w (lone (b.at a k) cs w) r := by
  cases q with
  | some q =>
    obtain ⟨c', k', td, h1, h2, h3⟩ : ∃ c' k' td, todoAt body q [] = some (c', k') ∧ Head c' k' td ∧ Steps P (lone (b.at a k) cs w) (lone (b.at a td) cs w) := hq
    simp only [goOn, St.run] at hr
    exact Fin.steps h3 (Sound.at c q hI hg hh he hb1 hb2 hd hf hb h1 h2 hst (hF _ hr))
  | none =>
    simp only [goOn] at hr
    have hq' : Steps P (lone (b.at a k) cs w) (lone (b.at a []) cs w) := hq
    refine Fin.steps (hq'.trans (.one step_end)) (ret_sound hfin hr hF hf hI hg hh he hb1 hb2 hd hst)
theorem opstep_sound {c : Cfg} {f : Func} {body : Code} {id : Nat} {ops : Array Oper} {draw : Bool} {k : List Item} {i : Nat} {o : Oper} {p : PV} {H' : Heap} {ft : Ft} {r : R} (hf : M.fn c.top.K = some f) (hb : f.body = some body)
    (ht : todoAt body c.top.path [] = some (.region id ops draw, k)) (hix : c.top.ix = some i) (hs : OpStep M ops i c.top.env c.H (putP c.top.env o.dst p) H' ft)
    (h : Sound M base S0 cs0 post (adv c i o.dst p H' ft) r) : Sound M base S0 cs0 post c r := by
  intro ρ w S b a todo cs hI hg hh he hst hstack htr
  obtain ⟨hb1, hb2, hd, f', body', code, k', e1, e2, e3, e4⟩ := hst
  rw [hf] at e1; cases e1
  rw [hb] at e2; cases e2
  rw [ht] at e3; cases e3
  rw [hix] at e4
  obtain ⟨id', ops', draw', e5, e6⟩ := e4
  cases e5
  have hlt : i < ops.size := by
    obtain ⟨oo, _, ho, _⟩ := hs
    exact (Array.getElem?_eq_some_iff.1 ho).1
  cases hstart : c.top.start with
  | none =>
    rw [hstart] at e6
    obtain ⟨rfl, rfl⟩ := e6
    have eH : c.H0 = c.H := by simp [Cfg.H0, hstart]
    have eE : c.env0 = c.top.env := by simp [Cfg.env0, hstart]
    rw [eH] at hh he hstack
    rw [eE] at he
    have hwp := opstep_wp (M := M) (Q := fun _ _ _ => False) (K := fun a' w' => ∃ ρ' S', I w' ∧ HRel base S0 ρ' H' w' S' ∧ Ext base ρ c.H w S ρ' H' w' S' ∧ PRels ρ' H' w' S' (putP c.top.env o.dst p) a'.tmps.toList ∧ a'.defers = a.defers)
      hg hI hh he hs (fun ρ' w' S' a' h1 h2 h3 h4 h5 => ⟨ρ', S', h1, h2, h3, h4, h5⟩)
    rw [range'_cons hlt]
    obtain ⟨a', w', ⟨ρ', S', h1, h2, h3, h4, h5⟩, hsteps⟩ := wpOp_steps hwp b (rest := List.range' (i + 1) (ops.size - (i + 1))) k cs
    refine Fin.steps hsteps (Fin.world h3.below ?_)
    have hsn : (adv c i o.dst p H' ft).top.start = none := hstart
    exact h.plain hsn ρ' w' S' b a' _ cs h1 hg h2 h4 ⟨hb1, hb2, h5.trans hd, f, body, .region id ops false, k, hf, hb, ht, id, ops, false, rfl, by rw [hsn]; exact ⟨rfl, rfl⟩⟩ (hstack.ext h3)
  | some s =>
    obtain ⟨e, h0⟩ := s
    rw [hstart] at e6
    obtain ⟨rfl, rfl⟩ := e6
    have hsn : (adv c i o.dst p H' ft).top.start = some (e, h0) := hstart
    have eH : (adv c i o.dst p H' ft).H0 = c.H0 := by simp [Cfg.H0, hsn, hstart]
    have eE : (adv c i o.dst p H' ft).env0 = c.env0 := by simp [Cfg.env0, hsn, hstart]
    refine h ρ w S b a _ cs hI hg (eH ▸ hh) (by rw [eH, eE]; exact he) ⟨hb1, hb2, hd, f, body, .region id ops true, k, hf, hb, ht, id, ops, true, rfl, by rw [hsn]; exact ⟨rfl, rfl⟩⟩ (by rw [eH]; exact hstack) ?_
    simp only [Traced, hsn]
    intro f2 body2 id2 ops2 draw2 k2 i2 q1 q2 q3 q4
    have q1' : M.fn c.top.K = some f2 := q1
    rw [hf] at q1'; cases q1'
    rw [hb] at q2; cases q2
    have q3' : todoAt body c.top.path [] = _ := q3
    rw [ht] at q3'; cases q3'
    have q4' : some (i + 1) = some i2 := q4
    cases q4'
    simp only [Traced, hstart] at htr
    obtain ⟨t1, t2⟩ := htr f body id ops true k i hf hb ht hix
    have hfeet : (adv c i o.dst p H' ft).top.feet = c.top.feet ++ [(i, ft)] := by simp [adv, hstart]
    rw [hfeet]
    refine ⟨t1.snoc hs, ?_⟩
    rw [List.map_append, t2, List.range_succ]
    rfl
end
end Go.Proofs.YtjdjlijjolibkaaDoor.V
/- The pure machine, part q: each step is sound; so is what it comes to. -/
namespace Go.Proofs.YtjdjlijjolibkaaDoor.V
open Go.RowKit
section
variable {P : Program} {I : World → Prop} {g : Nat} {M : Mach P I g} {R : Type} {fin : Fins R}
variable {base : Base} {S0 : Nat → Prop} {cs0 : List Frame} {post : World → Ending → R → Prop}
theorem step_scope' {b : Frame} {a : Act} {c : Code} {k : List Item} {cs : List Frame} {w : World} : Go.step P (lone (b.at a (.code (.scope c) :: k)) cs w) = .next (lone (b.at a (.code c :: .inScope c :: k)) cs w) :=
  step_lone_go (by simp [stepG, stepG.exec, Frame.at])
theorem enter_step {ops : Array Oper} {i : Nat} {rest : List Nat} {o : Oper} {a : Act} {w : World} {K : Nat} {vs : Array Value} (ho : ops[i]? = some o) (hw : Region.wanted o (yielded ops a.tmps) = true)
    (hr : (execOp a.eval o).run P w = .ok (.enter K vs) w) (b : Frame) (k : List Item) (cs : List Frame) :
    Go.step P (lone (b.at a (.inRegion ops (i :: rest) :: k)) cs w) = .next (lone (Frame.enter P K vs .normal) (b.at a (.inRegion ops (i :: rest) :: k) :: cs) w) := by
  have hg := stepG_op (P := P) (b := b) (k := k) (cs := cs) (w := w) (rest := rest) ho hw
  exact step_lone_go (by rw [hg]; simp [stepG.apply, hr, Frame.at])
theorem PRels.replicate {ρ : Loc} {H : Heap} {w : World} {S : Nat → Prop} (n : Nat) : PRels ρ H w S (List.replicate n nothing) (List.replicate n undef) := by
  induction n with
  | zero => exact rfl
  | succ n ih => exact ⟨undef, _, List.replicate_succ, rfl, ih⟩
theorem St.run_bind {α : Type} {o : Option α} {k : α → St R} {F : Cfg → Option R} {r : R} (h : (St.bind o k).run F = some r) : ∃ y, o = some y ∧ (k y).run F = some r := by
  cases o with
  | none => cases h
  | some y => exact ⟨y, rfl, h⟩
theorem wanted_bool {ops : Array Oper} {o : Oper} {env : List PV} {j : Nat} {want x : Bool} {d : Tmp} (hgd : o.guard = some (j, want)) (hd0 : (ops[j]?).bind (·.dst) = some d) (hx : env.getD d .junk = .val (.bool x)) : Wanted ops o env (x == want) := by
  unfold Wanted
  rw [hgd]
  simp only [hd0, hx]
theorem wanted_none {ops : Array Oper} {o : Oper} {env : List PV} {j : Nat} {want : Bool} (hgd : o.guard = some (j, want)) (hd0 : (ops[j]?).bind (·.dst) = none) : Wanted ops o env false := by
  unfold Wanted
  rw [hgd]
  simp only [hd0]
theorem wanted_undef {ops : Array Oper} {o : Oper} {env : List PV} {j : Nat} {want : Bool} {d : Tmp} {us : Array Value} (hgd : o.guard = some (j, want)) (hd0 : (ops[j]?).bind (·.dst) = some d) (hx : env.getD d .junk = .val (.tuple us)) : Wanted ops o env false := by
  unfold Wanted
  rw [hgd]
  simp only [hd0, hx]
theorem extP_some {K : Nat} {args : List PV} {p : PV} (h : extP M K args = some p) : args = [p] ∧ M.ext K = true := by
  unfold extP at h
  split at h
  · cases he : M.ext K with
    | false => rw [he] at h; cases h
    | true => rw [he] at h; cases h; exact ⟨rfl, rfl⟩
  · cases h
theorem splitSt_run {f : Nat → St R} {i : Int} {F : Cfg → Option R} {r : R} : ∀ (n c : Nat), (splitSt f i c n).run F = some r → ∃ m : Nat, m < c + n ∧ i = m ∧ (f m).run F = some r
  | 0, _, h => by cases h
  | n + 1, c, h => by
    simp only [splitSt, St.run] at h
    by_cases e : i = c
    · simp only [e, decide_true, cond_true] at h
      exact ⟨c, by omega, e, h⟩
    · simp only [e, decide_false, cond_false] at h
      obtain ⟨m, h1, h2, h3⟩ := splitSt_run n (c + 1) h
      exact ⟨m, by omega, h2, h3⟩
theorem closedV_rel {ρ : Loc} {H : Heap} {w : World} {S : Nat → Prop} {p : PV} {u v : Value} (h : closedV p = some u) (hp : PRel ρ H w S p v) : v = u := by
  cases p with
  | val x => simp only [closedV, Option.some.injEq] at h; subst h; simpa only [PRel] using hp
  | agg ps =>
    simp only [closedV] at h
    cases hv : valsOf ps with
    | none => rw [hv] at h; cases h
    | some l =>
      rw [hv] at h
      simp only [Option.map_some, Option.some.injEq] at h
      subst h
      simp only [PRel] at hp
      obtain ⟨us, rfl, hu⟩ := hp
      have := valsOf_rel hv hu
      rw [← this]
  | _ => cases h
theorem panic_run (hg : Low g base S0) {w : World} (hI : I w) {ρ : Loc} {H : Heap} {S : Nat → Prop} (hh : HRel base S0 ρ H w S) {o : Oper} {env : List PV} {a : Act} {pv : Value} (he : PRels ρ H w S env a.tmps.toList) (hp : panicOf o (evalP M.gl env) = some pv) :
    (execOp a.eval o).run P w = .halt (.panic pv) w := by
  obtain ⟨dst, op, ty, pos, aft, gd⟩ := o
  unfold panicOf at hp
  split at hp
  · rename_i x hop
    simp only at hop
    subst hop
    split at hp
    · rename_i T p hx
      have hr := evalP_rel M hg hI hh he x
      rw [hx] at hr
      simp only [PRel] at hr
      obtain ⟨u, hu, hpu⟩ := hr
      cases hc : closedV p with
      | none => rw [hc] at hp; cases hp
      | some u' =>
        rw [hc] at hp
        simp only [Option.map_some, Option.some.injEq] at hp
        subst hp
        have := closedV_rel hc hpu
        subst this
        simp only [execOp, hu]
        rfl
    · cases hp
  · cases hp
theorem pan_now (hfin : FinOk fin base S0 post) {c : Cfg} {f : Func} {body : Code} {id : Nat} {ops : Array Oper} {draw : Bool} {k : List Item} {i : Nat} {r : R} {pv : Value} (hf : M.fn c.top.K = some f) (hb : f.body = some body)
    (ht : todoAt body c.top.path [] = some (.region id ops draw, k)) (hix : c.top.ix = some i) (hstart : c.top.start = none) (hlt : i < ops.size) (hr : fin.pan pv = some r)
    (hp : ∀ (ρ : Loc) (w : World) (S : Nat → Prop) (a : Act), I w → Low g base S0 → HRel base S0 ρ c.H w S → PRels ρ c.H w S c.top.env a.tmps.toList →
      wpOp P ops (fun e a' w' => e = .panic [{ v := pv, recovered := false }] ∧ a'.defers = a.defers ∧ Keeps base.B w w') i (fun _ _ => False) a w) : Sound M base S0 cs0 post c r := by
  intro ρ w S b a todo cs hI hg hh he hst hstack htr
  obtain ⟨hb1, hb2, hd, f', body', code, k', e1, e2, e3, e4⟩ := hst
  rw [hf] at e1; cases e1
  rw [hb] at e2; cases e2
  rw [ht] at e3; cases e3
  rw [hix] at e4
  obtain ⟨id', ops', draw', e5, e6⟩ := e4
  cases e5
  rw [hstart] at e6
  obtain ⟨rfl, rfl⟩ := e6
  have eH : c.H0 = c.H := by simp [Cfg.H0, hstart]
  have eE : c.env0 = c.top.env := by simp [Cfg.env0, hstart]
  rw [eH] at hh he hstack
  rw [eE] at he
  have hwp := hp ρ w S a hI hg hh he
  rw [range'_cons hlt]
  have hops : wpOps P ops (fun e a' w' => e = .panic [{ v := pv, recovered := false }] ∧ a'.defers = a.defers ∧ Keeps base.B w w') (i :: List.range' (i + 1) (ops.size - (i + 1))) a w := by
    rw [wpOps_cons]
    exact wpOp_mono (fun _ _ h => h.elim) hwp
  obtain ⟨e, a', w', ⟨rfl, hd', hk⟩, harr⟩ := wp_ops _ a w hops b k cs
  obtain ⟨td, hsteps⟩ := harr
  exact pan_fin hfin hr hf hb1 (hd'.trans hd) hstack hk hsteps
theorem sortedB_pairwise : ∀ {l : List Nat}, sortedB l = true → l.Pairwise (· < ·)
  | [], _ => .nil
  | x :: l, h => by
    simp only [sortedB, Bool.and_eq_true, List.all_eq_true, decide_eq_true_eq] at h
    exact .cons h.1 (sortedB_pairwise h.2)
theorem OpTrace.append {l1 l2 : List (Nat × Ft)} {env H env1 H1 env2 H2} {ops : Array Oper} (h : OpTrace M ops l1 env H env1 H1) (k : OpTrace M ops l2 env1 H1 env2 H2) : OpTrace M ops (l1 ++ l2) env H env2 H2 := by
  induction h with
  | nil => exact k
  | cons h1 _ ih => exact .cons h1 (ih k)
theorem late_trace {ops : Array Oper} {i : Nat} {look : List Tmp} : ∀ {n j : Nat} {env : List PV} {H : Heap} {l : List (Nat × Ft)}, late M ops i look n j env H = some l →
    ∃ envF, OpTrace M ops l env H envF H ∧ ∀ t ∈ look, envF.getD t .junk = env.getD t .junk
  | 0, _, env, H, l, h => by simp only [late, Option.some.injEq] at h; subst h; exact ⟨env, .nil, fun _ _ => rfl⟩
  | n + 1, j, env, H, l, h => by
    simp only [late] at h
    split at h
    · simp only [Option.some.injEq] at h; subst h; exact ⟨env, .nil, fun _ _ => rfl⟩
    · rename_i o ho
      cases hdep : depB ops 4 j i with
      | true => rw [hdep] at h; exact late_trace h
      | false =>
        rw [hdep] at h
        simp only [cond_false] at h
        split at h
        · rename_i p hgd hcp hop
          cases hl : seenB look o.dst with
          | true => rw [hl] at h; cases h
          | false =>
            rw [hl] at h
            simp only [cond_false] at h
            cases hrec : late M ops i look n (j + 1) (putP env o.dst p) H with
            | none => rw [hrec] at h; cases h
            | some l' =>
              rw [hrec] at h
              simp only [Option.map_some, Option.some.injEq] at h
              subst h
              obtain ⟨envF, ht, hk⟩ := late_trace hrec
              have hx : (keepE p).heap H = H := by simp [keepE, Eff.heap, setAll]
              refine ⟨envF, .cons ⟨o, keepE p, ho, OpAct.op (by simp [Wanted, hgd]) (by rw [hop]; rfl), rfl, hx.symm⟩ ht, fun t htl => (hk t htl).trans (putP_getD fun d hd e => ?_)⟩
              rw [hd] at hl
              subst e
              have : look.contains d = true := by simpa using htl
              simp only [seenB, this] at hl
              cases hl
        · cases h
theorem badSt_sound (hfin : FinOk fin base S0 post) {c : Cfg} {f : Func} {body : Code} {id : Nat} {ops : Array Oper} {draw : Bool} {k : List Item} {i : Nat} {o : Oper} {r : R} {F : Cfg → Option R} {ft : Ft} {pv : Value} {env' : List PV} {H' : Heap} (hf : M.fn c.top.K = some f) (hb : f.body = some body)
    (ht : todoAt body c.top.path [] = some (.region id ops draw, k)) (hix : c.top.ix = some i) (ho : ops[i]? = some o) (hs : OpStepB M ops i c.top.env c.H env' H' ft (some pv))
    (hr : (badSt M fin c ops o i ft pv).run F = some r) : Sound M base S0 cs0 post c r := by
  have hlt : i < ops.size := (Array.getElem?_eq_some_iff.1 ho).1
  have hpan : ∀ {x : St R}, x = finPan fin pv → x.run F = some r → fin.pan pv = some r := by
    rintro _ rfl h
    unfold finPan at h
    split at h
    · rename_i r' hr'
      simp only [St.run, Option.some.injEq] at h
      subst h; exact hr'
    · cases h
  unfold badSt at hr
  cases hstart : c.top.start with
  | none =>
    rw [hstart] at hr
    exact pan_now hfin hf hb ht hix hstart hlt (hpan rfl hr) (fun ρ w S a hI hg hh he => oppan_wp hg hI hh he hs (fun w' hk => ⟨rfl, rfl, hk⟩))
  | some st =>
    rw [hstart] at hr
    simp only at hr
    split at hr
    rotate_left
    · cases hr
    rename_i l hl
    cases hok : panOk ops (c.top.feet ++ l) i ft with
    | false => rw [hok] at hr; cases hr
    | true =>
      rw [hok] at hr
      have hpanr := hpan rfl hr
      obtain ⟨e0, h0⟩ := st
      intro ρ w S b a todo cs hI hg hh he hst hstack htr
      obtain ⟨hb1, hb2, hd, f', body', code, k', e1, e2, e3, e4⟩ := hst
      rw [hf] at e1; cases e1
      rw [hb] at e2; cases e2
      rw [ht] at e3; cases e3
      rw [hix] at e4
      obtain ⟨id', ops', draw', e5, e6⟩ := e4
      cases e5
      rw [hstart] at e6
      obtain ⟨rfl, rfl⟩ := e6
      have eH : c.H0 = h0 := by simp [Cfg.H0, hstart]
      have eE : c.env0 = e0 := by simp [Cfg.env0, hstart]
      rw [eH] at hh he hstack
      rw [eE] at he
      simp only [Traced, hstart] at htr
      obtain ⟨t1, _⟩ := htr f body id ops true k i hf hb ht hix
      obtain ⟨envF, t2, hlook⟩ := late_trace hl
      have t3 := t1.append t2
      obtain ⟨oo, ee, ho2, ha, _, _⟩ := hs
      rw [ho] at ho2; cases ho2
      have hs' : OpStepB M ops i envF c.H _ _ ft (some pv) := ⟨o, ee, ho, ha.local hlook (fun _ _ => rfl) (.inl rfl), rfl, rfl⟩
      simp only [panOk, Bool.and_eq_true, decide_eq_true_eq] at hok
      obtain ⟨⟨⟨⟨⟨hel, hfine⟩, hsort⟩, hall⟩, hcov⟩, hsz⟩ := hok
      simp only [List.all_eq_true, Bool.and_eq_true, bne_iff_ne, ne_eq, Bool.or_eq_true, beq_iff_eq, List.any_eq_true, List.mem_range, decide_eq_true_eq] at hall hcov
      have hdr : HRel base S0 ρ h0 w.drew S := hh.drew
      have hIw : I w.drew := M.keep _ _ g (Nat.le_refl _) ((Below.refl _ _).drew) hI
      have hrep : ∀ j, (Array.replicate ops.size false).getD j true = false ↔ j < ops.size := by
        intro j
        by_cases hj : j < ops.size
        · simp [hj]
        · simp [hj]
      have hany := trace_pan (M := M) (base := base) (S0 := S0) hel hg (Q := fun e a' w' => e = .panic [{ v := pv, recovered := false }] ∧ a'.defers = a.defers ∧ Keeps base.B w w') ho
        (ops.size - 1) (c.top.feet ++ l) (Array.replicate ops.size false) ρ e0 h0 w.drew S a envF c.H _ _
        (by omega) (by simp)
        (fun j hj => by
          obtain ⟨x, hx, rfl⟩ := List.mem_map.mp hj
          exact (hrep x.1).mpr (hall x hx).1.2)
        (fun j hj => by
          rcases hcov j ((hrep j).mp hj) with (⟨x, hx, rfl⟩ | h) | h
          · exact .inl (List.mem_map.mpr ⟨x, hx, rfl⟩)
          · exact .inr (.inl h)
          · exact .inr (.inr h))
        ((hrep i).mpr hlt)
        (fun hm => by
          obtain ⟨x, hx, e⟩ := List.mem_map.mp hm
          exact (hall x hx).1.1 e)
        (sortedB_pairwise hsort)
        (fun c1 o1 _ hl => by
          have hl' : (Array.replicate ops.size false).getD c1 false = true := hl
          by_cases hj : c1 < ops.size
          · simp [hj] at hl'
          · simp [hj] at hl')
        hfine
        (fun x hx => by
          rcases (hall x hx).2 with h | h
          · exact .inl (freeB_free h)
          · exact .inr h)
        hIw hdr ((Ext.drew hh).rels he) t3 hs'
        (fun w' a' q1 q2 => ⟨rfl, q2, (Ext.drew hh).below.trans q1⟩)
      rw [show ops.size - 1 + 1 = ops.size by omega] at hany
      have hwp := wp_region_any (id := id) M.mixed hany
      obtain ⟨e, a', w', ⟨rfl, hd', hk⟩, harr⟩ := hwp b k cs
      obtain ⟨td, hsteps⟩ := harr
      exact pan_fin hfin hpanr hf hb1 (hd'.trans hd) hstack hk hsteps
theorem execSt_sound (hfin : FinOk fin base S0 post) {c : Cfg} {f : Func} {body : Code} {id : Nat} {ops : Array Oper} {draw : Bool} {k : List Item} {i : Nat} {o : Oper} {r : R} {F : Cfg → Option R} (hf : M.fn c.top.K = some f) (hb : f.body = some body)
    (ht : todoAt body c.top.path [] = some (.region id ops draw, k)) (hix : c.top.ix = some i) (ho : ops[i]? = some o) (hw : Wanted ops o c.top.env true)
    (hr : (execSt M fin c ops o i).run F = some r) (hF : ∀ c', F c' = some r → Sound M base S0 cs0 post c' r) : Sound M base S0 cs0 post c r := by
  unfold execSt at hr
  split at hr
  · rename_i K args hcp
    split at hr
    · rename_i f0 hfd
      obtain ⟨hmem, hmt⟩ := hfind_ok hfd
      obtain ⟨y, hy, ⟨pv, hbad, hr⟩ | ⟨hbad, hr⟩⟩ := f0.c.elim_is _ _ _ _ _ hr
      · exact badSt_sound hfin hf hb ht hix ho ⟨o, _, ho, OpAct.pcall hw hcp hmem hmt hy hbad, rfl, rfl⟩ hr
      · exact opstep_sound hf hb ht hix ⟨o, _, ho, OpAct.hcall hw hcp hmem hmt hy hbad, rfl, rfl⟩ (hF _ hr)
    split at hr
    · rename_i cn hcon
      split at hr
      · rename_i x hx
        obtain ⟨y, hy, hr⟩ := St.run_bind hr
        exact opstep_sound hf hb ht hix ⟨o, _, ho, OpAct.ocall hw hcp hcon hx hy, rfl, rfl⟩ (hF _ hr)
      · cases hr
    split at hr
    · rename_i cn hcon
      split at hr
      · rename_i x hx
        obtain ⟨y, hy, hr⟩ := St.run_bind hr
        exact opstep_sound hf hb ht hix ⟨o, _, ho, OpAct.call hw hcp hcon hx hy, rfl, rfl⟩ (hF _ hr)
      · cases hr
    · split at hr
      · rename_i p hext
        obtain ⟨rfl, hext2⟩ := extP_some hext
        simp only [St.run] at hr
        exact opstep_sound hf hb ht hix ⟨o, _, ho, OpAct.ext hw hcp hext2, rfl, rfl⟩ (hF _ hr)
      split at hr
      · cases hr
      · rename_i hstart
        split at hr
        · rename_i fK hfK
          simp only [St.run] at hr
          intro ρ w S b a todo cs hI hg hh he hst hstack htr
          obtain ⟨hb1, hb2, hd, f', body', code, k', e1, e2, e3, e4⟩ := hst
          rw [hf] at e1; cases e1
          rw [hb] at e2; cases e2
          rw [ht] at e3; cases e3
          rw [hix] at e4
          obtain ⟨id', ops', draw', e5, e6⟩ := e4
          cases e5
          rw [hstart] at e6
          obtain ⟨rfl, rfl⟩ := e6
          have eH : c.H0 = c.H := by simp [Cfg.H0, hstart]
          have eE : c.env0 = c.top.env := by simp [Cfg.env0, hstart]
          rw [eH] at hh he hstack
          rw [eE] at he
          have hlt : i < ops.size := (Array.getElem?_eq_some_iff.1 ho).1
          obtain ⟨hfn1, hfn2, hfn3⟩ := M.fn_ok _ _ hfK
          obtain ⟨vs, hrun, hargs⟩ := call_run hg hI hh he hcp ⟨fK, hfn1, hfn2, hfn3⟩
          obtain ⟨bodyK, hbK⟩ := Option.isSome_iff_exists.mp hfn3
          have hstep := enter_step (rest := List.range' (i + 1) (ops.size - (i + 1))) ho (wanted_conc he hw) hrun b k cs
          have henter : Frame.enter P K vs .normal =
              ({ (default : Frame) with fn := K, kind := .normal } : Frame).at { tmps := vs ++ Array.replicate (fK.ntmps - vs.size) undef, defers := [] } [.code bodyK] := by
            simp [Frame.enter, Frame.at, hfn1, hbK]
          rw [henter] at hstep
          rw [range'_cons hlt]
          refine Fin.steps (.one hstep) ?_
          have hlen : args.length = vs.size := by simpa using hargs.length
          refine (hF _ hr).plain rfl ρ w S _ _ _ _ hI hg hh ?_ ⟨rfl, rfl, rfl, fK, bodyK, bodyK, [], hfK, hbK, rfl, rfl, .inl rfl⟩ (.cons ⟨b, a, ops, id, k, i, o, f, body, ?_, hb1, hb2, hd, hf, hb, ht, rfl, ho, he, hstart⟩ hstack)
          · have : (vs ++ Array.replicate (fK.ntmps - vs.size) undef).toList = vs.toList ++ List.replicate (fK.ntmps - args.length) undef := by simp [hlen]
            simp only [this]
            exact hargs.append (PRels.replicate _)
          · rw [range'_cons hlt]
        · cases hr
  · split at hr
    · -- a panic
      rename_i pv hpv
      split at hr
      rotate_left
      · cases hr
      rename_i hstart
      have hlt : i < ops.size := (Array.getElem?_eq_some_iff.1 ho).1
      have hpan : fin.pan pv = some r := by
        unfold finPan at hr
        split at hr
        · rename_i r' hr'
          simp only [St.run, Option.some.injEq] at hr
          subst hr; exact hr'
        · cases hr
      refine pan_now hfin hf hb ht hix hstart hlt hpan (fun ρ w S a hI hg hh he => ?_)
      unfold wpOp
      simp only [ho]
      rw [wanted_conc he hw]
      simp only [if_true]
      left
      unfold Oper.wp
      rw [panic_run hg hI hh he hpv]
      exact ⟨rfl, rfl, Keeps.refl _ _⟩
    split at hr
    · rename_i b p q hop
      split at hr
      rotate_left
      · cases hr
      rename_i x y z hopp
      have hxyz : evalP M.gl c.top.env x = .val (.bool b) ∧ p = evalP M.gl c.top.env y ∧ q = evalP M.gl c.top.env z := by
        unfold opP at hop
        rw [hopp] at hop
        simp only at hop
        split at hop
        · rename_i t ht
          simp only [OpR.pick.injEq] at hop
          obtain ⟨rfl, rfl, rfl⟩ := hop
          exact ⟨ht, rfl, rfl⟩
        · cases hop
      obtain ⟨hx, rfl, rfl⟩ := hxyz
      simp only [St.run] at hr
      have act : ∀ t : PV, t = (if b then evalP M.gl c.top.env y else evalP M.gl c.top.env z) → OpStep M ops i c.top.env c.H (putP c.top.env o.dst t) (setAll c.H [] ++ []) ((keepE t).ft (readsOf o (evalP M.gl c.top.env)) c.H) := by
        rintro t rfl
        exact ⟨o, keepE (if b then evalP M.gl c.top.env y else evalP M.gl c.top.env z), ho, OpAct.op hw (by rw [hop]; rfl), rfl, rfl⟩
      cases b with
      | true =>
        rw [Cfg.refO_eq hx] at hr
        exact opstep_sound hf hb ht hix (act _ rfl) (hF _ hr)
      | false =>
        rw [Cfg.refO_eq hx] at hr
        exact opstep_sound hf hb ht hix (act _ rfl) (hF _ hr)
    · rename_i j n f hop
      obtain ⟨m, hlt, rfl, hr2⟩ := splitSt_run n 0 hr
      refine opstep_sound hf hb ht hix ⟨o, keepE (f m), ho, OpAct.op hw (by rw [hop]; simp only [OpR.eff]; rw [decide_eq_true (by omega)]; rfl), rfl, rfl⟩ (hF _ hr2)
    · split at hr
      · rename_i b e heff
        simp only [St.run] at hr
        cases b with
        | false => simp at hr
        | true =>
          simp only [cond_true] at hr
          exact opstep_sound hf hb ht hix ⟨o, e, ho, OpAct.op hw heff, rfl, rfl⟩ (hF _ hr)
      · cases hr
theorem opSt_sound (hfin : FinOk fin base S0 post) {c : Cfg} {f : Func} {body : Code} {id : Nat} {ops : Array Oper} {draw : Bool} {k : List Item} {i : Nat} {r : R} {F : Cfg → Option R} (hf : M.fn c.top.K = some f) (hb : f.body = some body)
    (ht : todoAt body c.top.path [] = some (.region id ops draw, k)) (hix : c.top.ix = some i)
    (hr : (opSt M fin c f body ops draw i).run F = some r) (hF : ∀ c', F c' = some r → Sound M base S0 cs0 post c' r) : Sound M base S0 cs0 post c r := by
  unfold opSt at hr
  split at hr
  · -- the region's end
    rename_i hnone
    have hge : ops.size ≤ i := by
      rcases Nat.lt_or_ge i ops.size with h | h
      · simp [h] at hnone
      · exact h
    intro ρ w S b a todo cs hI hg hh he hst hstack htr
    obtain ⟨hb1, hb2, hd, f', body', code, k', e1, e2, e3, e4⟩ := hst
    rw [hf] at e1; cases e1
    rw [hb] at e2; cases e2
    rw [ht] at e3; cases e3
    rw [hix] at e4
    obtain ⟨id', ops', draw', e5, e6⟩ := e4
    cases e5
    split at hr
    · rename_i hstart
      rw [hstart] at e6
      obtain ⟨_, rfl⟩ := e6
      have eH : c.H0 = c.H := by simp [Cfg.H0, hstart]
      have eE : c.env0 = c.top.env := by simp [Cfg.env0, hstart]
      rw [eH] at hh he hstack
      rw [eE] at he
      have hemp : List.range' i (ops.size - i) = [] := by rw [show ops.size - i = 0 by omega]; rfl
      rw [hemp]
      exact Fin.steps (.one step_region_end) (goOn_sound hfin hr hF hf hb hI hg hh he hb1 hb2 hd hstack (afterQ ht _ _ _ _))
    · rename_i st hstart
      obtain ⟨e0, h0⟩ := st
      rw [hstart] at e6
      obtain ⟨_, rfl⟩ := e6
      have eH : c.H0 = h0 := by simp [Cfg.H0, hstart]
      have eE : c.env0 = e0 := by simp [Cfg.env0, hstart]
      rw [eH] at hh he hstack
      rw [eE] at he
      split at hr
      · rename_i hcond
        simp only [Bool.and_eq_true, decide_eq_true_eq] at hcond
        obtain ⟨⟨hfine, hedge⟩, hisz⟩ := hcond
        simp only [Traced, hstart] at htr
        obtain ⟨t1, t2⟩ := htr f body id ops true k i hf hb ht hix
        have hdr : HRel base S0 ρ h0 w.drew S := hh.drew
        have hIw : I w.drew := M.keep _ _ g (Nat.le_refl _) ((Below.refl _ _).drew) hI
        have hany := trace_any (M := M) (base := base) (S0 := S0) hedge hg (Q := fun e a' w' => e = .normal ∧ ∃ ρ' S', I w' ∧ HRel base S0 ρ' c.H w' S' ∧ Ext base ρ h0 w S ρ' c.H w' S' ∧ PRels ρ' c.H w' S' c.top.env a'.tmps.toList ∧ a'.defers = a.defers)
          ops.size c.top.feet (Array.replicate ops.size false) ρ e0 h0 w.drew S a
          (by have := congrArg List.length t2; simp at this; omega) (by simp)
          (fun j => by
            rw [t2, List.mem_range, hisz]
            by_cases hj : j < ops.size
            · simp [hj]
            · simp [hj])
          (by rw [t2]; exact List.pairwise_lt_range)
          (fun c1 o1 _ hl => by
            have hl' : (Array.replicate ops.size false).getD c1 false = true := hl
            by_cases hj : c1 < ops.size
            · simp [hj] at hl'
            · simp [hj] at hl')
          hfine hIw hdr ((Ext.drew hh).rels he) t1
          (fun ρ' w' S' a' q1 q2 q3 q4 q5 => ⟨rfl, ρ', S', q1, q2, (Ext.drew hh).trans q3, q4, q5⟩)
        have hwp := wp_region_any (id := id) M.mixed hany
        obtain ⟨e, a', w', ⟨rfl, ρ', S', q1, q2, q3, q4, q5⟩, harr⟩ := hwp b k cs
        exact Fin.steps harr (Fin.world q3.below (goOn_sound hfin hr hF hf hb q1 hg q2 q4 hb1 hb2 (q5.trans hd) (hstack.ext q3) (afterQ ht _ _ _ _)))
      · cases hr
    · cases hr
  · rename_i o ho
    have skip : (Wanted ops o c.top.env false) → (F (adv c i o.dst nothing (setAll c.H [] ++ []) ⟨[], [], []⟩) = some r) → Sound M base S0 cs0 post c r :=
      fun hw hk => opstep_sound hf hb ht hix ⟨o, keepE nothing, ho, OpAct.skip hw, rfl, rfl⟩ (hF _ hk)
    split at hr
    · rename_i hgd
      exact execSt_sound hfin hf hb ht hix ho (by simp [Wanted, hgd]) hr hF
    · rename_i j want hgd
      split at hr
      · rename_i hd0
        exact skip (wanted_none hgd hd0) hr
      · rename_i d hd0
        split at hr
        · rename_i x hx
          cases want with
          | true =>
            simp only [St.run] at hr
            cases x with
            | true => rw [Cfg.ref_eq hx] at hr; exact execSt_sound hfin hf hb ht hix ho (wanted_bool hgd hd0 hx) hr hF
            | false => rw [Cfg.ref_eq hx] at hr; exact skip (wanted_bool hgd hd0 hx) hr
          | false =>
            simp only [St.run] at hr
            cases x with
            | true => rw [Cfg.ref_eq hx] at hr; exact skip (wanted_bool hgd hd0 hx) hr
            | false => rw [Cfg.ref_eq hx] at hr; exact execSt_sound hfin hf hb ht hix ho (wanted_bool hgd hd0 hx) hr hF
        · rename_i us hx
          exact skip (wanted_undef hgd hd0 hx) hr
        · cases hr
theorem step_sound (hfin : FinOk fin base S0 post) {c : Cfg} {r : R} {F : Cfg → Option R} (hr : (stepA M fin c).run F = some r) (hF : ∀ c', F c' = some r → Sound M base S0 cs0 post c' r) : Sound M base S0 cs0 post c r := by
  unfold stepA at hr
  split at hr
  · cases hr
  · rename_i f hf
    split at hr
    · cases hr
    · rename_i body hb
      split at hr
      · cases hr
      · rename_i code k ht
        split at hr
        · rename_i i hix
          split at hr
          · rename_i id ops draw
            exact opSt_sound hfin hf hb ht hix hr hF
          · cases hr
        · rename_i hix
          intro ρ w S b a todo cs hI hg hh he hst hstack htr
          obtain ⟨hb1, hb2, hd, f', body', code', k', e1, e2, e3, e4⟩ := hst
          rw [hf] at e1; cases e1
          rw [hb] at e2; cases e2
          rw [ht] at e3; cases e3
          rw [hix] at e4
          obtain ⟨hstart, hhead⟩ := e4
          have eH : c.H0 = c.H := by simp [Cfg.H0, hstart]
          have eE : c.env0 = c.top.env := by simp [Cfg.env0, hstart]
          rw [eH] at hh he hstack
          rw [eE] at he
          have aft : ∀ (a : Act) (w : World), AfterQ P body b a cs w k (after body c.top.path) := fun a w => afterQ ht b a cs w
          have down : ∀ (d : Nat), todoAt body (c.top.path ++ [d]) [] = todoAt code [d] k := fun d => todoAt_down body c.top.path [] d ht
          split at hr
          · -- skip
            rcases hhead with rfl | ⟨d, hd', _⟩
            · exact Fin.steps (.one step_skip) (goOn_sound hfin hr hF hf hb hI hg hh he hb1 hb2 hd hstack (aft a w))
            · cases hd'
          · rcases hhead with rfl | ⟨d, hd', _⟩
            · exact Fin.steps (.one step_label) (goOn_sound hfin hr hF hf hb hI hg hh he hb1 hb2 hd hstack (aft a w))
            · cases hd'
          · -- seq
            rcases hhead with rfl | ⟨d, hd', _⟩
            · exact Fin.steps (.one step_seq) (Sound.at c _ hI hg hh he hb1 hb2 hd hf hb (down 0) (.inl rfl) hstack (hF _ hr))
            · cases hd'
          · -- block
            rcases hhead with rfl | ⟨d, hd', _⟩
            · exact Fin.steps (.one step_block) (Sound.at c _ hI hg hh he hb1 hb2 hd hf hb (down 0) (.inl rfl) hstack (hF _ hr))
            · cases hd'
          · -- loop
            rcases hhead with rfl | ⟨d, hd', rfl⟩
            · exact Fin.steps (.one step_loop) (Sound.at c _ hI hg hh he hb1 hb2 hd hf hb (down 0) (.inl rfl) hstack (hF _ hr))
            · cases hd'
              exact Fin.steps (.one step_inLoop) (Sound.at c _ hI hg hh he hb1 hb2 hd hf hb (down 0) (.inl rfl) hstack (hF _ hr))
          · -- scope
            rcases hhead with rfl | ⟨d, hd', _⟩
            · exact Fin.steps (.one step_scope') (Sound.at c _ hI hg hh he hb1 hb2 hd hf hb (down 0) (.inl rfl) hstack (hF _ hr))
            · cases hd'
          · -- cond
            rename_i x y z
            rcases hhead with rfl | ⟨d, hd', _⟩
            · split at hr
              · rename_i t hx
                have hv := evalP_rel M hg hI hh he x
                rw [hx] at hv
                simp only [PRel] at hv
                simp only [St.run] at hr
                refine Fin.steps (.one (step_cond hv)) ?_
                cases t with
                | true => rw [Cfg.refO_eq hx] at hr; exact Sound.at c _ hI hg hh he hb1 hb2 hd hf hb (down 0) (.inl rfl) hstack (hF _ hr)
                | false => rw [Cfg.refO_eq hx] at hr; exact Sound.at c _ hI hg hh he hb1 hb2 hd hf hb (down 1) (.inl rfl) hstack (hF _ hr)
              · cases hr
            · cases hd'
          · -- exit
            rename_i id
            rcases hhead with rfl | ⟨d, hd', _⟩
            · have hex := exit_steps (P := P) (b := b) (a := a) (cs := cs) (w := w) id body c.top.path [] ht
              split at hr
              · rename_i q hq
                rw [hq] at hex
                cases q with
                | some q =>
                  obtain ⟨kx, c', k', td, h1, h2, h3, h4⟩ := hex
                  exact Fin.steps (.one (step_exit h1)) (goOn_sound hfin hr hF hf hb hI hg hh he hb1 hb2 hd hstack ⟨c', k', td, h2, h3, h4⟩)
                | none =>
                  obtain ⟨kx, h1, h2⟩ := hex
                  exact Fin.steps (.one (step_exit h1)) (goOn_sound hfin hr hF hf hb hI hg hh he hb1 hb2 hd hstack h2)
              · cases hr
            · cases hd'
          · -- ret
            rcases hhead with rfl | ⟨d, hd', _⟩
            · exact Fin.steps (.one step_ret) (ret_sound hfin hr hF hf hI hg hh he hb1 hb2 hd hstack)
            · cases hd'
          · -- region
            rename_i id ops draw
            rcases hhead with rfl | ⟨d, hd', _⟩
            · simp only [St.run] at hr
              have hS := hF _ hr
              cases draw with
              | false =>
                refine Fin.steps (.one step_region) ?_
                refine hS.plain rfl ρ w S b a _ cs hI hg hh he ⟨hb1, hb2, hd, f, body, .region id ops false, k, hf, hb, ht, id, ops, false, rfl, rfl, ?_⟩ hstack
                rw [List.range_eq_range']
                rfl
              | true =>
                refine hS ρ w S b a _ cs hI hg hh he ⟨hb1, hb2, hd, f, body, .region id ops true, k, hf, hb, ht, id, ops, true, rfl, rfl, rfl⟩ hstack ?_
                simp only [Traced, if_true]
                intro f2 body2 id2 ops2 draw2 k2 i2 q1 q2 q3 q4
                cases q4
                exact ⟨.nil, rfl⟩
            · cases hd'
          · cases hr
theorem runA_sound (hfin : FinOk fin base S0 post) {X : Cfg → Option (Option R)} {r : R} (hX : ∀ c, X c = some (some r) → Sound M base S0 cs0 post c r) : ∀ (n : Nat) (c : Cfg), runA M fin X n c = some r → Sound M base S0 cs0 post c r
  | 0, _, h => by cases h
  | n + 1, c, h => by
    refine step_sound hfin h (fun c' hc' => ?_)
    split at hc'
    · rename_i o ho; exact hX c' (by rw [ho, hc'])
    · exact runA_sound hfin hX n c' hc'
end
end Go.Proofs.YtjdjlijjolibkaaDoor.V
/- The pure machine, part r: a contract out of a run. -/
namespace Go.Proofs.YtjdjlijjolibkaaDoor.V
open Go.RowKit
section
variable {P : Program} {I : World → Prop} {g : Nat} {M : Mach P I g}
def finP (c : Con) : Fins (denL c.results) := ⟨fun ps H => decArgs c.results ps H, fun _ => none⟩
def Ret {R : Type} (p : World → Value → R → Prop) (w : World) (e : Ending) (r : R) : Prop := ∃ v, e = .returned v ∧ p w v r
def startP (K ntmps : Nat) (ps : List PV) : Cfg := ⟨⟨K, [], none, ps ++ List.replicate (ntmps - ps.length) nothing, none, []⟩, [], []⟩
theorem pvsOf_length : ∀ (ts : List Ty) (x : denL ts), (pvsOf ts x).length = ts.length
  | [], _ => rfl
  | _ :: ts, x => by simp [pvsOf, pvsOf_length ts]
def Base.all (w : World) : Base := ⟨fun b => b < w.heap.size, 0, fun _ => none, []⟩
theorem Keeps.all {w w' : World} (h : Keeps (Base.all w).B w w') : Below w.heap.size w w' := h.below fun _ hb => hb
theorem HRel.empty {w : World} {S : Nat → Prop} (hS : ∀ b, S b → b < w.heap.size) : HRel (Base.all w) S (fun _ => none) [] w S :=
  ⟨⟨fun _ h => h, Nat.zero_le _, fun _ h => absurd h (Nat.not_lt_zero _), fun _ h => absurd h (Nat.not_lt_zero _), fun _ h => absurd h (Nat.not_lt_zero _)⟩, hS, fun blk => ⟨fun h => .inl h, fun h => by
      rcases h with h | ⟨b, o, n, h1, _⟩
      · exact h
      · have := at_lt h1; simp at this⟩,
    fun b o blk n h1 _ => by have := at_lt h1; simp at this, fun b b' o o' blk n n' h1 _ _ _ => by have := at_lt h1; simp at this, fun b o h1 => by have := at_lt h1; simp at this⟩
theorem finP_ok (c : Con) (base : Base) (S0 : Nat → Prop) : FinOk (finP c) base S0 (Ret fun w v r => RepRes w S0 c.results r v) := by
  refine ⟨fun ps H r ρ w S v hf hh hv => ⟨v, rfl, ?_⟩, fun v r w h => by cases h⟩
  obtain ⟨S1, f1, f2⟩ := frzH_rel (idsOf c.results ps) hh
  have hS : ∀ b, b < w.heap.size → S0 b → S1 b := fun b _ h => (f1.own b).mpr (.inl h)
  unfold finP at hf
  obtain ⟨params, results, F⟩ := c
  simp only at hf f1 f2 r ⊢
  have list : ∀ vs, PRels ρ H w S ps vs → RepVs w S0 results r vs := fun vs hvs =>
    (decArgs_rel f1 (fun b hb => hb) hf (f2.rels hvs)).mono (Same.refl _ _) (fun b hb h => hS b hb h)
  unfold RepRes
  split
  · rename_i t r
    cases ps with
    | nil => simp [decArgs] at hf
    | cons p qs => cases qs with
      | nil =>
        obtain ⟨u, us, e, h1, h2⟩ := list [v] ⟨v, [], rfl, hv, rfl⟩
        simp at e
        obtain ⟨rfl, rfl⟩ := e
        exact h1
      | cons q qs =>
        simp only [decArgs] at hf
        (repeat' split at hf) <;> first | cases hf | skip
        all_goals (rename_i h; simp at h)
  · rename_i r hne
    have tup : ∃ us, v = .tuple us ∧ PRels ρ H w S ps us.toList := by
      cases ps with
      | nil => exact hv
      | cons p qs => cases qs with
        | nil =>
          exfalso
          cases results with
          | nil => simp [decArgs] at hf
          | cons t ts => cases ts with
            | nil => exact hne t r rfl HEq.rfl
            | cons t2 ts =>
              simp only [decArgs] at hf
              (repeat' split at hf) <;> first | cases hf | skip
              all_goals (rename_i h; simp [decArgs] at h)
        | cons q qs => exact hv
    obtain ⟨us, rfl, h1⟩ := tup
    exact ⟨us, rfl, list _ h1⟩
theorem RepVs.length {w : World} {S : Nat → Prop} : ∀ {ts : List Ty} {x : denL ts} {vs : List Value}, RepVs w S ts x vs → vs.length = ts.length
  | [], _, _, h => by obtain rfl := h; rfl
  | _ :: _, _, _, h => by obtain ⟨u, us, rfl, _, h2⟩ := h; simp [RepVs.length h2]
theorem comes_of_steps {m m' : Machine} {e : Ending} (h : Steps P m m') (he : e ≠ .outgrown) : Comes P m m' e := by
  cases e with
  | outgrown => exact absurd rfl he
  | _ => exact h
theorem call_sound {R : Type} {post : Base → (Nat → Prop) → World → Ending → R → Prop} {y : R} {ts : List Ty} {x : denL ts} (hret : ∀ b S w e, post b S w e y → e ≠ .outgrown) (hgI : ∀ w, I w → g ≤ w.heap.size) {K : Nat} {f : Func} (hf : M.fn K = some f)
    (h : ∀ base S0 cs0, base.n = 0 → Sound M base S0 cs0 (post base S0) (startP K f.ntmps (pvsOf ts x)) y) (w : World) (S : Nat → Prop) (args : Array Value) (hI : I w) (hS : ∀ b, S b → g ≤ b ∧ b < w.heap.size) (hargs : RepVs w S ts x args.toList) :
    Calls P K args w fun e w' => post (Base.all w) S w' e y ∧ Below w.heap.size w w' := by
  intro cs
  obtain ⟨hfn, _, hbody⟩ := M.fn_ok _ _ hf
  obtain ⟨body, hb⟩ := Option.isSome_iff_exists.mp hbody
  have henter : Frame.enter P K args .normal = ({ (default : Frame) with fn := K, kind := .normal } : Frame).at { tmps := args ++ Array.replicate (f.ntmps - args.size) undef, defers := [] } [.code body] := by
    simp [Frame.enter, Frame.at, hfn, hb]
  have hlen : (pvsOf ts x).length = args.size := by rw [pvsOf_length]; have := hargs.length; simp at this; omega
  have := h (Base.all w) S cs rfl (fun _ => none) w S ({ (default : Frame) with fn := K, kind := .normal } : Frame) { tmps := args ++ Array.replicate (f.ntmps - args.size) undef, defers := [] } [.code body] cs hI ⟨fun b hb => Nat.lt_of_lt_of_le hb (hgI w hI), fun b hb => (hS b hb).1⟩ (HRel.empty fun b hb => (hS b hb).2)
    (by
      have e : (args ++ Array.replicate (f.ntmps - args.size) undef).toList = args.toList ++ List.replicate (f.ntmps - (pvsOf ts x).length) undef := by simp [hlen]
      simp only [e]
      exact (pvsOf_rel hargs).append (PRels.replicate _))
    ⟨rfl, rfl, rfl, f, body, body, [], hf, hb, rfl, rfl, .inl rfl⟩ .nil trivial
  obtain ⟨fr, w', e, h1, h2, h3, h4, h5⟩ := this
  refine ⟨e, w', fr, ⟨h4, h5.all⟩, ?_, h2, h3⟩
  rw [henter]
  exact comes_of_steps h1 (hret _ _ _ _ h4)
theorem con_sound (hgI : ∀ w, I w → g ≤ w.heap.size) {K : Nat} {c : Con} {f : Func} (hf : M.fn K = some f)
    (h : ∀ x y, c.F x = some y → ∀ base S0 cs0, base.n = 0 → Sound M base S0 cs0 (Ret fun w v r => RepRes w S0 c.results r v) (startP K f.ntmps (pvsOf c.params x)) y) : c.Sound P I g K :=
  fun x y hxy w S args hI hS hargs => (call_sound (post := fun _ S0 => Ret fun w v r => RepRes w S0 c.results r v) (fun _ _ _ _ h => by obtain ⟨v, rfl, _⟩ := h; simp) hgI hf (fun base S0 cs0 hn => h x y hxy base S0 cs0 hn) w S args hI hS hargs).mono fun e w' h => by
    obtain ⟨⟨v, e1, e2⟩, e3⟩ := h
    exact ⟨v, e1, e2, e3⟩
def finO (t : Ty) : Fins (List t.den) := ⟨fun ps H => match ps with
  | [.all b] => match H.at? b with
    | some (.row _ m) => castL m
    | _ => none
  | [.val (.slice none 0 0)] => some []
  | [.sl b 0 k] => match H.at? b with
    | some (.row _ m) => (castL m).map fun l => l.take k
    | _ => none
  | _ => none, fun _ => none⟩
def OPost (t : Ty) (base : Base) (S0 : Nat → Prop) : World → Ending → List t.den → Prop := Ret fun w v r => OwnRow base.B w S0 t r v
theorem finO_ok (t : Ty) (base : Base) (S0 : Nat → Prop) : FinOk (finO t) base S0 (OPost t base S0) := by
  refine ⟨fun ps H r ρ w S v hf hh hv => ⟨v, rfl, ?_⟩, fun v r w h => by cases h⟩
  simp only [finO] at hf
  split at hf
  · rename_i b
    split at hf
    · rename_i t' m ho
      obtain ⟨rfl, rfl⟩ := castL_some hf
      have hv : PRel ρ H w S (.all b) v := hv
      simp only [PRel] at hv
      rcases hv.2 _ ho rfl with ⟨blk, n, cap, hr, rfl, hle, hn⟩ | ⟨h0, rfl⟩
      · rcases hh.block _ _ ho with ⟨blk', arr, elem, fz, h1, h2, h3, h4, h5⟩ | ⟨h1, _⟩
        · rw [hr] at h1; cases h1
          exact .inr ⟨blk, arr, elem, fz, cap, S, rfl, hle, hn, (hh.from_ b _ _ _ ho hr).1, h2, h3, fun b hb => (hh.own b).mpr (.inl hb), (hh.own blk).mpr (.inr ⟨b, _, _, ho, rfl, hr⟩), h4, h5⟩
        · rw [hr] at h1; cases h1
      · exact .inl ⟨List.length_eq_zero_iff.mp h0, rfl⟩
    · cases hf
  · cases hf
    have hv : PRel ρ H w S (.val (.slice none 0 0)) v := hv
    simp only [PRel] at hv
    exact .inl ⟨rfl, hv⟩
  · rename_i b k
    split at hf
    · rename_i t' m ho
      obtain ⟨l, hl, rfl⟩ := Option.map_eq_some_iff.mp hf
      obtain ⟨rfl, rfl⟩ := castL_some hl
      have hv : PRel ρ H w S (.sl b 0 k) v := hv
      simp only [PRel] at hv
      obtain ⟨hk, ⟨blk, n, cap, hr, rfl, hle, hn⟩ | ⟨h0, a, rfl, ha⟩⟩ := hv.2 _ ho rfl
      · have hk' : k ≤ l.length := by simpa [AO.len] using hk
        rcases hh.block _ _ ho with ⟨blk', arr, elem, fz, h1, h2, h3, h4, h5⟩ | ⟨h1, _⟩
        · rw [hr] at h1; cases h1
          have hlen : (l.take k).length = k := by simp; omega
          refine .inr ⟨blk, arr, elem, fz, cap, S, by rw [hlen]; simp, by rw [hlen]; exact hle, by simpa [AO.elemSize] using hn, (hh.from_ b _ _ _ ho hr).1, h2, h3, fun b hb => (hh.own b).mpr (.inl hb), (hh.own blk).mpr (.inr ⟨b, _, _, ho, rfl, hr⟩), fun i hi => ?_, h5⟩
          obtain ⟨vs, g1, g2⟩ := h4 i (by omega)
          exact ⟨vs, by rw [List.getElem_take]; exact g1, g2⟩
        · rw [hr] at h1; cases h1
      · subst h0
        rw [ha trivial]
        exact .inl ⟨by simp, rfl⟩
    · cases hf
  · cases hf
theorem ocon_sound (hgI : ∀ w, I w → g ≤ w.heap.size) {K : Nat} {c : OCon} {f : Func} (hf : M.fn K = some f)
    (h : ∀ x y, c.F x = some y → ∀ base S0 cs0, base.n = 0 → Sound M base S0 cs0 (OPost c.t base S0) (startP K f.ntmps (pvsOf c.params x)) y) : c.Sound P I g K :=
  fun x y hxy w S args hI hS hargs => (call_sound (post := fun base S0 => OPost c.t base S0) (fun _ _ _ _ h => by obtain ⟨v, rfl, _⟩ := h; simp) hgI hf (fun base S0 cs0 hn => h x y hxy base S0 cs0 hn) w S args hI hS hargs).mono fun e w' h => by
    obtain ⟨⟨v, e1, e2⟩, e3⟩ := h
    exact ⟨v, e1, e2, e3⟩
end
end Go.Proofs.YtjdjlijjolibkaaDoor.V
/- The pure machine, part s: the run with its state kept in normal form (the same run; quicker to reckon). -/
namespace Go.Proofs.YtjdjlijjolibkaaDoor.V
open Go.RowKit
universe u
section
variable {α : Type u}
def kInt (i : IntKind) (k : IntKind → α) : α := match i with
  | .i8 => k .i8 | .i16 => k .i16 | .i32 => k .i32 | .i64 => k .i64 | .u8 => k .u8 | .u16 => k .u16 | .u32 => k .u32 | .u64 => k .u64
def kVal (v : Value) (k : Value → α) : α := match v with
  | .int i n => kInt i fun i => k (.int i n)
  | .bool b => k (.bool b)
  | .string s => k (.string s)
  | .tuple us => k (.tuple us)
  | v => k v
def kBool (b : Bool) (k : Bool → α) : α := match b with
  | true => k true
  | false => k false
theorem kInt_eq (i : IntKind) (k : IntKind → α) : kInt i k = k i := by cases i <;> rfl
theorem kVal_eq (v : Value) (k : Value → α) : kVal v k = k v := by cases v <;> simp only [kVal, kInt_eq]
theorem kBool_eq (b : Bool) (k : Bool → α) : kBool b k = k b := by cases b <;> rfl
def kNat (tbl : List Nat) (n : Nat) (k : Nat → α) : α := match tbl with
  | [] => k n
  | t :: tbl => bif Nat.beq n t then k t else kNat tbl n k
termination_by structural tbl
theorem kNat_eq : ∀ (tbl : List Nat) (n : Nat) (k : Nat → α), kNat tbl n k = k n
  | [], _, _ => rfl
  | t :: tbl, n, k => by
    rw [kNat]
    cases h : Nat.beq n t with
    | true => simp [Nat.eq_of_beq_eq_true h]
    | false => exact kNat_eq tbl n k
def small : List Nat := [0, 1, 2, 3, 4, 5, 6, 7, 8, 9, 10, 11, 12, 13, 14, 15, 16, 17, 18, 19, 20, 21, 22, 23, 24, 25, 26, 27, 28, 29, 30, 31, 32, 33, 34, 35, 36, 37, 38, 39, 40]
mutual
def kPV (p : PV) (k : PV → α) : α := match p with
  | .val v => kVal v fun v => k (.val v)
  | .rows t l c => kBool c fun c => k (.rows t l c)
  | .sl b off len => kNat small b fun b => k (.sl b off len)
  | .all b => kNat small b fun b => k (.all b)
  | .cs b off len sz => kNat small b fun b => k (.cs b off len sz)
  | .ptr b off => kNat small b fun b => kNat small off fun off => k (.ptr b off)
  | .rptr b i j => kNat small b fun b => kNat small j fun j => k (.rptr b i j)
  | .pin t x j => k (.pin t x j)
  | .func fn f c => kPVs f fun f => kPVs c fun c => k (.func fn f c)
  | .iface t x => kPV x fun x => k (.iface t x)
  | .agg cs => kPVs cs fun cs => k (.agg cs)
  | .tuple vs => kPVs vs fun vs => k (.tuple vs)
  | .emp => k .emp
  | .junk => k .junk
  | .tab t l => k (.tab t l)
  | .head b => kNat small b fun b => k (.head b)
  | .nos b off => kNat small b fun b => kNat small off fun off => k (.nos b off)
termination_by structural p
def kPVs (ps : List PV) (k : List PV → α) : α := match ps with
  | [] => k []
  | p :: ps => kPV p fun p => kPVs ps fun ps => k (p :: ps)
termination_by structural ps
end
mutual
theorem kPV_eq : ∀ (p : PV) (k : PV → α), kPV p k = k p
  | .val v, k => kVal_eq v _
  | .rows t l c, k => kBool_eq c _
  | .sl b off len, k => kNat_eq _ _ _
  | .all b, k => kNat_eq _ _ _
  | .cs b off len sz, k => kNat_eq _ _ _
  | .ptr b off, k => by rw [kPV, kNat_eq, kNat_eq]
  | .rptr b i j, k => by rw [kPV, kNat_eq, kNat_eq]
  | .pin t x j, k => rfl
  | .func fn f c, k => by rw [kPV, kPVs_eq f, kPVs_eq c]
  | .iface t x, k => by rw [kPV, kPV_eq x]
  | .agg cs, k => by rw [kPV, kPVs_eq cs]
  | .tuple vs, k => by rw [kPV, kPVs_eq vs]
  | .emp, k => rfl
  | .junk, k => rfl
  | .tab t l, k => rfl
  | .head b, k => by rw [kPV, kNat_eq]
  | .nos b off, k => by rw [kPV, kNat_eq, kNat_eq]
theorem kPVs_eq : ∀ (ps : List PV) (k : List PV → α), kPVs ps k = k ps
  | [], k => rfl
  | p :: ps, k => by rw [kPVs, kPV_eq p, kPVs_eq ps]
end
def kAO (o : Option AO) (k : Option AO → α) : α := match o with
  | none => k none
  | some (.cells e cs) => kPVs cs fun cs => k (some (.cells e cs))
  | some (.row t l) => k (some (.row t l))
  | some (.fro t l) => k (some (.fro t l))
  | some .res => k (some .res)
theorem kAO_eq (o : Option AO) (k : Option AO → α) : kAO o k = k o := by
  cases o with
  | none => rfl
  | some o => cases o <;> first | rfl | exact kPVs_eq _ _
def kHeap (H : Heap) (k : Heap → α) : α := match H with
  | [] => k []
  | o :: H => kAO o fun o => kHeap H fun H => k (o :: H)
termination_by structural H
theorem kHeap_eq : ∀ (H : Heap) (k : Heap → α), kHeap H k = k H
  | [], _ => rfl
  | o :: H, k => by rw [kHeap, kAO_eq, kHeap_eq H]
def kList {β : Type} (l : List β) (k : List β → α) : α := match l with
  | [] => k []
  | x :: l => kList l fun l => k (x :: l)
termination_by structural l
theorem kList_eq {β : Type} : ∀ (l : List β) (k : List β → α), kList l k = k l
  | [], _ => rfl
  | x :: l, k => by rw [kList, kList_eq l]
def kFt (x : Nat × Ft) (k : Nat × Ft → α) : α := match x with
  | (i, ⟨r, w, n⟩) => kList r fun r => kList w fun w => kList n fun n => k (i, ⟨r, w, n⟩)
theorem kFt_eq (x : Nat × Ft) (k : Nat × Ft → α) : kFt x k = k x := by
  obtain ⟨i, r, w, n⟩ := x
  simp only [kFt, kList_eq]
def kFts (l : List (Nat × Ft)) (k : List (Nat × Ft) → α) : α := match l with
  | [] => k []
  | x :: l => kFt x fun x => kFts l fun l => k (x :: l)
termination_by structural l
theorem kFts_eq : ∀ (l : List (Nat × Ft)) (k : List (Nat × Ft) → α), kFts l k = k l
  | [], _ => rfl
  | x :: l, k => by rw [kFts, kFt_eq, kFts_eq l]
def kFr (Ks : List Nat) (f : Fr) (k : Fr → α) : α := match f with
  | ⟨K, path, ix, env, start, feet⟩ => kNat Ks K fun K => kList path fun path => kPVs env fun env => kFts feet fun feet => match ix with
    | none => match start with
      | none => k ⟨K, path, none, env, none, feet⟩
      | some (e, h) => k ⟨K, path, none, env, some (e, h), feet⟩
    | some i => kNat small i fun i => match start with
      | none => k ⟨K, path, some i, env, none, feet⟩
      | some (e, h) => k ⟨K, path, some i, env, some (e, h), feet⟩
theorem kFr_eq (Ks : List Nat) (f : Fr) (k : Fr → α) : kFr Ks f k = k f := by
  obtain ⟨K, path, ix, env, start, feet⟩ := f
  simp only [kFr, kNat_eq, kList_eq, kPVs_eq, kFts_eq]
  cases ix <;> cases start <;> rfl
def kFrs (Ks : List Nat) (l : List Fr) (k : List Fr → α) : α := match l with
  | [] => k []
  | x :: l => kFr Ks x fun x => kFrs Ks l fun l => k (x :: l)
termination_by structural l
theorem kFrs_eq (Ks : List Nat) : ∀ (l : List Fr) (k : List Fr → α), kFrs Ks l k = k l
  | [], _ => rfl
  | x :: l, k => by rw [kFrs, kFr_eq, kFrs_eq Ks l]
def kCfg (Ks : List Nat) (c : Cfg) (k : Cfg → α) : α := match c with
  | ⟨top, rest, H⟩ => kFr Ks top fun top => kFrs Ks rest fun rest => kHeap H fun H => k ⟨top, rest, H⟩
theorem kCfg_eq (Ks : List Nat) (c : Cfg) (k : Cfg → α) : kCfg Ks c k = k c := by
  obtain ⟨top, rest, H⟩ := c
  simp only [kCfg, kFr_eq, kFrs_eq, kHeap_eq]
end
section
variable {P : Program} {I : World → Prop} {g : Nat} (M : Mach P I g) {R : Type} (fin : Fins R)
noncomputable def runB (Ks : List Nat) (X : Cfg → Option (Option R)) : Nat → Cfg → Option R
  | 0, _ => none
  | n + 1, c => (stepA M fin c).run fun c' => kCfg Ks c' fun c' => match X c' with
    | some o => o
    | none => runB Ks X n c'
theorem runB_eq (Ks : List Nat) (X : Cfg → Option (Option R)) : ∀ (n : Nat) (c : Cfg), runB M fin Ks X n c = runA M fin X n c
  | 0, _ => rfl
  | n + 1, c => by
    simp only [runB, runA, kCfg_eq]
    congr 1
    all_goals (funext c'; rw [runB_eq Ks X n]; try (cases X c' <;> rfl))
end
end Go.Proofs.YtjdjlijjolibkaaDoor.V
/- The pure machine, part v: whole states that are like a pattern; places where a function of Lean tells what it comes to. -/
namespace Go.Proofs.YtjdjlijjolibkaaDoor.V
open Go.RowKit
universe u
structure FPat where
  K : Nat
  path : List Nat
  ix : Option Nat
  env : List Pat
  pad : Nat
structure CPat where
  top : FPat
  rest : List FPat
  H : List HPat
  fix : Nat
@[reducible] def denFs : List FPat → Type
  | [] => Unit
  | f :: fs => denPs f.env × denFs fs
@[reducible] def denC (c : CPat) : Type := denPs c.top.env × denFs c.rest × denBs c.H
def instF (f : FPat) (x : denPs f.env) : Fr := ⟨f.K, f.path, f.ix, insts f.env x ++ List.replicate f.pad .junk, none, []⟩
def instFs : (fs : List FPat) → denFs fs → List Fr
  | [], _ => []
  | f :: fs, x => instF f x.1 :: instFs fs x.2
def instC (c : CPat) (x : denC c) : Cfg := ⟨instF c.top x.1, instFs c.rest x.2.1, instBs c.H x.2.2⟩
def eqNats : List Nat → List Nat → Bool
  | [], [] => true
  | a :: l, b :: m => Nat.beq a b && eqNats l m
  | _, _ => false
def eqIx : Option Nat → Option Nat → Bool
  | none, none => true
  | some a, some b => Nat.beq a b
  | _, _ => false
theorem eqNats_ok : ∀ {l m : List Nat}, eqNats l m = true → l = m
  | [], [], _ => rfl
  | a :: l, b :: m, h => by
    simp only [eqNats, Bool.and_eq_true] at h
    rw [Nat.eq_of_beq_eq_true h.1, eqNats_ok h.2]
  | [], _ :: _, h => by cases h
  | _ :: _, [], h => by cases h
theorem eqIx_ok : ∀ {l m : Option Nat}, eqIx l m = true → l = m
  | none, none, _ => rfl
  | some a, some b, h => by rw [Nat.eq_of_beq_eq_true h]
  | none, some _, h => by cases h
  | some _, none, h => by cases h
def isNoneB {α : Type u} : Option α → Bool
  | none => true
  | some _ => false
def atF (f : FPat) (fr : Fr) : Bool := Nat.beq fr.K f.K && eqNats fr.path f.path && eqIx fr.ix f.ix && isNoneB fr.start && Nat.beq fr.env.length (f.env.length + f.pad)
def atFs : List FPat → List Fr → Bool
  | [], [] => true
  | f :: fs, fr :: frs => atF f fr && atFs fs frs
  | _, _ => false
section
variable {β : Type u} (H : Heap)
def pmsT (ps : List Pat) (vs : List PV) (s : Sig) (k : denPs ps → Sig → Option β) : Option β := match ps, k with
  | [], k => k () s
  | p :: ps, k => match vs with
    | v :: vs => pm H p v s fun x s => pmsT ps vs s fun y s => k (x, y) s
    | [] => none
termination_by structural ps
def pmFs : (fs : List FPat) → List Fr → Sig → (denFs fs → Sig → Option β) → Option β
  | [], _, s, k => k () s
  | f :: fs, frs, s, k => match frs with
    | fr :: frs => pmsT H f.env fr.env s fun x s => pmFs fs frs s fun y s => k (x, y) s
    | [] => none
end
def pmC {β : Type u} (p : CPat) (c : Cfg) (k : denC p → Option β) : Option β :=
  bif atF p.top c.top && atFs p.rest c.rest then
    pmsT c.H p.top.env c.top.env (sig0 p.fix p.H.length) fun x s => pmFs c.H p.rest c.rest s fun y s => pmBs c.H p.H 0 s fun z s => bif s.fine p.H && Nat.ble p.fix p.H.length then k (x, y, z) else none
  else none
theorem isNoneB_ok {α : Type u} {o : Option α} (h : isNoneB o = true) : o = none := by cases o with | none => rfl | some _ => cases h
section
variable {P : Program} {I : World → Prop} {g : Nat} {M : Mach P I g} {R : Type} {fin : Fins R}
variable {base : Base} {S0 : Nat → Prop} {cs0 : List Frame} {post : World → Ending → R → Prop}
variable {ρ : Loc} {H : Heap} {w : World} {S : Nat → Prop} {β : Type u}
theorem Waits.turn {H' : Heap} {ρ' : Loc} {S' : Nat → Prop} {fr fr' : Fr} {conc : Frame} (hK : fr'.K = fr.K) (hp : fr'.path = fr.path) (hi : fr'.ix = fr.ix) (hs : fr'.start = none)
    (he : ∀ us, PRels ρ H w S fr.env us → PRels ρ' H' w S' fr'.env us) (k : Waits M ρ H w S fr conc) : Waits M ρ' H' w S' fr' conc := by
  obtain ⟨b, a, ops, id, kk, i, o, f, body, h1, h2, h3, h4, h5, h6, h7, h8, h9, h10, h11⟩ := k.is
  exact ⟨b, a, ops, id, kk, i, o, f, body, h1, hK ▸ h2, h3, h4, hK ▸ h5, h6, hp ▸ h7, hi ▸ h8, h9, he _ h10, hs⟩
theorem atF_ok {f : FPat} {fr : Fr} (h : atF f fr = true) (x : denPs f.env) : (instF f x).K = fr.K ∧ (instF f x).path = fr.path ∧ (instF f x).ix = fr.ix ∧ fr.start = none := by
  simp only [atF, Bool.and_eq_true] at h
  obtain ⟨⟨⟨⟨h1, h2⟩, h3⟩, h4⟩, _⟩ := h
  exact ⟨(Nat.eq_of_beq_eq_true h1).symm, (eqNats_ok h2).symm, (eqIx_ok h3).symm, isNoneB_ok h4⟩
theorem PRels.junks {ρ : Loc} {H : Heap} {w : World} {S : Nat → Prop} : ∀ (us : List Value) {n : Nat}, us.length = n → PRels ρ H w S (List.replicate n .junk) us
  | [], _, h => by subst h; rfl
  | u :: us, n, h => by
    subst h
    exact ⟨u, us, rfl, trivial, PRels.junks us rfl⟩
theorem pmsT_ok (hh : HRel base S0 ρ H w S) : ∀ (ps : List Pat) (vs : List PV) (s : Sig) (k : denPs ps → Sig → Option β) (y : β) (n : Nat), vs.length = ps.length + n → pmsT H ps vs s k = some y →
    ∃ x s', k x s' = some y ∧ s.le s' ∧ TakesL ρ H w S s' vs (insts ps x ++ List.replicate n .junk)
  | [], vs, s, k, y, n, hl, h => ⟨(), s, h, s.le_refl, fun H' ρ' S' _ us hu => by
      have := hu.length
      exact PRels.junks us (by simp at hl; omega)⟩
  | p :: ps, vs, s, k, y, n, hl, h => by
    cases vs with
    | nil => simp at hl; omega
    | cons v vs =>
      simp only [pmsT] at h
      obtain ⟨x1, s1, h3, l1, t1⟩ := pm_ok hh _ _ _ _ _ h
      obtain ⟨x2, s2, h4, l2, t2⟩ := pmsT_ok hh ps vs s1 _ y n (by simp at hl; omega) h3
      refine ⟨(x1, x2), s2, h4, Sig.le_trans l1 l2, fun H' ρ' S' g us hu => ?_⟩
      simp only [PRels] at hu
      obtain ⟨u, us', rfl, g1, g2⟩ := hu
      exact ⟨u, _, rfl, t1.le l2 H' ρ' S' g u g1, t2 H' ρ' S' g us' g2⟩
theorem atF_len {f : FPat} {fr : Fr} (h : atF f fr = true) : fr.env.length = f.env.length + f.pad := by
  simp only [atF, Bool.and_eq_true] at h
  exact Nat.eq_of_beq_eq_true h.2
theorem pmFs_ok (hh : HRel base S0 ρ H w S) : ∀ (fs : List FPat) (frs : List Fr) (s : Sig) (k : denFs fs → Sig → Option β) (y : β), atFs fs frs = true → pmFs H fs frs s k = some y →
    ∃ x s', k x s' = some y ∧ s.le s' ∧ ∀ sF, s'.le sF → ∀ H' ρ' S', Good sF H ρ w S H' ρ' S' → ∀ cs, Stack M cs0 ρ H w S frs cs → Stack M cs0 ρ' H' w S' (instFs fs x) cs
  | [], frs, s, k, y, ha, h => by
    cases frs with
    | nil => exact ⟨(), s, h, s.le_refl, fun _ _ _ _ _ _ cs hs => by cases hs; exact .nil⟩
    | cons _ _ => cases ha
  | f :: fs, frs, s, k, y, ha, h => by
    cases frs with
    | nil => cases ha
    | cons fr frs =>
      simp only [atFs, Bool.and_eq_true] at ha
      simp only [pmFs] at h
      obtain ⟨x1, s1, h3, l1, t1⟩ := pmsT_ok hh _ _ _ _ _ _ (atF_len ha.1) h
      obtain ⟨x2, s2, h4, l2, t2⟩ := pmFs_ok hh fs frs s1 _ y ha.2 h3
      refine ⟨(x1, x2), s2, h4, Sig.le_trans l1 l2, fun sF hF H' ρ' S' g cs hs => ?_⟩
      cases hs with
      | cons w1 r1 =>
        obtain ⟨e1, e2, e3, e4⟩ := atF_ok ha.1 x1
        exact .cons (w1.turn e1 e2 e3 rfl (t1.le (Sig.le_trans l2 hF) H' ρ' S' g)) (t2 sF hF H' ρ' S' g _ r1)
theorem bottom_eq : ∀ (fs : List FPat) (frs : List Fr) (x : denFs fs) (K : Nat), atFs fs frs = true → bottom K (instFs fs x) = bottom K frs
  | [], [], _, _, _ => rfl
  | f :: fs, fr :: frs, x, K, h => by
    simp only [atFs, Bool.and_eq_true] at h
    obtain ⟨e1, _⟩ := atF_ok h.1 x.1
    simp only [instFs, bottom]
    rw [e1]
    exact bottom_eq fs frs x.2 _ h.2
  | [], _ :: _, _, _, h => by cases h
  | _ :: _, [], _, _, h => by cases h
theorem pmC_ok {p : CPat} {c : Cfg} {k : denC p → Option β} {y : β} {r : R} (hfix : base.n ≤ p.fix) (h : pmC p c k = some y) (hS : ∀ x, k x = some y → Sound M base S0 cs0 post (instC p x) r) : Sound M base S0 cs0 post c r := by
  unfold pmC at h
  obtain ⟨ha, h⟩ := bif_some h
  simp only [Bool.and_eq_true] at ha
  obtain ⟨ha1, ha2⟩ := ha
  have hst : c.top.start = none := by
    simp only [atF, Bool.and_eq_true] at ha1
    exact isNoneB_ok ha1.1.2
  intro ρ w S b a todo cs hI hg hh he hstand hstack htr
  have eH : c.H0 = c.H := by unfold Cfg.H0; rw [hst]
  have eE : c.env0 = c.top.env := by unfold Cfg.env0; rw [hst]
  rw [eH] at hh hstack he
  rw [eE] at he
  obtain ⟨x1, s1, h1, l1, t1⟩ := pmsT_ok hh _ _ _ _ _ _ (atF_len ha1) h
  obtain ⟨x2, s2, h2, l2, t2⟩ := pmFs_ok (M := M) (cs0 := cs0) hh _ _ _ _ _ ha2 h1
  obtain ⟨x3, s3, h3, l3, t3⟩ := pmBs_ok hh _ _ _ _ _ h2
  obtain ⟨hf, h4⟩ := bif_some h3
  simp only [Bool.and_eq_true] at hf
  obtain ⟨hf, hle⟩ := hf
  have hle : p.fix ≤ p.H.length := Nat.le_of_ble_eq_true hle
  have l13 := Sig.le_trans l1 (Sig.le_trans l2 l3)
  obtain ⟨ρ', S', hh', good⟩ := good_of hh (x := x3) (s3 := s3) hfix hle hf (by rw [l13.2.2, sig0_length hle]) (fun c hc => l13.1 _ _ (sig0_at hc))
    (fun i hi => by have := (t3 s3 s3.le_refl i hi).2; rwa [Nat.zero_add] at this)
  let H' := instBs p.H x3
  obtain ⟨e1, e2, e3, e4⟩ := atF_ok ha1 x1
  have hS1 := hS (x1, x2, x3) h4
  have := hS1 ρ' w S' b a todo cs hI hg hh' (t1.le (Sig.le_trans l2 l3) H' ρ' S' good _ he) ?_ (t2 s3 l3 H' ρ' S' good cs hstack) trivial
  · show Fin P (bottom c.top.K c.rest) base cs0 post w (lone (b.at a todo) cs w) r
    have eb : bottom (instC p (x1, x2, x3)).top.K (instC p (x1, x2, x3)).rest = bottom c.top.K c.rest := by
      show bottom (instF p.top x1).K (instFs p.rest x2) = _
      rw [bottom_eq _ _ _ _ ha2, e1]
    rw [eb] at this
    exact this
  · obtain ⟨h1, h2, h3, f, body, code, kk, h5, h6, h7, h8⟩ := hstand
    refine ⟨h1.trans e1.symm, h2, h3, f, body, code, kk, ?_, h6, ?_, ?_⟩
    · show M.fn (instF p.top x1).K = _
      rw [e1]; exact h5
    · show todoAt body (instF p.top x1).path [] = _
      rw [e2]; exact h7
    · show match (instF p.top x1).ix with | none => _ | some i => _
      rw [e3]
      cases hix : c.top.ix with
      | none =>
        rw [hix] at h8
        exact ⟨rfl, h8.2⟩
      | some i =>
        rw [hix, hst] at h8
        exact h8
end
end Go.Proofs.YtjdjlijjolibkaaDoor.V
/- The pure machine, part w: proofs of runs, place by place. -/
namespace Go.Proofs.YtjdjlijjolibkaaDoor.V
open Go.RowKit
def cut {R : Type} (p : CPat) (J : denC p → Option R) (X : Cfg → Option (Option R)) : Cfg → Option (Option R) := fun c =>
  match pmC p c fun x => some (J x) with
  | some o => some o
  | none => X c
def nowhere {R : Type} : Cfg → Option (Option R) := fun _ => none
section
variable {P : Program} {I : World → Prop} {g : Nat} (M : Mach P I g) {R : Type} (fin : Fins R)
variable (base : Base) (S0 : Nat → Prop) (cs0 : List Frame) (post : World → Ending → R → Prop)
def OSound (X : Cfg → Option (Option R)) : Prop := ∀ c r, X c = some (some r) → Sound M base S0 cs0 post c r
def JSound (p : CPat) (J : denC p → Option R) : Prop := ∀ x r, J x = some r → Sound M base S0 cs0 post (instC p x) r
variable {M fin base S0 cs0 post}
theorem OSound.nowhere : OSound M base S0 cs0 post (nowhere (R := R)) := fun _ _ h => by cases h
theorem OSound.cut {X : Cfg → Option (Option R)} (hX : OSound M base S0 cs0 post X) {p : CPat} (hfix : base.n ≤ p.fix) {J : denC p → Option R} (hJ : JSound M base S0 cs0 post p J) : OSound M base S0 cs0 post (cut p J X) := by
  intro c r h
  unfold V.cut at h
  split at h
  · rename_i o ho
    cases h
    exact pmC_ok hfix ho (fun x hx => hJ x r (by simpa using hx))
  · exact hX c r h
theorem run_sound (hfin : FinOk fin base S0 post) {X : Cfg → Option (Option R)} (hX : OSound M base S0 cs0 post X) {Ks : List Nat} {n : Nat} {c : Cfg} {r : R} (h : runB M fin Ks X n c = some r) : Sound M base S0 cs0 post c r :=
  runA_sound hfin (fun c' h' => hX c' r h') n c ((runB_eq M fin Ks X n c).symm.trans h)
theorem JSound.join (hfin : FinOk fin base S0 post) {X : Cfg → Option (Option R)} (hX : OSound M base S0 cs0 post X) (Ks : List Nat) (n : Nat) {p : CPat} {J : denC p → Option R} (h : ∀ x, J x = runB M fin Ks X n (instC p x)) : JSound M base S0 cs0 post p J :=
  fun x _ hx => run_sound hfin hX ((h x).symm.trans hx)
theorem JSound.loop (hfin : FinOk fin base S0 post) {X : Cfg → Option (Option R)} (hX : OSound M base S0 cs0 post X) (Ks : List Nat) (n : Nat) {p : CPat} (hfix : base.n ≤ p.fix) {L : Nat → denC p → Option R} (h0 : ∀ x, L 0 x = none) (hs : ∀ m x, L (m + 1) x = runB M fin Ks (cut p (L m) X) n (instC p x)) :
    ∀ m, JSound M base S0 cs0 post p (L m) := by
  intro m
  induction m with
  | zero => intro x r h; rw [h0] at h; cases h
  | succ m ih => exact JSound.join hfin (hX.cut hfix ih) Ks n (hs m)
theorem JSound.loop' (hfin : FinOk fin base S0 post) (Ks : List Nat) (n : Nat) {p : CPat} {A : Type} (un : A → denC p → Option R) (X' : A → Cfg → Option (Option R)) (hX' : ∀ k, JSound M base S0 cs0 post p (un k) → OSound M base S0 cs0 post (X' k))
    (L : Nat → A) (h0 : ∀ x, un (L 0) x = none) (hs : ∀ m x, un (L (m + 1)) x = runB M fin Ks (X' (L m)) n (instC p x)) : ∀ m, JSound M base S0 cs0 post p (un (L m)) := by
  intro m
  induction m with
  | zero => intro x r h; rw [h0] at h; cases h
  | succ m ih => exact JSound.join hfin (hX' _ ih) Ks n (hs m)
theorem JSound.fuel {p : CPat} {L : Nat → denC p → Option R} (h : ∀ m, JSound M base S0 cs0 post p (L m)) (f : denC p → Nat) : JSound M base S0 cs0 post p (fun x => L (f x) x) := fun x r hx => h (f x) x r hx
end
def finR (rs : List Ty) : Fins (denL rs) := ⟨fun ps H => decArgs rs ps H, fun _ => none⟩
def Post (rs : List Ty) (S0 : Nat → Prop) : World → Ending → denL rs → Prop := Ret fun w v r => RepRes w S0 rs r v
theorem con_run {P : Program} {I : World → Prop} {g : Nat} {M : Mach P I g} (hgI : ∀ w, I w → g ≤ w.heap.size) {K : Nat} {c : Con} {f : Func} (hf : M.fn K = some f) (Ks : List Nat) (n : Nat)
    {X : Cfg → Option (Option (denL c.results))} (hX : ∀ base S0 cs0, base.n = 0 → FinOk (finR c.results) base S0 (Post c.results S0) → OSound M base S0 cs0 (Post c.results S0) X)
    (h : ∀ x, c.F x = runB M (finR c.results) Ks X n (startP K f.ntmps (pvsOf c.params x))) : c.Sound P I g K :=
  con_sound hgI hf fun x _ hxy base S0 cs0 hn => run_sound (finP_ok c base S0) (hX base S0 cs0 hn (finP_ok c base S0)) ((h x).symm.trans hxy)
/-! #### contracts of functions that are given blocks -/
def finH (c : HCon) : Fins c.R := ⟨fun ps H => 
  pms H c.qa ps (sig0 c.pH.length c.qH.length) fun x s => pmBs H c.qH 0 s fun z s => bif s.fine c.qH && Nat.ble c.pH.length c.qH.length then some (c.proj (x, z)) else none, c.pan⟩
def HPost (c : HCon) (base : Base) (S0 : Nat → Prop) (w : World) (e : Ending) (r : c.R) : Prop :=
  (∀ pv, c.bad r = some pv → e = .panicked [{ v := pv, recovered := false }]) ∧ (c.bad r = none → ∃ v ρ' S', e = .returned v ∧ HRel base S0 ρ' (instBs c.qH (c.out r).2) w S' ∧ PRel ρ' (instBs c.qH (c.out r).2) w S' (oneP (insts c.qa (c.out r).1)) v)
theorem pms_len {H : Heap} {β : Type} : ∀ (qs : List Pat) (vs : List PV) (s : Sig) (k : denPs qs → Sig → Option β) (y : β), pms H qs vs s k = some y → qs.length = vs.length
  | [], vs, s, k, y, h => by
    simp only [pms] at h
    split at h
    · rfl
    · cases h
  | q :: qs, vs, s, k, y, h => by
    simp only [pms] at h
    split at h
    · obtain ⟨x1, s1, h3, _⟩ := pm_local _ _ _ _ _ h
      simp [pms_len qs _ _ _ _ h3]
    · cases h
theorem insts_len : ∀ (qs : List Pat) (x : denPs qs), (insts qs x).length = qs.length
  | [], _ => rfl
  | _ :: qs, x => by simp [insts, insts_len qs]
theorem finH_ok (c : HCon) {base : Base} (hn : base.n = c.pH.length) (S0 : Nat → Prop) : FinOk (finH c) base S0 (HPost c base S0) := by
  refine ⟨fun ps H r ρ w S v hf hh hv => ?_, fun v r w h => ⟨fun pv hb => (by rw [c.pan_bad v r h] at hb; cases hb; rfl), fun hb => (by rw [c.pan_bad v r h] at hb; cases hb)⟩⟩
  simp only [finH] at hf
  have hlen := pms_len _ _ _ _ _ hf
  obtain ⟨x1, s1, h1, l1, t1⟩ := pms_ok hh _ _ _ _ _ hf
  obtain ⟨x3, s3, h3, l3, t3⟩ := pmBs_ok hh _ _ _ _ _ h1
  obtain ⟨hchk, hxs⟩ := bif_some h3
  simp only [Option.some.injEq] at hxs
  subst hxs
  simp only [Bool.and_eq_true] at hchk
  obtain ⟨hfine, hle⟩ := hchk
  have hle : c.pH.length ≤ c.qH.length := Nat.le_of_ble_eq_true hle
  have l13 := Sig.le_trans l1 l3
  obtain ⟨ρ', S', hh', good⟩ := good_of hh (x := x3) (s3 := s3) (n0 := c.pH.length) (Nat.le_of_eq hn) hle hfine (by rw [l13.2.2, sig0_length hle]) (fun c hc => l13.1 _ _ (sig0_at hc))
    (fun i hi => by have := (t3 s3 s3.le_refl i hi).2; rwa [Nat.zero_add] at this)
  refine ⟨fun pv hb => (by rw [c.good] at hb; cases hb), fun _ => ?_⟩
  rw [c.out_proj]
  refine ⟨v, ρ', S', rfl, hh', ?_⟩
  have tt : ∀ us, PRels ρ H w S ps us → PRels ρ' (instBs c.qH x3) w S' (insts c.qa x1) us := t1.le l3 _ ρ' S' good
  have hl2 : (insts c.qa x1).length = ps.length := (insts_len _ _).trans hlen
  show PRel ρ' (instBs c.qH x3) w S' (oneP (insts c.qa x1)) v
  match ps, hv, tt, hl2 with
  | [p], hv, tt, hl2 =>
    have := tt [v] ⟨v, [], rfl, hv, rfl⟩
    match hq : insts c.qa x1, hl2 with
    | [q], _ =>
      rw [hq] at this
      simp only [PRels] at this
      obtain ⟨u, us, e, g1, _⟩ := this
      simp at e
      rw [e.1]
      exact g1
  | [], hv, tt, hl2 =>
    match hq : insts c.qa x1, hl2 with
    | [], _ => exact hv
  | p :: q :: ps, hv, tt, hl2 =>
    have hv' : PRel ρ H w S (.tuple (p :: q :: ps)) v := hv
    simp only [PRel] at hv'
    obtain ⟨us, rfl, h⟩ := hv'
    have := tt _ h
    match hq : insts c.qa x1, hl2 with
    | a :: b :: l, _ =>
      rw [hq] at this
      exact ⟨us, rfl, this⟩
def startH (K ntmps : Nat) (ps : List PV) (H : Heap) : Cfg := ⟨⟨K, [], none, ps ++ List.replicate (ntmps - ps.length) nothing, none, []⟩, [], H⟩
theorem hcon_sound {P : Program} {I : World → Prop} {g : Nat} {M : Mach P I g} {K : Nat} {c : HCon} {f : Func} (hf : M.fn K = some f)
    (h : ∀ x r, c.F x = some r → ∀ base S0 cs0, base.n = c.pH.length → Sound M base S0 cs0 (HPost c base S0) (startH K f.ntmps (insts c.pa x.1) (instBs c.pH x.2)) r) : c.Sound P I g K := by
  intro x y hxy B S0 ρ w S args hI hg hh hargs cs
  obtain ⟨hfn, _, hbody⟩ := M.fn_ok _ _ hf
  obtain ⟨body, hb⟩ := Option.isSome_iff_exists.mp hbody
  have henter : Frame.enter P K args .normal = ({ (default : Frame) with fn := K, kind := .normal } : Frame).at { tmps := args ++ Array.replicate (f.ntmps - args.size) undef, defers := [] } [.code body] := by
    simp [Frame.enter, Frame.at, hfn, hb]
  have hlen : (insts c.pa x.1).length = args.size := by have := hargs.length; simpa using this
  have := h x y hxy ⟨B, c.pH.length, ρ, instBs c.pH x.2⟩ S0 cs rfl ρ w S ({ (default : Frame) with fn := K, kind := .normal } : Frame) { tmps := args ++ Array.replicate (f.ntmps - args.size) undef, defers := [] } [.code body] cs hI hg hh
    (by
      have e : (args ++ Array.replicate (f.ntmps - args.size) undef).toList = args.toList ++ List.replicate (f.ntmps - (insts c.pa x.1).length) undef := by simp [hlen]
      simp only [e]
      exact hargs.append (PRels.replicate _))
    ⟨rfl, rfl, rfl, f, body, body, [], hf, hb, rfl, rfl, .inl rfl⟩ .nil trivial
  obtain ⟨fr, w', e, h1, h2, h3, ⟨h4, h4'⟩, h5⟩ := this
  refine ⟨e, w', fr, ⟨fun pv hb => ⟨h4 pv hb, h5⟩, fun hb => ?_⟩, ?_, h2, h3⟩
  · obtain ⟨v, ρ', S', rfl, q1, q2⟩ := h4' hb
    exact ⟨v, ρ', S', rfl, q1, q2, h5⟩
  · rw [henter]
    refine comes_of_steps h1 ?_
    cases hb : c.bad y with
    | some pv => rw [h4 pv hb]; simp
    | none => obtain ⟨v, ρ', S', rfl, q1, q2⟩ := h4' hb; simp
theorem hcon_run {P : Program} {I : World → Prop} {g : Nat} {M : Mach P I g} {K : Nat} {c : HCon} {f : Func} (hf : M.fn K = some f) (Ks : List Nat) (n : Nat)
    {X : Cfg → Option (Option c.R)} (hX : ∀ base S0 cs0, base.n = c.pH.length → FinOk (finH c) base S0 (HPost c base S0) → OSound M base S0 cs0 (HPost c base S0) X)
    (h : ∀ x, c.F x = runB M (finH c) Ks X n (startH K f.ntmps (insts c.pa x.1) (instBs c.pH x.2))) : c.Sound P I g K :=
  hcon_sound hf fun x _ hxy base S0 cs0 hn => run_sound (finH_ok c hn S0) (hX base S0 cs0 hn (finH_ok c hn S0)) ((h x).symm.trans hxy)
end Go.Proofs.YtjdjlijjolibkaaDoor.V
/- The pure machine, part x: machines made of a list of functions and a list of contracts. -/
namespace Go.Proofs.YtjdjlijjolibkaaDoor.V
open Go.RowKit
def FnOk (P : Program) (K : Nat) (f : Func) : Prop := P.funcs[K]? = some f ∧ (f.name == "runtime.NumGoroutine") = false ∧ f.body.isSome = true
theorem FnOk.callable {P : Program} {K : Nat} {f : Func} (h : FnOk P K f) : Callable P K := ⟨f, h⟩
def FnsOk (P : Program) : List (Nat × Func) → Prop
  | [] => True
  | x :: l => FnOk P x.1 x.2 ∧ FnsOk P l
def ConsOk (P : Program) (I : World → Prop) (g : Nat) : List (Nat × Con) → Prop
  | [] => True
  | x :: l => (x.2.Sound P I g x.1 ∧ Callable P x.1) ∧ ConsOk P I g l
def OConsOk (P : Program) (I : World → Prop) (g : Nat) : List (Nat × OCon) → Prop
  | [] => True
  | x :: l => (x.2.Sound P I g x.1 ∧ Callable P x.1) ∧ OConsOk P I g l
def HConsOk (P : Program) (I : World → Prop) (g : Nat) : List (Nat × HCon) → Prop
  | [] => True
  | x :: l => (x.2.Sound P I g x.1 ∧ Callable P x.1) ∧ HConsOk P I g l
def pickL : List (Nat × HCon) → Nat → List HCon
  | [], _ => []
  | (a, b) :: l, K => bif Nat.beq a K then b :: pickL l K else pickL l K
theorem pickL_ok {P : Program} {I : World → Prop} {g : Nat} : ∀ {l : List (Nat × HCon)}, HConsOk P I g l → ∀ {K c}, c ∈ pickL l K → c.Sound P I g K ∧ Callable P K
  | [], _, _, _, h => by cases h
  | (a, b) :: l, hl, K, f, h => by
    simp only [pickL] at h
    cases e : Nat.beq a K with
    | true =>
      rw [e] at h
      obtain rfl := Nat.eq_of_beq_eq_true e
      rcases List.mem_cons.mp h with rfl | h
      · exact hl.1
      · exact pickL_ok hl.2 h
    | false => rw [e] at h; exact pickL_ok hl.2 h
def pick0 {α : Type} : List (Nat × α) → Nat → Option α
  | [], _ => none
  | (a, b) :: l, K => bif Nat.beq a K then some b else pick0 l K
theorem pickF_ok {P : Program} : ∀ {l : List (Nat × Func)}, FnsOk P l → ∀ {K f}, pick0 l K = some f → FnOk P K f
  | [], _, _, _, h => by cases h
  | (a, b) :: l, hl, K, f, h => by
    simp only [pick0] at h
    cases e : Nat.beq a K with
    | true =>
      rw [e] at h; cases h
      obtain rfl := Nat.eq_of_beq_eq_true e
      exact hl.1
    | false => rw [e] at h; exact pickF_ok hl.2 h
theorem pickC_ok {P : Program} {I : World → Prop} {g : Nat} : ∀ {l : List (Nat × Con)}, ConsOk P I g l → ∀ {K c}, pick0 l K = some c → c.Sound P I g K ∧ Callable P K
  | [], _, _, _, h => by cases h
  | (a, b) :: l, hl, K, f, h => by
    simp only [pick0] at h
    cases e : Nat.beq a K with
    | true =>
      rw [e] at h; cases h
      obtain rfl := Nat.eq_of_beq_eq_true e
      exact hl.1
    | false => rw [e] at h; exact pickC_ok hl.2 h
theorem pickO_ok {P : Program} {I : World → Prop} {g : Nat} : ∀ {l : List (Nat × OCon)}, OConsOk P I g l → ∀ {K c}, pick0 l K = some c → c.Sound P I g K ∧ Callable P K
  | [], _, _, _, h => by cases h
  | (a, b) :: l, hl, K, f, h => by
    simp only [pick0] at h
    cases e : Nat.beq a K with
    | true =>
      rw [e] at h; cases h
      obtain rfl := Nat.eq_of_beq_eq_true e
      exact hl.1
    | false => rw [e] at h; exact pickO_ok hl.2 h
structure Bas (P : Program) (I : World → Prop) (g : Nat) where
  keep : ∀ w w' B, g ≤ B → Below B w w' → I w → I w'
  mixed : P.follows .mixedOrders = true
  ext : Nat → Bool
  ext_ok : ∀ K, ext K = true → ∀ v w, (callFunc K #[v]).run P w = .ok (.value v) w
  gl : Nat → PV
  gl_ok : ∀ k w S, I w → (∀ b, S b → g ≤ b) → ∀ ρ H, PRel ρ H w S (gl k) (.pointer (some ⟨k, 0, none⟩))
def mach {P : Program} {I : World → Prop} {g : Nat} (B : Bas P I g)
    (fns : List (Nat × Func)) (hf : FnsOk P fns) (cons : List (Nat × Con)) (hc : ConsOk P I g cons) (ocons : List (Nat × OCon)) (ho : OConsOk P I g ocons) (hcons : List (Nat × HCon)) (hh : HConsOk P I g hcons) : Mach P I g where
  fn := pick0 fns
  fn_ok := fun _ _ h => pickF_ok hf h
  con := pick0 cons
  con_ok := fun _ _ h => pickC_ok hc h
  ocon := pick0 ocons
  ocon_ok := fun _ _ h => pickO_ok ho h
  hcon := pickL hcons
  hcon_ok := fun _ _ h => pickL_ok hh h
  keep := B.keep
  mixed := B.mixed
  ext := B.ext
  ext_ok := B.ext_ok
  gl := B.gl
  gl_ok := B.gl_ok
def TabsIn (w : World) : List (Nat × (Σ t : Ty, List t.den)) → Prop
  | [] => True
  | x :: l => (∃ arr e fz, w.heap[x.1]? = some (.cells arr e fz) ∧ ∀ i (h : i < x.2.2.length), ∃ vs, Rep w (fun _ => True) x.2.1 x.2.2[i] vs ∧ At arr (i * x.2.1.size) vs) ∧ TabsIn w l
def tabPV (l : List (Nat × (Σ t : Ty, List t.den))) (k : Nat) : PV := match pick0 l k with
  | some x => .tab x.1 x.2
  | none => .junk
def tabsBelow (g : Nat) : List (Nat × (Σ t : Ty, List t.den)) → Bool
  | [] => true
  | x :: l => decide (x.1 < g) && tabsBelow g l
theorem TabsIn.keep {g : Nat} {w w' : World} {B : Nat} (hB : g ≤ B) (hb : Below B w w') : ∀ {l : List (Nat × (Σ t : Ty, List t.den))}, tabsBelow g l = true → TabsIn w l → TabsIn w' l
  | [], _, h => h
  | x :: l, hg, h => by
    simp only [tabsBelow, Bool.and_eq_true, decide_eq_true_eq] at hg
    obtain ⟨⟨arr, e, fz, h1, h2⟩, h3⟩ := h
    refine ⟨⟨arr, e, fz, (hb.block x.1 (by omega)).trans h1, fun i hi => ?_⟩, TabsIn.keep hB hb hg.2 h3⟩
    obtain ⟨vs, k1, k2⟩ := h2 i hi
    refine ⟨vs, k1.mono ⟨hb.size, fun b _ hs => absurd trivial hs⟩ (fun _ _ h => h), k2⟩
theorem tab_rel {g : Nat} {w : World} {S : Nat → Prop} (hS : ∀ b, S b → g ≤ b) {ρ : Loc} {H : Heap} {k : Nat} : ∀ {l : List (Nat × (Σ t : Ty, List t.den))}, tabsBelow g l = true → TabsIn w l → PRel ρ H w S (tabPV l k) (.pointer (some ⟨k, 0, none⟩))
  | [], _, _ => by simp [tabPV, pick0, PRel]
  | (a, x) :: l, hg, h => by
    simp only [tabsBelow, Bool.and_eq_true, decide_eq_true_eq] at hg
    obtain ⟨⟨arr, e, fz, h1, h2⟩, h3⟩ := h
    unfold tabPV
    simp only [pick0]
    cases ek : Nat.beq a k with
    | true =>
      obtain rfl := Nat.eq_of_beq_eq_true ek
      simp only [cond_true, PRel]
      refine ⟨a, 0, arr, e, fz, rfl, fun hs => by have := hS a hs; omega, h1, fun i hi => ?_⟩
      obtain ⟨vs, k1, k2⟩ := h2 i hi
      exact ⟨vs, k1.mono (Same.refl _ _) (fun _ _ _ => trivial), by simpa using k2⟩
    | false =>
      simp only [cond_false]
      exact tab_rel hS hg.2 h3
end Go.Proofs.YtjdjlijjolibkaaDoor.V
/- The pure machine, part y: what comes in, as data; a law's row. -/
namespace Go.Proofs.YtjdjlijjolibkaaDoor.V
open Go.RowKit
def Wf : (t : Ty) → t.den → Prop
  | .unit, _ => True
  | .int k, n => (Lit.int k n).wf = true
  | .byt _, n => (Lit.int .u8 n).wf = true
  | .bool, _ => True
  | .str, s => s.size ≤ maxLen
  | .pair a b, x => Wf a x.1 ∧ Wf b x.2
  | .slice t, l => l.length ≤ maxLen ∧ ∀ x ∈ l, Wf t x
def Wfs : (ts : List Ty) → denL ts → Prop
  | [], _ => True
  | t :: ts, x => Wf t x.1 ∧ Wfs ts x.2
def layF (P : Program) (lay : TypeId → Ty → Bool) : List Field → Nat → Ty → Bool
  | [], _, .unit => true
  | f :: fs, off, .pair a b => f.offset == off && P.cellsOf f.type == a.size && lay f.type a && layF P lay fs (off + a.size) b
  | _, _, _ => false
def layA (lay : Ty → Bool) (sz : Nat) : Nat → Ty → Bool
  | 0, .unit => true
  | n + 1, .pair a b => a.size == sz && lay a && layA lay sz n b
  | _, _ => false
def lay (P : Program) : Nat → TypeId → Ty → Bool
  | 0, _, _ => false
  | n + 1, T, t => match P.underlying T with
    | some .bool => match t with
      | .bool => true
      | _ => false
    | some (.int k) => match t with
      | .int k' => decide (k = k')
      | .byt _ => decide (k = .u8)
      | _ => false
    | some .string => match t with
      | .str => true
      | _ => false
    | some (.slice e) => match t with
      | .slice t => lay P n e t && P.cellsOf e == t.size && decide (0 < t.size)
      | _ => false
    | some (.struct fs) => t.isAgg && P.cellsOf T == t.size && layF P (lay P n) fs.toList 0 t
    | some (.array m e) => t.isAgg && P.cellsOf T == t.size && layA (lay P n e) (P.cellsOf e) m t
    | _ => false
section
variable {H : Type} {enc : TypeId × Value → H} {P : Program} {w : World}
theorem at_cells {a : Addr} {n : Nat} {cs : List Value} (h : w.cells? 0 a n = some cs) (hn : 0 < n) : ∃ arr elem fz, a.spot = none ∧ w.heap[a.block]? = some (.cells arr elem fz) ∧ At arr a.off cs := by
  obtain ⟨_, h2, h3⟩ := World.cells?_some h
  have key : ∀ i, i < n → w.cell? (a.add i) = cs[i]? := h3
  have h0 := key 0 hn
  have hs : cs[0]? = some cs[0] := List.getElem?_eq_getElem (by omega)
  rw [hs] at h0
  have e0 : a.add 0 = a := by simp [Addr.add]
  rw [e0] at h0
  unfold World.cell? at h0
  split at h0
  · rename_i arr elem fz hb
    split at h0
    · cases h0
    · rename_i hsp
      have hspn : a.spot = none := by simpa using hsp
      refine ⟨arr, elem, fz, hspn, hb, fun j hj => ?_⟩
      have := key j (by omega)
      have e : (a.add j).block = a.block ∧ (a.add j).off = a.off + j ∧ (a.add j).spot = none := by
        unfold Addr.add
        split
        · rename_i hj0; subst hj0; exact ⟨rfl, rfl, hspn⟩
        · exact ⟨rfl, rfl, rfl⟩
      unfold World.cell? at this
      rw [e.1, hb] at this
      simp only [e.2.2, Option.isSome_none, Bool.false_eq_true, if_false, e.2.1] at this
      rw [this]
      exact List.getElem?_eq_getElem hj
  · cases h0
theorem choose_list {α : Type} (R : Nat → α → Prop) : ∀ (n : Nat), (∀ i, i < n → ∃ x, R i x) → ∃ l : List α, l.length = n ∧ ∀ i (h : i < l.length), R i l[i]
  | 0, _ => ⟨[], rfl, fun i h => by simp at h⟩
  | n + 1, h => by
    obtain ⟨l, h1, h2⟩ := choose_list R n (fun i hi => h i (by omega))
    obtain ⟨x, hx⟩ := h n (by omega)
    refine ⟨l ++ [x], by simp [h1], fun i hi => ?_⟩
    by_cases e : i < l.length
    · rw [List.getElem_append_left e]; exact h2 i e
    · have : i = n := by simp at hi; omega
      subst this
      simp [h1, hx]
def noS : Nat → Prop := fun _ => False
theorem struct_rep {f : TypeId → List Value → Prop} {L : TypeId → Ty → Bool} (hL : ∀ T t cs, L T t = true → f T cs → ∃ x : t.den, Rep w noS t x cs ∧ Wf t x) {cs : List Value} :
    ∀ (fs : List Field) (off : Nat) (t : Ty), layF P L fs off t = true → off + t.size = cs.length → (∀ (i : Nat) (fd : Field), fs[i]? = some fd → f fd.type ((cs.drop fd.offset).take (P.cellsOf fd.type))) → ∃ x : t.den, Rep w noS t x (cs.drop off) ∧ Wf t x
  | [], off, t, h, hs, _ => by
    cases t <;> simp [layF] at h
    simp [Ty.size] at hs
    exact ⟨(), by simp [Rep]; omega, trivial⟩
  | fd :: fs, off, t, h, hs, hf => by
    cases t <;> simp [layF] at h
    rename_i a b
    obtain ⟨⟨⟨h1, h2⟩, h3⟩, h4⟩ := h
    simp [Ty.size] at hs
    obtain ⟨x1, r1, w1⟩ := hL _ _ _ h3 (hf 0 fd rfl)
    obtain ⟨x2, r2, w2⟩ := struct_rep hL fs (off + a.size) b h4 (by omega) (fun i fd' hi => hf (i + 1) fd' (by simpa using hi))
    refine ⟨(x1, x2), ⟨_, _, ?_, r1, r2⟩, w1, w2⟩
    rw [h1, h2, ← List.drop_drop, List.take_append_drop]
theorem array_rep {f : List Value → Prop} {L : Ty → Bool} {sz : Nat} (hL : ∀ t cs, L t = true → f cs → ∃ x : t.den, Rep w noS t x cs ∧ Wf t x) {cs : List Value} :
    ∀ (n off : Nat) (t : Ty), layA L sz n t = true → off * sz + t.size = cs.length → (∀ i, i < n → f ((cs.drop ((off + i) * sz)).take sz)) → ∃ x : t.den, Rep w noS t x (cs.drop (off * sz)) ∧ Wf t x
  | 0, off, t, h, hs, _ => by
    cases t <;> simp [layA] at h
    simp [Ty.size] at hs
    exact ⟨(), by simp [Rep]; omega, trivial⟩
  | n + 1, off, t, h, hs, hf => by
    cases t <;> simp [layA] at h
    rename_i a b
    obtain ⟨⟨h1, h3⟩, h4⟩ := h
    simp [Ty.size] at hs
    obtain ⟨x1, r1, w1⟩ := hL _ _ h3 (by simpa using hf 0 (by omega))
    obtain ⟨x2, r2, w2⟩ := array_rep hL (cs := cs) n (off + 1) b h4 (by rw [Nat.add_mul, Nat.one_mul]; omega) (fun i hi => by have := hf (i + 1) (by omega); rwa [show off + (i + 1) = off + 1 + i by omega] at this)
    refine ⟨(x1, x2), ⟨_, _, ?_, r1, r2⟩, w1, w2⟩
    rw [Nat.add_mul, Nat.one_mul, ← List.drop_drop, List.take_append_drop]
theorem trod_rep : ∀ (n : Nat) (T : TypeId) (t : Ty) (fuel : Nat) (cs : List Value) (y : DataW H × List MemPlace), lay P n T t = true → DataW.trod enc P w 0 (fun _ => true) true fuel T cs = some y →
    ∃ x : t.den, Rep w noS t x cs ∧ Wf t x := by
  intro n
  induction n with
  | zero => intro T t fuel cs y h; simp [lay] at h
  | succ n ih =>
    intro T t fuel cs y h hy
    simp only [lay] at h
    split at h
    · rename_i hu
      split at h
      · obtain ⟨b, rfl, _⟩ := DataW.trod_bool hu hy
        exact ⟨b, rfl, trivial⟩
      · cases h
    · rename_i k hu
      split at h
      · rename_i k'
        simp only [decide_eq_true_eq] at h
        subst h
        obtain ⟨m, rfl, _, hw⟩ := DataW.trod_int hu hy
        exact ⟨m, rfl, hw⟩
      · simp only [decide_eq_true_eq] at h
        subst h
        obtain ⟨m, rfl, _, hw⟩ := DataW.trod_int hu hy
        exact ⟨m, rfl, hw⟩
      · cases h
    · rename_i hu
      split at h
      · obtain ⟨s, rfl, _, hw⟩ := DataW.trod_string hu hy
        exact ⟨s, rfl, hw⟩
      · cases h
    · rename_i e hu
      split at h
      · rename_i t
        simp only [Bool.and_eq_true, beq_iff_eq, decide_eq_true_eq] at h
        obtain ⟨⟨h1, h2⟩, h3⟩ := h
        rcases DataW.trod_slice hu hy with ⟨rfl, _⟩ | ⟨a, len, cap, elems, rest, m, _, rfl, _, _, hl, hm, hlen, hel, _⟩
        · exact ⟨[], ⟨_, rfl, none, 0, rfl, Nat.le_refl _, fun h => absurd rfl h⟩, by simp [Wf]⟩
        · have each : ∀ i, i < len → ∃ x : t.den, ∃ cs', w.cells? 0 (a.add (i * t.size)) t.size = some cs' ∧ Rep w noS t x cs' ∧ Wf t x := by
            intro i hi
            have hx := hel i hi
            rw [List.getElem?_eq_getElem (by omega), Option.bind_eq_some_iff] at hx
            obtain ⟨cs', c1, c2⟩ := hx
            obtain ⟨x, r1, r2⟩ := ih e t m cs' _ h1 c2
            exact ⟨x, cs', by rw [← h2]; exact c1, r1, r2⟩
          obtain ⟨l, l1, l2⟩ := choose_list _ len each
          refine ⟨l, ⟨_, rfl, some a, cap, by rw [l1], by omega, fun hne => ?_⟩, by rw [l1]; omega, fun x hx => ?_⟩
          · have hpos : 0 < l.length := List.length_pos_iff.mpr hne
            obtain ⟨cs0, c1, c2, _⟩ := l2 0 hpos
            obtain ⟨arr, elem, fz, q1, q2, q3⟩ := at_cells c1 h3
            simp only [Nat.zero_mul] at q1 q2
            have e0 : a.add 0 = a := by simp [Addr.add]
            rw [e0] at q1 q2
            refine ⟨a.block, a.off, arr, elem, fz, by cases a; simp_all, fun h => h, q2, fun i hi => ?_⟩
            obtain ⟨cs', d1, d2, _⟩ := l2 i hi
            obtain ⟨arr', elem', fz', p1, p2, p3⟩ := at_cells d1 h3
            have e1 : (a.add (i * t.size)).block = a.block := by unfold Addr.add; split <;> rfl
            have e2 : (a.add (i * t.size)).off = a.off + i * t.size := by unfold Addr.add; split <;> simp_all
            rw [e1, q2] at p2
            simp only [Option.some.injEq, Obj.cells.injEq] at p2
            obtain ⟨rfl, _, _⟩ := p2
            rw [e2] at p3
            exact ⟨cs', d2, p3⟩
          · obtain ⟨i, hi, rfl⟩ := List.getElem_of_mem hx
            obtain ⟨_, _, _, hw⟩ := l2 i hi
            exact hw
      · cases h
    · rename_i fs hu
      simp only [Bool.and_eq_true, beq_iff_eq] at h
      obtain ⟨⟨_, h1⟩, h2⟩ := h
      obtain ⟨xs, m, _, _, hlen, hxl, hx⟩ := DataW.trod_struct hu hy
      have := struct_rep (w := w) (P := P) (f := fun T cs => ∃ y, DataW.trod enc P w 0 (fun _ => true) true m T cs = some y) (L := lay P n) (fun T t cs hl hf => by obtain ⟨y, hy⟩ := hf; exact ih T t m cs y hl hy) (cs := cs) fs.toList 0 t h2 (by omega)
        (fun i fd hi => ⟨xs[i]'(by have := (List.getElem?_eq_some_iff.mp hi).1; simp at this; omega), by
          rw [hx i fd (by simpa using hi)]
          exact List.getElem?_eq_getElem _⟩)
      simpa using this
    · rename_i m e hu
      simp only [Bool.and_eq_true, beq_iff_eq] at h
      obtain ⟨⟨_, h1⟩, h2⟩ := h
      obtain ⟨xs, fu, _, _, hlen, hxl, hx⟩ := DataW.trod_array hu hy
      have := array_rep (w := w) (f := fun cs => ∃ y, DataW.trod enc P w 0 (fun _ => true) true fu e cs = some y) (L := lay P n e) (sz := P.cellsOf e) (fun t cs hl hf => by obtain ⟨y, hy⟩ := hf; exact ih e t fu cs y hl hy) (cs := cs) m 0 t h2 (by omega)
        (fun i hi => ⟨xs[i]'(by omega), by
          rw [Nat.zero_add, hx i hi]
          exact List.getElem?_eq_getElem _⟩)
      simpa using this
    · cases h
end
end Go.Proofs.YtjdjlijjolibkaaDoor.V
/- The pure machine, part z: arguments of a law as data; what reads behind the call as it read before. -/
namespace Go.Proofs.YtjdjlijjolibkaaDoor.V
open Go.RowKit
def layAll (P : Program) (n : Nat) : List TypeId → List Ty → Bool
  | [], [] => true
  | T :: Ts, t :: ts => lay P n T t && layAll P n Ts ts
  | _, _ => false
def zeroCells : Ty → List Value
  | .unit => []
  | .int k => [.int k 0]
  | .byt _ => [.int .u8 0]
  | .bool => [.bool false]
  | .str => [.string ⟨#[]⟩]
  | .pair a b => zeroCells a ++ zeroCells b
  | .slice _ => [.slice none 0 0]
def zeroV (t : Ty) : Value := if t.isAgg then .agg (zeroCells t).toArray else (zeroCells t).headD undef
section
variable {H : Type} {enc : TypeId × Value → H} {P : Program} {w : World}
theorem okWide_shape {n : Nat} {T : TypeId} {t : Ty} {r : Reach} {base : Nat} {v : Value} (hl : lay P n T t = true) (h : Value.okWide P w r base T v) : (t.isAgg = true → ∃ us, v = .agg us) ∧ (t.isAgg = false → v.oneCell' = true) := by
  cases n with
  | zero => simp [lay] at hl
  | succ n =>
    simp only [lay] at hl
    unfold Value.okWide at h
    split at hl
    · rename_i hu
      split at hl
      · rw [hu] at h
        simp only [Cell.okWide, Cell.ok, hu] at h
        refine ⟨(fun h => by cases h), fun _ => ?_⟩
        cases v <;> first | rfl | simp at h
      · cases hl
    · rename_i k hu
      split at hl
      · rw [hu] at h
        simp only [Cell.okWide, Cell.ok, hu] at h
        refine ⟨(fun h => by cases h), fun _ => ?_⟩
        cases v <;> first | rfl | simp at h
      · rw [hu] at h
        simp only [Cell.okWide, Cell.ok, hu] at h
        refine ⟨(fun h => by cases h), fun _ => ?_⟩
        cases v <;> first | rfl | simp at h
      · cases hl
    · rename_i hu
      split at hl
      · rw [hu] at h
        simp only [Cell.okWide, Cell.ok, hu] at h
        refine ⟨(fun h => by cases h), fun _ => ?_⟩
        cases v <;> first | rfl | simp at h
      · cases hl
    · rename_i e hu
      split at hl
      · rw [hu] at h
        simp only [Cell.okWide, Cell.ok, hu] at h
        refine ⟨(fun h => by cases h), fun _ => ?_⟩
        cases v <;> first | rfl | simp at h
      · cases hl
    · rename_i fs hu
      simp only [Bool.and_eq_true] at hl
      rw [hu] at h
      obtain ⟨cs, e, _⟩ := h
      exact ⟨fun _ => ⟨cs, e⟩, fun h => by rw [hl.1.1] at h; cases h⟩
    · rename_i m e hu
      simp only [Bool.and_eq_true] at hl
      rw [hu] at h
      obtain ⟨cs, e, _⟩ := h
      exact ⟨fun _ => ⟨cs, e⟩, fun h => by rw [hl.1.1] at h; cases h⟩
    · cases hl
theorem args_rep {n : Nat} {r : Reach} {base : Nat} : ∀ {Ts : List TypeId} {ts : List Ty} {vs : List Value} {ds : List (DataW H)} {p : List MemPlace}, layAll P n Ts ts = true → DataW.TrodAll enc P w 0 (fun _ => true) true Ts vs ds p →
    (∀ (j : Nat) T v, Ts[j]? = some T → vs[j]? = some v → Value.okWide P w r base T v) → ∃ x : denL ts, RepVs w noS ts x vs ∧ Wfs ts x
  | [], ts, vs, ds, p, hl, h, _ => by
    cases ts <;> simp [layAll] at hl
    cases vs with
    | nil => exact ⟨(), rfl, trivial⟩
    | cons _ _ => cases ds <;> exact h.elim
  | T :: Ts, ts, vs, ds, p, hl, h, hv => by
    cases ts with
    | nil => simp [layAll] at hl
    | cons t ts =>
      simp only [layAll, Bool.and_eq_true] at hl
      cases vs with
      | nil => exact h.elim
      | cons v vs =>
        cases ds with
        | nil => exact h.elim
        | cons d ds =>
          obtain ⟨p1, q1, ⟨fuel, hd⟩, hr, _⟩ := h
          obtain ⟨x1, r1, w1⟩ := trod_rep n T t fuel _ _ hl.1 hd
          obtain ⟨x2, r2, w2⟩ := args_rep hl.2 hr (fun j T v h1 h2 => hv (j + 1) T v (by simpa using h1) (by simpa using h2))
          obtain ⟨s1, s2⟩ := okWide_shape hl.1 (hv 0 T v rfl rfl)
          exact ⟨(x1, x2), ⟨v, vs, rfl, ⟨r1, s1, s2⟩, r2⟩, w1, w2⟩
theorem trodAll_length : ∀ {Ts : List TypeId} {vs : List Value} {ds : List (DataW H)} {p : List MemPlace}, DataW.TrodAll enc P w 0 (fun _ => true) true Ts vs ds p → ds.length = Ts.length
  | [], vs, ds, p, h => by cases vs <;> cases ds <;> first | rfl | exact h.elim
  | T :: Ts, vs, ds, p, h => by
    cases vs with
    | nil => exact h.elim
    | cons v vs => cases ds with
      | nil => exact h.elim
      | cons d ds =>
        obtain ⟨p1, q1, hd, hq, e⟩ := h
        simp [trodAll_length hq]
def readAll (P : Program) : List TypeId → Bool
  | [] => true
  | T :: Ts => P.readableRec T && decide (T < P.types.size) && readAll P Ts
theorem trodAll_below (hl : laidOutB P = true) {w' : World} (hb : Below w.heap.size w w') : ∀ {Ts : List TypeId} {vs : List Value} {ds : List (DataW H)} {p : List MemPlace}, readAll P Ts = true →
    DataW.TrodAll enc P w 0 (fun _ => true) true Ts vs ds p → DataW.TrodAll enc P w' 0 (fun b => decide (b < w.heap.size)) true Ts vs ds p
  | [], vs, ds, p, _, h => by cases vs <;> cases ds <;> exact h
  | T :: Ts, vs, ds, p, hr, h => by
    simp only [readAll, Bool.and_eq_true, decide_eq_true_eq] at hr
    cases vs with
    | nil => exact h.elim
    | cons v vs =>
      cases ds with
      | nil => exact h.elim
      | cons d ds =>
        obtain ⟨p1, q1, hd, hq, e⟩ := h
        have hlt : ∀ x ∈ p1, x.block < w.heap.size := by obtain ⟨m, hm⟩ := hd; exact DataW.trod_lt m _ _ _ hm
        exact ⟨p1, q1, Below.trod hl hr.1.1 hr.1.2 hd hb hlt, trodAll_below hl hb hr.2 hq, e⟩
end
theorem law_calls {P : Program} {I : World → Prop} {g : Nat} {K : Nat} {ts : List Ty} {F : denL ts → Option (denL [Ty.bool])} (hs : (Con.mk ts [.bool] F).Sound P I g K) {w : World} (hI : I w) {args : Array Value} {x : denL ts} (hx : RepVs w noS ts x args.toList)
    (hF : F x = some (true, ())) : Calls P K args w fun e w' => e = .returned (.bool true) ∧ Below w.heap.size w w' := by
  refine (hs x (true, ()) hF w noS args hI (fun _ h => h.elim) hx).mono fun e w' h => ?_
  obtain ⟨v, rfl, hv, hb⟩ := h
  refine ⟨?_, hb⟩
  have : v.cells.toList = [.bool true] := hv.1
  have ho := hv.2.2 rfl
  rw [cells_one ho] at this
  simp at this
  rw [this]
end Go.Proofs.YtjdjlijjolibkaaDoor.V
/- Plain facts of what the printed functions are made of. -/
namespace Go.Proofs.YtjdjlijjolibkaaDoor.V
open Go.RowKit
theorem wrap_i64 (n : Int) (h0 : -9223372036854775808 ≤ n) (h1 : n ≤ 9223372036854775807) : IntKind.wrap .i64 n = n := by
  unfold IntKind.wrap
  simp [IntKind.signed, IntKind.bits]
  split <;> omega
theorem wrap_u64 (n : Int) (h0 : 0 ≤ n) (h1 : n ≤ 18446744073709551615) : IntKind.wrap .u64 n = n := by
  simp only [IntKind.wrap, IntKind.signed, IntKind.bits]
  simp
  omega
theorem wf_u64 {n : Int} (h : (Lit.int .u64 n).wf = true) : 0 ≤ n ∧ n ≤ 18446744073709551615 := by
  simp only [Lit.wf, IntKind.min, IntKind.max, IntKind.signed, IntKind.bits, Bool.and_eq_true] at h
  simp at h; omega
@[simp] theorem obind_some {α β : Type} (y : α) (k : α → Option β) : obind (some y) k = k y := rfl
@[simp] theorem obind_none {α β : Type} (k : α → Option β) : obind none k = none := rfl
end Go.Proofs.YtjdjlijjolibkaaDoor.V
/- Plain facts of lists, bytes and loops, for the laws. -/
namespace Go.Proofs.YtjdjlijjolibkaaDoor.V
open Go.RowKit
section mid
variable {α : Type}
@[simp] theorem getD_mid (pre : List α) (x : α) (suf : List α) (d : α) : (pre ++ x :: suf).getD pre.length d = x := by simp [List.getD]
@[simp] theorem set_mid (pre : List α) (x y : α) (suf : List α) : (pre ++ x :: suf).set pre.length y = pre ++ y :: suf := by simp
theorem nn (n : Nat) : ((0 : Int) ≤ ((n : Nat) : Int)) = True := by simp
theorem mid_lt (pre : List α) (x : α) (suf : List α) : (((pre.length : Nat) : Int) < (((pre ++ x :: suf).length : Nat) : Int)) = True := by simp; omega
theorem mid_end (pre : List α) : (((pre.length : Nat) : Int) < (((pre ++ []).length : Nat) : Int)) = False := by simp
theorem mid_next (pre : List α) (x y : α) (suf : List α) (h : (pre ++ x :: suf).length ≤ 4294967296) : IntKind.wrap .i64 (((pre.length : Nat) : Int) + 1) = (((pre ++ [y]).length : Nat) : Int) := by
  simp at h
  rw [wrap_i64 _ (by omega) (by omega)]; simp
theorem mid_next' (pre : List α) (x y : α) (suf : List α) (h : (pre ++ x :: suf).length ≤ 9223372036854775807) : IntKind.wrap .i64 (((pre.length : Nat) : Int) + 1) = (((pre ++ [y]).length : Nat) : Int) := by
  simp at h
  rw [wrap_i64 _ (by omega) (by omega)]; simp
theorem snoc_app (pre : List α) (x : α) (suf : List α) : pre ++ x :: suf = (pre ++ [x]) ++ suf := by simp
theorem toNat_len (pre : List α) : Int.toNat ((pre.length : Nat) : Int) = pre.length := by simp
end mid
theorem beq_of {α : Type} [BEq α] [LawfulBEq α] {a b : α} (h : a = b) : (a == b) = true := by subst h; exact beq_self_eq_true a
theorem toList_beq (a b : ByteArray) : (a.toList == b.toList) = decide (a = b) := by
  rw [ByteArray.toList_eq, ByteArray.toList_eq]
  by_cases h : a = b
  · simp [h]
  · simp only [h, decide_false]
    refine beq_false_of_ne fun e => h ?_
    cases a; cases b; simp at e; simpa using e
theorem byt_eq {a b : ByteArray} : a = b ↔ a.data.toList = b.data.toList := by
  constructor
  · rintro rfl; rfl
  · intro e; cases a; cases b; simpa using e
theorem app_data (a b : ByteArray) : (a ++ b).data.toList = a.data.toList ++ b.data.toList := by simp
def mapI {α β : Type} (g : Int → α → β) : Int → List α → List β
  | _, [] => []
  | k, x :: l => g k x :: mapI g (k + 1) l
@[simp] theorem mapI_length {α β : Type} (g : Int → α → β) : ∀ (k : Int) (l : List α), (mapI g k l).length = l.length
  | _, [] => rfl
  | k, x :: l => by simp [mapI, mapI_length g (k + 1) l]
end Go.Proofs.YtjdjlijjolibkaaDoor.V
/- Plain facts of bytes. -/
namespace Go.Proofs.YtjdjlijjolibkaaDoor.V
open Go.RowKit
theorem bytesStr_data : ∀ (l : List Int), (bytesStr l).data.toList = l.map fun n => UInt8.ofNat n.toNat := by
  have key : ∀ (l : List Int) (r : ByteArray), (l.foldl (fun r n => r.push (UInt8.ofNat n.toNat)) r).data.toList = r.data.toList ++ l.map fun n => UInt8.ofNat n.toNat := by
    intro l
    induction l with
    | nil => intro r; simp
    | cons x l ih => intro r; rw [List.foldl_cons, ih]; simp
  intro l
  unfold bytesStr
  rw [key]; rfl
theorem strBytes_range (s : ByteArray) : ∀ n ∈ strBytes s, 0 ≤ n ∧ n ≤ 255 := by
  intro n hn
  obtain ⟨b, _, rfl⟩ := List.mem_map.mp hn
  have := b.toNat_lt
  omega
theorem strBytes_len (s : ByteArray) : (strBytes s).length = s.size := by
  show (s.data.toList.map _).length = s.data.size
  simp
theorem strBytes_app (a b : ByteArray) : strBytes (a ++ b) = strBytes a ++ strBytes b := by
  show (a ++ b).data.toList.map _ = _
  rw [app_data, List.map_append]
theorem toNat_inj : Function.Injective (fun b : UInt8 => (b.toNat : Int)) := by
  intro a b h
  have h2 : a.toNat = b.toNat := Int.ofNat.inj h
  exact UInt8.toNat_inj.mp h2
theorem strBytes_inj {a b : ByteArray} : strBytes a = strBytes b ↔ a = b := by
  constructor
  · intro h
    rw [byt_eq]
    exact (List.map_inj_right (fun x y h => toNat_inj h)).mp h
  · rintro rfl; rfl
theorem strBytes_bytesStr {l : List Int} (h : ∀ n ∈ l, 0 ≤ n ∧ n ≤ 255) : strBytes (bytesStr l) = l := by
  show (bytesStr l).data.toList.map _ = l
  rw [bytesStr_data, List.map_map]
  have : ∀ n ∈ l, ((fun b : UInt8 => (b.toNat : Int)) ∘ fun n : Int => UInt8.ofNat n.toNat) n = id n := by
    intro n hn
    obtain ⟨h0, h1⟩ := h n hn
    simp only [Function.comp, id, UInt8.toNat_ofNat']
    omega
  rw [List.map_congr_left this, List.map_id]
theorem bytesStr_inj {a b : List Int} (ha : ∀ n ∈ a, 0 ≤ n ∧ n ≤ 255) (hb : ∀ n ∈ b, 0 ≤ n ∧ n ≤ 255) : bytesStr a = bytesStr b ↔ a = b := by
  constructor
  · intro h
    rw [← strBytes_bytesStr ha, h, strBytes_bytesStr hb]
  · rintro rfl; rfl
theorem bytesStr_size (l : List Int) : (bytesStr l).size = l.length := by
  show (bytesStr l).data.size = _
  rw [← Array.length_toList, bytesStr_data]; simp
theorem strBytes_extract (s : ByteArray) (a b : Nat) : strBytes (s.extract a b) = ((strBytes s).take b).drop a := by
  show (s.extract a b).data.toList.map _ = ((s.data.toList.map _).take b).drop a
  rw [ByteArray.data_extract]
  simp [Array.toList_extract, List.extract, List.drop_take, List.map_take, List.map_drop]
theorem wrap_u8 (n : Int) : IntKind.wrap .u8 n = n % 256 := by
  simp only [IntKind.wrap, IntKind.signed, IntKind.bits]; simp
theorem wrap_u64' (n : Int) : IntKind.wrap .u64 n = n % 18446744073709551616 := by
  simp only [IntKind.wrap, IntKind.signed, IntKind.bits]; simp
theorem bits_or_u64 (x y : Int) (hx : 0 ≤ x ∧ x < 18446744073709551616) (hy : 0 ≤ y ∧ y < 18446744073709551616) : bits .or .u64 x y = ((x.toNat ||| y.toNat : Nat) : Int) := by
  rw [bits_eq, bitsF, wrap_u64']
  show (((BitVec.ofInt 64 x ||| BitVec.ofInt 64 y).toNat : Nat) : Int) % 18446744073709551616 = _
  have ex : (BitVec.ofInt 64 x).toNat = x.toNat := by rw [BitVec.toNat_ofInt]; omega
  have ey : (BitVec.ofInt 64 y).toNat = y.toNat := by rw [BitVec.toNat_ofInt]; omega
  rw [BitVec.toNat_or, ex, ey]
  have : x.toNat ||| y.toNat < 2 ^ 64 := Nat.or_lt_two_pow (by omega) (by omega)
  omega
theorem bits_and_u64 (x y : Int) (hx : 0 ≤ x ∧ x < 18446744073709551616) (hy : 0 ≤ y ∧ y < 18446744073709551616) : bits .and .u64 x y = ((x.toNat &&& y.toNat : Nat) : Int) := by
  rw [bits_eq, bitsF, wrap_u64']
  show (((BitVec.ofInt 64 x &&& BitVec.ofInt 64 y).toNat : Nat) : Int) % 18446744073709551616 = _
  have ex : (BitVec.ofInt 64 x).toNat = x.toNat := by rw [BitVec.toNat_ofInt]; omega
  have ey : (BitVec.ofInt 64 y).toNat = y.toNat := by rw [BitVec.toNat_ofInt]; omega
  rw [BitVec.toNat_and, ex, ey]
  have : x.toNat &&& y.toNat ≤ x.toNat := Nat.and_le_left
  omega
theorem bits_or_u8 (x y : Int) (hx : 0 ≤ x ∧ x < 256) (hy : 0 ≤ y ∧ y < 256) : bits .or .u8 x y = ((x.toNat ||| y.toNat : Nat) : Int) := by
  rw [bits_eq, bitsF, wrap_u8]
  show (((BitVec.ofInt 8 x ||| BitVec.ofInt 8 y).toNat : Nat) : Int) % 256 = _
  have ex : (BitVec.ofInt 8 x).toNat = x.toNat := by rw [BitVec.toNat_ofInt]; omega
  have ey : (BitVec.ofInt 8 y).toNat = y.toNat := by rw [BitVec.toNat_ofInt]; omega
  rw [BitVec.toNat_or, ex, ey]
  have : x.toNat ||| y.toNat < 2 ^ 8 := Nat.or_lt_two_pow (by omega) (by omega)
  omega
end Go.Proofs.YtjdjlijjolibkaaDoor.V
/- The mixing of a word of 64 bits is one to one. -/
namespace Go.Proofs.YtjdjlijjolibkaaDoor.V
theorem xs_inj (s : Nat) (hs : 0 < s) (x y : BitVec 64) (h : x ^^^ (x >>> s) = y ^^^ (y >>> s)) : x = y := by
  have h1 : (x ^^^ y) = (x ^^^ y) >>> s := by
    apply BitVec.eq_of_getLsbD_eq
    intro i hi
    have := congrArg (fun z => z.getLsbD i) h
    simp only [BitVec.getLsbD_xor, BitVec.getLsbD_ushiftRight] at this ⊢
    revert this
    cases x.getLsbD i <;> cases y.getLsbD i <;> cases x.getLsbD (s + i) <;> cases y.getLsbD (s + i) <;> simp
  have h2 := congrArg BitVec.toNat h1
  rw [BitVec.toNat_ushiftRight, Nat.shiftRight_eq_div_pow] at h2
  have h3 : (x ^^^ y).toNat = 0 := by
    rcases Nat.eq_zero_or_pos (x ^^^ y).toNat with h | h
    · exact h
    · have h4 : (x ^^^ y).toNat / 2 ^ s < (x ^^^ y).toNat := Nat.div_lt_self h (Nat.one_lt_two_pow (by omega))
      omega
  have h5 : x ^^^ y = 0#64 := BitVec.eq_of_toNat_eq (by simpa using h3)
  exact BitVec.xor_eq_zero_iff.mp h5
theorem mul_inj' (c d : BitVec 64) (h : c * d = 1#64) (x y : BitVec 64) (e : x * c = y * c) : x = y := by
  have := congrArg (· * d) e
  simpa [BitVec.mul_assoc, h] using this
def mixB (z : BitVec 64) : BitVec 64 :=
  let z0 := z + 11400714819323198485#64
  let z1 := (z0 ^^^ z0 >>> 30) * 13787848793156543929#64
  let z2 := (z1 ^^^ z1 >>> 27) * 10723151780598845931#64
  z2 ^^^ z2 >>> 31
theorem mixB_inj (x y : BitVec 64) (h : mixB x = mixB y) : x = y := by
  have h1 := xs_inj 31 (by decide) _ _ h
  have h2 := mul_inj' _ 3573116690164977347#64 (by decide) _ _ h1
  have h3 := xs_inj 27 (by decide) _ _ h2
  have h4 := mul_inj' _ 10871156337175269513#64 (by decide) _ _ h3
  have h5 := xs_inj 30 (by decide) _ _ h4
  exact (BitVec.add_left_inj _).mp h5
def mixI (z : Int) : Int := ((mixB (BitVec.ofInt 64 z)).toNat : Int)
theorem mixI_range (z : Int) : 0 ≤ mixI z ∧ mixI z < 18446744073709551616 := by
  unfold mixI
  have := (mixB (BitVec.ofInt 64 z)).isLt
  omega
theorem ofInt_inj (x y : Int) (h : BitVec.ofInt 64 x = BitVec.ofInt 64 y) (hx : 0 ≤ x ∧ x < 18446744073709551616) (hy : 0 ≤ y ∧ y < 18446744073709551616) : x = y := by
  have := congrArg BitVec.toNat h
  simp only [BitVec.toNat_ofInt] at this
  omega
theorem mixI_inj (x y : Int) (h : mixI x = mixI y) (hx : 0 ≤ x ∧ x < 18446744073709551616) (hy : 0 ≤ y ∧ y < 18446744073709551616) : x = y := by
  unfold mixI at h
  refine ofInt_inj x y (mixB_inj _ _ (BitVec.eq_of_toNat_eq ?_)) hx hy
  omega
end Go.Proofs.YtjdjlijjolibkaaDoor.V
namespace Go.Proofs.YtjdjlijjolibkaaDoor.V
open Go.RowKit Go.Proofs.Tryd
set_option maxRecDepth 100000
def tabs : List (Nat × (Σ t : Ty, List t.den)) := [(0, ⟨.int .u8, [0, 1, 28, 2, 29, 14, 24, 3, 30, 22, 20, 15, 25, 17, 4, 8, 31, 27, 13, 23, 21, 19, 16, 7, 26, 12, 18, 6, 11, 5, 10, 9]⟩), (1, ⟨.int .u8, [0, 1, 56, 2, 57, 49, 28, 3, 61, 58, 42, 50, 38, 29, 17, 4, 62, 47, 59, 36, 45, 43, 51, 22, 53, 39, 33, 30, 24, 18, 12, 5, 63, 55, 48, 27, 60, 41, 37, 16, 46, 35, 44, 21, 52, 32, 23, 11, 54, 26, 40, 15, 34, 20, 31, 10, 25, 14, 19, 9, 13, 8, 7, 6]⟩)]
def Inv (w : World) : Prop := 2 ≤ w.heap.size ∧ TabsIn w tabs
def gInv : Nat := 2
theorem inv_g : ∀ w, Inv w → gInv ≤ w.heap.size := fun _ h => h.1
theorem ext162 (v : Value) (w : World) : (callFunc 162 #[v]).run prog w = .ok (.value v) w := by
  rw [run_callFunc_extern func162 (by kernel_rfl) (by kernel_rfl) (by kernel_rfl) (e := Extern.AbiNoEscape.same) (by kernel_rfl), Lib.run_noEscape]
  rfl
noncomputable def bas : Bas prog Inv gInv where
  keep := fun _ _ _ hB hb h => ⟨Nat.le_trans h.1 hb.size, h.2.keep hB hb (by decide)⟩
  mixed := by kernel_rfl
  ext := fun K => Nat.beq K 162
  ext_ok := fun K h v w => by
    obtain rfl := Nat.eq_of_beq_eq_true h
    exact ext162 v w
  gl := tabPV tabs
  gl_ok := fun k _ _ hI hS _ _ => tab_rel hS (l := tabs) (by decide) hI.2
end Go.Proofs.YtjdjlijjolibkaaDoor.V
namespace Go.Proofs.YtjdjlijjolibkaaDoor.V
open Go.RowKit Go.Proofs.Tryd
set_option maxRecDepth 100000
abbrev D_frame_reader : Type := (ByteArray × Unit)
abbrev D_runtime_errorAddressString : Type := (ByteArray × (Int × Unit))
@[reducible] def T_ranges_Range : Ty := (.pair (.int .u64) (.pair (.int .u64) .unit))
abbrev D_ranges_Range : Type := (Int × (Int × Unit))
abbrev D_runtime_boundsError : Type := (Int × (Int × (Bool × (Int × Unit))))
@[reducible] def T_ids_Own : Ty := (.pair (.int .u64) (.pair .str (.pair .str (.pair .bool (.pair .bool .unit)))))
abbrev D_ids_Own : Type := (Int × (ByteArray × (ByteArray × (Bool × (Bool × Unit)))))
abbrev D_4_int : Type := (Int × (Int × (Int × (Int × Unit))))
@[reducible] def T_ids_Given : Ty := (.pair (.int .u64) (.pair .str (.pair .str (.pair .bool (.pair .bool (.pair .bool .unit))))))
abbrev D_ids_Given : Type := (Int × (ByteArray × (ByteArray × (Bool × (Bool × (Bool × Unit))))))
abbrev D_path_Path : Type := (Int × (Bool × (Int × (Int × (ByteArray × (Bool × Unit))))))
abbrev D_2_struct_shift_int_times_uint64 : Type := (D_ranges_Range × (D_ranges_Range × Unit))
@[reducible] def T_8_uint8 : Ty := (.pair (.int .u8) (.pair (.int .u8) (.pair (.int .u8) (.pair (.int .u8) (.pair (.int .u8) (.pair (.int .u8) (.pair (.int .u8) (.pair (.int .u8) .unit))))))))
abbrev D_8_uint8 : Type := (Int × (Int × (Int × (Int × (Int × (Int × (Int × (Int × Unit))))))))
@[reducible] def T_8_uint64 : Ty := (.pair (.int .u64) (.pair (.int .u64) (.pair (.int .u64) (.pair (.int .u64) (.pair (.int .u64) (.pair (.int .u64) (.pair (.int .u64) (.pair (.int .u64) .unit))))))))
abbrev D_8_uint64 : Type := (Int × (Int × (Int × (Int × (Int × (Int × (Int × (Int × Unit))))))))
abbrev D_path_State : Type := ((List D_path_Path) × (Int × ((List ByteArray) × Unit)))
@[reducible] def T_frame_Frame : Ty := (.pair (.int .u64) (.pair (.int .u64) (.pair (.int .u64) (.pair (.int .u64) (.pair (.int .u64) (.pair (.int .u64) (.pair (.int .u64) (.pair (.int .u64) (.pair .bool (.pair .str (.pair .str (.pair .str (.pair (.slice T_ranges_Range) .unit)))))))))))))
abbrev D_frame_Frame : Type := (Int × (Int × (Int × (Int × (Int × (Int × (Int × (Int × (Bool × (ByteArray × (ByteArray × (ByteArray × ((List D_ranges_Range) × Unit)))))))))))))
@[reducible] def T_ids_State : Ty := (.pair (.int .u64) (.pair (.int .i64) (.pair (.int .i64) (.pair (.slice T_ids_Own) (.pair (.slice T_ids_Given) (.pair (.int .u64) (.pair (.int .u64) .unit)))))))
abbrev D_ids_State : Type := (Int × (Int × (Int × ((List D_ids_Own) × ((List D_ids_Given) × (Int × (Int × Unit)))))))
abbrev D_frame_framer : Type := (D_frame_reader × (D_frame_Frame × Unit))
abbrev D_law18_Act : Type := (Int × (Int × (D_frame_Frame × Unit)))
abbrev D_law19_Act : Type := (Int × (Int × (Int × (D_frame_Frame × Unit))))
theorem ok16 : FnOk prog 16 f16 := ⟨func16, by decide +kernel, by kernel_rfl⟩
theorem ok31 : FnOk prog 31 f31 := ⟨func31, by decide +kernel, by kernel_rfl⟩
theorem ok34 : FnOk prog 34 f34 := ⟨func34, by decide +kernel, by kernel_rfl⟩
theorem ok39 : FnOk prog 39 f39 := ⟨func39, by decide +kernel, by kernel_rfl⟩
theorem ok47 : FnOk prog 47 f47 := ⟨func47, by decide +kernel, by kernel_rfl⟩
theorem ok48 : FnOk prog 48 f48 := ⟨func48, by decide +kernel, by kernel_rfl⟩
theorem ok49 : FnOk prog 49 f49 := ⟨func49, by decide +kernel, by kernel_rfl⟩
theorem ok50 : FnOk prog 50 f50 := ⟨func50, by decide +kernel, by kernel_rfl⟩
theorem ok51 : FnOk prog 51 f51 := ⟨func51, by decide +kernel, by kernel_rfl⟩
theorem ok52 : FnOk prog 52 f52 := ⟨func52, by decide +kernel, by kernel_rfl⟩
theorem ok54 : FnOk prog 54 f54 := ⟨func54, by decide +kernel, by kernel_rfl⟩
theorem ok55 : FnOk prog 55 f55 := ⟨func55, by decide +kernel, by kernel_rfl⟩
theorem ok73 : FnOk prog 73 f73 := ⟨func73, by decide +kernel, by kernel_rfl⟩
theorem ok74 : FnOk prog 74 f74 := ⟨func74, by decide +kernel, by kernel_rfl⟩
theorem ok75 : FnOk prog 75 f75 := ⟨func75, by decide +kernel, by kernel_rfl⟩
theorem ok76 : FnOk prog 76 f76 := ⟨func76, by decide +kernel, by kernel_rfl⟩
theorem ok80 : FnOk prog 80 f80 := ⟨func80, by decide +kernel, by kernel_rfl⟩
theorem ok81 : FnOk prog 81 f81 := ⟨func81, by decide +kernel, by kernel_rfl⟩
theorem ok82 : FnOk prog 82 f82 := ⟨func82, by decide +kernel, by kernel_rfl⟩
theorem ok89 : FnOk prog 89 f89 := ⟨func89, by decide +kernel, by kernel_rfl⟩
theorem ok90 : FnOk prog 90 f90 := ⟨func90, by decide +kernel, by kernel_rfl⟩
theorem ok95 : FnOk prog 95 f95 := ⟨func95, by decide +kernel, by kernel_rfl⟩
theorem ok96 : FnOk prog 96 f96 := ⟨func96, by decide +kernel, by kernel_rfl⟩
theorem ok97 : FnOk prog 97 f97 := ⟨func97, by decide +kernel, by kernel_rfl⟩
theorem ok98 : FnOk prog 98 f98 := ⟨func98, by decide +kernel, by kernel_rfl⟩
theorem ok99 : FnOk prog 99 f99 := ⟨func99, by decide +kernel, by kernel_rfl⟩
theorem ok100 : FnOk prog 100 f100 := ⟨func100, by decide +kernel, by kernel_rfl⟩
theorem ok101 : FnOk prog 101 f101 := ⟨func101, by decide +kernel, by kernel_rfl⟩
theorem ok102 : FnOk prog 102 f102 := ⟨func102, by decide +kernel, by kernel_rfl⟩
theorem ok103 : FnOk prog 103 f103 := ⟨func103, by decide +kernel, by kernel_rfl⟩
theorem ok104 : FnOk prog 104 f104 := ⟨func104, by decide +kernel, by kernel_rfl⟩
theorem ok105 : FnOk prog 105 f105 := ⟨func105, by decide +kernel, by kernel_rfl⟩
theorem ok106 : FnOk prog 106 f106 := ⟨func106, by decide +kernel, by kernel_rfl⟩
theorem ok107 : FnOk prog 107 f107 := ⟨func107, by decide +kernel, by kernel_rfl⟩
theorem ok108 : FnOk prog 108 f108 := ⟨func108, by decide +kernel, by kernel_rfl⟩
theorem ok113 : FnOk prog 113 f113 := ⟨func113, by decide +kernel, by kernel_rfl⟩
theorem ok114 : FnOk prog 114 f114 := ⟨func114, by decide +kernel, by kernel_rfl⟩
theorem ok115 : FnOk prog 115 f115 := ⟨func115, by decide +kernel, by kernel_rfl⟩
theorem ok116 : FnOk prog 116 f116 := ⟨func116, by decide +kernel, by kernel_rfl⟩
theorem ok117 : FnOk prog 117 f117 := ⟨func117, by decide +kernel, by kernel_rfl⟩
theorem ok118 : FnOk prog 118 f118 := ⟨func118, by decide +kernel, by kernel_rfl⟩
theorem ok120 : FnOk prog 120 f120 := ⟨func120, by decide +kernel, by kernel_rfl⟩
theorem ok124 : FnOk prog 124 f124 := ⟨func124, by decide +kernel, by kernel_rfl⟩
theorem ok135 : FnOk prog 135 f135 := ⟨func135, by decide +kernel, by kernel_rfl⟩
theorem ok136 : FnOk prog 136 f136 := ⟨func136, by decide +kernel, by kernel_rfl⟩
theorem ok137 : FnOk prog 137 f137 := ⟨func137, by decide +kernel, by kernel_rfl⟩
theorem ok138 : FnOk prog 138 f138 := ⟨func138, by decide +kernel, by kernel_rfl⟩
theorem ok139 : FnOk prog 139 f139 := ⟨func139, by decide +kernel, by kernel_rfl⟩
theorem ok140 : FnOk prog 140 f140 := ⟨func140, by decide +kernel, by kernel_rfl⟩
theorem ok141 : FnOk prog 141 f141 := ⟨func141, by decide +kernel, by kernel_rfl⟩
theorem ok142 : FnOk prog 142 f142 := ⟨func142, by decide +kernel, by kernel_rfl⟩
theorem ok143 : FnOk prog 143 f143 := ⟨func143, by decide +kernel, by kernel_rfl⟩
theorem ok144 : FnOk prog 144 f144 := ⟨func144, by decide +kernel, by kernel_rfl⟩
theorem ok145 : FnOk prog 145 f145 := ⟨func145, by decide +kernel, by kernel_rfl⟩
theorem ok146 : FnOk prog 146 f146 := ⟨func146, by decide +kernel, by kernel_rfl⟩
theorem ok147 : FnOk prog 147 f147 := ⟨func147, by decide +kernel, by kernel_rfl⟩
theorem ok150 : FnOk prog 150 f150 := ⟨func150, by decide +kernel, by kernel_rfl⟩
theorem ok153 : FnOk prog 153 f153 := ⟨func153, by decide +kernel, by kernel_rfl⟩
theorem ok154 : FnOk prog 154 f154 := ⟨func154, by decide +kernel, by kernel_rfl⟩
theorem ok155 : FnOk prog 155 f155 := ⟨func155, by decide +kernel, by kernel_rfl⟩
theorem ok156 : FnOk prog 156 f156 := ⟨func156, by decide +kernel, by kernel_rfl⟩
theorem ok157 : FnOk prog 157 f157 := ⟨func157, by decide +kernel, by kernel_rfl⟩
theorem ok159 : FnOk prog 159 f159 := ⟨func159, by decide +kernel, by kernel_rfl⟩
theorem ok160 : FnOk prog 160 f160 := ⟨func160, by decide +kernel, by kernel_rfl⟩
theorem ok161 : FnOk prog 161 f161 := ⟨func161, by decide +kernel, by kernel_rfl⟩
theorem ok164 : FnOk prog 164 f164 := ⟨func164, by decide +kernel, by kernel_rfl⟩
theorem ok165 : FnOk prog 165 f165 := ⟨func165, by decide +kernel, by kernel_rfl⟩
theorem ok166 : FnOk prog 166 f166 := ⟨func166, by decide +kernel, by kernel_rfl⟩
theorem ok167 : FnOk prog 167 f167 := ⟨func167, by decide +kernel, by kernel_rfl⟩
theorem ok168 : FnOk prog 168 f168 := ⟨func168, by decide +kernel, by kernel_rfl⟩
end Go.Proofs.YtjdjlijjolibkaaDoor.V
/- The pure machine, part wb: a slice that is asked whether it is nil. -/
namespace Go.Proofs.YtjdjlijjolibkaaDoor.V
open Go.RowKit
section
variable {P : Program} {I : World → Prop} {g : Nat} {M : Mach P I g} {R : Type} {fin : Fins R}
variable {base : Base} {S0 : Nat → Prop} {cs0 : List Frame} {post : World → Ending → R → Prop}
theorem nil_sound {c : Cfg} {f : Func} {body : Code} {id : Nat} {ops : Array Oper} {k : List Item} {i : Nat} {o : Oper} {T e : TypeId} {x : Operand} {yT : TypeId} {t : Ty} {l : List t.den} {cl : Bool} {r : R} (hf : M.fn c.top.K = some f) (hb : f.body = some body)
    (ht : todoAt body c.top.path [] = some (.region id ops false, k)) (hix : c.top.ix = some i) (hstart : c.top.start = none) (ho : ops[i]? = some o) (hgd : o.guard = none) (hop : o.op = .binOp .eql T x (.const (.slice none 0 0)) yT)
    (hu : P.underlying T = some (.slice e)) (hx : evalP M.gl c.top.env x = .rows t l cl)
    (h1 : l = [] → Sound M base S0 cs0 post (adv c i o.dst (.val (.bool true)) c.H ⟨[], [], []⟩) r) (h2 : Sound M base S0 cs0 post (adv c i o.dst (.val (.bool false)) c.H ⟨[], [], []⟩) r) : Sound M base S0 cs0 post c r := by
  intro ρ w S b a todo cs hI hg hh he hst hstack htr
  obtain ⟨hb1, hb2, hd, f', body', code, k', e1, e2, e3, e4⟩ := hst
  rw [hf] at e1; cases e1
  rw [hb] at e2; cases e2
  rw [ht] at e3; cases e3
  rw [hix] at e4
  obtain ⟨id', ops', draw', e5, e6⟩ := e4
  cases e5
  have hlt : i < ops.size := (Array.getElem?_eq_some_iff.1 ho).1
  rw [hstart] at e6
  obtain ⟨_, rfl⟩ := e6
  have eH : c.H0 = c.H := by simp [Cfg.H0, hstart]
  have eE : c.env0 = c.top.env := by simp [Cfg.env0, hstart]
  rw [eH] at hh he hstack
  rw [eE] at he
  have hv := evalP_rel M hg hI hh he x
  rw [hx] at hv
  simp only [PRel] at hv
  obtain ⟨⟨ad, cap, hve, _, hne⟩, _⟩ := hv
  have hS : Sound M base S0 cs0 post (adv c i o.dst (.val (.bool ad.isNone)) c.H ⟨[], [], []⟩) r := by
    cases ad with
    | none =>
      refine h1 ?_
      rcases List.eq_nil_or_concat l with h | ⟨_, _, h⟩
      · exact h
      · have : l ≠ [] := by rw [h]; simp
        obtain ⟨_, _, _, _, _, e, _⟩ := hne this
        cases e
    | some _ => exact h2
  have hrun : (execOp a.eval o).run P w = .ok (.value (.bool ad.isNone)) w := by
    obtain ⟨dst, op, ty, pos, aft, gd⟩ := o
    simp only at hop
    subst hop
    have := run_equal_slice_nil (P := P) w T e ad l.length cap hu
    have hc : a.eval (.const (.slice none 0 0)) = .slice none 0 0 := rfl
    simp only [execOp, hve, hc]
    simp [eqGuard, binOp, this]
  have hwp : wpOp P ops (fun _ _ _ => False) i (fun a' w' => w' = w ∧ a' = a.put o.dst (.bool ad.isNone)) a w := by
    unfold wpOp
    simp only [ho]
    have : Region.wanted o (yielded ops a.tmps) = true := by simp [Region.wanted, hgd]
    rw [this]
    simp only [if_true]
    left
    unfold Oper.wp
    rw [hrun]
    exact ⟨rfl, rfl⟩
  rw [range'_cons hlt]
  obtain ⟨a', w', ⟨rfl, rfl⟩, hsteps⟩ := wpOp_steps hwp b (rest := List.range' (i + 1) (ops.size - (i + 1))) k cs
  refine Fin.steps hsteps ?_
  have hsn : (adv c i o.dst (.val (.bool ad.isNone)) c.H ⟨[], [], []⟩).top.start = none := hstart
  exact hS.plain hsn ρ _ S b _ _ cs hI hg hh (putP_rel he (p := .val (.bool ad.isNone)) (v := .bool ad.isNone) (by simp only [PRel]) o.dst) ⟨hb1, hb2, (put_defers' _ _ _).trans hd, f, body, .region id ops false, k, hf, hb, ht, id, ops, false, rfl, by rw [hsn]; exact ⟨rfl, rfl⟩⟩ hstack
theorem nos_split {c : Cfg} {r : R} (b j : Nat) {e : TypeId} {cs : List PV} (b' off : Nat) (hs : c.top.start = none) (ho : c.H.at? b = some (.cells e cs)) (hj : cs[j]? = some (.nos b' off))
    (h1 : Sound M base S0 cs0 post { c with H := c.H.set b (some (.cells e (cs.set j (.val (.pointer none))))) } r) (h2 : Sound M base S0 cs0 post { c with H := c.H.set b (some (.cells e (cs.set j (.ptr b' off)))) } r) : Sound M base S0 cs0 post c r := by
  intro ρ w S b0 a todo cs' hI hg hh he hst hstack htr
  have eH : c.H0 = c.H := by simp [Cfg.H0, hs]
  have eE : c.env0 = c.top.env := by simp [Cfg.env0, hs]
  rw [eH] at hh he hstack
  rw [eE] at he
  obtain ⟨blk, arr, fz, q1, q2, q3, q4⟩ := hh.block _ _ ho
  obtain ⟨v, hv1, hv2⟩ := q4.get j _ hj
  have go : ∀ p : PV, (∀ {H'}, Ext base ρ c.H w S ρ H' w S → PRel ρ H' w S p v) → Sound M base S0 cs0 post { c with H := c.H.set b (some (.cells e (cs.set j p))) } r → Fin P (bottom c.top.K c.rest) base cs0 post w (lone (b0.at a todo) cs' w) r := by
    intro p hp hS
    obtain ⟨g1, g2⟩ := hh.turn (w' := w) (o' := .cells e (cs.set j p)) ho rfl rfl (.cells (by simp)) q1 rfl (fun _ _ => rfl) ⟨rfl, rfl, rfl⟩ (fun hx => by
      refine ⟨blk, arr, fz, q1, q2, q3, ?_⟩
      have hset := (q4.mono hx.hH hx.hr hx.hw hx.hS).set j (hp hx)
      have : arr.toList.set j v = arr.toList := by
        apply List.ext_getElem?
        intro i
        by_cases e : j = i
        · subst e
          rw [List.getElem?_set_self', hv1]
          rfl
        · rw [List.getElem?_set_ne e]
      rwa [this] at hset)
    have hsn : ({ c with H := c.H.set b (some (.cells e (cs.set j p))) } : Cfg).top.start = none := hs
    refine hS.plain hsn ρ w S b0 a todo cs' hI hg g1 (g2.rels he) hst (hstack.ext g2)
  simp only [PRel] at hv2
  obtain ⟨hkn, hv2⟩ := hv2
  rcases hv2 with rfl | hv2
  · exact go _ (fun _ => by simp only [PRel]) h1
  · refine go _ (fun {H'} hx => ?_) h2
    have : PRel ρ c.H w S (.ptr b' off) v := by simp only [PRel]; exact ⟨⟨hkn, hv2.1⟩, hv2.2⟩
    exact hx.rel this
end
end Go.Proofs.YtjdjlijjolibkaaDoor.V
namespace Go.Proofs.YtjdjlijjolibkaaDoor.V
open Go.RowKit Go.Proofs.Tryd
set_option maxRecDepth 100000
set_option linter.unusedVariables false
noncomputable def m_math_bits_Len64 : Mach prog Inv gInv := mach bas [(150, f150)] ⟨ok150, trivial⟩ [] trivial [] trivial [] trivial
/-! ### math/bits.Len64 -/
@[reducible] def r_math_bits_Len64 : List Ty := [(.int .i64)]
def ks_math_bits_Len64 : List Nat := [150]
abbrev H_math_bits_Len64 (base : Base) (S0 : Nat → Prop) := base.n = 0 ∧ FinOk (finR r_math_bits_Len64) base S0 (Post r_math_bits_Len64 S0)
abbrev J_math_bits_Len64 (base : Base) (S0 : Nat → Prop) (cs0 : List Go.Frame) (p : CPat) (J : denC p → Option (denL r_math_bits_Len64)) := JSound m_math_bits_Len64 base S0 cs0 (Post r_math_bits_Len64 S0) p J
abbrev O_math_bits_Len64 (base : Base) (S0 : Nat → Prop) (cs0 : List Go.Frame) (X : Cfg → Option (Option (denL r_math_bits_Len64))) := OSound m_math_bits_Len64 base S0 cs0 (Post r_math_bits_Len64 S0) X
@[reducible] noncomputable def p_math_bits_Len64_1 : CPat := ⟨⟨150, [1, 1, 1], none, [.int .u64, .any, .int .i64], 22⟩, [], [], 0⟩
@[reducible] noncomputable def u_math_bits_Len64_1 (k : Int → Int → Option (Int × Unit)) : denC p_math_bits_Len64_1 → Option (Int × Unit) := fun x => k x.1.1 x.1.2.2.1
noncomputable def b_math_bits_Len64_1 (i10 : Int) (i11 : Int) : Option (Int × Unit) :=
  let b12 : Bool := (decide (i10 ≥ (256 : Int)))
  bif b12 then
    let n13 : Int := (Int.fdiv i10 (256 : Int))
    let n14 : Int := (Go.IntKind.wrap Go.IntKind.i64 (i11 + (8 : Int)))
    let n23 : Int := (Go.IntKind.wrap Go.IntKind.u8 n13)
    bif (decide (((0 : Int) ≤ n23) ∧ (n23 < (256 : Int)))) then
      let n24 : Int := (byteAt (ByteArray.mk (List.toArray (List.append (List.append ((0 : UInt8) :: ((1 : UInt8) :: ((2 : UInt8) :: ((2 : UInt8) :: ((3 : UInt8) :: ((3 : UInt8) :: ((3 : UInt8) :: ((3 : UInt8) :: ((4 : UInt8) :: ((4 : UInt8) :: ((4 : UInt8) :: ((4 : UInt8) :: ((4 : UInt8) :: ((4 : UInt8) :: ((4 : UInt8) :: ((4 : UInt8) :: ((5 : UInt8) :: ((5 : UInt8) :: ((5 : UInt8) :: ((5 : UInt8) :: ((5 : UInt8) :: ((5 : UInt8) :: ((5 : UInt8) :: ((5 : UInt8) :: ((5 : UInt8) :: ((5 : UInt8) :: ((5 : UInt8) :: ((5 : UInt8) :: ((5 : UInt8) :: ((5 : UInt8) :: ((5 : UInt8) :: ((5 : UInt8) :: ((6 : UInt8) :: ((6 : UInt8) :: ((6 : UInt8) :: ((6 : UInt8) :: ((6 : UInt8) :: ((6 : UInt8) :: ((6 : UInt8) :: ((6 : UInt8) :: ((6 : UInt8) :: ((6 : UInt8) :: ((6 : UInt8) :: ((6 : UInt8) :: ((6 : UInt8) :: ((6 : UInt8) :: ((6 : UInt8) :: ((6 : UInt8) :: ((6 : UInt8) :: ((6 : UInt8) :: ((6 : UInt8) :: ((6 : UInt8) :: ((6 : UInt8) :: ((6 : UInt8) :: ((6 : UInt8) :: ((6 : UInt8) :: ((6 : UInt8) :: ((6 : UInt8) :: ((6 : UInt8) :: ((6 : UInt8) :: ((6 : UInt8) :: ((6 : UInt8) :: ((6 : UInt8) :: ((6 : UInt8) :: ([] : List UInt8))))))))))))))))))))))))))))))))))))))))))))))))))))))))))))))))) ((7 : UInt8) :: ((7 : UInt8) :: ((7 : UInt8) :: ((7 : UInt8) :: ((7 : UInt8) :: ((7 : UInt8) :: ((7 : UInt8) :: ((7 : UInt8) :: ((7 : UInt8) :: ((7 : UInt8) :: ((7 : UInt8) :: ((7 : UInt8) :: ((7 : UInt8) :: ((7 : UInt8) :: ((7 : UInt8) :: ((7 : UInt8) :: ((7 : UInt8) :: ((7 : UInt8) :: ((7 : UInt8) :: ((7 : UInt8) :: ((7 : UInt8) :: ((7 : UInt8) :: ((7 : UInt8) :: ((7 : UInt8) :: ((7 : UInt8) :: ((7 : UInt8) :: ((7 : UInt8) :: ((7 : UInt8) :: ((7 : UInt8) :: ((7 : UInt8) :: ((7 : UInt8) :: ((7 : UInt8) :: ((7 : UInt8) :: ((7 : UInt8) :: ((7 : UInt8) :: ((7 : UInt8) :: ((7 : UInt8) :: ((7 : UInt8) :: ((7 : UInt8) :: ((7 : UInt8) :: ((7 : UInt8) :: ((7 : UInt8) :: ((7 : UInt8) :: ((7 : UInt8) :: ((7 : UInt8) :: ((7 : UInt8) :: ((7 : UInt8) :: ((7 : UInt8) :: ((7 : UInt8) :: ((7 : UInt8) :: ((7 : UInt8) :: ((7 : UInt8) :: ((7 : UInt8) :: ((7 : UInt8) :: ((7 : UInt8) :: ((7 : UInt8) :: ((7 : UInt8) :: ((7 : UInt8) :: ((7 : UInt8) :: ((7 : UInt8) :: ((7 : UInt8) :: ((7 : UInt8) :: ((7 : UInt8) :: ((7 : UInt8) :: ([] : List UInt8)))))))))))))))))))))))))))))))))))))))))))))))))))))))))))))))))) (List.append ((8 : UInt8) :: ((8 : UInt8) :: ((8 : UInt8) :: ((8 : UInt8) :: ((8 : UInt8) :: ((8 : UInt8) :: ((8 : UInt8) :: ((8 : UInt8) :: ((8 : UInt8) :: ((8 : UInt8) :: ((8 : UInt8) :: ((8 : UInt8) :: ((8 : UInt8) :: ((8 : UInt8) :: ((8 : UInt8) :: ((8 : UInt8) :: ((8 : UInt8) :: ((8 : UInt8) :: ((8 : UInt8) :: ((8 : UInt8) :: ((8 : UInt8) :: ((8 : UInt8) :: ((8 : UInt8) :: ((8 : UInt8) :: ((8 : UInt8) :: ((8 : UInt8) :: ((8 : UInt8) :: ((8 : UInt8) :: ((8 : UInt8) :: ((8 : UInt8) :: ((8 : UInt8) :: ((8 : UInt8) :: ((8 : UInt8) :: ((8 : UInt8) :: ((8 : UInt8) :: ((8 : UInt8) :: ((8 : UInt8) :: ((8 : UInt8) :: ((8 : UInt8) :: ((8 : UInt8) :: ((8 : UInt8) :: ((8 : UInt8) :: ((8 : UInt8) :: ((8 : UInt8) :: ((8 : UInt8) :: ((8 : UInt8) :: ((8 : UInt8) :: ((8 : UInt8) :: ((8 : UInt8) :: ((8 : UInt8) :: ((8 : UInt8) :: ((8 : UInt8) :: ((8 : UInt8) :: ((8 : UInt8) :: ((8 : UInt8) :: ((8 : UInt8) :: ((8 : UInt8) :: ((8 : UInt8) :: ((8 : UInt8) :: ((8 : UInt8) :: ((8 : UInt8) :: ((8 : UInt8) :: ((8 : UInt8) :: ((8 : UInt8) :: ([] : List UInt8))))))))))))))))))))))))))))))))))))))))))))))))))))))))))))))))) ((8 : UInt8) :: ((8 : UInt8) :: ((8 : UInt8) :: ((8 : UInt8) :: ((8 : UInt8) :: ((8 : UInt8) :: ((8 : UInt8) :: ((8 : UInt8) :: ((8 : UInt8) :: ((8 : UInt8) :: ((8 : UInt8) :: ((8 : UInt8) :: ((8 : UInt8) :: ((8 : UInt8) :: ((8 : UInt8) :: ((8 : UInt8) :: ((8 : UInt8) :: ((8 : UInt8) :: ((8 : UInt8) :: ((8 : UInt8) :: ((8 : UInt8) :: ((8 : UInt8) :: ((8 : UInt8) :: ((8 : UInt8) :: ((8 : UInt8) :: ((8 : UInt8) :: ((8 : UInt8) :: ((8 : UInt8) :: ((8 : UInt8) :: ((8 : UInt8) :: ((8 : UInt8) :: ((8 : UInt8) :: ((8 : UInt8) :: ((8 : UInt8) :: ((8 : UInt8) :: ((8 : UInt8) :: ((8 : UInt8) :: ((8 : UInt8) :: ((8 : UInt8) :: ((8 : UInt8) :: ((8 : UInt8) :: ((8 : UInt8) :: ((8 : UInt8) :: ((8 : UInt8) :: ((8 : UInt8) :: ((8 : UInt8) :: ((8 : UInt8) :: ((8 : UInt8) :: ((8 : UInt8) :: ((8 : UInt8) :: ((8 : UInt8) :: ((8 : UInt8) :: ((8 : UInt8) :: ((8 : UInt8) :: ((8 : UInt8) :: ((8 : UInt8) :: ((8 : UInt8) :: ((8 : UInt8) :: ((8 : UInt8) :: ((8 : UInt8) :: ((8 : UInt8) :: ((8 : UInt8) :: ((8 : UInt8) :: ((8 : UInt8) :: ([] : List UInt8))))))))))))))))))))))))))))))))))))))))))))))))))))))))))))))))))))) n23)
      let n25 : Int := (Go.IntKind.wrap Go.IntKind.i64 n24)
      let n26 : Int := (Go.IntKind.wrap Go.IntKind.i64 (n14 + n25))
      some (n26, ())
    else none
  else
    let n19 : Int := (Go.IntKind.wrap Go.IntKind.u8 i10)
    bif (decide (((0 : Int) ≤ n19) ∧ (n19 < (256 : Int)))) then
      let n20 : Int := (byteAt (ByteArray.mk (List.toArray (List.append (List.append ((0 : UInt8) :: ((1 : UInt8) :: ((2 : UInt8) :: ((2 : UInt8) :: ((3 : UInt8) :: ((3 : UInt8) :: ((3 : UInt8) :: ((3 : UInt8) :: ((4 : UInt8) :: ((4 : UInt8) :: ((4 : UInt8) :: ((4 : UInt8) :: ((4 : UInt8) :: ((4 : UInt8) :: ((4 : UInt8) :: ((4 : UInt8) :: ((5 : UInt8) :: ((5 : UInt8) :: ((5 : UInt8) :: ((5 : UInt8) :: ((5 : UInt8) :: ((5 : UInt8) :: ((5 : UInt8) :: ((5 : UInt8) :: ((5 : UInt8) :: ((5 : UInt8) :: ((5 : UInt8) :: ((5 : UInt8) :: ((5 : UInt8) :: ((5 : UInt8) :: ((5 : UInt8) :: ((5 : UInt8) :: ((6 : UInt8) :: ((6 : UInt8) :: ((6 : UInt8) :: ((6 : UInt8) :: ((6 : UInt8) :: ((6 : UInt8) :: ((6 : UInt8) :: ((6 : UInt8) :: ((6 : UInt8) :: ((6 : UInt8) :: ((6 : UInt8) :: ((6 : UInt8) :: ((6 : UInt8) :: ((6 : UInt8) :: ((6 : UInt8) :: ((6 : UInt8) :: ((6 : UInt8) :: ((6 : UInt8) :: ((6 : UInt8) :: ((6 : UInt8) :: ((6 : UInt8) :: ((6 : UInt8) :: ((6 : UInt8) :: ((6 : UInt8) :: ((6 : UInt8) :: ((6 : UInt8) :: ((6 : UInt8) :: ((6 : UInt8) :: ((6 : UInt8) :: ((6 : UInt8) :: ((6 : UInt8) :: ((6 : UInt8) :: ([] : List UInt8))))))))))))))))))))))))))))))))))))))))))))))))))))))))))))))))) ((7 : UInt8) :: ((7 : UInt8) :: ((7 : UInt8) :: ((7 : UInt8) :: ((7 : UInt8) :: ((7 : UInt8) :: ((7 : UInt8) :: ((7 : UInt8) :: ((7 : UInt8) :: ((7 : UInt8) :: ((7 : UInt8) :: ((7 : UInt8) :: ((7 : UInt8) :: ((7 : UInt8) :: ((7 : UInt8) :: ((7 : UInt8) :: ((7 : UInt8) :: ((7 : UInt8) :: ((7 : UInt8) :: ((7 : UInt8) :: ((7 : UInt8) :: ((7 : UInt8) :: ((7 : UInt8) :: ((7 : UInt8) :: ((7 : UInt8) :: ((7 : UInt8) :: ((7 : UInt8) :: ((7 : UInt8) :: ((7 : UInt8) :: ((7 : UInt8) :: ((7 : UInt8) :: ((7 : UInt8) :: ((7 : UInt8) :: ((7 : UInt8) :: ((7 : UInt8) :: ((7 : UInt8) :: ((7 : UInt8) :: ((7 : UInt8) :: ((7 : UInt8) :: ((7 : UInt8) :: ((7 : UInt8) :: ((7 : UInt8) :: ((7 : UInt8) :: ((7 : UInt8) :: ((7 : UInt8) :: ((7 : UInt8) :: ((7 : UInt8) :: ((7 : UInt8) :: ((7 : UInt8) :: ((7 : UInt8) :: ((7 : UInt8) :: ((7 : UInt8) :: ((7 : UInt8) :: ((7 : UInt8) :: ((7 : UInt8) :: ((7 : UInt8) :: ((7 : UInt8) :: ((7 : UInt8) :: ((7 : UInt8) :: ((7 : UInt8) :: ((7 : UInt8) :: ((7 : UInt8) :: ((7 : UInt8) :: ((7 : UInt8) :: ([] : List UInt8)))))))))))))))))))))))))))))))))))))))))))))))))))))))))))))))))) (List.append ((8 : UInt8) :: ((8 : UInt8) :: ((8 : UInt8) :: ((8 : UInt8) :: ((8 : UInt8) :: ((8 : UInt8) :: ((8 : UInt8) :: ((8 : UInt8) :: ((8 : UInt8) :: ((8 : UInt8) :: ((8 : UInt8) :: ((8 : UInt8) :: ((8 : UInt8) :: ((8 : UInt8) :: ((8 : UInt8) :: ((8 : UInt8) :: ((8 : UInt8) :: ((8 : UInt8) :: ((8 : UInt8) :: ((8 : UInt8) :: ((8 : UInt8) :: ((8 : UInt8) :: ((8 : UInt8) :: ((8 : UInt8) :: ((8 : UInt8) :: ((8 : UInt8) :: ((8 : UInt8) :: ((8 : UInt8) :: ((8 : UInt8) :: ((8 : UInt8) :: ((8 : UInt8) :: ((8 : UInt8) :: ((8 : UInt8) :: ((8 : UInt8) :: ((8 : UInt8) :: ((8 : UInt8) :: ((8 : UInt8) :: ((8 : UInt8) :: ((8 : UInt8) :: ((8 : UInt8) :: ((8 : UInt8) :: ((8 : UInt8) :: ((8 : UInt8) :: ((8 : UInt8) :: ((8 : UInt8) :: ((8 : UInt8) :: ((8 : UInt8) :: ((8 : UInt8) :: ((8 : UInt8) :: ((8 : UInt8) :: ((8 : UInt8) :: ((8 : UInt8) :: ((8 : UInt8) :: ((8 : UInt8) :: ((8 : UInt8) :: ((8 : UInt8) :: ((8 : UInt8) :: ((8 : UInt8) :: ((8 : UInt8) :: ((8 : UInt8) :: ((8 : UInt8) :: ((8 : UInt8) :: ((8 : UInt8) :: ((8 : UInt8) :: ([] : List UInt8))))))))))))))))))))))))))))))))))))))))))))))))))))))))))))))))) ((8 : UInt8) :: ((8 : UInt8) :: ((8 : UInt8) :: ((8 : UInt8) :: ((8 : UInt8) :: ((8 : UInt8) :: ((8 : UInt8) :: ((8 : UInt8) :: ((8 : UInt8) :: ((8 : UInt8) :: ((8 : UInt8) :: ((8 : UInt8) :: ((8 : UInt8) :: ((8 : UInt8) :: ((8 : UInt8) :: ((8 : UInt8) :: ((8 : UInt8) :: ((8 : UInt8) :: ((8 : UInt8) :: ((8 : UInt8) :: ((8 : UInt8) :: ((8 : UInt8) :: ((8 : UInt8) :: ((8 : UInt8) :: ((8 : UInt8) :: ((8 : UInt8) :: ((8 : UInt8) :: ((8 : UInt8) :: ((8 : UInt8) :: ((8 : UInt8) :: ((8 : UInt8) :: ((8 : UInt8) :: ((8 : UInt8) :: ((8 : UInt8) :: ((8 : UInt8) :: ((8 : UInt8) :: ((8 : UInt8) :: ((8 : UInt8) :: ((8 : UInt8) :: ((8 : UInt8) :: ((8 : UInt8) :: ((8 : UInt8) :: ((8 : UInt8) :: ((8 : UInt8) :: ((8 : UInt8) :: ((8 : UInt8) :: ((8 : UInt8) :: ((8 : UInt8) :: ((8 : UInt8) :: ((8 : UInt8) :: ((8 : UInt8) :: ((8 : UInt8) :: ((8 : UInt8) :: ((8 : UInt8) :: ((8 : UInt8) :: ((8 : UInt8) :: ((8 : UInt8) :: ((8 : UInt8) :: ((8 : UInt8) :: ((8 : UInt8) :: ((8 : UInt8) :: ((8 : UInt8) :: ((8 : UInt8) :: ((8 : UInt8) :: ([] : List UInt8))))))))))))))))))))))))))))))))))))))))))))))))))))))))))))))))))))) n19)
      let n21 : Int := (Go.IntKind.wrap Go.IntKind.i64 n20)
      let n22 : Int := (Go.IntKind.wrap Go.IntKind.i64 (i11 + n21))
      some (n22, ())
    else none
theorem ex_math_bits_Len64_1 : ∃ f, f = @b_math_bits_Len64_1 := ⟨_, rfl⟩
noncomputable def math_bits_Len64_1 := Classical.choose ex_math_bits_Len64_1
theorem math_bits_Len64_1_eq : @math_bits_Len64_1 = @b_math_bits_Len64_1 := Classical.choose_spec ex_math_bits_Len64_1
theorem s_math_bits_Len64_1 {base S0 cs0} (hfin : H_math_bits_Len64 base S0) : J_math_bits_Len64 base S0 cs0 p_math_bits_Len64_1 (u_math_bits_Len64_1 (math_bits_Len64_1)) :=
  JSound.join hfin.2 (OSound.nowhere) ks_math_bits_Len64 100000 (by rw [math_bits_Len64_1_eq]; intro x; kernel_rfl)
noncomputable def x_math_bits_Len64_1 : Cfg → Option (Option (Int × Unit)) := cut p_math_bits_Len64_1 (u_math_bits_Len64_1 (math_bits_Len64_1)) (nowhere)
theorem o_math_bits_Len64_1 {base S0 cs0} (hfin : H_math_bits_Len64 base S0) : O_math_bits_Len64 base S0 cs0 (x_math_bits_Len64_1) := OSound.cut (OSound.nowhere) (Nat.le_of_eq hfin.1) (s_math_bits_Len64_1 hfin)
@[reducible] noncomputable def p_math_bits_Len64_0 : CPat := ⟨⟨150, [1, 1], none, [.int .u64, .any, .int .i64], 22⟩, [], [], 0⟩
@[reducible] noncomputable def u_math_bits_Len64_0 (k : Int → Int → Option (Int × Unit)) : denC p_math_bits_Len64_0 → Option (Int × Unit) := fun x => k x.1.1 x.1.2.2.1
noncomputable def b_math_bits_Len64_0 (i4 : Int) (i5 : Int) : Option (Int × Unit) :=
  let b6 : Bool := (decide (i4 ≥ (65536 : Int)))
  bif b6 then
    let n7 : Int := (Int.fdiv i4 (65536 : Int))
    let n8 : Int := (Go.IntKind.wrap Go.IntKind.i64 (i5 + (16 : Int)))
    math_bits_Len64_1 n7 n8
  else
    math_bits_Len64_1 i4 i5
theorem ex_math_bits_Len64_0 : ∃ f, f = @b_math_bits_Len64_0 := ⟨_, rfl⟩
noncomputable def math_bits_Len64_0 := Classical.choose ex_math_bits_Len64_0
theorem math_bits_Len64_0_eq : @math_bits_Len64_0 = @b_math_bits_Len64_0 := Classical.choose_spec ex_math_bits_Len64_0
theorem s_math_bits_Len64_0 {base S0 cs0} (hfin : H_math_bits_Len64 base S0) : J_math_bits_Len64 base S0 cs0 p_math_bits_Len64_0 (u_math_bits_Len64_0 (math_bits_Len64_0)) :=
  JSound.join hfin.2 (o_math_bits_Len64_1 hfin) ks_math_bits_Len64 100000 (by rw [math_bits_Len64_0_eq]; intro x; kernel_rfl)
noncomputable def x_math_bits_Len64_0 : Cfg → Option (Option (Int × Unit)) := cut p_math_bits_Len64_0 (u_math_bits_Len64_0 (math_bits_Len64_0)) (x_math_bits_Len64_1)
theorem o_math_bits_Len64_0 {base S0 cs0} (hfin : H_math_bits_Len64 base S0) : O_math_bits_Len64 base S0 cs0 (x_math_bits_Len64_0) := OSound.cut (o_math_bits_Len64_1 hfin) (Nat.le_of_eq hfin.1) (s_math_bits_Len64_0 hfin)
noncomputable def b_math_bits_Len64 (a0 : Int) : Option (Int × Unit) :=
  let b1 : Bool := (decide (a0 ≥ (4294967296 : Int)))
  bif b1 then
    let n2 : Int := (Int.fdiv a0 (4294967296 : Int))
    math_bits_Len64_0 n2 (32 : Int)
  else
    math_bits_Len64_0 a0 (0 : Int)
theorem ex_math_bits_Len64 : ∃ f, f = @b_math_bits_Len64 := ⟨_, rfl⟩
noncomputable def math_bits_Len64 := Classical.choose ex_math_bits_Len64
theorem math_bits_Len64_eq : @math_bits_Len64 = @b_math_bits_Len64 := Classical.choose_spec ex_math_bits_Len64
noncomputable def cb_math_bits_Len64 : Con := ⟨[(.int .u64)], r_math_bits_Len64, fun x => b_math_bits_Len64 x.1⟩
noncomputable def c_math_bits_Len64 : Con := ⟨[(.int .u64)], r_math_bits_Len64, fun x => math_bits_Len64 x.1⟩
theorem cb_math_bits_Len64_ok : cb_math_bits_Len64.Sound prog Inv gInv 150 :=
  con_run (M := m_math_bits_Len64) inv_g (f := f150) rfl ks_math_bits_Len64 100000 (X := x_math_bits_Len64_0) (fun base S0 cs0 hn hf => have hfin : H_math_bits_Len64 base S0 := ⟨hn, hf⟩; o_math_bits_Len64_0 hfin) (by intro x; kernel_rfl)
theorem c_math_bits_Len64_ok : c_math_bits_Len64.Sound prog Inv gInv 150 := by
  have e : c_math_bits_Len64 = cb_math_bits_Len64 := by unfold c_math_bits_Len64 cb_math_bits_Len64; rw [math_bits_Len64_eq]
  rw [e]; exact cb_math_bits_Len64_ok
end Go.Proofs.YtjdjlijjolibkaaDoor.V
namespace Go.Proofs.YtjdjlijjolibkaaDoor.V
open Go.RowKit Go.Proofs.Tryd
set_option maxRecDepth 100000
set_option linter.unusedVariables false
noncomputable def m_varint_Size : Mach prog Inv gInv := mach bas [(124, f124)] ⟨ok124, trivial⟩ [(150, c_math_bits_Len64)] ⟨⟨c_math_bits_Len64_ok, FnOk.callable ok150⟩, trivial⟩ [] trivial [] trivial
/-! ### domino/varint.Size -/
@[reducible] def r_varint_Size : List Ty := [(.int .i64)]
def ks_varint_Size : List Nat := [124]
noncomputable def b_varint_Size (a0 : Int) : Option (Int × Unit) :=
  obind (math_bits_Len64 a0) fun y1 =>
  let b2 : Bool := (decide (y1.1 ≤ (6 : Int)))
  bif b2 then
    some ((1 : Int), ())
  else
    obind (math_bits_Len64 a0) fun y3 =>
    let b4 : Bool := (decide (y3.1 ≤ (14 : Int)))
    bif b4 then
      some ((2 : Int), ())
    else
      obind (math_bits_Len64 a0) fun y5 =>
      let b6 : Bool := (decide (y5.1 ≤ (30 : Int)))
      bif b6 then
        some ((4 : Int), ())
      else
        obind (math_bits_Len64 a0) fun y7 =>
        let b8 : Bool := (decide (y7.1 ≤ (62 : Int)))
        bif b8 then
          some ((8 : Int), ())
        else
          some ((0 : Int), ())
theorem ex_varint_Size : ∃ f, f = @b_varint_Size := ⟨_, rfl⟩
noncomputable def varint_Size := Classical.choose ex_varint_Size
theorem varint_Size_eq : @varint_Size = @b_varint_Size := Classical.choose_spec ex_varint_Size
noncomputable def cb_varint_Size : Con := ⟨[(.int .u64)], r_varint_Size, fun x => b_varint_Size x.1⟩
noncomputable def c_varint_Size : Con := ⟨[(.int .u64)], r_varint_Size, fun x => varint_Size x.1⟩
theorem cb_varint_Size_ok : cb_varint_Size.Sound prog Inv gInv 124 :=
  con_run (M := m_varint_Size) inv_g (f := f124) rfl ks_varint_Size 100000 (X := nowhere) (fun base S0 cs0 hn hf => OSound.nowhere) (by intro x; kernel_rfl)
theorem c_varint_Size_ok : c_varint_Size.Sound prog Inv gInv 124 := by
  have e : c_varint_Size = cb_varint_Size := by unfold c_varint_Size cb_varint_Size; rw [varint_Size_eq]
  rw [e]; exact cb_varint_Size_ok
end Go.Proofs.YtjdjlijjolibkaaDoor.V
namespace Go.Proofs.YtjdjlijjolibkaaDoor.V
open Go.RowKit Go.Proofs.Tryd
set_option maxRecDepth 100000
set_option linter.unusedVariables false
noncomputable def m_math_bits_RotateLeft64 : Mach prog Inv gInv := mach bas [(165, f165)] ⟨ok165, trivial⟩ [] trivial [] trivial [] trivial
/-! ### math/bits.RotateLeft64 -/
@[reducible] def r_math_bits_RotateLeft64 : List Ty := [(.int .u64)]
def ks_math_bits_RotateLeft64 : List Nat := [165]
noncomputable def b_math_bits_RotateLeft64 (a0 : Int) (a1 : Int) : Option (Int × Unit) :=
  let n2 : Int := (Go.IntKind.wrap Go.IntKind.u64 a1)
  let n3 : Int := (bits Go.BinOp.and Go.IntKind.u64 n2 (63 : Int))
  bif (decide ((0 : Int) ≤ n3)) then
    let n4 : Int := (Go.IntKind.wrap Go.IntKind.u64 (a0 * ((2 : Int) ^ (Min.min (Int.toNat n3) 64))))
    let n5 : Int := (Go.IntKind.wrap Go.IntKind.u64 ((64 : Int) - n3))
    bif (decide ((0 : Int) ≤ n5)) then
      let n6 : Int := (Int.fdiv a0 ((2 : Int) ^ (Min.min (Int.toNat n5) 64)))
      let n7 : Int := (bits Go.BinOp.or Go.IntKind.u64 n4 n6)
      some (n7, ())
    else none
  else none
theorem ex_math_bits_RotateLeft64 : ∃ f, f = @b_math_bits_RotateLeft64 := ⟨_, rfl⟩
noncomputable def math_bits_RotateLeft64 := Classical.choose ex_math_bits_RotateLeft64
theorem math_bits_RotateLeft64_eq : @math_bits_RotateLeft64 = @b_math_bits_RotateLeft64 := Classical.choose_spec ex_math_bits_RotateLeft64
noncomputable def cb_math_bits_RotateLeft64 : Con := ⟨[(.int .u64), (.int .i64)], r_math_bits_RotateLeft64, fun x => b_math_bits_RotateLeft64 x.1 x.2.1⟩
noncomputable def c_math_bits_RotateLeft64 : Con := ⟨[(.int .u64), (.int .i64)], r_math_bits_RotateLeft64, fun x => math_bits_RotateLeft64 x.1 x.2.1⟩
theorem cb_math_bits_RotateLeft64_ok : cb_math_bits_RotateLeft64.Sound prog Inv gInv 165 :=
  con_run (M := m_math_bits_RotateLeft64) inv_g (f := f165) rfl ks_math_bits_RotateLeft64 100000 (X := nowhere) (fun base S0 cs0 hn hf => OSound.nowhere) (by intro x; kernel_rfl)
theorem c_math_bits_RotateLeft64_ok : c_math_bits_RotateLeft64.Sound prog Inv gInv 165 := by
  have e : c_math_bits_RotateLeft64 = cb_math_bits_RotateLeft64 := by unfold c_math_bits_RotateLeft64 cb_math_bits_RotateLeft64; rw [math_bits_RotateLeft64_eq]
  rw [e]; exact cb_math_bits_RotateLeft64_ok
end Go.Proofs.YtjdjlijjolibkaaDoor.V
namespace Go.Proofs.YtjdjlijjolibkaaDoor.V
open Go.RowKit Go.Proofs.Tryd
set_option maxRecDepth 100000
set_option linter.unusedVariables false
noncomputable def m_varint_split : Mach prog Inv gInv := mach bas [(160, f160)] ⟨ok160, trivial⟩ [(165, c_math_bits_RotateLeft64)] ⟨⟨c_math_bits_RotateLeft64_ok, FnOk.callable ok165⟩, trivial⟩ [] trivial [] trivial
/-! ### domino/varint.split -/
@[reducible] def r_varint_split : List Ty := [T_8_uint8]
def ks_varint_split : List Nat := [160]
noncomputable def b_varint_split (a0 : Int) : Option (D_8_uint8 × Unit) :=
  obind (math_bits_RotateLeft64 a0 (8 : Int)) fun y1 =>
  let n2 : Int := (Go.IntKind.wrap Go.IntKind.u8 y1.1)
  obind (math_bits_RotateLeft64 a0 (16 : Int)) fun y3 =>
  let n4 : Int := (Go.IntKind.wrap Go.IntKind.u8 y3.1)
  obind (math_bits_RotateLeft64 a0 (24 : Int)) fun y5 =>
  let n6 : Int := (Go.IntKind.wrap Go.IntKind.u8 y5.1)
  obind (math_bits_RotateLeft64 a0 (32 : Int)) fun y7 =>
  let n8 : Int := (Go.IntKind.wrap Go.IntKind.u8 y7.1)
  obind (math_bits_RotateLeft64 a0 (40 : Int)) fun y9 =>
  let n10 : Int := (Go.IntKind.wrap Go.IntKind.u8 y9.1)
  obind (math_bits_RotateLeft64 a0 (48 : Int)) fun y11 =>
  let n12 : Int := (Go.IntKind.wrap Go.IntKind.u8 y11.1)
  obind (math_bits_RotateLeft64 a0 (56 : Int)) fun y13 =>
  let n14 : Int := (Go.IntKind.wrap Go.IntKind.u8 y13.1)
  obind (math_bits_RotateLeft64 a0 (64 : Int)) fun y15 =>
  let n16 : Int := (Go.IntKind.wrap Go.IntKind.u8 y15.1)
  some ((n2, (n4, (n6, (n8, (n10, (n12, (n14, (n16, ())))))))), ())
theorem ex_varint_split : ∃ f, f = @b_varint_split := ⟨_, rfl⟩
noncomputable def varint_split := Classical.choose ex_varint_split
theorem varint_split_eq : @varint_split = @b_varint_split := Classical.choose_spec ex_varint_split
noncomputable def cb_varint_split : Con := ⟨[(.int .u64)], r_varint_split, fun x => b_varint_split x.1⟩
noncomputable def c_varint_split : Con := ⟨[(.int .u64)], r_varint_split, fun x => varint_split x.1⟩
theorem cb_varint_split_ok : cb_varint_split.Sound prog Inv gInv 160 :=
  con_run (M := m_varint_split) inv_g (f := f160) rfl ks_varint_split 100000 (X := nowhere) (fun base S0 cs0 hn hf => OSound.nowhere) (by intro x; kernel_rfl)
theorem c_varint_split_ok : c_varint_split.Sound prog Inv gInv 160 := by
  have e : c_varint_split = cb_varint_split := by unfold c_varint_split cb_varint_split; rw [varint_split_eq]
  rw [e]; exact cb_varint_split_ok
end Go.Proofs.YtjdjlijjolibkaaDoor.V
namespace Go.Proofs.YtjdjlijjolibkaaDoor.V
open Go.RowKit Go.Proofs.Tryd
set_option maxRecDepth 100000
set_option linter.unusedVariables false
noncomputable def m_math_bits_TrailingZeros32 : Mach prog Inv gInv := mach bas [(166, f166)] ⟨ok166, trivial⟩ [] trivial [] trivial [] trivial
/-! ### math/bits.TrailingZeros32 -/
@[reducible] def r_math_bits_TrailingZeros32 : List Ty := [(.int .i64)]
def ks_math_bits_TrailingZeros32 : List Nat := [166]
noncomputable def b_math_bits_TrailingZeros32 (a0 : Int) : Option (Int × Unit) :=
  let b1 : Bool := (a0 == (0 : Int))
  bif b1 then
    some ((32 : Int), ())
  else
    let n2 : Int := (Go.IntKind.wrap Go.IntKind.u32 ((0 : Int) - a0))
    let n3 : Int := (bits Go.BinOp.and Go.IntKind.u32 a0 n2)
    let n4 : Int := (Go.IntKind.wrap Go.IntKind.u32 (n3 * (125613361 : Int)))
    let n5 : Int := (Int.fdiv n4 (134217728 : Int))
    bif (decide (((0 : Int) ≤ n5) ∧ (n5 < (32 : Int)))) then
      let x6 : Int := (List.getD ((0 : Int) :: ((1 : Int) :: ((28 : Int) :: ((2 : Int) :: ((29 : Int) :: ((14 : Int) :: ((24 : Int) :: ((3 : Int) :: ((30 : Int) :: ((22 : Int) :: ((20 : Int) :: ((15 : Int) :: ((25 : Int) :: ((17 : Int) :: ((4 : Int) :: ((8 : Int) :: ((31 : Int) :: ((27 : Int) :: ((13 : Int) :: ((23 : Int) :: ((21 : Int) :: ((19 : Int) :: ((16 : Int) :: ((7 : Int) :: ((26 : Int) :: ((12 : Int) :: ((18 : Int) :: ((6 : Int) :: ((11 : Int) :: ((5 : Int) :: ((10 : Int) :: ((9 : Int) :: ([] : List Int))))))))))))))))))))))))))))))))) (Int.toNat n5) (0 : Int))
      let n7 : Int := (Go.IntKind.wrap Go.IntKind.i64 x6)
      some (n7, ())
    else none
theorem ex_math_bits_TrailingZeros32 : ∃ f, f = @b_math_bits_TrailingZeros32 := ⟨_, rfl⟩
noncomputable def math_bits_TrailingZeros32 := Classical.choose ex_math_bits_TrailingZeros32
theorem math_bits_TrailingZeros32_eq : @math_bits_TrailingZeros32 = @b_math_bits_TrailingZeros32 := Classical.choose_spec ex_math_bits_TrailingZeros32
noncomputable def cb_math_bits_TrailingZeros32 : Con := ⟨[(.int .u32)], r_math_bits_TrailingZeros32, fun x => b_math_bits_TrailingZeros32 x.1⟩
noncomputable def c_math_bits_TrailingZeros32 : Con := ⟨[(.int .u32)], r_math_bits_TrailingZeros32, fun x => math_bits_TrailingZeros32 x.1⟩
theorem cb_math_bits_TrailingZeros32_ok : cb_math_bits_TrailingZeros32.Sound prog Inv gInv 166 :=
  con_run (M := m_math_bits_TrailingZeros32) inv_g (f := f166) rfl ks_math_bits_TrailingZeros32 100000 (X := nowhere) (fun base S0 cs0 hn hf => OSound.nowhere) (by intro x; kernel_rfl)
theorem c_math_bits_TrailingZeros32_ok : c_math_bits_TrailingZeros32.Sound prog Inv gInv 166 := by
  have e : c_math_bits_TrailingZeros32 = cb_math_bits_TrailingZeros32 := by unfold c_math_bits_TrailingZeros32 cb_math_bits_TrailingZeros32; rw [math_bits_TrailingZeros32_eq]
  rw [e]; exact cb_math_bits_TrailingZeros32_ok
end Go.Proofs.YtjdjlijjolibkaaDoor.V
namespace Go.Proofs.YtjdjlijjolibkaaDoor.V
open Go.RowKit Go.Proofs.Tryd
set_option maxRecDepth 100000
set_option linter.unusedVariables false
noncomputable def m_math_bits_TrailingZeros64 : Mach prog Inv gInv := mach bas [(167, f167)] ⟨ok167, trivial⟩ [] trivial [] trivial [] trivial
/-! ### math/bits.TrailingZeros64 -/
@[reducible] def r_math_bits_TrailingZeros64 : List Ty := [(.int .i64)]
def ks_math_bits_TrailingZeros64 : List Nat := [167]
noncomputable def b_math_bits_TrailingZeros64 (a0 : Int) : Option (Int × Unit) :=
  let b1 : Bool := (a0 == (0 : Int))
  bif b1 then
    some ((64 : Int), ())
  else
    let n2 : Int := (Go.IntKind.wrap Go.IntKind.u64 ((0 : Int) - a0))
    let n3 : Int := (bits Go.BinOp.and Go.IntKind.u64 a0 n2)
    let n4 : Int := (Go.IntKind.wrap Go.IntKind.u64 (n3 * (285870213051353865 : Int)))
    let n5 : Int := (Int.fdiv n4 (288230376151711744 : Int))
    bif (decide (((0 : Int) ≤ n5) ∧ (n5 < (64 : Int)))) then
      let x6 : Int := (List.getD ((0 : Int) :: ((1 : Int) :: ((56 : Int) :: ((2 : Int) :: ((57 : Int) :: ((49 : Int) :: ((28 : Int) :: ((3 : Int) :: ((61 : Int) :: ((58 : Int) :: ((42 : Int) :: ((50 : Int) :: ((38 : Int) :: ((29 : Int) :: ((17 : Int) :: ((4 : Int) :: ((62 : Int) :: ((47 : Int) :: ((59 : Int) :: ((36 : Int) :: ((45 : Int) :: ((43 : Int) :: ((51 : Int) :: ((22 : Int) :: ((53 : Int) :: ((39 : Int) :: ((33 : Int) :: ((30 : Int) :: ((24 : Int) :: ((18 : Int) :: ((12 : Int) :: ((5 : Int) :: ((63 : Int) :: ((55 : Int) :: ((48 : Int) :: ((27 : Int) :: ((60 : Int) :: ((41 : Int) :: ((37 : Int) :: ((16 : Int) :: ((46 : Int) :: ((35 : Int) :: ((44 : Int) :: ((21 : Int) :: ((52 : Int) :: ((32 : Int) :: ((23 : Int) :: ((11 : Int) :: ((54 : Int) :: ((26 : Int) :: ((40 : Int) :: ((15 : Int) :: ((34 : Int) :: ((20 : Int) :: ((31 : Int) :: ((10 : Int) :: ((25 : Int) :: ((14 : Int) :: ((19 : Int) :: ((9 : Int) :: ((13 : Int) :: ((8 : Int) :: ((7 : Int) :: ((6 : Int) :: ([] : List Int))))))))))))))))))))))))))))))))))))))))))))))))))))))))))))))))) (Int.toNat n5) (0 : Int))
      let n7 : Int := (Go.IntKind.wrap Go.IntKind.i64 x6)
      some (n7, ())
    else none
theorem ex_math_bits_TrailingZeros64 : ∃ f, f = @b_math_bits_TrailingZeros64 := ⟨_, rfl⟩
noncomputable def math_bits_TrailingZeros64 := Classical.choose ex_math_bits_TrailingZeros64
theorem math_bits_TrailingZeros64_eq : @math_bits_TrailingZeros64 = @b_math_bits_TrailingZeros64 := Classical.choose_spec ex_math_bits_TrailingZeros64
noncomputable def cb_math_bits_TrailingZeros64 : Con := ⟨[(.int .u64)], r_math_bits_TrailingZeros64, fun x => b_math_bits_TrailingZeros64 x.1⟩
noncomputable def c_math_bits_TrailingZeros64 : Con := ⟨[(.int .u64)], r_math_bits_TrailingZeros64, fun x => math_bits_TrailingZeros64 x.1⟩
theorem cb_math_bits_TrailingZeros64_ok : cb_math_bits_TrailingZeros64.Sound prog Inv gInv 167 :=
  con_run (M := m_math_bits_TrailingZeros64) inv_g (f := f167) rfl ks_math_bits_TrailingZeros64 100000 (X := nowhere) (fun base S0 cs0 hn hf => OSound.nowhere) (by intro x; kernel_rfl)
theorem c_math_bits_TrailingZeros64_ok : c_math_bits_TrailingZeros64.Sound prog Inv gInv 167 := by
  have e : c_math_bits_TrailingZeros64 = cb_math_bits_TrailingZeros64 := by unfold c_math_bits_TrailingZeros64 cb_math_bits_TrailingZeros64; rw [math_bits_TrailingZeros64_eq]
  rw [e]; exact cb_math_bits_TrailingZeros64_ok
end Go.Proofs.YtjdjlijjolibkaaDoor.V
namespace Go.Proofs.YtjdjlijjolibkaaDoor.V
open Go.RowKit Go.Proofs.Tryd
set_option maxRecDepth 100000
set_option linter.unusedVariables false
noncomputable def m_math_bits_TrailingZeros : Mach prog Inv gInv := mach bas [(161, f161)] ⟨ok161, trivial⟩ [(166, c_math_bits_TrailingZeros32), (167, c_math_bits_TrailingZeros64)] ⟨⟨c_math_bits_TrailingZeros32_ok, FnOk.callable ok166⟩, ⟨c_math_bits_TrailingZeros64_ok, FnOk.callable ok167⟩, trivial⟩ [] trivial [] trivial
/-! ### math/bits.TrailingZeros -/
@[reducible] def r_math_bits_TrailingZeros : List Ty := [(.int .i64)]
def ks_math_bits_TrailingZeros : List Nat := [161]
noncomputable def b_math_bits_TrailingZeros (a0 : Int) : Option (Int × Unit) :=
  obind (math_bits_TrailingZeros64 a0) fun y1 =>
  some y1
theorem ex_math_bits_TrailingZeros : ∃ f, f = @b_math_bits_TrailingZeros := ⟨_, rfl⟩
noncomputable def math_bits_TrailingZeros := Classical.choose ex_math_bits_TrailingZeros
theorem math_bits_TrailingZeros_eq : @math_bits_TrailingZeros = @b_math_bits_TrailingZeros := Classical.choose_spec ex_math_bits_TrailingZeros
noncomputable def cb_math_bits_TrailingZeros : Con := ⟨[(.int .u64)], r_math_bits_TrailingZeros, fun x => b_math_bits_TrailingZeros x.1⟩
noncomputable def c_math_bits_TrailingZeros : Con := ⟨[(.int .u64)], r_math_bits_TrailingZeros, fun x => math_bits_TrailingZeros x.1⟩
theorem cb_math_bits_TrailingZeros_ok : cb_math_bits_TrailingZeros.Sound prog Inv gInv 161 :=
  con_run (M := m_math_bits_TrailingZeros) inv_g (f := f161) rfl ks_math_bits_TrailingZeros 100000 (X := nowhere) (fun base S0 cs0 hn hf => OSound.nowhere) (by intro x; kernel_rfl)
theorem c_math_bits_TrailingZeros_ok : c_math_bits_TrailingZeros.Sound prog Inv gInv 161 := by
  have e : c_math_bits_TrailingZeros = cb_math_bits_TrailingZeros := by unfold c_math_bits_TrailingZeros cb_math_bits_TrailingZeros; rw [math_bits_TrailingZeros_eq]
  rw [e]; exact cb_math_bits_TrailingZeros_ok
end Go.Proofs.YtjdjlijjolibkaaDoor.V
namespace Go.Proofs.YtjdjlijjolibkaaDoor.V
open Go.RowKit Go.Proofs.Tryd
set_option maxRecDepth 100000
set_option linter.unusedVariables false
noncomputable def m_varint_Put : Mach prog Inv gInv := mach bas [(146, f146)] ⟨ok146, trivial⟩ [(124, c_varint_Size), (160, c_varint_split), (161, c_math_bits_TrailingZeros)] ⟨⟨c_varint_Size_ok, FnOk.callable ok124⟩, ⟨c_varint_split_ok, FnOk.callable ok160⟩, ⟨c_math_bits_TrailingZeros_ok, FnOk.callable ok161⟩, trivial⟩ [] trivial [] trivial
/-! ### domino/varint.Put -/
@[reducible] def r_varint_Put : List Ty := [.str, (.int .i64)]
def ks_varint_Put : List Nat := [146]
noncomputable def b_varint_Put (a0 : Int) : Option (ByteArray × Int × Unit) :=
  let s1 : ByteArray := (ByteArray.mk (List.toArray ([] : List UInt8)))
  obind (varint_Size a0) fun y2 =>
  let b3 : Bool := (y2.1 == (0 : Int))
  bif b3 then
    let s4 : ByteArray := (ByteArray.mk (List.toArray ([] : List UInt8)))
    some (s4, ((1 : Int), ()))
  else
    obind (varint_split a0) fun y5 =>
    let n6 : Int := (Go.IntKind.wrap Go.IntKind.i64 ((8 : Int) - y2.1))
    bif (decide (((List.length (y5.1.1 :: (y5.1.2.1 :: (y5.1.2.2.1 :: (y5.1.2.2.2.1 :: (y5.1.2.2.2.2.1 :: (y5.1.2.2.2.2.2.1 :: (y5.1.2.2.2.2.2.2.1 :: (y5.1.2.2.2.2.2.2.2.1 :: ([] : List Int)))))))))) = 8) ∧ (((0 : Int) ≤ n6) ∧ (n6 < (8 : Int))))) then
      let i7 : Nat := (Int.toNat n6)
      let n8 : Int := (List.getD (y5.1.1 :: (y5.1.2.1 :: (y5.1.2.2.1 :: (y5.1.2.2.2.1 :: (y5.1.2.2.2.2.1 :: (y5.1.2.2.2.2.2.1 :: (y5.1.2.2.2.2.2.2.1 :: (y5.1.2.2.2.2.2.2.2.1 :: ([] : List Int))))))))) i7 (0 : Int))
      let n9 : Int := (Go.IntKind.wrap Go.IntKind.u64 y2.1)
      obind (math_bits_TrailingZeros n9) fun y10 =>
      let n11 : Int := (Go.IntKind.wrap Go.IntKind.u8 y10.1)
      let n12 : Int := (Go.IntKind.wrap Go.IntKind.u8 (n11 * (64 : Int)))
      let n13 : Int := (bits Go.BinOp.or Go.IntKind.u8 n8 n12)
      bif (decide (((List.length (y5.1.1 :: (y5.1.2.1 :: (y5.1.2.2.1 :: (y5.1.2.2.2.1 :: (y5.1.2.2.2.2.1 :: (y5.1.2.2.2.2.2.1 :: (y5.1.2.2.2.2.2.2.1 :: (y5.1.2.2.2.2.2.2.2.1 :: ([] : List Int)))))))))) = 8) ∧ (((0 : Int) ≤ n6) ∧ (n6 < (8 : Int))))) then
        let i14 : Nat := (Int.toNat n6)
        let l15 : (List Int) := (List.set (y5.1.1 :: (y5.1.2.1 :: (y5.1.2.2.1 :: (y5.1.2.2.2.1 :: (y5.1.2.2.2.2.1 :: (y5.1.2.2.2.2.2.1 :: (y5.1.2.2.2.2.2.2.1 :: (y5.1.2.2.2.2.2.2.2.1 :: ([] : List Int))))))))) i14 n13)
        bif (decide (((List.length l15) = 8) ∧ (((0 : Int) ≤ n6) ∧ ((n6 ≤ (8 : Int)) ∧ (((8 : Int) ≤ (8 : Int)) ∧ (n6 < (8 : Int))))))) then
          let o16 : Nat := (Int.toNat n6)
          let k17 : Nat := (8 - (Int.toNat n6))
          let s18 : ByteArray := (bytesStr (List.take k17 (List.drop o16 l15)))
          some (s18, ((0 : Int), ()))
        else none
      else none
    else none
theorem ex_varint_Put : ∃ f, f = @b_varint_Put := ⟨_, rfl⟩
noncomputable def varint_Put := Classical.choose ex_varint_Put
theorem varint_Put_eq : @varint_Put = @b_varint_Put := Classical.choose_spec ex_varint_Put
noncomputable def cb_varint_Put : Con := ⟨[(.int .u64)], r_varint_Put, fun x => b_varint_Put x.1⟩
noncomputable def c_varint_Put : Con := ⟨[(.int .u64)], r_varint_Put, fun x => varint_Put x.1⟩
theorem cb_varint_Put_ok : cb_varint_Put.Sound prog Inv gInv 146 :=
  con_run (M := m_varint_Put) inv_g (f := f146) rfl ks_varint_Put 100000 (X := nowhere) (fun base S0 cs0 hn hf => OSound.nowhere) (by intro x; kernel_rfl)
theorem c_varint_Put_ok : c_varint_Put.Sound prog Inv gInv 146 := by
  have e : c_varint_Put = cb_varint_Put := by unfold c_varint_Put cb_varint_Put; rw [varint_Put_eq]
  rw [e]; exact cb_varint_Put_ok
end Go.Proofs.YtjdjlijjolibkaaDoor.V
namespace Go.Proofs.YtjdjlijjolibkaaDoor.V
open Go.RowKit Go.Proofs.Tryd
set_option maxRecDepth 100000
set_option linter.unusedVariables false
noncomputable def m_strings_Builder_copyCheck_h0 : Mach prog Inv gInv := mach bas [(147, f147)] ⟨ok147, trivial⟩ [] trivial [] trivial [] trivial
@[reducible] noncomputable def pa_strings_Builder_copyCheck_h0 : List Pat := [.ptr 0 0]
@[reducible] noncomputable def pH_strings_Builder_copyCheck_h0 : List HPat := [.cells 130 [.nilPtr, .nilSlice]]
/-! ### (*strings.Builder).copyCheck -/
abbrev R_strings_Builder_copyCheck_h0 : Type := Unit
@[reducible] noncomputable def qa_strings_Builder_copyCheck_h0 : List Pat := []
@[reducible] noncomputable def qH_strings_Builder_copyCheck_h0 : List HPat := [.cells 130 [.ptr 0 0, .nilSlice]]
def ks_strings_Builder_copyCheck_h0 : List Nat := [147]
noncomputable def b_strings_Builder_copyCheck_h0 : Option R_strings_Builder_copyCheck_h0 :=
  some ()
theorem ex_strings_Builder_copyCheck_h0 : ∃ f, f = @b_strings_Builder_copyCheck_h0 := ⟨_, rfl⟩
noncomputable def strings_Builder_copyCheck_h0 := Classical.choose ex_strings_Builder_copyCheck_h0
theorem strings_Builder_copyCheck_h0_eq : @strings_Builder_copyCheck_h0 = @b_strings_Builder_copyCheck_h0 := Classical.choose_spec ex_strings_Builder_copyCheck_h0
noncomputable def hb_strings_Builder_copyCheck_h0 : HCon := HCon.mk0 pa_strings_Builder_copyCheck_h0 pH_strings_Builder_copyCheck_h0 qa_strings_Builder_copyCheck_h0 qH_strings_Builder_copyCheck_h0 R_strings_Builder_copyCheck_h0 (fun x => b_strings_Builder_copyCheck_h0) (fun r => ((), (((), ((), ())), ()))) (fun y => (())) (fun _ => rfl)
noncomputable def h_strings_Builder_copyCheck_h0 : HCon := HCon.mk0 pa_strings_Builder_copyCheck_h0 pH_strings_Builder_copyCheck_h0 qa_strings_Builder_copyCheck_h0 qH_strings_Builder_copyCheck_h0 R_strings_Builder_copyCheck_h0 (fun x => strings_Builder_copyCheck_h0) (fun r => ((), (((), ((), ())), ()))) (fun y => (())) (fun _ => rfl)
theorem hb_strings_Builder_copyCheck_h0_ok : hb_strings_Builder_copyCheck_h0.Sound prog Inv gInv 147 :=
  hcon_run (M := m_strings_Builder_copyCheck_h0) (f := f147) rfl ks_strings_Builder_copyCheck_h0 100000 (X := nowhere) (fun base S0 cs0 hn hf => OSound.nowhere) (by intro x; kernel_rfl)
theorem h_strings_Builder_copyCheck_h0_ok : h_strings_Builder_copyCheck_h0.Sound prog Inv gInv 147 := by
  have e : h_strings_Builder_copyCheck_h0 = hb_strings_Builder_copyCheck_h0 := by unfold h_strings_Builder_copyCheck_h0 hb_strings_Builder_copyCheck_h0; rw [strings_Builder_copyCheck_h0_eq]
  rw [e]; exact hb_strings_Builder_copyCheck_h0_ok
end Go.Proofs.YtjdjlijjolibkaaDoor.V
namespace Go.Proofs.YtjdjlijjolibkaaDoor.V
open Go.RowKit Go.Proofs.Tryd
set_option maxRecDepth 100000
set_option linter.unusedVariables false
noncomputable def m_strings_Builder_copyCheck_h1 : Mach prog Inv gInv := mach bas [(147, f147)] ⟨ok147, trivial⟩ [] trivial [] trivial [] trivial
@[reducible] noncomputable def pa_strings_Builder_copyCheck_h1 : List Pat := [.ptr 0 0]
@[reducible] noncomputable def pH_strings_Builder_copyCheck_h1 : List HPat := [.cells 130 [.nos 0 0, .all 1], .row (.byt 5)]
/-! ### (*strings.Builder).copyCheck -/
abbrev R_strings_Builder_copyCheck_h1 : Type := (List Int) × Unit
@[reducible] noncomputable def qa_strings_Builder_copyCheck_h1 : List Pat := []
@[reducible] noncomputable def qH_strings_Builder_copyCheck_h1 : List HPat := [.cells 130 [.ptr 0 0, .all 1], .row (.byt 5)]
def ks_strings_Builder_copyCheck_h1 : List Nat := [147]
noncomputable def b_strings_Builder_copyCheck_h1 (l0 : (List Int)) : Option R_strings_Builder_copyCheck_h1 :=
  some (l0, ())
theorem ex_strings_Builder_copyCheck_h1 : ∃ f, f = @b_strings_Builder_copyCheck_h1 := ⟨_, rfl⟩
noncomputable def strings_Builder_copyCheck_h1 := Classical.choose ex_strings_Builder_copyCheck_h1
theorem strings_Builder_copyCheck_h1_eq : @strings_Builder_copyCheck_h1 = @b_strings_Builder_copyCheck_h1 := Classical.choose_spec ex_strings_Builder_copyCheck_h1
noncomputable def hb_strings_Builder_copyCheck_h1 : HCon := HCon.mk0 pa_strings_Builder_copyCheck_h1 pH_strings_Builder_copyCheck_h1 qa_strings_Builder_copyCheck_h1 qH_strings_Builder_copyCheck_h1 R_strings_Builder_copyCheck_h1 (fun x => b_strings_Builder_copyCheck_h1 x.2.2.1) (fun r => ((), (((), ((), ())), (r.1, ())))) (fun y => (y.2.2.1, ())) (fun _ => rfl)
noncomputable def h_strings_Builder_copyCheck_h1 : HCon := HCon.mk0 pa_strings_Builder_copyCheck_h1 pH_strings_Builder_copyCheck_h1 qa_strings_Builder_copyCheck_h1 qH_strings_Builder_copyCheck_h1 R_strings_Builder_copyCheck_h1 (fun x => strings_Builder_copyCheck_h1 x.2.2.1) (fun r => ((), (((), ((), ())), (r.1, ())))) (fun y => (y.2.2.1, ())) (fun _ => rfl)
theorem hb_strings_Builder_copyCheck_h1_ok : hb_strings_Builder_copyCheck_h1.Sound prog Inv gInv 147 :=
  hcon_sound (M := m_strings_Builder_copyCheck_h1) (f := f147) rfl fun x r hxy base S0 cs0 hn => nos_split 0 0 0 0 rfl rfl rfl (run_sound (finH_ok hb_strings_Builder_copyCheck_h1 hn S0) OSound.nowhere (Ks := ks_strings_Builder_copyCheck_h1) (n := 1000) (by refine Eq.trans (Eq.symm ?_) hxy; kernel_rfl)) (run_sound (finH_ok hb_strings_Builder_copyCheck_h1 hn S0) OSound.nowhere (Ks := ks_strings_Builder_copyCheck_h1) (n := 1000) (by refine Eq.trans (Eq.symm ?_) hxy; kernel_rfl))
theorem h_strings_Builder_copyCheck_h1_ok : h_strings_Builder_copyCheck_h1.Sound prog Inv gInv 147 := by
  have e : h_strings_Builder_copyCheck_h1 = hb_strings_Builder_copyCheck_h1 := by unfold h_strings_Builder_copyCheck_h1 hb_strings_Builder_copyCheck_h1; rw [strings_Builder_copyCheck_h1_eq]
  rw [e]; exact hb_strings_Builder_copyCheck_h1_ok
end Go.Proofs.YtjdjlijjolibkaaDoor.V
namespace Go.Proofs.YtjdjlijjolibkaaDoor.V
open Go.RowKit Go.Proofs.Tryd
set_option maxRecDepth 100000
set_option linter.unusedVariables false
noncomputable def m_varint_Puts : Mach prog Inv gInv := mach bas [(114, f114), (76, f76), (115, f115), (147, f147)] ⟨ok114, ok76, ok115, ok147, trivial⟩ [(146, c_varint_Put)] ⟨⟨c_varint_Put_ok, FnOk.callable ok146⟩, trivial⟩ [] trivial [(147, h_strings_Builder_copyCheck_h0), (147, h_strings_Builder_copyCheck_h1)] ⟨⟨h_strings_Builder_copyCheck_h0_ok, FnOk.callable ok147⟩, ⟨h_strings_Builder_copyCheck_h1_ok, FnOk.callable ok147⟩, trivial⟩
/-! ### domino/varint.Puts -/
@[reducible] def r_varint_Puts : List Ty := [.str, (.int .i64)]
def ks_varint_Puts : List Nat := [114, 76, 115, 147]
abbrev H_varint_Puts (base : Base) (S0 : Nat → Prop) := base.n = 0 ∧ FinOk (finR r_varint_Puts) base S0 (Post r_varint_Puts S0)
abbrev J_varint_Puts (base : Base) (S0 : Nat → Prop) (cs0 : List Go.Frame) (p : CPat) (J : denC p → Option (denL r_varint_Puts)) := JSound m_varint_Puts base S0 cs0 (Post r_varint_Puts S0) p J
abbrev O_varint_Puts (base : Base) (S0 : Nat → Prop) (cs0 : List Go.Frame) (X : Cfg → Option (Option (denL r_varint_Puts))) := OSound m_varint_Puts base S0 cs0 (Post r_varint_Puts S0) X
@[reducible] noncomputable def p_varint_Puts_0 : CPat := ⟨⟨114, [1, 1, 0, 1, 0], none, [.any, .any, .any, .any, .ptr 0 0, .any, .any, .any, .any, .rows (.int .u64) false, .int .i64, .int .i64], 15⟩, [], [.cells 130 [.nos 0 0, .all 1], .row (.byt 5)], 0⟩
@[reducible] noncomputable def u_varint_Puts_0 (k : (List Int) → Int → Int → (List Int) → Option (ByteArray × Int × Unit)) : denC p_varint_Puts_0 → Option (ByteArray × Int × Unit) := fun x => k x.1.2.2.2.2.2.2.2.2.2.1 x.1.2.2.2.2.2.2.2.2.2.2.1 x.1.2.2.2.2.2.2.2.2.2.2.2.1 x.2.2.2.1
noncomputable def t_varint_Puts_0 (k0 : (List Int) → Int → Int → (List Int) → Option (ByteArray × Int × Unit)) (l15 : (List Int)) (i16 : Int) (i17 : Int) (l18 : (List Int)) : Option (ByteArray × Int × Unit) :=
  let b19 : Bool := (decide (i17 < i16))
  bif b19 then
    bif (decide (((0 : Int) ≤ i17) ∧ (i17 < (((List.length l15) : Nat) : Int)))) then
      let x20 : Int := (List.getD l15 (Int.toNat i17) (0 : Int))
      obind (varint_Put x20) fun y21 =>
      let b22 : Bool := (y21.2.1 != (0 : Int))
      bif b22 then
        let s26 : ByteArray := (ByteArray.mk (List.toArray ([] : List UInt8)))
        some (s26, y21.2)
      else
        obind (strings_Builder_copyCheck_h1 l18) fun y27 =>
        bif (decide (((List.length y27.1) + (List.length (strBytes y21.1))) ≤ 4294967296)) then
          let l28 : (List Int) := (y27.1 ++ (strBytes y21.1))
          let n29 : Int := (((ByteArray.size y21.1) : Nat) : Int)
          let n30 : Int := (Go.IntKind.wrap Go.IntKind.i64 (i17 + (1 : Int)))
          k0 l15 i16 n30 l28
        else none
    else none
  else
    let s23 : ByteArray := (ByteArray.mk (List.toArray ([] : List UInt8)))
    let n24 : Int := (((List.length l18) : Nat) : Int)
    bif (decide ((n24 = (((List.length l18) : Nat) : Int)) ∧ (n24 ≤ (4294967296 : Int)))) then
      let s25 : ByteArray := (bytesStr l18)
      some (s25, ((0 : Int), ()))
    else none
noncomputable def varint_Puts_0 : Nat → (List Int) → Int → Int → (List Int) → Option (ByteArray × Int × Unit)
  | 0 => fun _ _ _ _ => none
  | m + 1 => t_varint_Puts_0 (varint_Puts_0 m)
noncomputable def b_varint_Puts_0' (l15 : (List Int)) (i16 : Int) (i17 : Int) (l18 : (List Int)) : Option (ByteArray × Int × Unit) := varint_Puts_0 (Int.toNat (i16 - i17) + 2) l15 i16 i17 l18
theorem ex_varint_Puts_0' : ∃ f, f = @b_varint_Puts_0' := ⟨_, rfl⟩
noncomputable def varint_Puts_0' := Classical.choose ex_varint_Puts_0'
theorem varint_Puts_0'_eq : @varint_Puts_0' = @b_varint_Puts_0' := Classical.choose_spec ex_varint_Puts_0'
theorem s_varint_Puts_0 {base S0 cs0} (hfin : H_varint_Puts base S0) : ∀ m, J_varint_Puts base S0 cs0 p_varint_Puts_0 (u_varint_Puts_0 (varint_Puts_0 m)) :=
  JSound.loop' hfin.2 ks_varint_Puts 100000 u_varint_Puts_0 (fun k0 => cut p_varint_Puts_0 (u_varint_Puts_0 k0) (nowhere)) (fun k0 h0 => OSound.cut (OSound.nowhere) (Nat.le_of_eq hfin.1) h0) (varint_Puts_0) (by intro x; rfl) (by intro m x; kernel_rfl)
theorem s_varint_Puts_0' {base S0 cs0} (hfin : H_varint_Puts base S0) : J_varint_Puts base S0 cs0 p_varint_Puts_0 (u_varint_Puts_0 (varint_Puts_0')) := by
  rw [varint_Puts_0'_eq]; exact fun x r hx => s_varint_Puts_0 hfin _ x r hx
noncomputable def x_varint_Puts_0 : Cfg → Option (Option (ByteArray × Int × Unit)) := cut p_varint_Puts_0 (u_varint_Puts_0 (varint_Puts_0')) (nowhere)
theorem o_varint_Puts_0 {base S0 cs0} (hfin : H_varint_Puts base S0) : O_varint_Puts base S0 cs0 (x_varint_Puts_0) := OSound.cut (OSound.nowhere) (Nat.le_of_eq hfin.1) (s_varint_Puts_0' hfin)
noncomputable def b_varint_Puts (a0 : (List Int)) : Option (ByteArray × Int × Unit) :=
  let s1 : ByteArray := (ByteArray.mk (List.toArray ([] : List UInt8)))
  let n2 : Int := (((List.length a0) : Nat) : Int)
  varint_Puts_0' a0 n2 (0 : Int) ([] : List Int)
theorem ex_varint_Puts : ∃ f, f = @b_varint_Puts := ⟨_, rfl⟩
noncomputable def varint_Puts := Classical.choose ex_varint_Puts
theorem varint_Puts_eq : @varint_Puts = @b_varint_Puts := Classical.choose_spec ex_varint_Puts
noncomputable def cb_varint_Puts : Con := ⟨[(.slice (.int .u64))], r_varint_Puts, fun x => b_varint_Puts x.1⟩
noncomputable def c_varint_Puts : Con := ⟨[(.slice (.int .u64))], r_varint_Puts, fun x => varint_Puts x.1⟩
theorem cb_varint_Puts_ok : cb_varint_Puts.Sound prog Inv gInv 114 :=
  con_run (M := m_varint_Puts) inv_g (f := f114) rfl ks_varint_Puts 100000 (X := x_varint_Puts_0) (fun base S0 cs0 hn hf => have hfin : H_varint_Puts base S0 := ⟨hn, hf⟩; o_varint_Puts_0 hfin) (by intro x; kernel_rfl)
theorem c_varint_Puts_ok : c_varint_Puts.Sound prog Inv gInv 114 := by
  have e : c_varint_Puts = cb_varint_Puts := by unfold c_varint_Puts cb_varint_Puts; rw [varint_Puts_eq]
  rw [e]; exact cb_varint_Puts_ok
end Go.Proofs.YtjdjlijjolibkaaDoor.V
/- What varint.Put answers, in plain Lean. -/
namespace Go.Proofs.YtjdjlijjolibkaaDoor.V
open Go.RowKit
def tlen (x : Nat) : Int := if x = 0 then 0 else if x < 2 then 1 else if x < 4 then 2 else if x < 8 then 3 else if x < 16 then 4 else if x < 32 then 5 else if x < 64 then 6 else if x < 128 then 7 else 8
set_option maxRecDepth 100000 in
theorem len1_small : ∀ (x : _root_.Fin 256) (j : _root_.Fin 8), b_math_bits_Len64_1 (((x.val : Nat) : Int)) (((8 * j.val : Nat) : Int)) = some (((8 * j.val : Nat) : Int) + tlen x.val, ()) := by decide +kernel
theorem len1_is (a : Int) (j : Nat) (h0 : 0 ≤ a) (h1 : a < 65536) (hj : j < 7) :
    math_bits_Len64_1 a (((8 * j : Nat) : Int)) = some (if 256 ≤ a then ((8 * j : Nat) : Int) + 8 + tlen (a / 256).toNat else ((8 * j : Nat) : Int) + tlen a.toNat, ()) := by
  rw [math_bits_Len64_1_eq]
  by_cases h : 256 ≤ a
  · have e1 : b_math_bits_Len64_1 a ((8 * j : Nat) : Int) = b_math_bits_Len64_1 (a / 256) (((8 * (j + 1) : Nat) : Int)) := by
      have hf : Int.fdiv a 256 = a / 256 := Int.fdiv_eq_ediv_of_nonneg a (by omega)
      have hw : IntKind.wrap .i64 (((8 * j : Nat) : Int) + 8) = ((8 * (j + 1) : Nat) : Int) := by rw [wrap_i64 _ (by omega) (by omega)]; omega
      have hge : ¬ (a / 256 ≥ 256) := by omega
      unfold b_math_bits_Len64_1
      simp only [ge_iff_le, h, decide_true, cond_true, hf, hw]
      simp only [ge_iff_le] at hge
      simp only [hge, decide_false, cond_false]
    rw [e1, if_pos h]
    have := len1_small ⟨(a / 256).toNat, by omega⟩ ⟨j + 1, by omega⟩
    simp only at this
    rw [show (((a / 256).toNat : Nat) : Int) = a / 256 by omega] at this
    rw [this]
    congr 2
  · rw [if_neg h]
    have := len1_small ⟨a.toNat, by omega⟩ ⟨j, by omega⟩
    simp only at this
    rw [show ((a.toNat : Nat) : Int) = a by omega] at this
    exact this
def len16 (a : Int) : Int := if 256 ≤ a then 8 + tlen (a / 256).toNat else tlen a.toNat
def len32 (a : Int) : Int := if 65536 ≤ a then 16 + len16 (a / 65536) else len16 a
def len64 (a : Int) : Int := if 4294967296 ≤ a then 32 + len32 (a / 4294967296) else len32 a
theorem len0_is (a : Int) (j : Nat) (h0 : 0 ≤ a) (h1 : a < 4294967296) (hj : j < 5) : math_bits_Len64_0 a (((8 * j : Nat) : Int)) = some (((8 * j : Nat) : Int) + len32 a, ()) := by
  rw [math_bits_Len64_0_eq, b_math_bits_Len64_0]
  unfold len32 len16
  by_cases h : 65536 ≤ a
  · have hf : Int.fdiv a 65536 = a / 65536 := Int.fdiv_eq_ediv_of_nonneg a (by omega)
    have hw : IntKind.wrap .i64 (((8 * j : Nat) : Int) + 16) = ((8 * (j + 2) : Nat) : Int) := by rw [wrap_i64 _ (by omega) (by omega)]; omega
    simp only [ge_iff_le, h, decide_true, cond_true, hf, hw, if_true]
    rw [len1_is _ _ (by omega) (by omega) (by omega)]
    congr 2
    split <;> omega
  · simp only [ge_iff_le, h, decide_false, cond_false, if_false]
    rw [len1_is _ _ h0 (by omega) (by omega)]
    congr 2
    split <;> omega
theorem len_is (a : Int) (h0 : 0 ≤ a) (h1 : a < 18446744073709551616) : math_bits_Len64 a = some (len64 a, ()) := by
  rw [math_bits_Len64_eq, b_math_bits_Len64]
  unfold len64
  by_cases h : 4294967296 ≤ a
  · have hf : Int.fdiv a 4294967296 = a / 4294967296 := Int.fdiv_eq_ediv_of_nonneg a (by omega)
    simp only [ge_iff_le, h, decide_true, cond_true, hf, if_true]
    have := len0_is (a / 4294967296) 4 (by omega) (by omega) (by omega)
    exact this
  · simp only [ge_iff_le, h, decide_false, cond_false, if_false]
    have := len0_is a 0 h0 (by omega) (by omega)
    simpa using this
theorem tlen_le (x : Nat) : (0 ≤ tlen x ∧ tlen x ≤ 8) ∧ (tlen x ≤ 6 ↔ x < 64) ∧ (0 < x → 1 ≤ tlen x) := by unfold tlen; omega
theorem len16_le (a : Int) (h0 : 0 ≤ a) (h1 : a < 65536) : (0 ≤ len16 a ∧ len16 a ≤ 16) ∧ (len16 a ≤ 6 ↔ a < 64) ∧ (len16 a ≤ 14 ↔ a < 16384) ∧ (0 < a → 1 ≤ len16 a) := by
  unfold len16
  have h2 := tlen_le (a / 256).toNat
  have h3 := tlen_le a.toNat
  by_cases h : 256 ≤ a
  · rw [if_pos h]; omega
  · rw [if_neg h]; omega
theorem len32_le (a : Int) (h0 : 0 ≤ a) (h1 : a < 4294967296) : (0 ≤ len32 a ∧ len32 a ≤ 32) ∧ (len32 a ≤ 6 ↔ a < 64) ∧ (len32 a ≤ 14 ↔ a < 16384) ∧ (len32 a ≤ 30 ↔ a < 1073741824) ∧ (0 < a → 1 ≤ len32 a) := by
  unfold len32
  by_cases h : 65536 ≤ a
  · rw [if_pos h]
    have h2 := len16_le (a / 65536) (by omega) (by omega)
    omega
  · rw [if_neg h]
    have h2 := len16_le a (by omega) (by omega)
    omega
theorem len64_le (a : Int) (h0 : 0 ≤ a) (h1 : a < 18446744073709551616) : (len64 a ≤ 6 ↔ a < 64) ∧ (len64 a ≤ 14 ↔ a < 16384) ∧ (len64 a ≤ 30 ↔ a < 1073741824) ∧ (len64 a ≤ 62 ↔ a < 4611686018427387904) := by
  unfold len64
  by_cases h : 4294967296 ≤ a
  · rw [if_pos h]
    have h2 := len32_le (a / 4294967296) (by omega) (by omega)
    omega
  · rw [if_neg h]
    have h2 := len32_le a (by omega) (by omega)
    omega
def vsize (n : Int) : Int := if n < 64 then 1 else if n < 16384 then 2 else if n < 1073741824 then 4 else if n < 4611686018427387904 then 8 else 0
theorem vsize_is (n : Int) (h0 : 0 ≤ n) (h1 : n < 18446744073709551616) : varint_Size n = some (vsize n, ()) := by
  rw [varint_Size_eq, b_varint_Size]
  obtain ⟨a, b, c, d⟩ := len64_le n h0 h1
  simp only [len_is n h0 h1, obind_some, a, b, c, d, vsize]
  by_cases e1 : n < 64
  · simp only [e1, decide_true, cond_true, if_true]
  · by_cases e2 : n < 16384
    · simp only [e1, e2, decide_true, cond_true, if_true, decide_false, cond_false, if_false]
    · by_cases e3 : n < 1073741824
      · simp only [e1, e2, e3, decide_true, cond_true, if_true, decide_false, cond_false, if_false]
      · by_cases e4 : n < 4611686018427387904
        · simp only [e1, e2, e3, e4, decide_true, cond_true, if_true, decide_false, cond_false, if_false]
        · simp only [e1, e2, e3, e4, decide_false, cond_false, if_false]
theorem rot_low (n : Int) (h0 : 0 ≤ n) (h1 : n < 18446744073709551616) (k : Nat) (hk : 1 ≤ k ∧ k ≤ 7) :
    ∃ r, math_bits_RotateLeft64 n ((8 * k : Nat) : Int) = some (r, ()) ∧ IntKind.wrap .u8 r = n / 2 ^ (64 - 8 * k) % 256 := by
  rw [math_bits_RotateLeft64_eq, b_math_bits_RotateLeft64]
  have w1 : IntKind.wrap .u64 ((8 * k : Nat) : Int) = ((8 * k : Nat) : Int) := wrap_u64 _ (by omega) (by omega)
  have w2 : bits .and .u64 ((8 * k : Nat) : Int) 63 = ((8 * k : Nat) : Int) := by
    rw [bits_and_u64 _ _ (by omega) (by omega)]
    have : ∀ k : _root_.Fin 8, ((8 * k.val : Nat) : Int).toNat &&& Int.toNat 63 = 8 * k.val := by decide
    rw [this ⟨k, by omega⟩]
  have w3 : IntKind.wrap .u64 (64 - ((8 * k : Nat) : Int)) = ((64 - 8 * k : Nat) : Int) := by rw [wrap_u64 _ (by omega) (by omega)]; omega
  simp only [w1, w2, w3, Int.toNat_natCast]
  have g1 : (0 : Int) ≤ ((8 * k : Nat) : Int) := by omega
  have g2 : (0 : Int) ≤ ((64 - 8 * k : Nat) : Int) := by omega
  simp only [g1, g2, decide_true, cond_true]
  refine ⟨_, rfl, ?_⟩
  have m1 : min (8 * k) 64 = 8 * k := by omega
  have m2 : min (64 - 8 * k) 64 = 64 - 8 * k := by omega
  rw [m1, m2, wrap_u8]
  have hp : (0 : Int) < 2 ^ (64 - 8 * k) := Int.pow_pos (by omega)
  have hf : Int.fdiv n (2 ^ (64 - 8 * k)) = n / 2 ^ (64 - 8 * k) := Int.fdiv_eq_ediv_of_nonneg n (Int.le_of_lt hp)
  rw [hf, wrap_u64']
  have hd : 0 ≤ n / 2 ^ (64 - 8 * k) := Int.ediv_nonneg h0 (Int.le_of_lt hp)
  have hd2 : n / 2 ^ (64 - 8 * k) ≤ n := Int.ediv_le_self _ h0
  rw [bits_or_u64 _ _ (by omega) (by omega)]
  have low : (n * 2 ^ (8 * k) % 18446744073709551616).toNat % 256 = 0 := by
    have hm : (n * 2 ^ (8 * k)) % 256 = 0 := by
      obtain ⟨j, rfl⟩ : ∃ j, k = j + 1 := ⟨k - 1, by omega⟩
      have : (2 : Int) ^ (8 * (j + 1)) = 256 * 2 ^ (8 * j) := by rw [Nat.mul_add, Int.pow_add, Int.mul_comm]; rfl
      rw [this, Int.mul_left_comm, Int.mul_emod_right]
    omega
  generalize (n * 2 ^ (8 * k) % 18446744073709551616).toNat = x at low
  have or_mod : (x ||| (n / 2 ^ (64 - 8 * k)).toNat) % 2 ^ 8 = (x % 2 ^ 8) ||| ((n / 2 ^ (64 - 8 * k)).toNat % 2 ^ 8) := Nat.or_mod_two_pow
  rw [show (2 : Nat) ^ 8 = 256 from rfl, low, Nat.zero_or] at or_mod
  omega
theorem rot_64 (n : Int) (h0 : 0 ≤ n) (h1 : n < 18446744073709551616) : ∃ r, math_bits_RotateLeft64 n 64 = some (r, ()) ∧ IntKind.wrap .u8 r = n % 256 := by
  rw [math_bits_RotateLeft64_eq, b_math_bits_RotateLeft64]
  have w1 : IntKind.wrap .u64 (64 : Int) = 64 := wrap_u64 _ (by omega) (by omega)
  have w2 : bits .and .u64 64 63 = 0 := by rw [bits_and_u64 _ _ (by omega) (by omega)]; decide
  have w3 : IntKind.wrap .u64 (64 - (0 : Int)) = 64 := wrap_u64 _ (by omega) (by omega)
  simp only [w1, w2, w3]
  refine ⟨_, rfl, ?_⟩
  rw [wrap_u8]
  have e1 : IntKind.wrap .u64 (n * 2 ^ min (Int.toNat 0) 64) = n := by
    rw [show min (Int.toNat 0) 64 = 0 from rfl, wrap_u64']; omega
  have e2 : Int.fdiv n (2 ^ min (Int.toNat 64) 64) = 0 := by
    rw [show min (Int.toNat 64) 64 = 64 from rfl, Int.fdiv_eq_ediv_of_nonneg n (by decide)]
    exact Int.ediv_eq_zero_of_lt h0 (by omega)
  rw [e1, e2, bits_or_u64 _ _ (by omega) (by omega)]
  simp
  omega
theorem split_is (n : Int) (h0 : 0 ≤ n) (h1 : n < 18446744073709551616) : varint_split n =
    some ((n / 72057594037927936 % 256, n / 281474976710656 % 256, n / 1099511627776 % 256, n / 4294967296 % 256, n / 16777216 % 256, n / 65536 % 256, n / 256 % 256, n % 256, ()), ()) := by
  rw [varint_split_eq, b_varint_split]
  obtain ⟨r1, e1, w1⟩ := rot_low n h0 h1 1 (by omega)
  obtain ⟨r2, e2, w2⟩ := rot_low n h0 h1 2 (by omega)
  obtain ⟨r3, e3, w3⟩ := rot_low n h0 h1 3 (by omega)
  obtain ⟨r4, e4, w4⟩ := rot_low n h0 h1 4 (by omega)
  obtain ⟨r5, e5, w5⟩ := rot_low n h0 h1 5 (by omega)
  obtain ⟨r6, e6, w6⟩ := rot_low n h0 h1 6 (by omega)
  obtain ⟨r7, e7, w7⟩ := rot_low n h0 h1 7 (by omega)
  obtain ⟨r8, e8, w8⟩ := rot_64 n h0 h1
  simp only [show ((8 * 1 : Nat) : Int) = 8 from rfl] at e1
  simp only [show ((8 * 2 : Nat) : Int) = 16 from rfl] at e2
  simp only [show ((8 * 3 : Nat) : Int) = 24 from rfl] at e3
  simp only [show ((8 * 4 : Nat) : Int) = 32 from rfl] at e4
  simp only [show ((8 * 5 : Nat) : Int) = 40 from rfl] at e5
  simp only [show ((8 * 6 : Nat) : Int) = 48 from rfl] at e6
  simp only [show ((8 * 7 : Nat) : Int) = 56 from rfl] at e7
  simp only [e1, e2, e3, e4, e5, e6, e7, e8, obind_some, w1, w2, w3, w4, w5, w6, w7, w8]
  rfl
theorem tz_is : math_bits_TrailingZeros 1 = some (0, ()) ∧ math_bits_TrailingZeros 2 = some (1, ()) ∧ math_bits_TrailingZeros 4 = some (2, ()) ∧ math_bits_TrailingZeros 8 = some (3, ()) := by
  simp only [math_bits_TrailingZeros_eq, b_math_bits_TrailingZeros, math_bits_TrailingZeros64_eq, b_math_bits_TrailingZeros64, bits_eq]
  decide +kernel
def vb (n : Int) : List Int :=
  if n < 64 then [n] else if n < 16384 then [64 + n / 256, n % 256] else if n < 1073741824 then [128 + n / 16777216, n / 65536 % 256, n / 256 % 256, n % 256]
  else [192 + n / 72057594037927936, n / 281474976710656 % 256, n / 1099511627776 % 256, n / 4294967296 % 256, n / 16777216 % 256, n / 65536 % 256, n / 256 % 256, n % 256]
theorem vb_range (n : Int) (h0 : 0 ≤ n) (h1 : n < 4611686018427387904) : ∀ x ∈ vb n, 0 ≤ x ∧ x ≤ 255 := by
  unfold vb
  intro x hx
  split at hx
  · simp at hx; omega
  · split at hx
    · simp at hx; omega
    · split at hx
      · simp at hx; omega
      · simp at hx; omega
theorem or_top : ∀ (a : _root_.Fin 64) (t : _root_.Fin 4), a.val ||| t.val * 64 = t.val * 64 + a.val := by decide +kernel
theorem or_topI (a t : Int) (h0 : 0 ≤ a ∧ a < 64) (h1 : 0 ≤ t ∧ t < 4) : bits .or .u8 a (t * 64) = t * 64 + a := by
  rw [bits_or_u8 _ _ (by omega) (by omega)]
  have := or_top ⟨a.toNat, by omega⟩ ⟨t.toNat, by omega⟩
  simp only at this
  rw [show (t * 64).toNat = t.toNat * 64 by omega, this]
  omega
theorem vput_is (n : Int) (h0 : 0 ≤ n) (h1 : n < 18446744073709551616) : varint_Put n = some (if n < 4611686018427387904 then (bytesStr (vb n), 0, ()) else (⟨#[]⟩, 1, ())) := by
  rw [varint_Put_eq, b_varint_Put, vsize_is n h0 h1, split_is n h0 h1]
  simp only [obind_some]
  obtain ⟨t1, t2, t4, t8⟩ := tz_is
  unfold vsize vb
  by_cases e4 : n < 4611686018427387904
  · rw [if_pos e4]
    by_cases e1 : n < 64
    · rw [if_pos e1, if_pos e1]
      have k0 : n % 256 = n := by omega
      have k1 := or_topI n 0 (by omega) (by omega)
      simp only [Int.zero_mul, Int.zero_add] at k1
      simp [t1, wrap_i64, wrap_u64', wrap_u8, k0, k1, e4]
    · by_cases e2 : n < 16384
      · rw [if_neg e1, if_pos e2, if_neg e1, if_pos e2]
        have k0 : n / 256 % 256 = n / 256 := by omega
        have k1 := or_topI (n / 256) 1 (by omega) (by omega)
        simp only [Int.one_mul] at k1
        simp [t2, wrap_i64, wrap_u64', wrap_u8, k0, k1, e4]
      · by_cases e3 : n < 1073741824
        · rw [if_neg e1, if_neg e2, if_pos e3, if_neg e1, if_neg e2, if_pos e3]
          have k0 : n / 16777216 % 256 = n / 16777216 := by omega
          have k1 := or_topI (n / 16777216) 2 (by omega) (by omega)
          simp only [Int.reduceMul] at k1
          simp [t4, wrap_i64, wrap_u64', wrap_u8, k0, k1, e4]
        · rw [if_neg e1, if_neg e2, if_neg e3, if_pos e4, if_neg e1, if_neg e2, if_neg e3]
          have k0 : n / 72057594037927936 % 256 = n / 72057594037927936 := by omega
          have k1 := or_topI (n / 72057594037927936) 3 (by omega) (by omega)
          simp only [Int.reduceMul] at k1
          simp [t8, wrap_i64, wrap_u64', wrap_u8, k0, k1]
  · rw [if_neg e4, if_neg (by omega), if_neg (by omega), if_neg (by omega), if_neg e4]
    rfl
def vbs (l : List Int) : List Int := l.flatMap vb
theorem vb_len (n : Int) : 1 ≤ (vb n).length ∧ (vb n).length ≤ 8 := by
  unfold vb; split <;> (try split) <;> (try split) <;> simp
theorem vbs_len : ∀ (l : List Int), (vbs l).length ≤ 8 * l.length
  | [] => by simp [vbs]
  | x :: l => by
    have := vb_len x
    have := vbs_len l
    simp only [vbs, List.flatMap_cons, List.length_append, List.length_cons] at *
    omega
theorem vbs_range (l : List Int) (h : ∀ n ∈ l, 0 ≤ n ∧ n < 4611686018427387904) : ∀ x ∈ vbs l, 0 ≤ x ∧ x ≤ 255 := by
  intro x hx
  obtain ⟨n, hn, hx⟩ := List.mem_flatMap.mp hx
  exact vb_range n (h n hn).1 (h n hn).2 x hx
theorem puts_loop : ∀ (suf pre acc : List Int) (m : Nat), suf.length < m → (pre ++ suf).length ≤ 4294967296 → acc.length + 8 * suf.length ≤ 4294967296 → (∀ n ∈ suf, 0 ≤ n ∧ n < 4611686018427387904) →
    varint_Puts_0 m (pre ++ suf) (((pre ++ suf).length : Nat) : Int) ((pre.length : Nat) : Int) acc = some (bytesStr (acc ++ vbs suf), 0, ()) := by
  intro suf
  induction suf with
  | nil =>
    intro pre acc m hm _ ha _
    obtain ⟨m, rfl⟩ : ∃ k, m = k + 1 := ⟨m - 1, by omega⟩
    have : ((acc.length : Nat) : Int) ≤ 4294967296 := by simp at ha; omega
    simp only [varint_Puts_0, t_varint_Puts_0, List.append_nil, Int.lt_irrefl, decide_false, cond_false, this, and_self, decide_true, cond_true, vbs, List.flatMap_nil]
  | cons x suf ih =>
    intro pre acc m hm hl ha hr
    obtain ⟨m, rfl⟩ : ∃ k, m = k + 1 := ⟨m - 1, by omega⟩
    obtain ⟨x0, x1⟩ := hr x (by simp)
    simp only [varint_Puts_0, t_varint_Puts_0, mid_lt, nn, and_true, decide_true, cond_true, toNat_len, getD_mid, vput_is x x0 (by omega), obind_some, x1, if_true, bne_self_eq_false, cond_false,
      strings_Builder_copyCheck_h1_eq, b_strings_Builder_copyCheck_h1, strBytes_bytesStr (vb_range x x0 x1)]
    have hv := vb_len x
    have : acc.length + (vb x).length ≤ 4294967296 := by simp at ha; omega
    simp only [this, decide_true, cond_true]
    rw [mid_next pre x x suf hl, snoc_app, ih (pre ++ [x]) (acc ++ vb x) m (by simp at hm; omega) (by simpa using hl) (by simp at ha ⊢; omega) (fun n hn => hr n (by simp [hn]))]
    simp [vbs, List.append_assoc]
theorem puts_is (l : List Int) (hl : l.length ≤ 100000) (hr : ∀ n ∈ l, 0 ≤ n ∧ n < 4611686018427387904) : varint_Puts l = some (bytesStr (vbs l), 0, ()) := by
  rw [varint_Puts_eq, b_varint_Puts, varint_Puts_0'_eq, b_varint_Puts_0']
  exact puts_loop l [] [] _ (by simp) (by simp; omega) (by simp; omega) hr
end Go.Proofs.YtjdjlijjolibkaaDoor.V
namespace Go.Proofs.YtjdjlijjolibkaaDoor.V
open Go.RowKit Go.Proofs.Tryd
set_option maxRecDepth 100000
set_option linter.unusedVariables false
noncomputable def m_varint_Fixed : Mach prog Inv gInv := mach bas [(153, f153)] ⟨ok153, trivial⟩ [(160, c_varint_split)] ⟨⟨c_varint_split_ok, FnOk.callable ok160⟩, trivial⟩ [] trivial [] trivial
/-! ### domino/varint.Fixed -/
@[reducible] def r_varint_Fixed : List Ty := [.str]
def ks_varint_Fixed : List Nat := [153]
noncomputable def b_varint_Fixed (a0 : Int) (a1 : Int) : Option (ByteArray × Unit) :=
  let s2 : ByteArray := (ByteArray.mk (List.toArray ([] : List UInt8)))
  obind (varint_split a0) fun y3 =>
  let n4 : Int := (if ((8 : Int) < a1) then (8 : Int) else a1)
  let n5 : Int := (if (n4 > (0 : Int)) then n4 else (0 : Int))
  let n6 : Int := (Go.IntKind.wrap Go.IntKind.i64 ((8 : Int) - n5))
  bif (decide (((List.length (y3.1.1 :: (y3.1.2.1 :: (y3.1.2.2.1 :: (y3.1.2.2.2.1 :: (y3.1.2.2.2.2.1 :: (y3.1.2.2.2.2.2.1 :: (y3.1.2.2.2.2.2.2.1 :: (y3.1.2.2.2.2.2.2.2.1 :: ([] : List Int)))))))))) = 8) ∧ (((0 : Int) ≤ n6) ∧ ((n6 ≤ (8 : Int)) ∧ (((8 : Int) ≤ (8 : Int)) ∧ (n6 < (8 : Int))))))) then
    let o7 : Nat := (Int.toNat n6)
    let k8 : Nat := (8 - (Int.toNat n6))
    let s9 : ByteArray := (bytesStr (List.take k8 (List.drop o7 (y3.1.1 :: (y3.1.2.1 :: (y3.1.2.2.1 :: (y3.1.2.2.2.1 :: (y3.1.2.2.2.2.1 :: (y3.1.2.2.2.2.2.1 :: (y3.1.2.2.2.2.2.2.1 :: (y3.1.2.2.2.2.2.2.2.1 :: ([] : List Int))))))))))))
    some (s9, ())
  else none
theorem ex_varint_Fixed : ∃ f, f = @b_varint_Fixed := ⟨_, rfl⟩
noncomputable def varint_Fixed := Classical.choose ex_varint_Fixed
theorem varint_Fixed_eq : @varint_Fixed = @b_varint_Fixed := Classical.choose_spec ex_varint_Fixed
noncomputable def cb_varint_Fixed : Con := ⟨[(.int .u64), (.int .i64)], r_varint_Fixed, fun x => b_varint_Fixed x.1 x.2.1⟩
noncomputable def c_varint_Fixed : Con := ⟨[(.int .u64), (.int .i64)], r_varint_Fixed, fun x => varint_Fixed x.1 x.2.1⟩
theorem cb_varint_Fixed_ok : cb_varint_Fixed.Sound prog Inv gInv 153 :=
  con_run (M := m_varint_Fixed) inv_g (f := f153) rfl ks_varint_Fixed 100000 (X := nowhere) (fun base S0 cs0 hn hf => OSound.nowhere) (by intro x; kernel_rfl)
theorem c_varint_Fixed_ok : c_varint_Fixed.Sound prog Inv gInv 153 := by
  have e : c_varint_Fixed = cb_varint_Fixed := by unfold c_varint_Fixed cb_varint_Fixed; rw [varint_Fixed_eq]
  rw [e]; exact cb_varint_Fixed_ok
end Go.Proofs.YtjdjlijjolibkaaDoor.V
namespace Go.Proofs.YtjdjlijjolibkaaDoor.V
open Go.RowKit Go.Proofs.Tryd
set_option maxRecDepth 100000
set_option linter.unusedVariables false
noncomputable def m_ideal_mix : Mach prog Inv gInv := mach bas [(154, f154)] ⟨ok154, trivial⟩ [] trivial [] trivial [] trivial
/-! ### domino/ideal.mix -/
@[reducible] def r_ideal_mix : List Ty := [(.int .u64)]
def ks_ideal_mix : List Nat := [154]
noncomputable def b_ideal_mix (a0 : Int) : Option (Int × Unit) :=
  let n1 : Int := (Go.IntKind.wrap Go.IntKind.u64 (a0 + (11400714819323198485 : Int)))
  let n2 : Int := (Int.fdiv n1 (1073741824 : Int))
  let n3 : Int := (bits Go.BinOp.xor Go.IntKind.u64 n1 n2)
  let n4 : Int := (Go.IntKind.wrap Go.IntKind.u64 (n3 * (13787848793156543929 : Int)))
  let n5 : Int := (Int.fdiv n4 (134217728 : Int))
  let n6 : Int := (bits Go.BinOp.xor Go.IntKind.u64 n4 n5)
  let n7 : Int := (Go.IntKind.wrap Go.IntKind.u64 (n6 * (10723151780598845931 : Int)))
  let n8 : Int := (Int.fdiv n7 (2147483648 : Int))
  let n9 : Int := (bits Go.BinOp.xor Go.IntKind.u64 n7 n8)
  some (n9, ())
theorem ex_ideal_mix : ∃ f, f = @b_ideal_mix := ⟨_, rfl⟩
noncomputable def ideal_mix := Classical.choose ex_ideal_mix
theorem ideal_mix_eq : @ideal_mix = @b_ideal_mix := Classical.choose_spec ex_ideal_mix
noncomputable def cb_ideal_mix : Con := ⟨[(.int .u64)], r_ideal_mix, fun x => b_ideal_mix x.1⟩
noncomputable def c_ideal_mix : Con := ⟨[(.int .u64)], r_ideal_mix, fun x => ideal_mix x.1⟩
theorem cb_ideal_mix_ok : cb_ideal_mix.Sound prog Inv gInv 154 :=
  con_run (M := m_ideal_mix) inv_g (f := f154) rfl ks_ideal_mix 100000 (X := nowhere) (fun base S0 cs0 hn hf => OSound.nowhere) (by intro x; kernel_rfl)
theorem c_ideal_mix_ok : c_ideal_mix.Sound prog Inv gInv 154 := by
  have e : c_ideal_mix = cb_ideal_mix := by unfold c_ideal_mix cb_ideal_mix; rw [ideal_mix_eq]
  rw [e]; exact cb_ideal_mix_ok
end Go.Proofs.YtjdjlijjolibkaaDoor.V
namespace Go.Proofs.YtjdjlijjolibkaaDoor.V
open Go.RowKit Go.Proofs.Tryd
set_option maxRecDepth 100000
set_option linter.unusedVariables false
noncomputable def m_ideal_Id : Mach prog Inv gInv := mach bas [(135, f135)] ⟨ok135, trivial⟩ [(153, c_varint_Fixed), (154, c_ideal_mix)] ⟨⟨c_varint_Fixed_ok, FnOk.callable ok153⟩, ⟨c_ideal_mix_ok, FnOk.callable ok154⟩, trivial⟩ [] trivial [] trivial
/-! ### domino/ideal.Id -/
@[reducible] def r_ideal_Id : List Ty := [.str]
def ks_ideal_Id : List Nat := [135]
noncomputable def b_ideal_Id (a0 : Int) (a1 : Int) : Option (ByteArray × Unit) :=
  let s2 : ByteArray := (ByteArray.mk (List.toArray ([] : List UInt8)))
  let n3 : Int := (Go.IntKind.wrap Go.IntKind.u64 (a0 + a1))
  let n4 : Int := (Go.IntKind.wrap Go.IntKind.u64 (n3 + (9223372036854775808 : Int)))
  obind (ideal_mix n4) fun y5 =>
  obind (varint_Fixed y5.1 (8 : Int)) fun y6 =>
  some y6
theorem ex_ideal_Id : ∃ f, f = @b_ideal_Id := ⟨_, rfl⟩
noncomputable def ideal_Id := Classical.choose ex_ideal_Id
theorem ideal_Id_eq : @ideal_Id = @b_ideal_Id := Classical.choose_spec ex_ideal_Id
noncomputable def cb_ideal_Id : Con := ⟨[(.int .u64), (.int .u64)], r_ideal_Id, fun x => b_ideal_Id x.1 x.2.1⟩
noncomputable def c_ideal_Id : Con := ⟨[(.int .u64), (.int .u64)], r_ideal_Id, fun x => ideal_Id x.1 x.2.1⟩
theorem cb_ideal_Id_ok : cb_ideal_Id.Sound prog Inv gInv 135 :=
  con_run (M := m_ideal_Id) inv_g (f := f135) rfl ks_ideal_Id 100000 (X := nowhere) (fun base S0 cs0 hn hf => OSound.nowhere) (by intro x; kernel_rfl)
theorem c_ideal_Id_ok : c_ideal_Id.Sound prog Inv gInv 135 := by
  have e : c_ideal_Id = cb_ideal_Id := by unfold c_ideal_Id cb_ideal_Id; rw [ideal_Id_eq]
  rw [e]; exact cb_ideal_Id_ok
end Go.Proofs.YtjdjlijjolibkaaDoor.V
namespace Go.Proofs.YtjdjlijjolibkaaDoor.V
open Go.RowKit Go.Proofs.Tryd
set_option maxRecDepth 100000
set_option linter.unusedVariables false
noncomputable def m_strings_Builder_copyCheck_h2 : Mach prog Inv gInv := mach bas [(147, f147)] ⟨ok147, trivial⟩ [] trivial [] trivial [] trivial
@[reducible] noncomputable def pa_strings_Builder_copyCheck_h2 : List Pat := [.ptr 0 0]
@[reducible] noncomputable def pH_strings_Builder_copyCheck_h2 : List HPat := [.cells 132 [.nilPtr, .nilSlice]]
/-! ### (*strings.Builder).copyCheck -/
abbrev R_strings_Builder_copyCheck_h2 : Type := Unit
@[reducible] noncomputable def qa_strings_Builder_copyCheck_h2 : List Pat := []
@[reducible] noncomputable def qH_strings_Builder_copyCheck_h2 : List HPat := [.cells 132 [.ptr 0 0, .nilSlice]]
def ks_strings_Builder_copyCheck_h2 : List Nat := [147]
noncomputable def b_strings_Builder_copyCheck_h2 : Option R_strings_Builder_copyCheck_h2 :=
  some ()
theorem ex_strings_Builder_copyCheck_h2 : ∃ f, f = @b_strings_Builder_copyCheck_h2 := ⟨_, rfl⟩
noncomputable def strings_Builder_copyCheck_h2 := Classical.choose ex_strings_Builder_copyCheck_h2
theorem strings_Builder_copyCheck_h2_eq : @strings_Builder_copyCheck_h2 = @b_strings_Builder_copyCheck_h2 := Classical.choose_spec ex_strings_Builder_copyCheck_h2
noncomputable def hb_strings_Builder_copyCheck_h2 : HCon := HCon.mk0 pa_strings_Builder_copyCheck_h2 pH_strings_Builder_copyCheck_h2 qa_strings_Builder_copyCheck_h2 qH_strings_Builder_copyCheck_h2 R_strings_Builder_copyCheck_h2 (fun x => b_strings_Builder_copyCheck_h2) (fun r => ((), (((), ((), ())), ()))) (fun y => (())) (fun _ => rfl)
noncomputable def h_strings_Builder_copyCheck_h2 : HCon := HCon.mk0 pa_strings_Builder_copyCheck_h2 pH_strings_Builder_copyCheck_h2 qa_strings_Builder_copyCheck_h2 qH_strings_Builder_copyCheck_h2 R_strings_Builder_copyCheck_h2 (fun x => strings_Builder_copyCheck_h2) (fun r => ((), (((), ((), ())), ()))) (fun y => (())) (fun _ => rfl)
theorem hb_strings_Builder_copyCheck_h2_ok : hb_strings_Builder_copyCheck_h2.Sound prog Inv gInv 147 :=
  hcon_run (M := m_strings_Builder_copyCheck_h2) (f := f147) rfl ks_strings_Builder_copyCheck_h2 100000 (X := nowhere) (fun base S0 cs0 hn hf => OSound.nowhere) (by intro x; kernel_rfl)
theorem h_strings_Builder_copyCheck_h2_ok : h_strings_Builder_copyCheck_h2.Sound prog Inv gInv 147 := by
  have e : h_strings_Builder_copyCheck_h2 = hb_strings_Builder_copyCheck_h2 := by unfold h_strings_Builder_copyCheck_h2 hb_strings_Builder_copyCheck_h2; rw [strings_Builder_copyCheck_h2_eq]
  rw [e]; exact hb_strings_Builder_copyCheck_h2_ok
end Go.Proofs.YtjdjlijjolibkaaDoor.V
namespace Go.Proofs.YtjdjlijjolibkaaDoor.V
open Go.RowKit Go.Proofs.Tryd
set_option maxRecDepth 100000
set_option linter.unusedVariables false
noncomputable def m_strings_Builder_copyCheck_h3 : Mach prog Inv gInv := mach bas [(147, f147)] ⟨ok147, trivial⟩ [] trivial [] trivial [] trivial
@[reducible] noncomputable def pa_strings_Builder_copyCheck_h3 : List Pat := [.ptr 0 0]
@[reducible] noncomputable def pH_strings_Builder_copyCheck_h3 : List HPat := [.cells 132 [.ptr 0 0, .all 1], .row (.byt 5)]
/-! ### (*strings.Builder).copyCheck -/
abbrev R_strings_Builder_copyCheck_h3 : Type := (List Int) × Unit
@[reducible] noncomputable def qa_strings_Builder_copyCheck_h3 : List Pat := []
@[reducible] noncomputable def qH_strings_Builder_copyCheck_h3 : List HPat := [.cells 132 [.ptr 0 0, .all 1], .row (.byt 5)]
def ks_strings_Builder_copyCheck_h3 : List Nat := [147]
noncomputable def b_strings_Builder_copyCheck_h3 (l0 : (List Int)) : Option R_strings_Builder_copyCheck_h3 :=
  some (l0, ())
theorem ex_strings_Builder_copyCheck_h3 : ∃ f, f = @b_strings_Builder_copyCheck_h3 := ⟨_, rfl⟩
noncomputable def strings_Builder_copyCheck_h3 := Classical.choose ex_strings_Builder_copyCheck_h3
theorem strings_Builder_copyCheck_h3_eq : @strings_Builder_copyCheck_h3 = @b_strings_Builder_copyCheck_h3 := Classical.choose_spec ex_strings_Builder_copyCheck_h3
noncomputable def hb_strings_Builder_copyCheck_h3 : HCon := HCon.mk0 pa_strings_Builder_copyCheck_h3 pH_strings_Builder_copyCheck_h3 qa_strings_Builder_copyCheck_h3 qH_strings_Builder_copyCheck_h3 R_strings_Builder_copyCheck_h3 (fun x => b_strings_Builder_copyCheck_h3 x.2.2.1) (fun r => ((), (((), ((), ())), (r.1, ())))) (fun y => (y.2.2.1, ())) (fun _ => rfl)
noncomputable def h_strings_Builder_copyCheck_h3 : HCon := HCon.mk0 pa_strings_Builder_copyCheck_h3 pH_strings_Builder_copyCheck_h3 qa_strings_Builder_copyCheck_h3 qH_strings_Builder_copyCheck_h3 R_strings_Builder_copyCheck_h3 (fun x => strings_Builder_copyCheck_h3 x.2.2.1) (fun r => ((), (((), ((), ())), (r.1, ())))) (fun y => (y.2.2.1, ())) (fun _ => rfl)
theorem hb_strings_Builder_copyCheck_h3_ok : hb_strings_Builder_copyCheck_h3.Sound prog Inv gInv 147 :=
  hcon_run (M := m_strings_Builder_copyCheck_h3) (f := f147) rfl ks_strings_Builder_copyCheck_h3 100000 (X := nowhere) (fun base S0 cs0 hn hf => OSound.nowhere) (by intro x; kernel_rfl)
theorem h_strings_Builder_copyCheck_h3_ok : h_strings_Builder_copyCheck_h3.Sound prog Inv gInv 147 := by
  have e : h_strings_Builder_copyCheck_h3 = hb_strings_Builder_copyCheck_h3 := by unfold h_strings_Builder_copyCheck_h3 hb_strings_Builder_copyCheck_h3; rw [strings_Builder_copyCheck_h3_eq]
  rw [e]; exact hb_strings_Builder_copyCheck_h3_ok
end Go.Proofs.YtjdjlijjolibkaaDoor.V
namespace Go.Proofs.YtjdjlijjolibkaaDoor.V
open Go.RowKit Go.Proofs.Tryd
set_option maxRecDepth 100000
set_option linter.unusedVariables false
noncomputable def m_strings_Builder_WriteString_h0 : Mach prog Inv gInv := mach bas [(115, f115), (147, f147)] ⟨ok115, ok147, trivial⟩ [] trivial [] trivial [(147, h_strings_Builder_copyCheck_h0), (147, h_strings_Builder_copyCheck_h1), (147, h_strings_Builder_copyCheck_h2), (147, h_strings_Builder_copyCheck_h3)] ⟨⟨h_strings_Builder_copyCheck_h0_ok, FnOk.callable ok147⟩, ⟨h_strings_Builder_copyCheck_h1_ok, FnOk.callable ok147⟩, ⟨h_strings_Builder_copyCheck_h2_ok, FnOk.callable ok147⟩, ⟨h_strings_Builder_copyCheck_h3_ok, FnOk.callable ok147⟩, trivial⟩
@[reducible] noncomputable def pa_strings_Builder_WriteString_h0 : List Pat := [.ptr 0 0, .str]
@[reducible] noncomputable def pH_strings_Builder_WriteString_h0 : List HPat := [.cells 132 [.ptr 0 0, .all 1], .row (.byt 5)]
/-! ### (*strings.Builder).WriteString -/
abbrev R_strings_Builder_WriteString_h0 : Type := Int × (List Int) × Unit
@[reducible] noncomputable def qa_strings_Builder_WriteString_h0 : List Pat := [.int .i64, .nilIface]
@[reducible] noncomputable def qH_strings_Builder_WriteString_h0 : List HPat := [.cells 132 [.ptr 0 0, .all 2], .dead, .row (.byt 5)]
def ks_strings_Builder_WriteString_h0 : List Nat := [115, 147]
noncomputable def b_strings_Builder_WriteString_h0 (s0 : ByteArray) (l1 : (List Int)) : Option R_strings_Builder_WriteString_h0 :=
  obind (strings_Builder_copyCheck_h3 l1) fun y2 =>
  bif (decide (((List.length y2.1) + (List.length (strBytes s0))) ≤ 4294967296)) then
    let l3 : (List Int) := (y2.1 ++ (strBytes s0))
    let n4 : Int := (((ByteArray.size s0) : Nat) : Int)
    some (n4, (l3, ()))
  else none
theorem ex_strings_Builder_WriteString_h0 : ∃ f, f = @b_strings_Builder_WriteString_h0 := ⟨_, rfl⟩
noncomputable def strings_Builder_WriteString_h0 := Classical.choose ex_strings_Builder_WriteString_h0
theorem strings_Builder_WriteString_h0_eq : @strings_Builder_WriteString_h0 = @b_strings_Builder_WriteString_h0 := Classical.choose_spec ex_strings_Builder_WriteString_h0
noncomputable def hb_strings_Builder_WriteString_h0 : HCon := HCon.mk0 pa_strings_Builder_WriteString_h0 pH_strings_Builder_WriteString_h0 qa_strings_Builder_WriteString_h0 qH_strings_Builder_WriteString_h0 R_strings_Builder_WriteString_h0 (fun x => b_strings_Builder_WriteString_h0 x.1.2.1 x.2.2.1) (fun r => ((r.1, ((), ())), (((), ((), ())), ((), (r.2.1, ()))))) (fun y => (y.1.1, y.2.2.2.1, ())) (fun _ => rfl)
noncomputable def h_strings_Builder_WriteString_h0 : HCon := HCon.mk0 pa_strings_Builder_WriteString_h0 pH_strings_Builder_WriteString_h0 qa_strings_Builder_WriteString_h0 qH_strings_Builder_WriteString_h0 R_strings_Builder_WriteString_h0 (fun x => strings_Builder_WriteString_h0 x.1.2.1 x.2.2.1) (fun r => ((r.1, ((), ())), (((), ((), ())), ((), (r.2.1, ()))))) (fun y => (y.1.1, y.2.2.2.1, ())) (fun _ => rfl)
theorem hb_strings_Builder_WriteString_h0_ok : hb_strings_Builder_WriteString_h0.Sound prog Inv gInv 115 :=
  hcon_run (M := m_strings_Builder_WriteString_h0) (f := f115) rfl ks_strings_Builder_WriteString_h0 100000 (X := nowhere) (fun base S0 cs0 hn hf => OSound.nowhere) (by intro x; kernel_rfl)
theorem h_strings_Builder_WriteString_h0_ok : h_strings_Builder_WriteString_h0.Sound prog Inv gInv 115 := by
  have e : h_strings_Builder_WriteString_h0 = hb_strings_Builder_WriteString_h0 := by unfold h_strings_Builder_WriteString_h0 hb_strings_Builder_WriteString_h0; rw [strings_Builder_WriteString_h0_eq]
  rw [e]; exact hb_strings_Builder_WriteString_h0_ok
end Go.Proofs.YtjdjlijjolibkaaDoor.V
namespace Go.Proofs.YtjdjlijjolibkaaDoor.V
open Go.RowKit Go.Proofs.Tryd
set_option maxRecDepth 100000
set_option linter.unusedVariables false
noncomputable def m_ideal_state_word_h0 : Mach prog Inv gInv := mach bas [(156, f156)] ⟨ok156, trivial⟩ [(153, c_varint_Fixed), (154, c_ideal_mix)] ⟨⟨c_varint_Fixed_ok, FnOk.callable ok153⟩, ⟨c_ideal_mix_ok, FnOk.callable ok154⟩, trivial⟩ [] trivial [] trivial
@[reducible] noncomputable def pa_ideal_state_word_h0 : List Pat := [.ptr 0 0]
@[reducible] noncomputable def pH_ideal_state_word_h0 : List HPat := [.cells 230 [.int .u64, .nilPtr, .nilSlice]]
/-! ### (*domino/ideal.state).word -/
abbrev R_ideal_state_word_h0 : Type := ByteArray × Int × Unit
@[reducible] noncomputable def qa_ideal_state_word_h0 : List Pat := [.str]
@[reducible] noncomputable def qH_ideal_state_word_h0 : List HPat := [.cells 230 [.int .u64, .nilPtr, .nilSlice]]
def ks_ideal_state_word_h0 : List Nat := [156]
noncomputable def b_ideal_state_word_h0 (i0 : Int) : Option R_ideal_state_word_h0 :=
  let s1 : ByteArray := (ByteArray.mk (List.toArray ([] : List UInt8)))
  obind (ideal_mix i0) fun y2 =>
  obind (varint_Fixed y2.1 (8 : Int)) fun y3 =>
  let n4 : Int := (Go.IntKind.wrap Go.IntKind.u64 (i0 + (1 : Int)))
  some (y3.1, (n4, ()))
theorem ex_ideal_state_word_h0 : ∃ f, f = @b_ideal_state_word_h0 := ⟨_, rfl⟩
noncomputable def ideal_state_word_h0 := Classical.choose ex_ideal_state_word_h0
theorem ideal_state_word_h0_eq : @ideal_state_word_h0 = @b_ideal_state_word_h0 := Classical.choose_spec ex_ideal_state_word_h0
noncomputable def hb_ideal_state_word_h0 : HCon := HCon.mk0 pa_ideal_state_word_h0 pH_ideal_state_word_h0 qa_ideal_state_word_h0 qH_ideal_state_word_h0 R_ideal_state_word_h0 (fun x => b_ideal_state_word_h0 x.2.1.1) (fun r => ((r.1, ()), ((r.2.1, ((), ((), ()))), ()))) (fun y => (y.1.1, y.2.1.1, ())) (fun _ => rfl)
noncomputable def h_ideal_state_word_h0 : HCon := HCon.mk0 pa_ideal_state_word_h0 pH_ideal_state_word_h0 qa_ideal_state_word_h0 qH_ideal_state_word_h0 R_ideal_state_word_h0 (fun x => ideal_state_word_h0 x.2.1.1) (fun r => ((r.1, ()), ((r.2.1, ((), ((), ()))), ()))) (fun y => (y.1.1, y.2.1.1, ())) (fun _ => rfl)
theorem hb_ideal_state_word_h0_ok : hb_ideal_state_word_h0.Sound prog Inv gInv 156 :=
  hcon_run (M := m_ideal_state_word_h0) (f := f156) rfl ks_ideal_state_word_h0 100000 (X := nowhere) (fun base S0 cs0 hn hf => OSound.nowhere) (by intro x; kernel_rfl)
theorem h_ideal_state_word_h0_ok : h_ideal_state_word_h0.Sound prog Inv gInv 156 := by
  have e : h_ideal_state_word_h0 = hb_ideal_state_word_h0 := by unfold h_ideal_state_word_h0 hb_ideal_state_word_h0; rw [ideal_state_word_h0_eq]
  rw [e]; exact hb_ideal_state_word_h0_ok
end Go.Proofs.YtjdjlijjolibkaaDoor.V
namespace Go.Proofs.YtjdjlijjolibkaaDoor.V
open Go.RowKit Go.Proofs.Tryd
set_option maxRecDepth 100000
set_option linter.unusedVariables false
noncomputable def m_strings_Builder_copyCheck_h4 : Mach prog Inv gInv := mach bas [(147, f147)] ⟨ok147, trivial⟩ [] trivial [] trivial [] trivial
@[reducible] noncomputable def pa_strings_Builder_copyCheck_h4 : List Pat := [.ptr 0 1]
@[reducible] noncomputable def pH_strings_Builder_copyCheck_h4 : List HPat := [.cells 230 [.int .u64, .nilPtr, .nilSlice]]
/-! ### (*strings.Builder).copyCheck -/
abbrev R_strings_Builder_copyCheck_h4 : Type := Int × Unit
@[reducible] noncomputable def qa_strings_Builder_copyCheck_h4 : List Pat := []
@[reducible] noncomputable def qH_strings_Builder_copyCheck_h4 : List HPat := [.cells 230 [.int .u64, .ptr 0 1, .nilSlice]]
def ks_strings_Builder_copyCheck_h4 : List Nat := [147]
noncomputable def b_strings_Builder_copyCheck_h4 (i0 : Int) : Option R_strings_Builder_copyCheck_h4 :=
  some (i0, ())
theorem ex_strings_Builder_copyCheck_h4 : ∃ f, f = @b_strings_Builder_copyCheck_h4 := ⟨_, rfl⟩
noncomputable def strings_Builder_copyCheck_h4 := Classical.choose ex_strings_Builder_copyCheck_h4
theorem strings_Builder_copyCheck_h4_eq : @strings_Builder_copyCheck_h4 = @b_strings_Builder_copyCheck_h4 := Classical.choose_spec ex_strings_Builder_copyCheck_h4
noncomputable def hb_strings_Builder_copyCheck_h4 : HCon := HCon.mk0 pa_strings_Builder_copyCheck_h4 pH_strings_Builder_copyCheck_h4 qa_strings_Builder_copyCheck_h4 qH_strings_Builder_copyCheck_h4 R_strings_Builder_copyCheck_h4 (fun x => b_strings_Builder_copyCheck_h4 x.2.1.1) (fun r => ((), ((r.1, ((), ((), ()))), ()))) (fun y => (y.2.1.1, ())) (fun _ => rfl)
noncomputable def h_strings_Builder_copyCheck_h4 : HCon := HCon.mk0 pa_strings_Builder_copyCheck_h4 pH_strings_Builder_copyCheck_h4 qa_strings_Builder_copyCheck_h4 qH_strings_Builder_copyCheck_h4 R_strings_Builder_copyCheck_h4 (fun x => strings_Builder_copyCheck_h4 x.2.1.1) (fun r => ((), ((r.1, ((), ((), ()))), ()))) (fun y => (y.2.1.1, ())) (fun _ => rfl)
theorem hb_strings_Builder_copyCheck_h4_ok : hb_strings_Builder_copyCheck_h4.Sound prog Inv gInv 147 :=
  hcon_run (M := m_strings_Builder_copyCheck_h4) (f := f147) rfl ks_strings_Builder_copyCheck_h4 100000 (X := nowhere) (fun base S0 cs0 hn hf => OSound.nowhere) (by intro x; kernel_rfl)
theorem h_strings_Builder_copyCheck_h4_ok : h_strings_Builder_copyCheck_h4.Sound prog Inv gInv 147 := by
  have e : h_strings_Builder_copyCheck_h4 = hb_strings_Builder_copyCheck_h4 := by unfold h_strings_Builder_copyCheck_h4 hb_strings_Builder_copyCheck_h4; rw [strings_Builder_copyCheck_h4_eq]
  rw [e]; exact hb_strings_Builder_copyCheck_h4_ok
end Go.Proofs.YtjdjlijjolibkaaDoor.V
namespace Go.Proofs.YtjdjlijjolibkaaDoor.V
open Go.RowKit Go.Proofs.Tryd
set_option maxRecDepth 100000
set_option linter.unusedVariables false
noncomputable def m_strings_Builder_WriteString_h1 : Mach prog Inv gInv := mach bas [(115, f115), (147, f147)] ⟨ok115, ok147, trivial⟩ [] trivial [] trivial [(147, h_strings_Builder_copyCheck_h0), (147, h_strings_Builder_copyCheck_h1), (147, h_strings_Builder_copyCheck_h2), (147, h_strings_Builder_copyCheck_h3), (147, h_strings_Builder_copyCheck_h4)] ⟨⟨h_strings_Builder_copyCheck_h0_ok, FnOk.callable ok147⟩, ⟨h_strings_Builder_copyCheck_h1_ok, FnOk.callable ok147⟩, ⟨h_strings_Builder_copyCheck_h2_ok, FnOk.callable ok147⟩, ⟨h_strings_Builder_copyCheck_h3_ok, FnOk.callable ok147⟩, ⟨h_strings_Builder_copyCheck_h4_ok, FnOk.callable ok147⟩, trivial⟩
@[reducible] noncomputable def pa_strings_Builder_WriteString_h1 : List Pat := [.ptr 0 1, .str]
@[reducible] noncomputable def pH_strings_Builder_WriteString_h1 : List HPat := [.cells 230 [.int .u64, .nilPtr, .nilSlice]]
/-! ### (*strings.Builder).WriteString -/
abbrev R_strings_Builder_WriteString_h1 : Type := Int × Int × (List Int) × Unit
@[reducible] noncomputable def qa_strings_Builder_WriteString_h1 : List Pat := [.int .i64, .nilIface]
@[reducible] noncomputable def qH_strings_Builder_WriteString_h1 : List HPat := [.cells 230 [.int .u64, .ptr 0 1, .all 1], .row (.byt 5)]
def ks_strings_Builder_WriteString_h1 : List Nat := [115, 147]
noncomputable def b_strings_Builder_WriteString_h1 (s0 : ByteArray) (i1 : Int) : Option R_strings_Builder_WriteString_h1 :=
  obind (strings_Builder_copyCheck_h4 i1) fun y2 =>
  bif (decide ((List.length (strBytes s0)) ≤ 4294967296)) then
    let l3 : (List Int) := (strBytes s0)
    let n4 : Int := (((ByteArray.size s0) : Nat) : Int)
    some (n4, (y2.1, (l3, ())))
  else none
theorem ex_strings_Builder_WriteString_h1 : ∃ f, f = @b_strings_Builder_WriteString_h1 := ⟨_, rfl⟩
noncomputable def strings_Builder_WriteString_h1 := Classical.choose ex_strings_Builder_WriteString_h1
theorem strings_Builder_WriteString_h1_eq : @strings_Builder_WriteString_h1 = @b_strings_Builder_WriteString_h1 := Classical.choose_spec ex_strings_Builder_WriteString_h1
noncomputable def hb_strings_Builder_WriteString_h1 : HCon := HCon.mk0 pa_strings_Builder_WriteString_h1 pH_strings_Builder_WriteString_h1 qa_strings_Builder_WriteString_h1 qH_strings_Builder_WriteString_h1 R_strings_Builder_WriteString_h1 (fun x => b_strings_Builder_WriteString_h1 x.1.2.1 x.2.1.1) (fun r => ((r.1, ((), ())), ((r.2.1, ((), ((), ()))), (r.2.2.1, ())))) (fun y => (y.1.1, y.2.1.1, y.2.2.1, ())) (fun _ => rfl)
noncomputable def h_strings_Builder_WriteString_h1 : HCon := HCon.mk0 pa_strings_Builder_WriteString_h1 pH_strings_Builder_WriteString_h1 qa_strings_Builder_WriteString_h1 qH_strings_Builder_WriteString_h1 R_strings_Builder_WriteString_h1 (fun x => strings_Builder_WriteString_h1 x.1.2.1 x.2.1.1) (fun r => ((r.1, ((), ())), ((r.2.1, ((), ((), ()))), (r.2.2.1, ())))) (fun y => (y.1.1, y.2.1.1, y.2.2.1, ())) (fun _ => rfl)
theorem hb_strings_Builder_WriteString_h1_ok : hb_strings_Builder_WriteString_h1.Sound prog Inv gInv 115 :=
  hcon_run (M := m_strings_Builder_WriteString_h1) (f := f115) rfl ks_strings_Builder_WriteString_h1 100000 (X := nowhere) (fun base S0 cs0 hn hf => OSound.nowhere) (by intro x; kernel_rfl)
theorem h_strings_Builder_WriteString_h1_ok : h_strings_Builder_WriteString_h1.Sound prog Inv gInv 115 := by
  have e : h_strings_Builder_WriteString_h1 = hb_strings_Builder_WriteString_h1 := by unfold h_strings_Builder_WriteString_h1 hb_strings_Builder_WriteString_h1; rw [strings_Builder_WriteString_h1_eq]
  rw [e]; exact hb_strings_Builder_WriteString_h1_ok
end Go.Proofs.YtjdjlijjolibkaaDoor.V
namespace Go.Proofs.YtjdjlijjolibkaaDoor.V
open Go.RowKit Go.Proofs.Tryd
set_option maxRecDepth 100000
set_option linter.unusedVariables false
noncomputable def m_ideal_state_word_h1 : Mach prog Inv gInv := mach bas [(156, f156)] ⟨ok156, trivial⟩ [(153, c_varint_Fixed), (154, c_ideal_mix)] ⟨⟨c_varint_Fixed_ok, FnOk.callable ok153⟩, ⟨c_ideal_mix_ok, FnOk.callable ok154⟩, trivial⟩ [] trivial [] trivial
@[reducible] noncomputable def pa_ideal_state_word_h1 : List Pat := [.ptr 0 0]
@[reducible] noncomputable def pH_ideal_state_word_h1 : List HPat := [.cells 230 [.int .u64, .nos 0 1, .all 1], .row (.byt 5)]
/-! ### (*domino/ideal.state).word -/
abbrev R_ideal_state_word_h1 : Type := ByteArray × Int × (List Int) × Unit
@[reducible] noncomputable def qa_ideal_state_word_h1 : List Pat := [.str]
@[reducible] noncomputable def qH_ideal_state_word_h1 : List HPat := [.cells 230 [.int .u64, .nos 0 1, .all 1], .row (.byt 5)]
def ks_ideal_state_word_h1 : List Nat := [156]
noncomputable def b_ideal_state_word_h1 (i0 : Int) (l1 : (List Int)) : Option R_ideal_state_word_h1 :=
  let s2 : ByteArray := (ByteArray.mk (List.toArray ([] : List UInt8)))
  obind (ideal_mix i0) fun y3 =>
  obind (varint_Fixed y3.1 (8 : Int)) fun y4 =>
  let n5 : Int := (Go.IntKind.wrap Go.IntKind.u64 (i0 + (1 : Int)))
  some (y4.1, (n5, (l1, ())))
theorem ex_ideal_state_word_h1 : ∃ f, f = @b_ideal_state_word_h1 := ⟨_, rfl⟩
noncomputable def ideal_state_word_h1 := Classical.choose ex_ideal_state_word_h1
theorem ideal_state_word_h1_eq : @ideal_state_word_h1 = @b_ideal_state_word_h1 := Classical.choose_spec ex_ideal_state_word_h1
noncomputable def hb_ideal_state_word_h1 : HCon := HCon.mk0 pa_ideal_state_word_h1 pH_ideal_state_word_h1 qa_ideal_state_word_h1 qH_ideal_state_word_h1 R_ideal_state_word_h1 (fun x => b_ideal_state_word_h1 x.2.1.1 x.2.2.1) (fun r => ((r.1, ()), ((r.2.1, ((), ((), ()))), (r.2.2.1, ())))) (fun y => (y.1.1, y.2.1.1, y.2.2.1, ())) (fun _ => rfl)
noncomputable def h_ideal_state_word_h1 : HCon := HCon.mk0 pa_ideal_state_word_h1 pH_ideal_state_word_h1 qa_ideal_state_word_h1 qH_ideal_state_word_h1 R_ideal_state_word_h1 (fun x => ideal_state_word_h1 x.2.1.1 x.2.2.1) (fun r => ((r.1, ()), ((r.2.1, ((), ((), ()))), (r.2.2.1, ())))) (fun y => (y.1.1, y.2.1.1, y.2.2.1, ())) (fun _ => rfl)
theorem hb_ideal_state_word_h1_ok : hb_ideal_state_word_h1.Sound prog Inv gInv 156 :=
  hcon_run (M := m_ideal_state_word_h1) (f := f156) rfl ks_ideal_state_word_h1 100000 (X := nowhere) (fun base S0 cs0 hn hf => OSound.nowhere) (by intro x; kernel_rfl)
theorem h_ideal_state_word_h1_ok : h_ideal_state_word_h1.Sound prog Inv gInv 156 := by
  have e : h_ideal_state_word_h1 = hb_ideal_state_word_h1 := by unfold h_ideal_state_word_h1 hb_ideal_state_word_h1; rw [ideal_state_word_h1_eq]
  rw [e]; exact hb_ideal_state_word_h1_ok
end Go.Proofs.YtjdjlijjolibkaaDoor.V
namespace Go.Proofs.YtjdjlijjolibkaaDoor.V
open Go.RowKit Go.Proofs.Tryd
set_option maxRecDepth 100000
set_option linter.unusedVariables false
noncomputable def m_strings_Builder_copyCheck_h7 : Mach prog Inv gInv := mach bas [(147, f147)] ⟨ok147, trivial⟩ [] trivial [] trivial [] trivial
@[reducible] noncomputable def pa_strings_Builder_copyCheck_h7 : List Pat := [.ptr 0 1]
@[reducible] noncomputable def pH_strings_Builder_copyCheck_h7 : List HPat := [.cells 230 [.int .u64, .nos 0 1, .all 1], .row (.byt 5)]
/-! ### (*strings.Builder).copyCheck -/
abbrev R_strings_Builder_copyCheck_h7 : Type := Int × (List Int) × Unit
@[reducible] noncomputable def qa_strings_Builder_copyCheck_h7 : List Pat := []
@[reducible] noncomputable def qH_strings_Builder_copyCheck_h7 : List HPat := [.cells 230 [.int .u64, .ptr 0 1, .all 1], .row (.byt 5)]
def ks_strings_Builder_copyCheck_h7 : List Nat := [147]
noncomputable def b_strings_Builder_copyCheck_h7 (i0 : Int) (l1 : (List Int)) : Option R_strings_Builder_copyCheck_h7 :=
  some (i0, (l1, ()))
theorem ex_strings_Builder_copyCheck_h7 : ∃ f, f = @b_strings_Builder_copyCheck_h7 := ⟨_, rfl⟩
noncomputable def strings_Builder_copyCheck_h7 := Classical.choose ex_strings_Builder_copyCheck_h7
theorem strings_Builder_copyCheck_h7_eq : @strings_Builder_copyCheck_h7 = @b_strings_Builder_copyCheck_h7 := Classical.choose_spec ex_strings_Builder_copyCheck_h7
noncomputable def hb_strings_Builder_copyCheck_h7 : HCon := HCon.mk0 pa_strings_Builder_copyCheck_h7 pH_strings_Builder_copyCheck_h7 qa_strings_Builder_copyCheck_h7 qH_strings_Builder_copyCheck_h7 R_strings_Builder_copyCheck_h7 (fun x => b_strings_Builder_copyCheck_h7 x.2.1.1 x.2.2.1) (fun r => ((), ((r.1, ((), ((), ()))), (r.2.1, ())))) (fun y => (y.2.1.1, y.2.2.1, ())) (fun _ => rfl)
noncomputable def h_strings_Builder_copyCheck_h7 : HCon := HCon.mk0 pa_strings_Builder_copyCheck_h7 pH_strings_Builder_copyCheck_h7 qa_strings_Builder_copyCheck_h7 qH_strings_Builder_copyCheck_h7 R_strings_Builder_copyCheck_h7 (fun x => strings_Builder_copyCheck_h7 x.2.1.1 x.2.2.1) (fun r => ((), ((r.1, ((), ((), ()))), (r.2.1, ())))) (fun y => (y.2.1.1, y.2.2.1, ())) (fun _ => rfl)
theorem hb_strings_Builder_copyCheck_h7_ok : hb_strings_Builder_copyCheck_h7.Sound prog Inv gInv 147 :=
  hcon_sound (M := m_strings_Builder_copyCheck_h7) (f := f147) rfl fun x r hxy base S0 cs0 hn => nos_split 0 1 0 1 rfl rfl rfl (run_sound (finH_ok hb_strings_Builder_copyCheck_h7 hn S0) OSound.nowhere (Ks := ks_strings_Builder_copyCheck_h7) (n := 1000) (by refine Eq.trans (Eq.symm ?_) hxy; kernel_rfl)) (run_sound (finH_ok hb_strings_Builder_copyCheck_h7 hn S0) OSound.nowhere (Ks := ks_strings_Builder_copyCheck_h7) (n := 1000) (by refine Eq.trans (Eq.symm ?_) hxy; kernel_rfl))
theorem h_strings_Builder_copyCheck_h7_ok : h_strings_Builder_copyCheck_h7.Sound prog Inv gInv 147 := by
  have e : h_strings_Builder_copyCheck_h7 = hb_strings_Builder_copyCheck_h7 := by unfold h_strings_Builder_copyCheck_h7 hb_strings_Builder_copyCheck_h7; rw [strings_Builder_copyCheck_h7_eq]
  rw [e]; exact hb_strings_Builder_copyCheck_h7_ok
end Go.Proofs.YtjdjlijjolibkaaDoor.V
namespace Go.Proofs.YtjdjlijjolibkaaDoor.V
open Go.RowKit Go.Proofs.Tryd
set_option maxRecDepth 100000
set_option linter.unusedVariables false
noncomputable def m_strings_Builder_WriteString_h2 : Mach prog Inv gInv := mach bas [(115, f115), (147, f147)] ⟨ok115, ok147, trivial⟩ [] trivial [] trivial [(147, h_strings_Builder_copyCheck_h0), (147, h_strings_Builder_copyCheck_h1), (147, h_strings_Builder_copyCheck_h2), (147, h_strings_Builder_copyCheck_h3), (147, h_strings_Builder_copyCheck_h4), (147, h_strings_Builder_copyCheck_h7)] ⟨⟨h_strings_Builder_copyCheck_h0_ok, FnOk.callable ok147⟩, ⟨h_strings_Builder_copyCheck_h1_ok, FnOk.callable ok147⟩, ⟨h_strings_Builder_copyCheck_h2_ok, FnOk.callable ok147⟩, ⟨h_strings_Builder_copyCheck_h3_ok, FnOk.callable ok147⟩, ⟨h_strings_Builder_copyCheck_h4_ok, FnOk.callable ok147⟩, ⟨h_strings_Builder_copyCheck_h7_ok, FnOk.callable ok147⟩, trivial⟩
@[reducible] noncomputable def pa_strings_Builder_WriteString_h2 : List Pat := [.ptr 0 1, .str]
@[reducible] noncomputable def pH_strings_Builder_WriteString_h2 : List HPat := [.cells 230 [.int .u64, .nos 0 1, .all 1], .row (.byt 5)]
/-! ### (*strings.Builder).WriteString -/
abbrev R_strings_Builder_WriteString_h2 : Type := Int × Int × (List Int) × Unit
@[reducible] noncomputable def qa_strings_Builder_WriteString_h2 : List Pat := [.int .i64, .nilIface]
@[reducible] noncomputable def qH_strings_Builder_WriteString_h2 : List HPat := [.cells 230 [.int .u64, .ptr 0 1, .all 2], .dead, .row (.byt 5)]
def ks_strings_Builder_WriteString_h2 : List Nat := [115, 147]
noncomputable def b_strings_Builder_WriteString_h2 (s0 : ByteArray) (i1 : Int) (l2 : (List Int)) : Option R_strings_Builder_WriteString_h2 :=
  obind (strings_Builder_copyCheck_h7 i1 l2) fun y3 =>
  bif (decide (((List.length y3.2.1) + (List.length (strBytes s0))) ≤ 4294967296)) then
    let l4 : (List Int) := (y3.2.1 ++ (strBytes s0))
    let n5 : Int := (((ByteArray.size s0) : Nat) : Int)
    some (n5, (y3.1, (l4, ())))
  else none
theorem ex_strings_Builder_WriteString_h2 : ∃ f, f = @b_strings_Builder_WriteString_h2 := ⟨_, rfl⟩
noncomputable def strings_Builder_WriteString_h2 := Classical.choose ex_strings_Builder_WriteString_h2
theorem strings_Builder_WriteString_h2_eq : @strings_Builder_WriteString_h2 = @b_strings_Builder_WriteString_h2 := Classical.choose_spec ex_strings_Builder_WriteString_h2
noncomputable def hb_strings_Builder_WriteString_h2 : HCon := HCon.mk0 pa_strings_Builder_WriteString_h2 pH_strings_Builder_WriteString_h2 qa_strings_Builder_WriteString_h2 qH_strings_Builder_WriteString_h2 R_strings_Builder_WriteString_h2 (fun x => b_strings_Builder_WriteString_h2 x.1.2.1 x.2.1.1 x.2.2.1) (fun r => ((r.1, ((), ())), ((r.2.1, ((), ((), ()))), ((), (r.2.2.1, ()))))) (fun y => (y.1.1, y.2.1.1, y.2.2.2.1, ())) (fun _ => rfl)
noncomputable def h_strings_Builder_WriteString_h2 : HCon := HCon.mk0 pa_strings_Builder_WriteString_h2 pH_strings_Builder_WriteString_h2 qa_strings_Builder_WriteString_h2 qH_strings_Builder_WriteString_h2 R_strings_Builder_WriteString_h2 (fun x => strings_Builder_WriteString_h2 x.1.2.1 x.2.1.1 x.2.2.1) (fun r => ((r.1, ((), ())), ((r.2.1, ((), ((), ()))), ((), (r.2.2.1, ()))))) (fun y => (y.1.1, y.2.1.1, y.2.2.2.1, ())) (fun _ => rfl)
theorem hb_strings_Builder_WriteString_h2_ok : hb_strings_Builder_WriteString_h2.Sound prog Inv gInv 115 :=
  hcon_run (M := m_strings_Builder_WriteString_h2) (f := f115) rfl ks_strings_Builder_WriteString_h2 100000 (X := nowhere) (fun base S0 cs0 hn hf => OSound.nowhere) (by intro x; kernel_rfl)
theorem h_strings_Builder_WriteString_h2_ok : h_strings_Builder_WriteString_h2.Sound prog Inv gInv 115 := by
  have e : h_strings_Builder_WriteString_h2 = hb_strings_Builder_WriteString_h2 := by unfold h_strings_Builder_WriteString_h2 hb_strings_Builder_WriteString_h2; rw [strings_Builder_WriteString_h2_eq]
  rw [e]; exact hb_strings_Builder_WriteString_h2_ok
end Go.Proofs.YtjdjlijjolibkaaDoor.V
namespace Go.Proofs.YtjdjlijjolibkaaDoor.V
open Go.RowKit Go.Proofs.Tryd
set_option maxRecDepth 100000
set_option linter.unusedVariables false
noncomputable def m_ideal_Draw : Mach prog Inv gInv := mach bas [(139, f139), (76, f76), (115, f115), (147, f147), (155, f155), (156, f156)] ⟨ok139, ok76, ok115, ok147, ok155, ok156, trivial⟩ [(153, c_varint_Fixed), (154, c_ideal_mix)] ⟨⟨c_varint_Fixed_ok, FnOk.callable ok153⟩, ⟨c_ideal_mix_ok, FnOk.callable ok154⟩, trivial⟩ [] trivial [(147, h_strings_Builder_copyCheck_h0), (147, h_strings_Builder_copyCheck_h1), (147, h_strings_Builder_copyCheck_h2), (147, h_strings_Builder_copyCheck_h3), (115, h_strings_Builder_WriteString_h0), (156, h_ideal_state_word_h0), (147, h_strings_Builder_copyCheck_h4), (115, h_strings_Builder_WriteString_h1), (156, h_ideal_state_word_h1), (147, h_strings_Builder_copyCheck_h7), (115, h_strings_Builder_WriteString_h2)] ⟨⟨h_strings_Builder_copyCheck_h0_ok, FnOk.callable ok147⟩, ⟨h_strings_Builder_copyCheck_h1_ok, FnOk.callable ok147⟩, ⟨h_strings_Builder_copyCheck_h2_ok, FnOk.callable ok147⟩, ⟨h_strings_Builder_copyCheck_h3_ok, FnOk.callable ok147⟩, ⟨h_strings_Builder_WriteString_h0_ok, FnOk.callable ok115⟩, ⟨h_ideal_state_word_h0_ok, FnOk.callable ok156⟩, ⟨h_strings_Builder_copyCheck_h4_ok, FnOk.callable ok147⟩, ⟨h_strings_Builder_WriteString_h1_ok, FnOk.callable ok115⟩, ⟨h_ideal_state_word_h1_ok, FnOk.callable ok156⟩, ⟨h_strings_Builder_copyCheck_h7_ok, FnOk.callable ok147⟩, ⟨h_strings_Builder_WriteString_h2_ok, FnOk.callable ok115⟩, trivial⟩
/-! ### domino/ideal.Draw -/
@[reducible] def r_ideal_Draw : List Ty := [.str]
def ks_ideal_Draw : List Nat := [139, 76, 115, 147, 155, 156]
abbrev H_ideal_Draw (base : Base) (S0 : Nat → Prop) := base.n = 0 ∧ FinOk (finR r_ideal_Draw) base S0 (Post r_ideal_Draw S0)
abbrev J_ideal_Draw (base : Base) (S0 : Nat → Prop) (cs0 : List Go.Frame) (p : CPat) (J : denC p → Option (denL r_ideal_Draw)) := JSound m_ideal_Draw base S0 cs0 (Post r_ideal_Draw S0) p J
abbrev O_ideal_Draw (base : Base) (S0 : Nat → Prop) (cs0 : List Go.Frame) (X : Cfg → Option (Option (denL r_ideal_Draw))) := OSound m_ideal_Draw base S0 cs0 (Post r_ideal_Draw S0) X
@[reducible] noncomputable def p_ideal_Draw_0 : CPat := ⟨⟨139, [1, 1, 0, 0], none, [.any, .any, .int .i64, .any, .any, .any, .any, .ptr 0 0], 28⟩, [], [.cells 230 [.int .u64, .nos 0 1, .all 1], .row (.byt 5)], 0⟩
@[reducible] noncomputable def u_ideal_Draw_0 (k : Int → Int → (List Int) → Option (ByteArray × Unit)) : denC p_ideal_Draw_0 → Option (ByteArray × Unit) := fun x => k x.1.2.2.1 x.2.2.1.1 x.2.2.2.1
noncomputable def t_ideal_Draw_0 (k0 : Int → Int → (List Int) → Option (ByteArray × Unit)) (i16 : Int) (i17 : Int) (l18 : (List Int)) : Option (ByteArray × Unit) :=
  let n19 : Int := (((List.length l18) : Nat) : Int)
  let b20 : Bool := (decide (n19 < i16))
  bif b20 then
    obind (ideal_state_word_h1 i17 l18) fun y21 =>
    obind (strings_Builder_WriteString_h2 y21.1 y21.2.1 y21.2.2.1) fun y22 =>
    k0 i16 y22.2.1 y22.2.2.1
  else
    let s23 : ByteArray := (ByteArray.mk (List.toArray ([] : List UInt8)))
    let n24 : Int := (((List.length l18) : Nat) : Int)
    bif (decide ((n24 = (((List.length l18) : Nat) : Int)) ∧ (n24 ≤ (4294967296 : Int)))) then
      let s25 : ByteArray := (bytesStr l18)
      let n26 : Int := (if ((0 : Int) > i16) then (0 : Int) else i16)
      bif (decide (((0 : Int) ≤ (0 : Int)) ∧ (((0 : Int) ≤ n26) ∧ (n26 ≤ (((ByteArray.size s25) : Nat) : Int))))) then
        let s27 : ByteArray := (ByteArray.extract s25 0 (Int.toNat n26))
        some (s27, ())
      else none
    else none
noncomputable def ideal_Draw_0 : Nat → Int → Int → (List Int) → Option (ByteArray × Unit)
  | 0 => fun _ _ _ => none
  | m + 1 => t_ideal_Draw_0 (ideal_Draw_0 m)
noncomputable def b_ideal_Draw_0' (i16 : Int) (i17 : Int) (l18 : (List Int)) : Option (ByteArray × Unit) := ideal_Draw_0 (Int.toNat (i16 - (((List.length l18) : Nat) : Int)) + 2) i16 i17 l18
theorem ex_ideal_Draw_0' : ∃ f, f = @b_ideal_Draw_0' := ⟨_, rfl⟩
noncomputable def ideal_Draw_0' := Classical.choose ex_ideal_Draw_0'
theorem ideal_Draw_0'_eq : @ideal_Draw_0' = @b_ideal_Draw_0' := Classical.choose_spec ex_ideal_Draw_0'
theorem s_ideal_Draw_0 {base S0 cs0} (hfin : H_ideal_Draw base S0) : ∀ m, J_ideal_Draw base S0 cs0 p_ideal_Draw_0 (u_ideal_Draw_0 (ideal_Draw_0 m)) :=
  JSound.loop' hfin.2 ks_ideal_Draw 100000 u_ideal_Draw_0 (fun k0 => cut p_ideal_Draw_0 (u_ideal_Draw_0 k0) (nowhere)) (fun k0 h0 => OSound.cut (OSound.nowhere) (Nat.le_of_eq hfin.1) h0) (ideal_Draw_0) (by intro x; rfl) (by intro m x; kernel_rfl)
theorem s_ideal_Draw_0' {base S0 cs0} (hfin : H_ideal_Draw base S0) : J_ideal_Draw base S0 cs0 p_ideal_Draw_0 (u_ideal_Draw_0 (ideal_Draw_0')) := by
  rw [ideal_Draw_0'_eq]; exact fun x r hx => s_ideal_Draw_0 hfin _ x r hx
noncomputable def x_ideal_Draw_0 : Cfg → Option (Option (ByteArray × Unit)) := cut p_ideal_Draw_0 (u_ideal_Draw_0 (ideal_Draw_0')) (nowhere)
theorem o_ideal_Draw_0 {base S0 cs0} (hfin : H_ideal_Draw base S0) : O_ideal_Draw base S0 cs0 (x_ideal_Draw_0) := OSound.cut (OSound.nowhere) (Nat.le_of_eq hfin.1) (s_ideal_Draw_0' hfin)
noncomputable def b_ideal_Draw (a0 : Int) (a1 : Int) (a2 : Int) : Option (ByteArray × Unit) :=
  let s3 : ByteArray := (ByteArray.mk (List.toArray ([] : List UInt8)))
  obind (ideal_mix a0) fun y4 =>
  let n5 : Int := (Go.IntKind.wrap Go.IntKind.u64 (y4.1 + a1))
  obind (ideal_mix n5) fun y6 =>
  ideal_Draw_0' a2 y6.1 ([] : List Int)
theorem ex_ideal_Draw : ∃ f, f = @b_ideal_Draw := ⟨_, rfl⟩
noncomputable def ideal_Draw := Classical.choose ex_ideal_Draw
theorem ideal_Draw_eq : @ideal_Draw = @b_ideal_Draw := Classical.choose_spec ex_ideal_Draw
noncomputable def cb_ideal_Draw : Con := ⟨[(.int .u64), (.int .u64), (.int .i64)], r_ideal_Draw, fun x => b_ideal_Draw x.1 x.2.1 x.2.2.1⟩
noncomputable def c_ideal_Draw : Con := ⟨[(.int .u64), (.int .u64), (.int .i64)], r_ideal_Draw, fun x => ideal_Draw x.1 x.2.1 x.2.2.1⟩
theorem cb_ideal_Draw_ok : cb_ideal_Draw.Sound prog Inv gInv 139 :=
  con_run (M := m_ideal_Draw) inv_g (f := f139) rfl ks_ideal_Draw 100000 (X := x_ideal_Draw_0) (fun base S0 cs0 hn hf => have hfin : H_ideal_Draw base S0 := ⟨hn, hf⟩; o_ideal_Draw_0 hfin) (by intro x; kernel_rfl)
theorem c_ideal_Draw_ok : c_ideal_Draw.Sound prog Inv gInv 139 := by
  have e : c_ideal_Draw = cb_ideal_Draw := by unfold c_ideal_Draw cb_ideal_Draw; rw [ideal_Draw_eq]
  rw [e]; exact cb_ideal_Draw_ok
end Go.Proofs.YtjdjlijjolibkaaDoor.V
/- Words that are drawn: mixing, eight bytes of a word, an ID, a text of sixteen bytes. -/
namespace Go.Proofs.YtjdjlijjolibkaaDoor.V
open Go.RowKit
theorem ofInt_back (z : Int) (h : 0 ≤ z ∧ z < 18446744073709551616) : ((BitVec.ofInt 64 z).toNat : Int) = z := by
  rw [BitVec.toNat_ofInt]
  omega
theorem add_bv (x : BitVec 64) (c : Nat) : IntKind.wrap .u64 ((x.toNat : Int) + (c : Int)) = ((x + BitVec.ofNat 64 c).toNat : Int) := by
  rw [wrap_u64', BitVec.toNat_add, BitVec.toNat_ofNat]
  omega
theorem mul_bv (x : BitVec 64) (c : Nat) : IntKind.wrap .u64 ((x.toNat : Int) * (c : Int)) = ((x * BitVec.ofNat 64 c).toNat : Int) := by
  rw [wrap_u64', BitVec.toNat_mul, BitVec.toNat_ofNat, Nat.mul_mod_mod]
  rw [← Int.natCast_mul]
  omega
theorem shr_bv (x : BitVec 64) (s : Nat) : Int.fdiv (x.toNat : Int) ((2 ^ s : Nat) : Int) = ((x >>> s).toNat : Int) := by
  rw [BitVec.toNat_ushiftRight, Nat.shiftRight_eq_div_pow, Int.fdiv_eq_ediv_of_nonneg _ (Int.natCast_nonneg _)]
  rfl
theorem ofInt_nat (x : BitVec 64) : BitVec.ofInt 64 (x.toNat : Int) = x := by
  apply BitVec.eq_of_toNat_eq
  rw [BitVec.toNat_ofInt]
  have := x.isLt
  omega
theorem xor_bv (x y : BitVec 64) : bits .xor .u64 (x.toNat : Int) (y.toNat : Int) = ((x ^^^ y).toNat : Int) := by
  rw [bits_eq]
  show IntKind.wrap .u64 (((BitVec.ofInt 64 (x.toNat : Int) ^^^ BitVec.ofInt 64 (y.toNat : Int)).toNat : Nat) : Int) = _
  rw [ofInt_nat, ofInt_nat, wrap_u64']
  have := (x ^^^ y).isLt
  omega
theorem mix_is (a : Int) (h : 0 ≤ a ∧ a < 18446744073709551616) : ideal_mix a = some (mixI a, ()) := by
  rw [ideal_mix_eq, b_ideal_mix]
  have e0 := ofInt_back a h
  unfold mixI mixB
  generalize BitVec.ofInt 64 a = x at *
  subst e0
  have c1 : (11400714819323198485 : Int) = ((11400714819323198485 : Nat) : Int) := rfl
  have c2 : (13787848793156543929 : Int) = ((13787848793156543929 : Nat) : Int) := rfl
  have c3 : (10723151780598845931 : Int) = ((10723151780598845931 : Nat) : Int) := rfl
  have d1 : (1073741824 : Int) = ((2 ^ 30 : Nat) : Int) := rfl
  have d2 : (134217728 : Int) = ((2 ^ 27 : Nat) : Int) := rfl
  have d3 : (2147483648 : Int) = ((2 ^ 31 : Nat) : Int) := rfl
  simp only [c1, c2, c3, d1, d2, d3, add_bv, shr_bv, xor_bv, mul_bv]
def be8 (v : Int) : List Int := [v / 72057594037927936 % 256, v / 281474976710656 % 256, v / 1099511627776 % 256, v / 4294967296 % 256, v / 16777216 % 256, v / 65536 % 256, v / 256 % 256, v % 256]
theorem be8_range (v : Int) : ∀ n ∈ be8 v, 0 ≤ n ∧ n ≤ 255 := by
  intro n hn
  simp only [be8, List.mem_cons, List.not_mem_nil, or_false] at hn
  omega
theorem be8_inj (v w : Int) (hv : 0 ≤ v ∧ v < 18446744073709551616) (hw : 0 ≤ w ∧ w < 18446744073709551616) (h : be8 v = be8 w) : v = w := by
  simp only [be8, List.cons.injEq, and_true] at h
  omega
theorem fixed8_is (v : Int) (h : 0 ≤ v ∧ v < 18446744073709551616) : varint_Fixed v 8 = some (bytesStr (be8 v), ()) := by
  obtain ⟨r1, e1, w1⟩ := rot_low v h.1 h.2 1 (by omega)
  obtain ⟨r2, e2, w2⟩ := rot_low v h.1 h.2 2 (by omega)
  obtain ⟨r3, e3, w3⟩ := rot_low v h.1 h.2 3 (by omega)
  obtain ⟨r4, e4, w4⟩ := rot_low v h.1 h.2 4 (by omega)
  obtain ⟨r5, e5, w5⟩ := rot_low v h.1 h.2 5 (by omega)
  obtain ⟨r6, e6, w6⟩ := rot_low v h.1 h.2 6 (by omega)
  obtain ⟨r7, e7, w7⟩ := rot_low v h.1 h.2 7 (by omega)
  obtain ⟨r8, e8, w8⟩ := rot_64 v h.1 h.2
  have f1 : math_bits_RotateLeft64 v 8 = some (r1, ()) := e1
  have f2 : math_bits_RotateLeft64 v 16 = some (r2, ()) := e2
  have f3 : math_bits_RotateLeft64 v 24 = some (r3, ()) := e3
  have f4 : math_bits_RotateLeft64 v 32 = some (r4, ()) := e4
  have f5 : math_bits_RotateLeft64 v 40 = some (r5, ()) := e5
  have f6 : math_bits_RotateLeft64 v 48 = some (r6, ()) := e6
  have f7 : math_bits_RotateLeft64 v 56 = some (r7, ()) := e7
  have hs : varint_split v = some ((v / 72057594037927936 % 256, v / 281474976710656 % 256, v / 1099511627776 % 256, v / 4294967296 % 256, v / 16777216 % 256, v / 65536 % 256, v / 256 % 256, v % 256, ()), ()) := by
    rw [varint_split_eq, b_varint_split]
    simp only [f1, f2, f3, f4, f5, f6, f7, e8, obind_some, w1, w2, w3, w4, w5, w6, w7, w8]
    rfl
  rw [varint_Fixed_eq, b_varint_Fixed, hs]
  have w0 : IntKind.wrap .i64 ((8 : Int) - 8) = 0 := rfl
  simp only [obind_some]
  have g1 : (if ((8 : Int) < 8) then (8 : Int) else 8) = 8 := rfl
  have g2 : (if ((8 : Int) > 0) then (8 : Int) else 0) = 8 := rfl
  simp only [g1, g2, w0]
  rfl
def idF (seed i : Int) : ByteArray := bytesStr (be8 (mixI ((seed + i + 9223372036854775808) % 18446744073709551616)))
theorem id_is (seed i : Int) : ideal_Id seed i = some (idF seed i, ()) := by
  rw [ideal_Id_eq, b_ideal_Id]
  simp only [wrap_u64']
  have e : ((seed + i) % 18446744073709551616 + 9223372036854775808) % 18446744073709551616 = (seed + i + 9223372036854775808) % 18446744073709551616 := by omega
  rw [e, mix_is _ (by omega)]
  simp only [obind_some, fixed8_is _ (mixI_range _)]
  rfl
theorem idF_size (seed i : Int) : (idF seed i).size = 8 := by unfold idF; rw [bytesStr_size]; rfl
theorem idF_inj (seed i j : Int) (hi : 0 ≤ i ∧ i < 18446744073709551616) (hj : 0 ≤ j ∧ j < 18446744073709551616) (h : idF seed i = idF seed j) : i = j := by
  unfold idF at h
  rw [bytesStr_inj (be8_range _) (be8_range _)] at h
  have h1 := be8_inj _ _ (mixI_range _) (mixI_range _) h
  have h2 := mixI_inj _ _ h1 (by omega) (by omega)
  omega
def drawS (seed i : Int) : Int := mixI ((mixI seed + i) % 18446744073709551616)
def drawF (seed i : Int) : ByteArray := bytesStr (be8 (mixI (drawS seed i)) ++ be8 (mixI ((drawS seed i + 1) % 18446744073709551616)))
theorem be8_len (v : Int) : (be8 v).length = 8 := rfl
theorem drawF_size (seed i : Int) : (drawF seed i).size = 16 := by unfold drawF; rw [bytesStr_size]; rfl
theorem draw_is (seed i : Int) (hs : 0 ≤ seed ∧ seed < 18446744073709551616) : ideal_Draw seed i 16 = some (drawF seed i, ()) := by
  rw [ideal_Draw_eq, b_ideal_Draw]
  rw [mix_is _ hs]
  simp only [obind_some, wrap_u64']
  rw [mix_is _ (by omega)]
  simp only [obind_some]
  have hr := mixI_range ((mixI seed + i) % 18446744073709551616)
  show ideal_Draw_0' 16 (drawS seed i) [] = _
  have hr : 0 ≤ drawS seed i ∧ drawS seed i < 18446744073709551616 := hr
  unfold drawF
  generalize drawS seed i = st at *
  rw [ideal_Draw_0'_eq, b_ideal_Draw_0']
  have word : ∀ (n : Int) (l : List Int), 0 ≤ n ∧ n < 18446744073709551616 → ideal_state_word_h1 n l = some (bytesStr (be8 (mixI n)), (n + 1) % 18446744073709551616, l, ()) := by
    intro n l hn
    rw [ideal_state_word_h1_eq, b_ideal_state_word_h1, mix_is _ hn]
    simp only [obind_some, fixed8_is _ (mixI_range _), wrap_u64']
  have wr : ∀ (v n : Int) (l : List Int), l.length ≤ 100 → strings_Builder_WriteString_h2 (bytesStr (be8 v)) n l = some (8, n, l ++ be8 v, ()) := by
    intro v n l hl
    rw [strings_Builder_WriteString_h2_eq, b_strings_Builder_WriteString_h2]
    simp only [strings_Builder_copyCheck_h7_eq, b_strings_Builder_copyCheck_h7, obind_some, strBytes_bytesStr (be8_range v)]
    have : l.length + 8 ≤ 4294967296 := by omega
    simp only [be8_len, this, decide_true, cond_true, bytesStr_size]
    rfl
  show ideal_Draw_0 (17 + 1) 16 st [] = _
  have hw1 := word st [] hr
  have hw2 := word ((st + 1) % 18446744073709551616) (be8 (mixI st)) (by omega)
  have hr1 := wr (mixI st) ((st + 1) % 18446744073709551616) [] (by decide)
  have hr2 := wr (mixI ((st + 1) % 18446744073709551616)) (((st + 1) % 18446744073709551616 + 1) % 18446744073709551616) (be8 (mixI st)) (by rw [be8_len]; decide)
  rw [List.nil_append] at hr1
  have l1 : (be8 (mixI st)).length = 8 := be8_len _
  have l2 : (be8 (mixI ((st + 1) % 18446744073709551616))).length = 8 := be8_len _
  have r1 := be8_range (mixI st)
  have r2 := be8_range (mixI ((st + 1) % 18446744073709551616))
  generalize be8 (mixI st) = A at *
  generalize be8 (mixI ((st + 1) % 18446744073709551616)) = B at *
  clear word wr
  simp only [ideal_Draw_0, t_ideal_Draw_0]
  have b1 : decide (((([] : List Int).length : Nat) : Int) < 16) = true := by decide
  have b2 : decide (((A.length : Nat) : Int) < 16) = true := by rw [l1]; decide
  have l3 : (A ++ B).length = 16 := by rw [List.length_append, l1, l2]
  have b3 : decide ((((A ++ B).length : Nat) : Int) < 16) = false := by rw [l3]; decide
  simp only [b1, cond_true, hw1, obind_some, hr1, b2, hw2, hr2, b3, cond_false]
  have b4 : (if ((0 : Int) > 16) then (0 : Int) else 16) = 16 := by decide
  have b5 : ByteArray.extract (bytesStr (A ++ B)) 0 (Int.toNat 16) = bytesStr (A ++ B) := by
    apply strBytes_inj.mp
    rw [strBytes_extract]
    have hl : (strBytes (bytesStr (A ++ B))).length = 16 := by rw [strBytes_len, bytesStr_size, l3]
    rw [List.drop_zero, List.take_of_length_le (by rw [hl]; decide)]
  simp only [b4, b5, bytesStr_size, l3]
  rfl
theorem drawF_inj (seed i j : Int) (hi : 0 ≤ i ∧ i < 18446744073709551616) (hj : 0 ≤ j ∧ j < 18446744073709551616) (h : drawF seed i = drawF seed j) : i = j := by
  unfold drawF at h
  have hr : ∀ v w : Int, ∀ n ∈ be8 v ++ be8 w, 0 ≤ n ∧ n ≤ 255 := by
    intro v w n hn
    rcases List.mem_append.mp hn with h | h
    · exact be8_range _ _ h
    · exact be8_range _ _ h
  rw [bytesStr_inj (hr _ _) (hr _ _)] at h
  have h0 := (List.append_inj h (by rw [be8_len, be8_len])).1
  have h1 := be8_inj _ _ (mixI_range _) (mixI_range _) h0
  have h2 := mixI_inj _ _ h1 (mixI_range _) (mixI_range _)
  have h3 := mixI_inj _ _ h2 (by omega) (by omega)
  omega
end Go.Proofs.YtjdjlijjolibkaaDoor.V
/- Connection IDs, over strings of any make: what the functions of the layer do; other names of strings do not turn it. -/
namespace Go.Proofs.YtjdjlijjolibkaaDoor.V
universe u
abbrev OwnT (α : Type) : Type := Int × α × α × Bool × Bool × Unit
abbrev GivT (α : Type) : Type := Int × α × α × Bool × Bool × Bool × Unit
abbrev StT (α : Type) : Type := Int × Int × Int × List (OwnT α) × List (GivT α) × Int × Int × Unit
abbrev FrT (α : Type) : Type := Int × Int × Int × α × α
section
variable {α : Type}
def liveO (l : List (OwnT α)) : Nat := (l.filter fun o => !o.2.2.2.2.1).length
def liveG (l : List (GivT α)) : Nat := (l.filter fun g => !g.2.2.2.2.1).length
def setL (s : StT α) (l : List (OwnT α)) : StT α := (s.1, s.2.1, s.2.2.1, l, s.2.2.2.2.1, s.2.2.2.2.2.1, s.2.2.2.2.2.2.1, ())
def fillId (dr : Int → OwnT α) (s : StT α) (many : Int) : StT α :=
  (s.1, s.2.1, max 2 (min many 4), s.2.2.2.1 ++ (List.range ((max 2 (min many 4)).toNat - liveO s.2.2.2.1)).map (fun j => dr ((s.2.2.2.1.length + j : Nat) : Int)), s.2.2.2.2.1, s.2.2.2.2.2.1, s.2.2.2.2.2.2.1, ())
def isFresh (g : GivT α) : Bool := !g.2.2.2.1 && !g.2.2.2.2.1
def useG (g : GivT α) : GivT α := (g.1, g.2.1, g.2.2.1, true, g.2.2.2.2.1, g.2.2.2.2.2.1, ())
def retG (g : GivT α) : GivT α := if g.2.2.2.2.1 then g else (g.1, g.2.1, g.2.2.1, g.2.2.2.1, true, true, ())
def moveP (l : List (GivT α)) : Option (List (GivT α) × Int) :=
  match l[l.findIdx isFresh]? with
  | some g => some (l.modify (l.findIdx isFresh) useG, g.1)
  | none => none
def nowI (l : List (GivT α)) (now : Int) : Nat := l.findIdx fun g => g.1 == now
def takeP (s : StT α) : Option (StT α) :=
  match moveP s.2.2.2.2.1 with
  | some (l, now) => some (s.1, s.2.1, s.2.2.1, s.2.2.2.1, l.modify (nowI s.2.2.2.2.1 s.2.2.2.2.2.2.1) retG, s.2.2.2.2.2.1, now, ())
  | none => none
def clash [DecidableEq α] (l : List (GivT α)) (q : Int) (c t : α) : Bool := l.any fun g => (decide (g.1 = q) != decide (g.2.1 = c)) || (decide (g.1 = q) && !decide (g.2.2.1 = t))
def putIn (l : List (GivT α)) (q : Int) (c t : α) : List (GivT α) :=
  if l.any (fun g => decide (g.1 = q)) then l else l.takeWhile (fun g => decide (g.1 < q)) ++ (q, c, t, false, false, false, ()) :: l.dropWhile (fun g => decide (g.1 < q))
def belowG (prior : Int) (g : GivT α) : GivT α := if g.1 < prior then retG g else g
def stepG (l : List (GivT α)) (now : Int) : Option (List (GivT α) × Int) :=
  match l[nowI l now]? with
  | some g => if g.2.2.2.2.1 then moveP l else some (l, now)
  | none => none
def newP [DecidableEq α] (s : StT α) (q prior : Int) (c t : α) : Option (StT α) :=
  if clash s.2.2.2.2.1 q c t then none else
  match stepG ((putIn s.2.2.2.2.1 q c t).map (belowG (max s.2.2.2.2.2.1 prior))) s.2.2.2.2.2.2.1 with
  | some (l, now) => if liveG ((putIn s.2.2.2.2.1 q c t).map (belowG (max s.2.2.2.2.2.1 prior))) ≤ 4 ∧ l.length ≤ 200 then some (s.1, s.2.1, s.2.2.1, s.2.2.2.1, l, max s.2.2.2.2.2.1 prior, now, ()) else none
  | none => none
def goneO (o : OwnT α) : OwnT α := (o.1, o.2.1, o.2.2.1, false, true, ())
def retP (dr : Int → OwnT α) (s : StT α) (q : Int) : Option (StT α) :=
  if (s.2.2.2.1.length : Int) ≤ q then none else
  if s.2.2.2.1.length < 200 then some (fillId dr (setL s (s.2.2.2.1.modify q.toNat goneO)) s.2.2.1) else some (setL s (s.2.2.2.1.modify q.toNat goneO))
def todoG (g : GivT α) : Bool := g.2.2.2.2.2.1
def todoO (o : OwnT α) : Bool := o.2.2.2.1
def toldG (g : GivT α) : GivT α := (g.1, g.2.1, g.2.2.1, g.2.2.2.1, g.2.2.2.2.1, false, ())
def toldO (o : OwnT α) : OwnT α := (o.1, o.2.1, o.2.2.1, false, o.2.2.2.2.1, ())
def nextP (fr : Int → Bool) (fo : OwnT α → Bool) (z : α) (s : StT α) : Option (StT α × FrT α) :=
  let rest := match s.2.2.2.1[s.2.2.2.1.findIdx todoO]? with
    | some o => if fo o then some (setL s (s.2.2.2.1.modify (s.2.2.2.1.findIdx todoO) toldO), 24, o.1, 0, o.2.1, o.2.2.1) else none
    | none => none
  match s.2.2.2.2.1[s.2.2.2.2.1.findIdx todoG]? with
  | some g => if fr g.1 then some ((s.1, s.2.1, s.2.2.1, s.2.2.2.1, s.2.2.2.2.1.modify (s.2.2.2.2.1.findIdx todoG) toldG, s.2.2.2.2.2.1, s.2.2.2.2.2.2.1, ()), 25, g.1, 0, z, z) else rest
  | none => rest
end
/-! #### other names -/
section
variable {α β : Type} (f h : α → β)
def mapO (o : OwnT α) : OwnT β := (o.1, f o.2.1, f o.2.2.1, o.2.2.2.1, o.2.2.2.2.1, ())
def mapG (g : GivT α) : GivT β := (g.1, f g.2.1, f g.2.2.1, g.2.2.2.1, g.2.2.2.2.1, g.2.2.2.2.2.1, ())
def mapS (seed : Int) (s : StT α) : StT β := (seed, s.2.1, s.2.2.1, s.2.2.2.1.map (mapO f), s.2.2.2.2.1.map (mapG h), s.2.2.2.2.2.1, s.2.2.2.2.2.2.1, ())
def mapF (f z : α → β) (x : FrT α) : FrT β := (x.1, x.2.1, x.2.2.1, f x.2.2.2.1, z x.2.2.2.2)
variable {f h}
theorem findIdx_map' {γ δ : Type} (k : γ → δ) (p : δ → Bool) (l : List γ) : (l.map k).findIdx p = l.findIdx (p ∘ k) := by
  induction l with
  | nil => rfl
  | cons x l ih => simp only [List.map_cons, List.findIdx_cons, ih, Function.comp]
theorem modify_map' {γ δ : Type} (k : γ → δ) (p : γ → γ) (p' : δ → δ) (hp : ∀ x, p' (k x) = k (p x)) : ∀ (l : List γ) (i : Nat), (l.map k).modify i p' = (l.modify i p).map k
  | [], i => by cases i <;> simp
  | x :: l, 0 => by simp [hp]
  | x :: l, i + 1 => by simp [modify_map' k p p' hp l i]
theorem liveO_map (l : List (OwnT α)) : liveO (l.map (mapO f)) = liveO l := by
  unfold liveO
  induction l with
  | nil => rfl
  | cons o l ih =>
    simp only [List.map_cons, List.filter_cons]
    have : (mapO f o).2.2.2.2.1 = o.2.2.2.2.1 := rfl
    rw [this]
    split <;> simp [ih]
theorem liveG_map (l : List (GivT α)) : liveG (l.map (mapG h)) = liveG l := by
  unfold liveG
  induction l with
  | nil => rfl
  | cons o l ih =>
    simp only [List.map_cons, List.filter_cons]
    have : (mapG h o).2.2.2.2.1 = o.2.2.2.2.1 := rfl
    rw [this]
    split <;> simp [ih]
theorem fillId_map (seed : Int) {dr : Int → OwnT α} {dr' : Int → OwnT β} (s : StT α) (many : Int) (hd : ∀ j : Nat, j < s.2.2.2.1.length + 4 → dr' j = mapO f (dr j)) : fillId dr' (mapS f h seed s) many = mapS f h seed (fillId dr s many) := by
  simp only [fillId, mapS, liveO_map, List.length_map, List.map_append, List.map_map]
  congr 5
  apply List.map_congr_left
  intro j hj
  have hj := List.mem_range.mp hj
  exact hd _ (by omega)
theorem moveP_map (l : List (GivT α)) : moveP (l.map (mapG h)) = (moveP l).map fun x => (x.1.map (mapG h), x.2) := by
  have e : (l.map (mapG h)).findIdx isFresh = l.findIdx isFresh := findIdx_map' _ _ _
  unfold moveP
  rw [e, List.getElem?_map]
  cases l[l.findIdx isFresh]? with
  | none => rfl
  | some g => simp only [Option.map_some, modify_map' (mapG h) useG useG (fun _ => rfl)]; rfl
theorem nowI_map (l : List (GivT α)) (now : Int) : nowI (l.map (mapG h)) now = nowI l now := findIdx_map' _ _ _
theorem retG_map (g : GivT α) : retG (mapG h g) = mapG h (retG g) := by
  unfold retG
  have : (mapG h g).2.2.2.2.1 = g.2.2.2.2.1 := rfl
  rw [this]
  split <;> rfl
theorem takeP_map (seed : Int) (s : StT α) : takeP (mapS f h seed s) = (takeP s).map (mapS f h seed) := by
  unfold takeP
  simp only [mapS, moveP_map]
  cases moveP s.2.2.2.2.1 with
  | none => rfl
  | some x => simp only [Option.map_some, nowI_map, modify_map' (mapG h) retG retG retG_map]; rfl
def Apart [DecidableEq α] [DecidableEq β] (h : α → β) (l : List (GivT α)) (q : Int) (c t : α) : Prop := ∀ g ∈ l, (h g.2.1 = h c ↔ g.2.1 = c) ∧ (g.1 = q → (h g.2.2.1 = h t ↔ g.2.2.1 = t))
theorem clash_map [DecidableEq α] [DecidableEq β] (l : List (GivT α)) (q : Int) (c t : α) (hi : Apart h l q c t) : clash (l.map (mapG h)) q (h c) (h t) = clash l q c t := by
  unfold clash
  rw [List.any_map]
  induction l with
  | nil => rfl
  | cons g l ih =>
    simp only [List.any_cons]
    rw [ih (fun x hx => hi x (List.mem_cons_of_mem _ hx))]
    obtain ⟨i1, i2⟩ := hi g List.mem_cons_self
    have key : ((decide (g.1 = q) != decide (h g.2.1 = h c)) || (decide (g.1 = q) && !decide (h g.2.2.1 = h t))) = ((decide (g.1 = q) != decide (g.2.1 = c)) || (decide (g.1 = q) && !decide (g.2.2.1 = t))) := by
      rw [decide_eq_decide.mpr i1]
      by_cases hq : g.1 = q
      · rw [decide_eq_decide.mpr (i2 hq)]
      · simp [hq]
    exact congrArg (fun b => b || l.any fun g => (decide (g.1 = q) != decide (g.2.1 = c)) || (decide (g.1 = q) && !decide (g.2.2.1 = t))) key
theorem takeWhile_map' {γ δ : Type} (k : γ → δ) (p : δ → Bool) (l : List γ) : (l.map k).takeWhile p = (l.takeWhile (p ∘ k)).map k := by
  induction l with
  | nil => rfl
  | cons x l ih =>
    simp only [List.map_cons, List.takeWhile_cons, Function.comp]
    split <;> simp [ih]
theorem dropWhile_map' {γ δ : Type} (k : γ → δ) (p : δ → Bool) (l : List γ) : (l.map k).dropWhile p = (l.dropWhile (p ∘ k)).map k := by
  induction l with
  | nil => rfl
  | cons x l ih =>
    simp only [List.map_cons, List.dropWhile_cons, Function.comp]
    split <;> simp [ih]
theorem putIn_map (l : List (GivT α)) (q : Int) (c t : α) : putIn (l.map (mapG h)) q (h c) (h t) = (putIn l q c t).map (mapG h) := by
  unfold putIn
  rw [List.any_map, takeWhile_map', dropWhile_map']
  have e1 : ((fun g : GivT β => decide (g.1 = q)) ∘ mapG h) = fun g : GivT α => decide (g.1 = q) := rfl
  have e2 : ((fun g : GivT β => decide (g.1 < q)) ∘ mapG h) = fun g : GivT α => decide (g.1 < q) := rfl
  rw [e1, e2]
  split
  · rfl
  · simp [mapG]
theorem belowG_map (p : Int) (l : List (GivT α)) : (l.map (mapG h)).map (belowG p) = (l.map (belowG p)).map (mapG h) := by
  simp only [List.map_map]
  congr 1
  funext g
  simp only [Function.comp, belowG]
  have : (mapG h g).1 = g.1 := rfl
  rw [this, retG_map]
  split <;> rfl
theorem stepG_map (l : List (GivT α)) (now : Int) : stepG (l.map (mapG h)) now = (stepG l now).map fun x => (x.1.map (mapG h), x.2) := by
  unfold stepG
  rw [nowI_map, List.getElem?_map]
  cases l[nowI l now]? with
  | none => rfl
  | some g =>
    simp only [Option.map_some, moveP_map]
    have : (mapG h g).2.2.2.2.1 = g.2.2.2.2.1 := rfl
    rw [this]
    split <;> rfl
theorem newP_map [DecidableEq α] [DecidableEq β] (seed : Int) (s : StT α) (q prior : Int) (c t : α) (hi : Apart h s.2.2.2.2.1 q c t) : newP (mapS f h seed s) q prior (h c) (h t) = (newP s q prior c t).map (mapS f h seed) := by
  unfold newP
  simp only [mapS, clash_map _ _ _ _ hi, putIn_map, belowG_map, stepG_map, liveG_map]
  split
  · rfl
  · cases stepG ((putIn s.2.2.2.2.1 q c t).map (belowG (max s.2.2.2.2.2.1 prior))) s.2.2.2.2.2.2.1 with
    | none => rfl
    | some x =>
      simp only [Option.map_some, List.length_map]
      split <;> rfl
theorem retP_map (seed : Int) {dr : Int → OwnT α} {dr' : Int → OwnT β} (s : StT α) (q : Int) (hd : ∀ j : Nat, j < s.2.2.2.1.length + 4 → dr' j = mapO f (dr j)) : retP dr' (mapS f h seed s) q = (retP dr s q).map (mapS f h seed) := by
  have e : ∀ l : List (OwnT α), setL (mapS f h seed s) (l.map (mapO f)) = mapS f h seed (setL s l) := fun _ => rfl
  have em : ∀ i, ((s.2.2.2.1).map (mapO f)).modify i goneO = (s.2.2.2.1.modify i goneO).map (mapO f) := fun i => modify_map' (mapO f) goneO goneO (fun _ => rfl) _ _
  have e0 : (mapS f h seed s).2.2.2.1 = s.2.2.2.1.map (mapO f) := rfl
  have e1 : (mapS f h seed s).2.2.1 = s.2.2.1 := rfl
  unfold retP
  have ef := fillId_map (f := f) (h := h) seed (dr := dr) (dr' := dr') (setL s (s.2.2.2.1.modify q.toNat goneO)) s.2.2.1 (fun j hj => hd j (by
    have : (setL s (s.2.2.2.1.modify q.toNat goneO)).2.2.2.1.length = s.2.2.2.1.length := List.length_modify ..
    omega))
  simp only [e0, e1, List.length_map, em, e, ef]
  split
  · rfl
  · split <;> rfl
end
end Go.Proofs.YtjdjlijjolibkaaDoor.V
