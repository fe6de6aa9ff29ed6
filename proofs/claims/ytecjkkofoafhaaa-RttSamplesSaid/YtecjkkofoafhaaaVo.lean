/- The pure machine, part o: its steps, and that memory goes with them. -/
import Derived.Test.YtecjkkofoafhaaaVn
namespace Go.Proofs.Ytecjkkofoafhaaa.V
open Go.RowKit

/-- A call that is under way: its function, its place, at which operation of a region it is, its slots; of a region that is done in whatever order: where it began, and what has been done of it. -/
structure Fr where
  K : Nat
  path : List Nat
  ix : Option Nat
  env : List PV
  start : Option (List PV × Heap)
  feet : List (Nat × Ft)

structure Cfg where
  top : Fr
  rest : List Fr
  H : Heap

/-- What a step comes to. -/
inductive St (R : Type) : Type 1 where
  | next (c : Cfg)
  | done (r : R)
  | fail
  | test (b : Bool) (s : St R)
  | two (b : Bool) (s t : St R)
  | bind {α : Type} (o : Option α) (k : α → St R)

def obind {α β : Type} (o : Option α) (k : α → Option β) : Option β := match o with
  | some y => k y
  | none => none

def St.run {R : Type} (f : Cfg → Option R) : St R → Option R
  | .next c => f c
  | .done r => some r
  | .fail => none
  | .test b s => bif b then s.run f else none
  | .two b s t => bif b then s.run f else t.run f
  | .bind o k => obind o fun y => (k y).run f

section
variable {P : Program} {I : World → Prop} {g : Nat} (M : Mach P I g) {R : Type} (fin : List PV → Heap → Option R)

def Cfg.at (c : Cfg) (q : List Nat) : Cfg := { c with top := { c.top with path := q, ix := none, start := none, feet := [] } }

/-- The slot d is known to be b. -/
def Cfg.ref (c : Cfg) (d : Nat) (b : Bool) : Cfg := { c with top := { c.top with env := c.top.env.set d (.val (.bool b)) } }

theorem Cfg.ref_eq {c : Cfg} {d : Nat} {b : Bool} (h : c.top.env.getD d .junk = .val (.bool b)) : c.ref d b = c := by
  have : c.top.env.set d (.val (.bool b)) = c.top.env := by
    apply List.ext_getElem?
    intro i
    by_cases e : d = i
    · subst e
      rcases Nat.lt_or_ge d c.top.env.length with hl | hl
      · simp only [List.getD, List.getElem?_eq_getElem hl, Option.getD_some] at h
        simp [hl, h]
      · simp [hl]
    · simp [List.getElem?_set_ne e]
  unfold Cfg.ref
  rw [this]

def Cfg.refO (c : Cfg) (x : Operand) (b : Bool) : Cfg := match x with
  | .tmp t => c.ref t b
  | _ => c

theorem Cfg.refO_eq {c : Cfg} {x : Operand} {b : Bool} (h : evalP c.top.env x = .val (.bool b)) : c.refO x b = c := by
  unfold Cfg.refO
  split
  · exact Cfg.ref_eq h
  · rfl

/-- One result, or a tuple. -/
def oneP : List PV → PV
  | [p] => p
  | ps => .tuple ps

def res1 (P : Program) (env : List PV) (H : Heap) : ResultVar → Option PV
  | .tmp t => some (env.getD t .junk)
  | .cell a T => loadP P T (env.getD a .junk) H

def resList (P : Program) (env : List PV) (H : Heap) : List ResultVar → Option (List PV)
  | [] => some []
  | x :: l => match res1 P env H x, resList P env H l with
    | some p, some ps => some (p :: ps)
    | _, _ => none

def resultsP (P : Program) (f : Func) (env : List PV) (H : Heap) : Option (List PV) := resList P env H f.results.toList

/-- The call has ended. -/
def retSt (c : Cfg) (f : Func) : St R :=
  match resultsP P f c.top.env c.H with
  | none => .fail
  | some ps => match c.rest with
    | [] => match fin ps c.H with
      | some r => .done r
      | none => .fail
    | fr :: rest => match M.fn fr.K, fr.ix with
      | some h, some i => match h.body with
        | none => .fail
        | some body => match todoAt body fr.path [] with
          | some (.region _ ops _, _) => match ops[i]? with
            | some o => .next ⟨{ fr with env := putP fr.env o.dst (oneP ps), ix := some (i + 1) }, rest, c.H⟩
            | none => .fail
          | _ => .fail
      | _, _ => .fail

def goOn (c : Cfg) (f : Func) : Option (List Nat) → St R
  | some q => .next (c.at q)
  | none => retSt M fin c f

/-- Behind an operation. -/
def adv (c : Cfg) (i : Nat) (dst : Option Tmp) (p : PV) (H : Heap) (ft : Ft) : Cfg :=
  { c with top := { c.top with env := putP c.top.env dst p, ix := some (i + 1), feet := match c.top.start with | some _ => c.top.feet ++ [(i, ft)] | none => [] }, H := H }

def pickSt (c : Cfg) (i : Nat) (o : Oper) (y : Operand) : St R :=
  .next (adv c i o.dst (evalP c.top.env y) (setAll c.H [] ++ []) ((keepE (evalP c.top.env y)).ft (readsOf o (evalP c.top.env)) c.H))

def skipSt (c : Cfg) (i : Nat) (o : Oper) : St R := .next (adv c i o.dst nothing (setAll c.H [] ++ []) ⟨[], [], none⟩)

/-- An operation that its guard lets run. -/
def execSt (c : Cfg) (o : Oper) (i : Nat) : St R :=
  match callParts o (evalP c.top.env) with
  | some (K, args) => match M.con K with
    | some cn => match decArgs cn.params args c.H with
      | some x => .bind (cn.F x) fun y => .next (adv c i o.dst (resPV cn.results y) (setAll c.H (frzEdits c.H (idsOf cn.params args)) ++ []) ⟨idsOf cn.params args, idsOf cn.params args, none⟩)
      | none => .fail
    | none => match c.top.start with
      | some _ => .fail
      | none => match M.fn K with
        | some fK => .next ⟨⟨K, [], none, args ++ List.replicate (fK.ntmps - args.length) nothing, none, []⟩, { c.top with ix := some i } :: c.rest, c.H⟩
        | none => .fail
  | none => match opP P o (evalP c.top.env) c.H with
    | .pick b _ _ => match o.op with
      | .pick x y z => .two b (pickSt (c.refO x true) i o y) (pickSt (c.refO x false) i o z)
      | _ => .fail
    | r => match r.eff with
      | some (b, e) => .test b (.next (adv c i o.dst (e.val c.H.length) (e.heap c.H) (e.ft (readsOf o (evalP c.top.env)) c.H)))
      | none => .fail

def opSt (c : Cfg) (f : Func) (body : Code) (ops : Array Oper) (draw : Bool) (i : Nat) : St R :=
  match ops[i]? with
  | none => match c.top.start, draw with
    | none, false => goOn M fin c f (after body c.top.path)
    | some _, true => if fineB ops c.top.feet && edgesLt ops && decide (i = ops.size) then goOn M fin c f (after body c.top.path) else .fail
    | _, _ => .fail
  | some o =>
    match o.guard with
    | none => execSt M c o i
    | some (j, want) => match (ops[j]?).bind (·.dst) with
      | none => skipSt c i o
      | some d => match c.top.env.getD d .junk with
        | .val (.bool x) => match want with
          | true => .two x (execSt M (c.ref d true) o i) (skipSt (c.ref d false) i o)
          | false => .two x (skipSt (c.ref d true) i o) (execSt M (c.ref d false) o i)
        | .val (.tuple _) => skipSt c i o
        | _ => .fail

def stepA (c : Cfg) : St R :=
  match M.fn c.top.K with
  | none => .fail
  | some f => match f.body with
    | none => .fail
    | some body => match todoAt body c.top.path [] with
      | none => .fail
      | some (code, _) => match c.top.ix with
        | some i => match code with
          | .region _ ops draw => opSt M fin c f body ops draw i
          | _ => .fail
        | none => match code with
          | .skip => goOn M fin c f (after body c.top.path)
          | .label _ => goOn M fin c f (after body c.top.path)
          | .seq _ _ => .next (c.at (c.top.path ++ [0]))
          | .block _ _ => .next (c.at (c.top.path ++ [0]))
          | .loop _ => .next (c.at (c.top.path ++ [0]))
          | .scope _ => .next (c.at (c.top.path ++ [0]))
          | .cond x _ _ => match evalP c.top.env x with
            | .val (.bool b) => .two b (.next ((c.refO x true).at (c.top.path ++ [0]))) (.next ((c.refO x false).at (c.top.path ++ [1])))
            | _ => .fail
          | .exit id => match exitP id body c.top.path with
            | some q => goOn M fin c f q
            | none => .fail
          | .ret => retSt M fin c f
          | .region _ _ draw => .next { c with top := { c.top with ix := some 0, start := if draw then some (c.top.env, c.H) else none, feet := [] } }
          | _ => .fail

/-- Step by step; X tells, at places of its choice, what it comes to from there. -/
def runA (X : Cfg → Option (Option R)) : Nat → Cfg → Option R
  | 0, _ => none
  | n + 1, c => (stepA M fin c).run fun c' => match X c' with
    | some o => o
    | none => runA X n c'

end

section
variable {P : Program} {I : World → Prop} {g : Nat} {M : Mach P I g} {R : Type} {fin : List PV → Heap → Option R}
variable {base : Nat} {S0 : Nat → Prop} {cs0 : List Frame} {post : World → Value → R → Prop}

def bottom : Nat → List Fr → Nat
  | K, [] => K
  | _, fr :: rest => bottom fr.K rest

/-- A call that waits for another one. -/
structure Waits (M : Mach P I g) (ρ : Loc) (H : Heap) (w : World) (S : Nat → Prop) (fr : Fr) (conc : Frame) : Prop where
  is : ∃ (b : Frame) (a : Act) (ops : Array Oper) (id : Nat) (k : List Item) (i : Nat) (o : Oper) (f : Func) (body : Code), conc = b.at a (.inRegion ops (List.range' i (ops.size - i)) :: k) ∧ b.fn = fr.K ∧ b.kind = .normal ∧ a.defers = [] ∧ M.fn fr.K = some f ∧ f.body = some body ∧
    todoAt body fr.path [] = some (.region id ops false, k) ∧ fr.ix = some i ∧ ops[i]? = some o ∧ PRels ρ H w S fr.env a.tmps.toList ∧ fr.start = none

inductive Stack (M : Mach P I g) (cs0 : List Frame) (ρ : Loc) (H : Heap) (w : World) (S : Nat → Prop) : List Fr → List Frame → Prop where
  | nil : Stack M cs0 ρ H w S [] cs0
  | cons {fr conc frs cs} : Waits M ρ H w S fr conc → Stack M cs0 ρ H w S frs cs → Stack M cs0 ρ H w S (fr :: frs) (conc :: cs)

theorem Waits.ext {ρ ρ' : Loc} {H H' : Heap} {w w' : World} {S S' : Nat → Prop} (h : Ext base ρ H w S ρ' H' w' S') {fr : Fr} {conc : Frame} (k : Waits M ρ H w S fr conc) : Waits M ρ' H' w' S' fr conc := by
  obtain ⟨b, a, ops, id, kk, i, o, f, body, h1, h2, h3, h4, h5, h6, h7, h8, h9, h10, h11⟩ := k.is
  exact ⟨b, a, ops, id, kk, i, o, f, body, h1, h2, h3, h4, h5, h6, h7, h8, h9, h.rels h10, h11⟩

theorem Stack.ext {ρ ρ' : Loc} {H H' : Heap} {w w' : World} {S S' : Nat → Prop} (h : Ext base ρ H w S ρ' H' w' S') {frs : List Fr} {cs : List Frame} (k : Stack M cs0 ρ H w S frs cs) : Stack M cs0 ρ' H' w' S' frs cs := by
  induction k with
  | nil => exact .nil
  | cons h1 _ ih => exact .cons (h1.ext h) ih

/-- Where the call on top stands. -/
def Stands (M : Mach P I g) (fr : Fr) (b : Frame) (a : Act) (todo : List Item) : Prop :=
  b.fn = fr.K ∧ b.kind = .normal ∧ a.defers = [] ∧ ∃ f body code k, M.fn fr.K = some f ∧ f.body = some body ∧ todoAt body fr.path [] = some (code, k) ∧
    match fr.ix with
    | none => fr.start = none ∧ Head code k todo
    | some i => ∃ id ops draw, code = .region id ops draw ∧
      match fr.start with
      | none => draw = false ∧ todo = .inRegion ops (List.range' i (ops.size - i)) :: k
      | some _ => draw = true ∧ todo = .code code :: k

/-- What has been done of a region that is done in whatever order. -/
def Traced (M : Mach P I g) (c : Cfg) : Prop :=
  match c.top.start with
  | none => True
  | some (e, h) => ∀ f body id ops draw k i, M.fn c.top.K = some f → f.body = some body → todoAt body c.top.path [] = some (.region id ops draw, k) → c.top.ix = some i →
    OpTrace M ops c.top.feet e h c.top.env c.H ∧ c.top.feet.map (·.1) = List.range i

def Cfg.env0 (c : Cfg) : List PV := match c.top.start with | some (e, _) => e | none => c.top.env
def Cfg.H0 (c : Cfg) : Heap := match c.top.start with | some (_, h) => h | none => c.H

/-- From m it comes to r. -/
def Fin (P : Program) (K0 : Nat) (base : Nat) (cs0 : List Frame) (post : World → Value → R → Prop) (w : World) (m : Machine) (r : R) : Prop :=
  ∃ fr w' v, Steps P m (lone fr cs0 w') ∧ fr.fn = K0 ∧ fr.leaving P w' (.returned v) ∧ post w' v r ∧ Below base w w'

/-- From wherever the machine stands as c does, it comes to r. -/
def Sound (M : Mach P I g) (base : Nat) (S0 : Nat → Prop) (cs0 : List Frame) (post : World → Value → R → Prop) (c : Cfg) (r : R) : Prop :=
  ∀ (ρ : Loc) (w : World) (S : Nat → Prop) (b : Frame) (a : Act) (todo : List Item) (cs : List Frame), I w → g ≤ base → HRel base S0 ρ c.H0 w S → PRels ρ c.H0 w S c.env0 a.tmps.toList → Stands M c.top b a todo → Stack M cs0 ρ c.H0 w S c.rest cs → Traced M c →
    Fin P (bottom c.top.K c.rest) base cs0 post w (lone (b.at a todo) cs w) r

/-- What fin tells is what is asked. -/
def FinOk (fin : List PV → Heap → Option R) (base : Nat) (S0 : Nat → Prop) (post : World → Value → R → Prop) : Prop :=
  ∀ (ps : List PV) (H : Heap) (r : R) (ρ : Loc) (w : World) (S : Nat → Prop) (v : Value), fin ps H = some r → HRel base S0 ρ H w S → PRel ρ H w S (oneP ps) v → post w v r

theorem Fin.steps {K0 : Nat} {w : World} {m m' : Machine} {r : R} (h : Steps P m m') (k : Fin P K0 base cs0 post w m' r) : Fin P K0 base cs0 post w m r := by
  obtain ⟨fr, w', v, h1, h2⟩ := k
  exact ⟨fr, w', v, h.trans h1, h2⟩

theorem Fin.world {K0 : Nat} {w w1 : World} {m : Machine} {r : R} (h : Below base w w1) (k : Fin P K0 base cs0 post w1 m r) : Fin P K0 base cs0 post w m r := by
  obtain ⟨fr, w', v, h1, h2, h3, h4, h5⟩ := k
  exact ⟨fr, w', v, h1, h2, h3, h4, h.trans h5⟩

theorem results_run {ρ : Loc} {H : Heap} {w : World} {S : Nat → Prop} (hh : HRel base S0 ρ H w S) {env : List PV} {a : Act} (he : PRels ρ H w S env a.tmps.toList) {f : Func} {ps : List PV} (h : resultsP P f env H = some ps) :
    ∃ v, (results f a.tmps).run P w = .ok v w ∧ PRel ρ H w S (oneP ps) v := by
  have slot : ∀ t, PRel ρ H w S (env.getD t .junk) (a.tmps.getD t undef) := fun t => evalP_rel he (.tmp t)
  have list : ∀ (l : List ResultVar) (ps : List PV), resList P env H l = some ps →
      ∃ vs, (l.mapM (m := Sem) fun (x : ResultVar) => match x with | .tmp t => pure (a.tmps.getD t undef) | .cell x t => do loadVar t (← asAddr (a.tmps.getD x undef))).run P w = .ok vs w ∧ PRels ρ H w S ps vs := by
    intro l
    induction l with
    | nil => intro ps h; simp only [resList, Option.some.injEq] at h; subst h; exact ⟨[], rfl, rfl⟩
    | cons x l ih =>
      intro ps h
      simp only [resList] at h
      split at h
      · rename_i p qs hx hl
        cases h
        obtain ⟨vs, h1, h2⟩ := ih qs hl
        have one : ∃ v, (match x with | .tmp t => pure (a.tmps.getD t undef) | .cell x t => do loadVar t (← asAddr (a.tmps.getD x undef)) : Sem Value).run P w = .ok v w ∧ PRel ρ H w S p v := by
          cases x with
          | tmp t => simp only [res1, Option.some.injEq] at hx; subst hx; exact ⟨_, rfl, slot t⟩
          | cell x T =>
            simp only [res1] at hx
            obtain ⟨ad, u, hv, r1, r2⟩ := load_run (P := P) hh hx (slot x)
            refine ⟨u, ?_, r2⟩
            simp only [hv, asAddr, Sem.run_bind, Sem.run_pure, Result.andThen_ok, r1]
        obtain ⟨v, g1, g2⟩ := one
        refine ⟨v :: vs, ?_, ⟨v, vs, rfl, g2, h2⟩⟩
        simp only [List.mapM_cons, Sem.run_bind, g1, Result.andThen_ok, h1, Sem.run_pure]
      · cases h
  obtain ⟨vs, h1, h2⟩ := list f.results.toList ps h
  have hm : (f.results.mapM (m := Sem) fun (x : ResultVar) => match x with | .tmp t => pure (a.tmps.getD t undef) | .cell x t => do loadVar t (← asAddr (a.tmps.getD x undef))).run P w = .ok vs.toArray w := by
    rw [Array.mapM_eq_mapM_toList, Sem.run_map, h1]; rfl
  have hl := h2.length
  have hr : (results f a.tmps).run P w = (Result.ok vs.toArray w).andThen (fun vs w' => .ok (if h : vs.size = 1 then vs[0] else .tuple vs) w') := by
    unfold results
    simp only [Sem.run_bind, Sem.run_pure]
    exact congrArg (fun r => Result.andThen r _) hm
  rw [hr]
  refine ⟨_, rfl, ?_⟩
  cases ps with
  | nil =>
    simp only [PRels] at h2
    subst h2
    exact ⟨_, rfl, rfl⟩
  | cons p qs => cases qs with
    | nil =>
      simp only [PRels] at h2
      obtain ⟨u, us, rfl, g1, g2⟩ := h2
      subst g2
      simpa [oneP] using g1
    | cons q qs =>
      have : vs.toArray.size ≠ 1 := by simp at hl ⊢; omega
      rw [dif_neg this]
      exact ⟨_, rfl, h2⟩

end
end Go.Proofs.Ytecjkkofoafhaaa.V
