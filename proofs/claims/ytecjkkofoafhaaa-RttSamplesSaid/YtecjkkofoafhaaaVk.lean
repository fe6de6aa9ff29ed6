/- The pure machine, part k: the operations of one region, in whatever order. -/
import Derived.Test.YtecjkkofoafhaaaVj
namespace Go.Proofs.Ytecjkkofoafhaaa.V
open Go.RowKit

/-- The function K has a text of its own. -/
def Callable (P : Program) (K : Nat) : Prop := ∃ f, P.funcs[K]? = some f ∧ (f.name == "runtime.NumGoroutine") = false ∧ f.body.isSome = true

/-- What the machine knows of a program: texts of functions, contracts of others, what holds of memory from the start (of the blocks below g). -/
structure Mach (P : Program) (I : World → Prop) (g : Nat) where
  fn : Nat → Option Func
  fn_ok : ∀ K f, fn K = some f → P.funcs[K]? = some f ∧ (f.name == "runtime.NumGoroutine") = false ∧ f.body.isSome = true
  con : Nat → Option Con
  con_ok : ∀ K c, con K = some c → c.Sound P I K ∧ Callable P K
  keep : ∀ w w' B, g ≤ B → Below B w w' → I w → I w'
  mixed : P.follows .mixedOrders = true

def evalP (env : List PV) : Operand → PV
  | .tmp t => env.getD t .junk
  | .const v => .val v
  | .global _ => .junk
  | .func f => .func (.func f) [] []

def putP (env : List PV) (dst : Option Tmp) (p : PV) : List PV :=
  match dst with
  | some d => env.set d p
  | none => env

/-- What an operation does: what it tells (by where a new block comes), blocks that turn, a new one. -/
structure Eff where
  val : Nat → PV
  edits : List (Nat × Option AO)
  app : Option AO

def setAll : Heap → List (Nat × Option AO) → Heap
  | H, [] => H
  | H, (k, o) :: r => setAll (H.set k o) r

def Eff.heap (e : Eff) (H : Heap) : Heap := setAll H e.edits ++ (e.app.map some).toList

def keepE (p : PV) : Eff := ⟨fun _ => p, [], none⟩

def OpR.eff : OpR → Option (Bool × Eff)
  | .still b p => some (b, keepE p)
  | .put b k o => some (b, ⟨fun _ => nothing, [(k, some o)], none⟩)
  | .new b f o => some (b, ⟨f, [], some o⟩)
  | .swap b k o => some (b, ⟨.all, [(k, none)], some o⟩)
  | .pick c p q => some (true, keepE (if c then p else q))
  | .fail => none

theorem OpR.eff_apply {r : OpR} {b : Bool} {e : Eff} (h : r.eff = some (b, e)) (H : Heap) : r.applyTo H = some (b, e.val H.length, e.heap H) := by
  cases r <;> simp only [OpR.eff, Option.some.injEq, Prod.mk.injEq] at h <;> first | (obtain ⟨rfl, rfl⟩ := h; simp [OpR.applyTo, keepE, Eff.heap, setAll]) | cases h

def frzEdits : Heap → List Nat → List (Nat × Option AO)
  | _, [] => []
  | H, b :: bs => match H.at? b with
    | some (.row t l) => (b, some (.fro t l)) :: frzEdits (H.set b (some (.fro t l))) bs
    | _ => frzEdits H bs

theorem frzEdits_heap : ∀ (bs : List Nat) (H : Heap), setAll H (frzEdits H bs) = frzH H bs
  | [], _ => rfl
  | b :: bs, H => by
    show _ = frzH (frz1 H b) bs
    cases ho : H.at? b with
    | none => simp only [frzEdits, frz1, ho]; exact frzEdits_heap bs H
    | some o => cases o with
      | row t l => simp only [frzEdits, frz1, ho, setAll]; exact frzEdits_heap bs _
      | cells cs => simp only [frzEdits, frz1, ho]; exact frzEdits_heap bs H
      | fro t l => simp only [frzEdits, frz1, ho]; exact frzEdits_heap bs H

/-- The function that is called, and with what. -/
def callParts (o : Oper) (ev : Operand → PV) : Option (Nat × List PV) :=
  match o.op with
  | .call c => match c.callee with
    | .value f => match ev f with
      | .func (.func K) first captured => some (K, first ++ c.args.toList.map ev ++ captured)
      | _ => none
    | _ => none
  | _ => none

def ids' : PV → List Nat
  | .all b => [b]
  | .sl b _ _ => [b]
  | .cs b _ _ _ => [b]
  | .ptr b _ => [b]
  | .rptr b _ _ => [b]
  | _ => []

/-- Which blocks an operation looks at. -/
def readsOf (o : Oper) (ev : Operand → PV) : List Nat :=
  match o.op with
  | .load _ a => ids' (ev a)
  | .store _ a _ => ids' (ev a)
  | .slice _ x _ _ _ => ids' (ev x)
  | .indexAddr _ x _ => ids' (ev x)
  | .convert _ _ x => ids' (ev x)
  | .call c => c.args.toList.flatMap fun x => ids' (ev x)
  | _ => []

/-- What was looked at and what turned. -/
structure Ft where
  reads : List Nat
  writes : List Nat
  new : Option Nat

def Eff.ft (e : Eff) (reads : List Nat) (H : Heap) : Ft := ⟨reads, e.edits.map (·.1), e.app.map fun _ => H.length⟩

/-- Whether the operation's guard lets it run. -/
def Wanted (ops : Array Oper) (o : Oper) (env : List PV) (b : Bool) : Prop :=
  match o.guard with
  | none => b = true
  | some (j, want) => match (ops[j]?).bind (·.dst) with
    | none => b = false
    | some d => match env.getD d .junk with
      | .val (.bool x) => b = (x == want)
      | .val (.tuple _) => b = false
      | _ => False

section
variable {P : Program} {I : World → Prop} {g : Nat} {M : Mach P I g} {ops : Array Oper}

/-- An operation acts. -/
inductive OpAct (M : Mach P I g) (ops : Array Oper) (o : Oper) (env : List PV) (H : Heap) : Eff → Ft → Prop where
  | skip : Wanted ops o env false → OpAct M ops o env H (keepE nothing) ⟨[], [], none⟩
  | op {e : Eff} : Wanted ops o env true → (opP P o (evalP env) H).eff = some (true, e) → OpAct M ops o env H e (e.ft (readsOf o (evalP env)) H)
  | call {K : Nat} {args : List PV} {c : Con} {x : denL c.params} {y : denL c.results} : Wanted ops o env true → callParts o (evalP env) = some (K, args) → M.con K = some c →
      decArgs c.params args H = some x → c.F x = some y →
      OpAct M ops o env H ⟨fun _ => resPV c.results y, frzEdits H (idsOf c.params args), none⟩ ⟨idsOf c.params args, idsOf c.params args, none⟩

/-- What it hangs on. -/
theorem opP_congr {o : Oper} {ev ev' : Operand → PV} {H H' : Heap} (h : ∀ x ∈ o.op.operands, ev' x = ev x) (hH : ∀ b ∈ readsOf o ev, H'.at? b = H.at? b) : opP P o ev' H' = opP P o ev H := by
  obtain ⟨dst, op, ty, pos, aft, gd⟩ := o
  have lmap : ∀ (l : List Operand), (∀ x ∈ l, ev' x = ev x) → l.map ev' = l.map ev := fun l hl => List.map_congr_left hl
  have omap : ∀ (l : Option Operand), (∀ x ∈ l.toArray, ev' x = ev x) → l.map ev' = l.map ev := by
    rintro (_ | x) hl
    · rfl
    · simp only [Option.map_some]; rw [hl x (by simp)]
  cases op with
  | move x => simp only [opP]; rw [h x (by simp [Op.operands])]
  | assign x => simp only [opP]; rw [h x (by simp [Op.operands])]
  | pick c a b => simp only [opP]; rw [h c (by simp [Op.operands]), h a (by simp [Op.operands]), h b (by simp [Op.operands])]
  | alloc T => rfl
  | box T x => simp only [opP]; rw [h x (by simp [Op.operands])]
  | build T parts =>
    simp only [opP]
    have : (parts.toList.map fun x => (x.1, ev' x.2)) = parts.toList.map fun x => (x.1, ev x.2) := List.map_congr_left fun x hx => by
      rw [h x.2 (by simp only [Op.operands, List.mem_toArray, List.mem_map]; exact ⟨x, hx, rfl⟩)]
    rw [this]
  | buildSlice T len parts =>
    simp only [opP]
    have : (parts.toList.map fun x => (x.1, ev' x.2)) = parts.toList.map fun x => (x.1, ev x.2) := List.map_congr_left fun x hx => by
      rw [h x.2 (by simp only [Op.operands, List.mem_toArray, List.mem_map]; exact ⟨x, hx, rfl⟩)]
    rw [this]
  | load T a =>
    simp only [opP]
    rw [h a (by simp [Op.operands])]
    simp only [readsOf] at hH
    unfold loadP
    generalize ev a = p at *
    cases p with
    | ptr b off => simp only; rw [hH b (by simp [ids'])]
    | rptr b i j => simp only; rw [hH b (by simp [ids'])]
    | _ => rfl
  | store T a x =>
    simp only [opP]
    rw [h a (by simp [Op.operands]), h x (by simp [Op.operands])]
    simp only [readsOf] at hH
    unfold storeP
    generalize ev a = p at *
    cases p with
    | ptr b off => simp only; rw [hH b (by simp [ids'])]
    | rptr b i j => simp only; rw [hH b (by simp [ids'])]
    | _ => rfl
  | nilCheck x => simp only [opP]; rw [h x (by simp [Op.operands])]
  | binOp op T x y yT => simp only [opP]; rw [h x (by simp [Op.operands]), h y (by simp [Op.operands])]
  | unOp op T x => simp only [opP]; rw [h x (by simp [Op.operands])]
  | convert s d x =>
    simp only [opP]
    rw [h x (by simp [Op.operands])]
    simp only [readsOf] at hH
    unfold convertP
    generalize ev x = p at *
    cases p with
    | all b => simp only [rowsOf]; rw [hH b (by simp [ids'])]
    | sl b off len => simp only [rowsOf]; rw [hH b (by simp [ids'])]
    | cs b off len sz =>
      have hb := hH b (by simp [ids'])
      rcases sz with _ | _ | n
      · rfl
      · simp only; rw [hb]
      · rfl
    | val v => cases v <;> rfl
    | _ => rfl
  | makeInterface T x => simp only [opP]; rw [h x (by simp [Op.operands])]
  | makeFunc fn first captured =>
    simp only [opP]
    rw [lmap first.toList (fun x hx => h x (by simp [Op.operands]; exact .inl (by simpa using hx))), lmap captured.toList (fun x hx => h x (by simp [Op.operands]; exact .inr (by simpa using hx)))]
  | slice T x lo hi mx =>
    simp only [opP]
    rw [h x (by simp [Op.operands]), omap lo (fun x hx => h x (by simp [Op.operands] at hx ⊢; simp [hx])), omap hi (fun x hx => h x (by simp [Op.operands] at hx ⊢; simp [hx])),
      omap mx (fun x hx => h x (by simp [Op.operands] at hx ⊢; simp [hx]))]
    simp only [readsOf] at hH
    unfold sliceP
    generalize ev x = p at *
    cases p with
    | all b => simp only; rw [hH b (by simp [ids'])]
    | sl b off len => simp only; rw [hH b (by simp [ids'])]
    | ptr b off => simp only; rw [hH b (by simp [ids'])]
    | _ => rfl
  | fieldAddr s x f => simp only [opP]; rw [h x (by simp [Op.operands])]
  | field T x f => simp only [opP]; rw [h x (by simp [Op.operands])]
  | indexAddr T x ix =>
    simp only [opP]
    rw [h x (by simp [Op.operands]), h ix (by simp [Op.operands])]
    simp only [readsOf] at hH
    unfold indexAddrP
    generalize ev x = p at *
    cases p with
    | all b => simp only; rw [hH b (by simp [ids'])]
    | sl b off len => simp only; rw [hH b (by simp [ids'])]
    | cs b off len sz => simp only; rw [hH b (by simp [ids'])]
    | _ => rfl
  | index T x ix => simp only [opP]; rw [h x (by simp [Op.operands]), h ix (by simp [Op.operands])]
  | typeAssert x xT T ok => simp only [opP]; rw [h x (by simp [Op.operands])]
  | extract t ix => simp only [opP]; rw [h t (by simp [Op.operands])]
  | call c =>
    simp only [opP]
    cases hc : c.callee with
    | builtin b =>
      simp only
      have hargs := lmap c.args.toList (fun x hx => h x (by simp [Op.operands, Call.operands, hc]; simpa using hx))
      rw [hargs]
      simp only [readsOf] at hH
      have hat : ∀ p ∈ c.args.toList.map ev, ∀ k ∈ ids' p, H'.at? k = H.at? k := by
        intro p hp k hk
        obtain ⟨x, hx, rfl⟩ := List.mem_map.mp hp
        exact hH k (List.mem_flatMap.mpr ⟨x, hx, hk⟩)
      generalize c.args.toList.map ev = ps at *
      have hrows : ∀ (t : Ty) (p : PV), p ∈ ps → rowsOf t H' p = rowsOf t H p := by
        intro t p hp
        have := hat p hp
        cases p with
        | all k => simp only [rowsOf]; rw [this k (by simp [ids'])]
        | sl k off len => simp only [rowsOf]; rw [this k (by simp [ids'])]
        | val v => cases v with
          | slice a l c => cases a <;> cases l <;> cases c <;> rfl
          | _ => rfl
        | _ => rfl
      unfold builtinP
      split
      · split
        · rename_i sT xT s x hts
          unfold appendP
          have hs := hat s (by simp)
          have hsrc : ∀ t, srcP P xT t H' x = srcP P xT t H x := by
            intro t
            unfold srcP
            split
            · exact hrows t x (by simp)
            · rfl
            · rfl
          simp only [hsrc]
          cases s with
          | all k => simp only; rw [hs k (by simp [ids'])]
          | val v => cases v with
            | slice a l c => cases a <;> cases l <;> cases c <;> rfl
            | _ => rfl
          | _ => rfl
        · rfl
      · split
        · rename_i T x ht
          have hx := hat x (by simp)
          have : lenP P T x H' = lenP P T x H := by
            unfold lenP
            cases x with
            | all k => simp only; rw [hx k (by simp [ids'])]
            | sl k off len => simp only; rw [hx k (by simp [ids'])]
            | cs k off len sz => simp only; rw [hx k (by simp [ids'])]
            | val v => cases v <;> rfl
            | _ => rfl
          rw [this]
        · rfl
      · rfl
      · rfl
      · rfl
    | _ => rfl
  | _ => rfl

end
end Go.Proofs.Ytecjkkofoafhaaa.V
