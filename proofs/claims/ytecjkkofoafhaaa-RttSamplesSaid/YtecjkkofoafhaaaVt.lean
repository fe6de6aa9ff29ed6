/- The pure machine, part t: states that are alike but for what they hold, and for what nobody looks at any more. -/
import Derived.Test.YtecjkkofoafhaaaVs
namespace Go.Proofs.Ytecjkkofoafhaaa.V
open Go.RowKit
universe u

/-- A value with holes. -/
inductive Pat where
  /-- whatever: nobody looks at it -/
  | any
  | undef
  | nilSlice
  | nilPtr
  | nilFunc
  | nilIface
  | intC (k : IntKind) (n : Int)
  | boolC (b : Bool)
  | int (k : IntKind)
  | bool
  | str
  | rows (t : Ty) (clip : Bool)
  | all (c : Nat)
  | sl (c : Nat)
  | cs (c off len sz : Nat)
  | ptr (c off : Nat)
  | rptr (c j : Nat)
  | pin (t : Ty) (j : Nat)
  | func (fn : Nat) (first captured : List Pat)
  | iface (t : TypeId) (x : Pat)
  | agg (ps : List Pat)
  | tuple (ps : List Pat)
  | emp
  /-- a whole datum -/
  | dat (t : Ty)

mutual
@[reducible] def denP (p : Pat) : Type := match p with
  | .any => Unit
  | .undef => Unit
  | .nilSlice => Unit
  | .nilPtr => Unit
  | .nilFunc => Unit
  | .nilIface => Unit
  | .intC _ _ => Unit
  | .boolC _ => Unit
  | .int _ => Int
  | .bool => Bool
  | .str => ByteArray
  | .rows t _ => List t.den
  | .all _ => Unit
  | .sl _ => Nat × Nat
  | .cs _ _ _ _ => Unit
  | .ptr _ _ => Unit
  | .rptr _ _ => Nat
  | .pin t _ => t.den
  | .func _ a b => denPs a × denPs b
  | .iface _ x => denP x
  | .agg ps => denPs ps
  | .tuple ps => denPs ps
  | .emp => Unit
  | .dat t => t.den
termination_by structural p
@[reducible] def denPs (ps : List Pat) : Type := match ps with
  | [] => Unit
  | p :: ps => denP p × denPs ps
termination_by structural ps
end

mutual
def inst (p : Pat) (x : denP p) : PV := match p, x with
  | .any, _ => .junk
  | .undef, _ => .val (.tuple #[])
  | .nilSlice, _ => .val (.slice none 0 0)
  | .nilPtr, _ => .val (.pointer none)
  | .nilFunc, _ => .val .nilFunc
  | .nilIface, _ => .val .nilIface
  | .intC k n, _ => .val (.int k n)
  | .boolC b, _ => .val (.bool b)
  | .int k, x => .val (.int k x)
  | .bool, x => .val (.bool x)
  | .str, x => .val (.string x)
  | .rows t c, x => .rows t x c
  | .all c, _ => .all c
  | .sl c, x => .sl c x.1 x.2
  | .cs c off len sz, _ => .cs c off len sz
  | .ptr c off, _ => .ptr c off
  | .rptr c j, x => .rptr c x j
  | .pin t j, x => .pin t x j
  | .func fn a b, x => .func (.func fn) (insts a x.1) (insts b x.2)
  | .iface t p, x => .iface t (inst p x)
  | .agg ps, x => .agg (insts ps x)
  | .tuple ps, x => .tuple (insts ps x)
  | .emp, _ => .emp
  | .dat t, x => .agg (cellsP t x)
termination_by structural p
def insts (ps : List Pat) (x : denPs ps) : List PV := match ps, x with
  | [], _ => []
  | p :: ps, x => inst p x.1 :: insts ps x.2
termination_by structural ps
end

/-- A block with holes. -/
inductive HPat where
  | dead
  | cells (ps : List Pat)
  | row (t : Ty)
  | fro (t : Ty)
  /-- a whole datum -/
  | dat (t : Ty)

@[reducible] def denB : HPat → Type
  | .dead => Unit
  | .cells ps => denPs ps
  | .row t => List t.den
  | .fro t => List t.den
  | .dat t => t.den

def instB : (p : HPat) → denB p → Option AO
  | .dead, _ => none
  | .cells ps, x => some (.cells (insts ps x))
  | .row t, x => some (.row t x)
  | .fro t, x => some (.fro t x)
  | .dat t, x => some (.cells (cellsP t x))

@[reducible] def denBs : List HPat → Type
  | [] => Unit
  | p :: ps => denB p × denBs ps

def instBs : (ps : List HPat) → denBs ps → Heap
  | [], _ => []
  | p :: ps, x => instB p x.1 :: instBs ps x.2

/-- Which block each one of the pattern is (none: one that is not there, an empty row); which rows are only read. -/
structure Sig where
  σ : List (Option (Option Nat))
  Z : List Nat

def Sig.at (s : Sig) (c : Nat) : Option (Option Nat) := s.σ.getD c none

/-- The block c is b. -/
def Sig.bind (s : Sig) (c : Nat) (b : Option Nat) : Option Sig :=
  match s.at c with
  | some b' => match b, b' with
    | some b, some b' => bif Nat.beq b b' then some s else none
    | none, none => some s
    | _, _ => none
  | none => bif Nat.blt c s.σ.length then some ⟨s.σ.set c (some b), s.Z⟩ else none

def rowAt (t : Ty) (H : Heap) (b : Nat) : Option (List t.den) :=
  match H.at? b with
  | some (.row _ l) => castL l
  | some (.fro _ l) => castL l
  | _ => none

section
variable {β : Type u} (H : Heap)

mutual
/-- What the holes hold, if the value is like the pattern. -/
def pm (p : Pat) (v : PV) (s : Sig) (k : denP p → Sig → Option β) : Option β := match p, k with
  | .any, k => k () s
  | .undef, k => match v with
    | .val (.tuple us) => match us.toList with
      | [] => k () s
      | _ => none
    | _ => none
  | .nilSlice, k => match v with
    | .val (.slice none 0 0) => k () s
    | _ => none
  | .nilPtr, k => match v with
    | .val (.pointer none) => k () s
    | _ => none
  | .nilFunc, k => match v with
    | .val .nilFunc => k () s
    | _ => none
  | .nilIface, k => match v with
    | .val .nilIface => k () s
    | _ => none
  | .intC i n, k => match v with
    | .val (.int i' n') => bif decide (i' = i) && decide (n' = n) then k () s else none
    | _ => none
  | .boolC b, k => match v with
    | .val (.bool b') => bif b' == b then k () s else none
    | _ => none
  | .int i, k => match v with
    | .val (.int i' n) => bif decide (i' = i) then k n s else none
    | _ => none
  | .bool, k => match v with
    | .val (.bool b) => k b s
    | _ => none
  | .str, k => match v with
    | .val (.string x) => k x s
    | _ => none
  | .rows t c, k => match v with
    | .rows _ l c' => bif !c || c' then match castL l with
        | some l => k l s
        | none => none
      else none
    | .val (.slice none 0 0) => k [] s
    | .emp => k [] s
    | .all b => bif c then none else match rowAt t H b with
      | some l => k l ⟨s.σ, b :: s.Z⟩
      | none => none
    | .sl b off len => bif c then none else match rowAt t H b with
      | some l => k ((l.drop off).take len) ⟨s.σ, b :: s.Z⟩
      | none => none
    | _ => none
  | .all c, k => match v with
    | .all b => match s.bind c (some b) with
      | some s => k () s
      | none => none
    | .val (.slice none 0 0) => match s.bind c none with
      | some s => k () s
      | none => none
    | .emp => match s.bind c none with
      | some s => k () s
      | none => none
    | _ => none
  | .sl c, k => match v with
    | .sl b off len => match s.bind c (some b) with
      | some s => k (off, len) s
      | none => none
    | _ => none
  | .cs c off len sz, k => match v with
    | .cs b off' len' sz' => bif Nat.beq off' off && Nat.beq len' len && Nat.beq sz' sz then match s.bind c (some b) with
        | some s => k () s
        | none => none
      else none
    | _ => none
  | .ptr c off, k => match v with
    | .ptr b off' => bif Nat.beq off' off then match s.bind c (some b) with
        | some s => k () s
        | none => none
      else none
    | _ => none
  | .rptr c j, k => match v with
    | .rptr b i j' => bif Nat.beq j' j then match s.bind c (some b) with
        | some s => k i s
        | none => none
      else none
    | _ => none
  | .pin t j, k => match v with
    | .pin _ x j' => bif Nat.beq j' j then match (castL [x] : Option (List t.den)) with
        | some (x :: _) => k x s
        | _ => none
      else none
    | _ => none
  | .func fn a b, k => match v with
    | .func (.func fn') a' b' => bif Nat.beq fn' fn then pms a a' s fun x s => pms b b' s fun y s => k (x, y) s else none
    | _ => none
  | .iface t p, k => match v with
    | .iface t' v => bif decide (t' = t) then pm p v s k else none
    | _ => none
  | .agg ps, k => match v with
    | .agg vs => pms ps vs s k
    | _ => none
  | .tuple ps, k => match v with
    | .tuple vs => pms ps vs s k
    | _ => none
  | .emp, k => match v with
    | .emp => k () s
    | .val (.slice none 0 0) => k () s
    | _ => none
  | .dat t, k => match v with
    | .agg vs => match dec t vs with
      | some (x, []) => k x s
      | _ => none
    | _ => none
termination_by structural p
def pms (ps : List Pat) (vs : List PV) (s : Sig) (k : denPs ps → Sig → Option β) : Option β := match ps, k with
  | [], k => match vs with
    | [] => k () s
    | _ => none
  | p :: ps, k => match vs with
    | v :: vs => pm p v s fun x s => pms ps vs s fun y s => k (x, y) s
    | [] => none
termination_by structural ps
end
end
end Go.Proofs.Ytecjkkofoafhaaa.V
