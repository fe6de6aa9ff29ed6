/- The pure machine, part x: machines made of a list of functions and a list of contracts. -/
import Derived.Test.YtecjkkofoafhaaaVw
namespace Go.Proofs.Ytecjkkofoafhaaa.V
open Go.RowKit

def FnOk (P : Program) (K : Nat) (f : Func) : Prop := P.funcs[K]? = some f ∧ (f.name == "runtime.NumGoroutine") = false ∧ f.body.isSome = true

theorem FnOk.callable {P : Program} {K : Nat} {f : Func} (h : FnOk P K f) : Callable P K := ⟨f, h⟩

def FnsOk (P : Program) : List (Nat × Func) → Prop
  | [] => True
  | x :: l => FnOk P x.1 x.2 ∧ FnsOk P l

def ConsOk (P : Program) (I : World → Prop) : List (Nat × Con) → Prop
  | [] => True
  | x :: l => (x.2.Sound P I x.1 ∧ Callable P x.1) ∧ ConsOk P I l

def pick0 {α : Type} : List (Nat × α) → Nat → Option α
  | [], _ => none
  | (a, b) :: l, K => bif Nat.beq a K then some b else pick0 l K

theorem pickF_ok {P : Program} : ∀ {l : List (Nat × Func)}, FnsOk P l → ∀ {K f}, pick0 l K = some f → FnOk P K f
  | [], _, K, f, h => by cases h
  | (a, b) :: l, hl, K, f, h => by
    rw [pick0] at h
    cases hq : Nat.beq a K with
    | true =>
      rw [hq] at h
      cases h
      rw [← Nat.eq_of_beq_eq_true hq]
      exact hl.1
    | false => rw [hq] at h; exact pickF_ok hl.2 h

theorem pickC_ok {P : Program} {I : World → Prop} : ∀ {l : List (Nat × Con)}, ConsOk P I l → ∀ {K c}, pick0 l K = some c → c.Sound P I K ∧ Callable P K
  | [], _, K, f, h => by cases h
  | (a, b) :: l, hl, K, f, h => by
    rw [pick0] at h
    cases hq : Nat.beq a K with
    | true =>
      rw [hq] at h
      cases h
      rw [← Nat.eq_of_beq_eq_true hq]
      exact hl.1
    | false => rw [hq] at h; exact pickC_ok hl.2 h

/-- The machine of these functions and contracts. -/
def mach {P : Program} {I : World → Prop} {g : Nat} (keep : ∀ w w' B, g ≤ B → Below B w w' → I w → I w') (mixed : P.follows .mixedOrders = true)
    (fns : List (Nat × Func)) (hf : FnsOk P fns) (cons : List (Nat × Con)) (hc : ConsOk P I cons) : Mach P I g where
  fn := pick0 fns
  fn_ok := fun _ _ h => pickF_ok hf h
  con := pick0 cons
  con_ok := fun _ _ h => pickC_ok hc h
  keep := keep
  mixed := mixed

end Go.Proofs.Ytecjkkofoafhaaa.V
