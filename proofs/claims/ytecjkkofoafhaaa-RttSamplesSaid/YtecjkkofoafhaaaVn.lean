/- The pure machine, part n: where a call stands in its text. -/
import Derived.Test.YtecjkkofoafhaaaVm
namespace Go.Proofs.Ytecjkkofoafhaaa.V
open Go.RowKit

/-- The piece of the text at a place, and what is to do behind it. -/
def todoAt (c : Code) (p : List Nat) (k : List Item) : Option (Code × List Item) :=
  match p with
  | [] => some (c, k)
  | d :: p => match c with
    | .seq a b => match d with
      | 0 => todoAt a p (.code b :: k)
      | _ + 1 => todoAt b p k
    | .cond _ a b => match d with
      | 0 => todoAt a p k
      | _ + 1 => todoAt b p k
    | .block id c => todoAt c p (.inBlock id :: k)
    | .loop c => todoAt c p (.inLoop c :: k)
    | .scope c => todoAt c p (.inScope c :: k)
    | _ => none
termination_by structural p

/-- Where it goes on behind the piece at a place; none: at the end of the whole. -/
def after (c : Code) (p : List Nat) : Option (List Nat) :=
  match p with
  | [] => none
  | d :: p => match c with
    | .seq a b => match d with
      | 0 => match after a p with
        | some q => some (0 :: q)
        | none => some [1]
      | _ + 1 => (after b p).map (1 :: ·)
    | .cond _ a b => match d with
      | 0 => (after a p).map (0 :: ·)
      | _ + 1 => (after b p).map (1 :: ·)
    | .block _ c => (after c p).map (0 :: ·)
    | .loop c => match after c p with
      | some q => some (0 :: q)
      | none => some []
    | .scope c => (after c p).map (0 :: ·)
    | _ => none
termination_by structural p

/-- Where it goes on behind the block id that is about a place; none: there is none such. -/
def exitP (id : Nat) (c : Code) (p : List Nat) : Option (Option (List Nat)) :=
  match p with
  | [] => none
  | d :: p => match c with
    | .seq a b => match d with
      | 0 => match exitP id a p with
        | some (some q) => some (some (0 :: q))
        | some none => some (some [1])
        | none => none
      | _ + 1 => (exitP id b p).map (Option.map (1 :: ·))
    | .cond _ a b => match d with
      | 0 => (exitP id a p).map (Option.map (0 :: ·))
      | _ + 1 => (exitP id b p).map (Option.map (1 :: ·))
    | .block id' c => match exitP id c p with
      | some q => some (q.map (0 :: ·))
      | none => if id' == id then some none else none
    | .loop c => match exitP id c p with
      | some (some q) => some (some (0 :: q))
      | some none => some (some [])
      | none => none
    | .scope c => (exitP id c p).map (Option.map (0 :: ·))
    | _ => none
termination_by structural p

/-- At the head of what is to do stands the piece c (a loop perhaps after a round). -/
def Head (c : Code) (k todo : List Item) : Prop := todo = .code c :: k ∨ ∃ d, c = .loop d ∧ todo = .inLoop d :: k

section
variable {P : Program} {b : Frame} {a : Act} {cs : List Frame} {w : World}

theorem step_inScope {c : Code} {k : List Item} : step P (lone (b.at a (.inScope c :: k)) cs w) = .next (lone (b.at a k) cs w) :=
  step_lone_go (by simp [stepG, stepG.exec, Frame.at])

theorem after_steps : ∀ (body : Code) (p : List Nat) (k0 : List Item) {c : Code} {k : List Item}, todoAt body p k0 = some (c, k) →
    match after body p with
    | some q => ∃ c' k' td, todoAt body q k0 = some (c', k') ∧ Head c' k' td ∧ Steps P (lone (b.at a k) cs w) (lone (b.at a td) cs w)
    | none => Steps P (lone (b.at a k) cs w) (lone (b.at a k0) cs w) := by
  intro body p
  induction p generalizing body with
  | nil =>
    intro k0 c k h
    simp only [todoAt, Option.some.injEq, Prod.mk.injEq] at h
    obtain ⟨rfl, rfl⟩ := h
    simp only [after]
    exact Steps.refl _ _
  | cons d p ih =>
    intro k0 c k h
    cases body with
    | seq x y =>
      cases d with
      | zero =>
        simp only [todoAt] at h
        have := ih x (.code y :: k0) h
        simp only [after]
        cases hx : after x p with
        | some q =>
          rw [hx] at this
          simp only at this ⊢
          obtain ⟨c', k', td, h1, h2, h3⟩ := this
          exact ⟨c', k', td, h1, h2, h3⟩
        | none =>
          rw [hx] at this
          simp only at this ⊢
          exact ⟨y, k0, .code y :: k0, rfl, .inl rfl, this⟩
      | succ d =>
        simp only [todoAt] at h
        have := ih y k0 h
        simp only [after]
        cases hx : after y p with
        | some q => rw [hx] at this; exact this
        | none => rw [hx] at this; exact this
    | cond o x y =>
      cases d with
      | zero =>
        simp only [todoAt] at h
        have := ih x k0 h
        simp only [after]
        cases hx : after x p with
        | some q => rw [hx] at this; exact this
        | none => rw [hx] at this; exact this
      | succ d =>
        simp only [todoAt] at h
        have := ih y k0 h
        simp only [after]
        cases hx : after y p with
        | some q => rw [hx] at this; exact this
        | none => rw [hx] at this; exact this
    | block id x =>
      simp only [todoAt] at h
      have := ih x (.inBlock id :: k0) h
      simp only [after]
      cases hx : after x p with
      | some q => rw [hx] at this; exact this
      | none => rw [hx] at this; exact this.trans (.one step_inBlock)
    | loop x =>
      simp only [todoAt] at h
      have := ih x (.inLoop x :: k0) h
      simp only [after]
      cases hx : after x p with
      | some q => rw [hx] at this; exact this
      | none =>
        rw [hx] at this
        simp only at this ⊢
        exact ⟨.loop x, k0, .inLoop x :: k0, rfl, .inr ⟨x, rfl, rfl⟩, this⟩
    | scope x =>
      simp only [todoAt] at h
      have := ih x (.inScope x :: k0) h
      simp only [after]
      cases hx : after x p with
      | some q => rw [hx] at this; exact this
      | none => rw [hx] at this; exact this.trans (.one step_inScope)
    | _ => simp [todoAt] at h

theorem exit_steps (id : Nat) : ∀ (body : Code) (p : List Nat) (k0 : List Item) {c : Code} {k : List Item}, todoAt body p k0 = some (c, k) →
    match exitP id body p with
    | some (some q) => ∃ kx c' k' td, exitTo id k = some kx ∧ todoAt body q k0 = some (c', k') ∧ Head c' k' td ∧ Steps P (lone (b.at a kx) cs w) (lone (b.at a td) cs w)
    | some none => ∃ kx, exitTo id k = some kx ∧ Steps P (lone (b.at a kx) cs w) (lone (b.at a k0) cs w)
    | none => exitTo id k = exitTo id k0 := by
  intro body p
  induction p generalizing body with
  | nil =>
    intro k0 c k h
    simp only [todoAt, Option.some.injEq, Prod.mk.injEq] at h
    obtain ⟨rfl, rfl⟩ := h
    simp only [exitP]
  | cons d p ih =>
    intro k0 c k h
    cases body with
    | seq x y =>
      cases d with
      | zero =>
        simp only [todoAt] at h
        have := ih x (.code y :: k0) h
        simp only [exitP]
        cases hx : exitP id x p with
        | some q =>
          rw [hx] at this
          cases q with
          | some q => exact this
          | none =>
            simp only at this ⊢
            obtain ⟨kx, h1, h2⟩ := this
            exact ⟨kx, y, k0, .code y :: k0, h1, rfl, .inl rfl, h2⟩
        | none => rw [hx] at this; exact this
      | succ d =>
        simp only [todoAt] at h
        have := ih y k0 h
        simp only [exitP]
        cases hx : exitP id y p with
        | some q => rw [hx] at this; cases q <;> exact this
        | none => rw [hx] at this; exact this
    | cond o x y =>
      cases d with
      | zero =>
        simp only [todoAt] at h
        have := ih x k0 h
        simp only [exitP]
        cases hx : exitP id x p with
        | some q => rw [hx] at this; cases q <;> exact this
        | none => rw [hx] at this; exact this
      | succ d =>
        simp only [todoAt] at h
        have := ih y k0 h
        simp only [exitP]
        cases hx : exitP id y p with
        | some q => rw [hx] at this; cases q <;> exact this
        | none => rw [hx] at this; exact this
    | block id' x =>
      simp only [todoAt] at h
      have := ih x (.inBlock id' :: k0) h
      simp only [exitP]
      cases hx : exitP id x p with
      | some q =>
        rw [hx] at this
        cases q with
        | some q => exact this
        | none =>
          simp only at this ⊢
          obtain ⟨kx, h1, h2⟩ := this
          exact ⟨kx, h1, h2.trans (.one step_inBlock)⟩
      | none =>
        rw [hx] at this
        simp only [exitTo] at this
        by_cases e : id' = id
        · subst e
          simp only [BEq.rfl, if_true] at this ⊢
          exact ⟨k0, this, Steps.refl _ _⟩
        · have e' : (id' == id) = false := by simpa using e
          simp only [e', Bool.false_eq_true, if_false] at this ⊢
          exact this
    | loop x =>
      simp only [todoAt] at h
      have := ih x (.inLoop x :: k0) h
      simp only [exitP]
      cases hx : exitP id x p with
      | some q =>
        rw [hx] at this
        cases q with
        | some q => exact this
        | none =>
          simp only at this ⊢
          obtain ⟨kx, h1, h2⟩ := this
          exact ⟨kx, .loop x, k0, .inLoop x :: k0, h1, rfl, .inr ⟨x, rfl, rfl⟩, h2⟩
      | none => rw [hx] at this; exact this
    | scope x =>
      simp only [todoAt] at h
      have := ih x (.inScope x :: k0) h
      simp only [exitP]
      cases hx : exitP id x p with
      | some q =>
        rw [hx] at this
        cases q with
        | some q => exact this
        | none =>
          simp only at this ⊢
          obtain ⟨kx, h1, h2⟩ := this
          exact ⟨kx, h1, h2.trans (.one step_inScope)⟩
      | none => rw [hx] at this; exact this
    | _ => simp [todoAt] at h

/-- A step down: the first or the second part of a piece. -/
theorem todoAt_down : ∀ (body : Code) (p : List Nat) (k0 : List Item) {c : Code} {k : List Item} (d : Nat), todoAt body p k0 = some (c, k) → todoAt body (p ++ [d]) k0 = todoAt c [d] k := by
  intro body p
  induction p generalizing body with
  | nil =>
    intro k0 c k d h
    simp only [todoAt, Option.some.injEq, Prod.mk.injEq] at h
    obtain ⟨rfl, rfl⟩ := h
    rfl
  | cons e p ih =>
    intro k0 c k d h
    cases body with
    | seq x y => cases e with
      | zero => exact ih x _ d h
      | succ e => exact ih y _ d h
    | cond o x y => cases e with
      | zero => exact ih x _ d h
      | succ e => exact ih y _ d h
    | block id x => exact ih x _ d h
    | loop x => exact ih x _ d h
    | scope x => exact ih x _ d h
    | _ => simp [todoAt] at h

end
end Go.Proofs.Ytecjkkofoafhaaa.V
