/- The pure machine, part w: proofs of runs, place by place. -/
import Derived.Test.YtecjkkofoafhaaaVv
namespace Go.Proofs.Ytecjkkofoafhaaa.V
open Go.RowKit

/-- At the place p it comes to what J tells; elsewhere X knows. -/
def cut {R : Type} (p : CPat) (J : denC p → Option R) (X : Cfg → Option (Option R)) : Cfg → Option (Option R) := fun c =>
  match pmC p c fun x => some (J x) with
  | some o => some o
  | none => X c

def nowhere {R : Type} : Cfg → Option (Option R) := fun _ => none

section
variable {P : Program} {I : World → Prop} {g : Nat} (M : Mach P I g) {R : Type} (fin : List PV → Heap → Option R)
variable (base : Nat) (S0 : Nat → Prop) (cs0 : List Frame) (post : World → Value → R → Prop)

def OSound (X : Cfg → Option (Option R)) : Prop := ∀ c r, X c = some (some r) → Sound M base S0 cs0 post c r
def JSound (p : CPat) (J : denC p → Option R) : Prop := ∀ x r, J x = some r → Sound M base S0 cs0 post (instC p x) r

variable {M fin base S0 cs0 post}

theorem OSound.nowhere : OSound M base S0 cs0 post (nowhere (R := R)) := fun _ _ h => by cases h

theorem OSound.cut {X : Cfg → Option (Option R)} (hX : OSound M base S0 cs0 post X) {p : CPat} {J : denC p → Option R} (hJ : JSound M base S0 cs0 post p J) : OSound M base S0 cs0 post (cut p J X) := by
  intro c r h
  unfold V.cut at h
  split at h
  · rename_i o ho
    cases h
    exact pmC_ok ho (fun x hx => hJ x r (by simpa using hx))
  · exact hX c r h

theorem run_sound (hfin : FinOk fin base S0 post) {X : Cfg → Option (Option R)} (hX : OSound M base S0 cs0 post X) {Ks : List Nat} {n : Nat} {c : Cfg} {r : R} (h : runB M fin Ks X n c = some r) : Sound M base S0 cs0 post c r :=
  runA_sound hfin (fun c' h' => hX c' r h') n c ((runB_eq M fin Ks X n c).symm.trans h)

theorem JSound.join (hfin : FinOk fin base S0 post) {X : Cfg → Option (Option R)} (hX : OSound M base S0 cs0 post X) (Ks : List Nat) (n : Nat) {p : CPat} {J : denC p → Option R} (h : ∀ x, J x = runB M fin Ks X n (instC p x)) : JSound M base S0 cs0 post p J :=
  fun x _ hx => run_sound hfin hX ((h x).symm.trans hx)

theorem JSound.loop (hfin : FinOk fin base S0 post) {X : Cfg → Option (Option R)} (hX : OSound M base S0 cs0 post X) (Ks : List Nat) (n : Nat) {p : CPat} {L : Nat → denC p → Option R} (h0 : ∀ x, L 0 x = none) (hs : ∀ m x, L (m + 1) x = runB M fin Ks (cut p (L m) X) n (instC p x)) :
    ∀ m, JSound M base S0 cs0 post p (L m) := by
  intro m
  induction m with
  | zero => intro x r h; rw [h0] at h; cases h
  | succ m ih => exact JSound.join hfin (hX.cut ih) Ks n (hs m)

/-- The same, with places within the loop: X' k knows them, if k is what the loop comes to. -/
theorem JSound.loop' (hfin : FinOk fin base S0 post) (Ks : List Nat) (n : Nat) {p : CPat} {A : Type} (un : A → denC p → Option R) (X' : A → Cfg → Option (Option R)) (hX' : ∀ k, JSound M base S0 cs0 post p (un k) → OSound M base S0 cs0 post (X' k))
    (L : Nat → A) (h0 : ∀ x, un (L 0) x = none) (hs : ∀ m x, un (L (m + 1)) x = runB M fin Ks (X' (L m)) n (instC p x)) : ∀ m, JSound M base S0 cs0 post p (un (L m)) := by
  intro m
  induction m with
  | zero => intro x r h; rw [h0] at h; cases h
  | succ m ih => exact JSound.join hfin (hX' _ ih) Ks n (hs m)

/-- A loop, with how many rounds at most. -/
theorem JSound.fuel {p : CPat} {L : Nat → denC p → Option R} (h : ∀ m, JSound M base S0 cs0 post p (L m)) (f : denC p → Nat) : JSound M base S0 cs0 post p (fun x => L (f x) x) := fun x r hx => h (f x) x r hx

end

/-- What is told at the end, as data of these types. -/
def finR (rs : List Ty) (ps : List PV) (H : Heap) : Option (denL rs) := decArgs rs ps H
def Post (rs : List Ty) (S0 : Nat → Prop) (w : World) (v : Value) (r : denL rs) : Prop := RepRes w S0 rs r v

/-- A contract, from how its call runs. -/
theorem con_run {P : Program} {I : World → Prop} {g : Nat} {M : Mach P I g} (hgI : ∀ w, I w → g ≤ w.heap.size) {K : Nat} {c : Con} {f : Func} (hf : M.fn K = some f) (Ks : List Nat) (n : Nat)
    {X : Cfg → Option (Option (denL c.results))} (hX : ∀ base S0 cs0, FinOk (finR c.results) base S0 (Post c.results S0) → OSound M base S0 cs0 (Post c.results S0) X)
    (h : ∀ x, c.F x = runB M (finR c.results) Ks X n (startP K f.ntmps (pvsOf c.params x))) : c.Sound P I K :=
  con_sound hgI hf fun x _ hxy base S0 cs0 => run_sound (finP_ok c base S0) (hX base S0 cs0 (finP_ok c base S0)) ((h x).symm.trans hxy)

end Go.Proofs.Ytecjkkofoafhaaa.V
