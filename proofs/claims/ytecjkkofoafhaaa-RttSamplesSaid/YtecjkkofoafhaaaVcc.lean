/- The pure machine, part cc: whether two plain values are the same. -/
import Derived.Test.YtecjkkofoafhaaaVc
import Derived.Laws.StructEq
import Derived.Laws.Pointers
namespace Go.Proofs.Ytecjkkofoafhaaa.V
open Go.RowKit

section
variable {base : Nat} {S0 : Nat → Prop} {ρ : Loc} {H : Heap} {w : World} {S : Nat → Prop}

/-- All of them lead nowhere. -/
def valsOf : List PV → Option (List Value)
  | [] => some []
  | .val v :: r => (valsOf r).map (v :: ·)
  | _ => none

theorem valsOf_rel : ∀ {ps : List PV} {l us : List Value}, valsOf ps = some l → PRels ρ H w S ps us → us = l
  | [], _, _, h, k => by simp only [valsOf, Option.some.injEq] at h; subst h; simp only [PRels] at k; exact k
  | p :: r, l, us, h, k => by
    simp only [PRels] at k
    obtain ⟨u, us', rfl, k1, k2⟩ := k
    unfold valsOf at h
    split at h
    · rename_i e; cases e
    · rename_i v r' e
      cases e
      cases hr : valsOf r with
      | none => rw [hr] at h; cases h
      | some m =>
        rw [hr] at h; cases h
        simp only [PRel] at k1
        subst k1
        rw [valsOf_rel hr k2]
    · cases h

/-- A struct's cells, if they lead nowhere. -/
def aggVals : PV → Option (List Value)
  | .agg ps => valsOf ps
  | .val (.agg us) => some us.toList
  | _ => none

theorem aggVals_rel {p : PV} {l : List Value} {v : Value} (h : aggVals p = some l) (hp : PRel ρ H w S p v) : v = .agg l.toArray := by
  unfold aggVals at h
  split at h
  · simp only [PRel] at hp
    obtain ⟨us, rfl, h1⟩ := hp
    rw [← valsOf_rel h h1]
  · cases h
    simp only [PRel] at hp
    rw [hp]
  · cases h

end

def eqFs (P : Program) (eq : TypeId → Value → Value → Option Bool) (xs ys : Array Value) : List Field → Option Bool
  | [] => some true
  | f :: fs => match f.name == "_" with
    | true => eqFs P eq xs ys fs
    | false => match semPure P (part f.type xs f.offset), semPure P (part f.type ys f.offset) with
      | some a, some b => match eq f.type a b, eqFs P eq xs ys fs with
        | some r, some s => some (r && s)
        | _, _ => none
      | _, _ => none

def eqV (P : Program) : Nat → TypeId → Value → Value → Option Bool
  | 0, _, _, _ => none
  | d + 1, t, x, y => match P.underlying t with
    | some .bool => match x, y with
      | .bool a, .bool b => some (a == b)
      | _, _ => none
    | some (.int _) => match x, y with
      | .int k a, .int k' b => match decide (k = k') with
        | true => some (a == b)
        | false => none
      | _, _ => none
    | some .string => match x, y with
      | .string a, .string b => some (a == b)
      | _, _ => none
    | some (.struct fs) => match x, y with
      | .agg xs, .agg ys => match P.stoodInHeld t with
        | true => none
        | false => eqFs P (eqV P d) xs ys fs.toList
      | _, _ => none
    | _ => none

section
variable {P : Program} {w : World}

theorem eqFs_run {eq : TypeId → Value → Value → Option Bool} {d : Nat} (he : ∀ t x y b, eq t x y = some b → (Op.equalIn d t x y).run P w = .ok b w) {xs ys : Array Value} :
    ∀ {fs : List Field} {b : Bool}, eqFs P eq xs ys fs = some b → (Op.eqFields d xs ys fs).run P w = .ok b w
  | [], b, h => by simp only [eqFs, Option.some.injEq] at h; subst h; simp [Op.eqFields]
  | f :: fs, b, h => by
    simp only [eqFs] at h
    split at h
    · rename_i hn
      have hn' : ¬ (f.name ≠ "_") := by simpa using hn
      rw [Op.eqFields, if_neg hn']
      exact eqFs_run he h
    · rename_i hn
      have hn' : f.name ≠ "_" := by simpa using hn
      split at h
      · rename_i a c ha hc
        split at h
        · rename_i r s hr hs
          cases h
          rw [Op.eqFields]
          simp only [if_pos hn', Sem.run_bind, semPure_run ha w, semPure_run hc w, he _ _ _ _ hr, Result.andThen_ok]
          have := eqFs_run he hs
          cases r
          · simp
          · simpa using this
        · cases h
      · cases h

theorem eqV_run : ∀ (n d : Nat), n ≤ d → ∀ (t : TypeId) (x y : Value) (b : Bool), eqV P n t x y = some b → (Op.equalIn d t x y).run P w = .ok b w
  | 0, _, _, _, _, _, _, h => by simp [eqV] at h
  | n + 1, 0, hd, _, _, _, _, _ => by omega
  | n + 1, d + 1, hd, t, x, y, b, h => by
    simp only [eqV] at h
    split at h
    · rename_i hu
      split at h
      · cases h; exact run_equalIn_bool w d t _ _ hu
      · cases h
    · rename_i k0 hu
      split at h
      · split at h
        · rename_i hk
          simp only [decide_eq_true_eq] at hk
          subst hk
          cases h; exact run_equalIn_int w d t _ _ _ _ hu
        · cases h
      · cases h
    · rename_i hu
      split at h
      · cases h
        rw [run_equalIn_string w d t _ _ hu, beq_toListBytes]
      · cases h
    · rename_i fs hu
      split at h
      · rename_i xs ys
        split at h
        · cases h
        · rename_i hs
          have hf : P.fieldsOf t = fs := by simp [Program.fieldsOf, hu]
          rw [run_equalIn_struct w d t xs ys (by rw [hf]; exact hu) hs, hf]
          exact eqFs_run (fun t x y b hb => eqV_run n d (by omega) t x y b hb) h
      · cases h
    · cases h

end
end Go.Proofs.Ytecjkkofoafhaaa.V
