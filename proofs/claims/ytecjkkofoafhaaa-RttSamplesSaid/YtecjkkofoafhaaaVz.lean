/- The pure machine, part z: arguments of a law as data; what reads behind the call as it read before. -/
import Derived.Test.YtecjkkofoafhaaaVy
namespace Go.Proofs.Ytecjkkofoafhaaa.V
open Go.RowKit

def layAll (P : Program) (n : Nat) : List TypeId → List Ty → Bool
  | [], [] => true
  | T :: Ts, t :: ts => lay P n T t && layAll P n Ts ts
  | _, _ => false

def zeroCells : Ty → List Value
  | .unit => []
  | .int k => [.int k 0]
  | .bool => [.bool false]
  | .str => [.string ⟨#[]⟩]
  | .pair a b => zeroCells a ++ zeroCells b
  | .slice _ => [.slice none 0 0]

def zeroV (t : Ty) : Value := if t.isAgg then .agg (zeroCells t).toArray else (zeroCells t).headD undef

section
variable {H : Type} {enc : TypeId × Value → H} {P : Program} {w : World}

theorem okWide_shape {n : Nat} {T : TypeId} {t : Ty} {r : Reach} {base : Nat} {v : Value} (hl : lay P n T t = true) (h : Value.okWide P w r base T v) : (t.isAgg = true → ∃ us, v = .agg us) ∧ (t.isAgg = false → v.oneCell' = true) := by
  cases n with
  | zero => simp [lay] at hl
  | succ n =>
    simp only [lay] at hl
    unfold Value.okWide at h
    split at hl
    · rename_i hu
      split at hl
      · rw [hu] at h
        simp only [Cell.okWide, Cell.ok, hu] at h
        refine ⟨(fun h => by cases h), fun _ => ?_⟩
        cases v <;> first | rfl | simp at h
      · cases hl
    · rename_i k hu
      split at hl
      · rw [hu] at h
        simp only [Cell.okWide, Cell.ok, hu] at h
        refine ⟨(fun h => by cases h), fun _ => ?_⟩
        cases v <;> first | rfl | simp at h
      · cases hl
    · rename_i hu
      split at hl
      · rw [hu] at h
        simp only [Cell.okWide, Cell.ok, hu] at h
        refine ⟨(fun h => by cases h), fun _ => ?_⟩
        cases v <;> first | rfl | simp at h
      · cases hl
    · rename_i e hu
      split at hl
      · rw [hu] at h
        simp only [Cell.okWide, Cell.ok, hu] at h
        refine ⟨(fun h => by cases h), fun _ => ?_⟩
        cases v <;> first | rfl | simp at h
      · cases hl
    · rename_i fs hu
      simp only [Bool.and_eq_true] at hl
      rw [hu] at h
      obtain ⟨cs, e, _⟩ := h
      exact ⟨fun _ => ⟨cs, e⟩, fun h => by rw [hl.1.1] at h; cases h⟩
    · rename_i m e hu
      simp only [Bool.and_eq_true] at hl
      rw [hu] at h
      obtain ⟨cs, e, _⟩ := h
      exact ⟨fun _ => ⟨cs, e⟩, fun h => by rw [hl.1.1] at h; cases h⟩
    · cases hl

theorem args_rep {n : Nat} {r : Reach} {base : Nat} : ∀ {Ts : List TypeId} {ts : List Ty} {vs : List Value} {ds : List (DataW H)} {p : List MemPlace}, layAll P n Ts ts = true → DataW.TrodAll enc P w 0 (fun _ => true) true Ts vs ds p →
    (∀ (j : Nat) T v, Ts[j]? = some T → vs[j]? = some v → Value.okWide P w r base T v) → ∃ x : denL ts, RepVs w noS ts x vs ∧ Wfs ts x
  | [], ts, vs, ds, p, hl, h, _ => by
    cases ts <;> simp [layAll] at hl
    cases vs with
    | nil => exact ⟨(), rfl, trivial⟩
    | cons _ _ => cases ds <;> exact h.elim
  | T :: Ts, ts, vs, ds, p, hl, h, hv => by
    cases ts with
    | nil => simp [layAll] at hl
    | cons t ts =>
      simp only [layAll, Bool.and_eq_true] at hl
      cases vs with
      | nil => exact h.elim
      | cons v vs =>
        cases ds with
        | nil => exact h.elim
        | cons d ds =>
          obtain ⟨p1, q1, ⟨fuel, hd⟩, hr, _⟩ := h
          obtain ⟨x1, r1, w1⟩ := trod_rep n T t fuel _ _ hl.1 hd
          obtain ⟨x2, r2, w2⟩ := args_rep hl.2 hr (fun j T v h1 h2 => hv (j + 1) T v (by simpa using h1) (by simpa using h2))
          obtain ⟨s1, s2⟩ := okWide_shape hl.1 (hv 0 T v rfl rfl)
          exact ⟨(x1, x2), ⟨v, vs, rfl, ⟨r1, s1, s2⟩, r2⟩, w1, w2⟩

theorem trodAll_length : ∀ {Ts : List TypeId} {vs : List Value} {ds : List (DataW H)} {p : List MemPlace}, DataW.TrodAll enc P w 0 (fun _ => true) true Ts vs ds p → ds.length = Ts.length
  | [], vs, ds, p, h => by cases vs <;> cases ds <;> first | rfl | exact h.elim
  | T :: Ts, vs, ds, p, h => by
    cases vs with
    | nil => exact h.elim
    | cons v vs => cases ds with
      | nil => exact h.elim
      | cons d ds =>
        obtain ⟨p1, q1, hd, hq, e⟩ := h
        simp [trodAll_length hq]

def readAll (P : Program) : List TypeId → Bool
  | [] => true
  | T :: Ts => P.readableRec T && decide (T < P.types.size) && readAll P Ts

theorem trodAll_below (hl : laidOutB P = true) {w' : World} (hb : Below w.heap.size w w') : ∀ {Ts : List TypeId} {vs : List Value} {ds : List (DataW H)} {p : List MemPlace}, readAll P Ts = true →
    DataW.TrodAll enc P w 0 (fun _ => true) true Ts vs ds p → DataW.TrodAll enc P w' 0 (fun b => decide (b < w.heap.size)) true Ts vs ds p
  | [], vs, ds, p, _, h => by cases vs <;> cases ds <;> exact h
  | T :: Ts, vs, ds, p, hr, h => by
    simp only [readAll, Bool.and_eq_true, decide_eq_true_eq] at hr
    cases vs with
    | nil => exact h.elim
    | cons v vs =>
      cases ds with
      | nil => exact h.elim
      | cons d ds =>
        obtain ⟨p1, q1, hd, hq, e⟩ := h
        have hlt : ∀ x ∈ p1, x.block < w.heap.size := by obtain ⟨m, hm⟩ := hd; exact DataW.trod_lt m _ _ _ hm
        exact ⟨p1, q1, Below.trod hl hr.1.1 hr.1.2 hd hb hlt, trodAll_below hl hb hr.2 hq, e⟩

end

/-- What a law's call comes to, if its function is true. -/
theorem law_calls {P : Program} {I : World → Prop} {K : Nat} {ts : List Ty} {F : denL ts → Option (denL [Ty.bool])} (hs : (Con.mk ts [.bool] F).Sound P I K) {w : World} (hI : I w) {args : Array Value} {x : denL ts} (hx : RepVs w noS ts x args.toList)
    (hF : F x = some (true, ())) : Calls P K args w fun e w' => e = .returned (.bool true) ∧ Below w.heap.size w w' := by
  refine (hs x (true, ()) hF w noS args hI (fun _ h => h.elim) hx).mono fun e w' h => ?_
  obtain ⟨v, rfl, hv, hb⟩ := h
  refine ⟨?_, hb⟩
  have : v.cells.toList = [.bool true] := hv.1
  have ho := hv.2.2 rfl
  rw [cells_one ho] at this
  simp at this
  rw [this]

end Go.Proofs.Ytecjkkofoafhaaa.V
