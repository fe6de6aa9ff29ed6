/- The pure machine, part j: calls of functions that have a contract; the operations of a region, in whatever order. -/
import Derived.Test.YtecjkkofoafhaaaVi
import Derived.Orders
namespace Go.Proofs.Ytecjkkofoafhaaa.V
open Go.RowKit

/-! #### data as arguments and results -/
@[reducible] def denL : List Ty → Type
  | [] => Unit
  | t :: ts => t.den × denL ts

def Ty.isAgg : Ty → Bool
  | .unit => true
  | .pair _ _ => true
  | _ => false

/-- The value v is the datum x. -/
def RepV (w : World) (S : Nat → Prop) (t : Ty) (x : t.den) (v : Value) : Prop := Rep w S t x v.cells.toList ∧ (t.isAgg = true → ∃ us, v = .agg us) ∧ (t.isAgg = false → v.oneCell' = true)

def RepVs (w : World) (S : Nat → Prop) : (ts : List Ty) → denL ts → List Value → Prop
  | [], _, vs => vs = []
  | t :: ts, x, vs => ∃ u us, vs = u :: us ∧ RepV w S t x.1 u ∧ RepVs w S ts x.2 us

theorem RepV.mono {w w' : World} {S S' : Nat → Prop} (hw : Same S w w') (hS : ∀ b, b < w.heap.size → S' b → S b) {t : Ty} {x : t.den} {v : Value} (h : RepV w S t x v) : RepV w' S' t x v :=
  ⟨h.1.mono hw hS, h.2⟩
theorem RepVs.mono {w w' : World} {S S' : Nat → Prop} (hw : Same S w w') (hS : ∀ b, b < w.heap.size → S' b → S b) : ∀ {ts : List Ty} {x : denL ts} {vs : List Value}, RepVs w S ts x vs → RepVs w' S' ts x vs
  | [], _, _, h => h
  | _ :: _, _, _, h => by
    obtain ⟨u, us, e, h1, h2⟩ := h
    exact ⟨u, us, e, h1.mono hw hS, RepVs.mono hw hS h2⟩

/-- What a call tells that has these results. -/
def RepRes (w : World) (S : Nat → Prop) (ts : List Ty) (x : denL ts) (v : Value) : Prop :=
  match ts, x with
  | [t], x => RepV w S t x.1 v
  | ts, x => ∃ us, v = .tuple us ∧ RepVs w S ts x us.toList

/-- A contract: what the function of these parameters and results comes to. -/
structure Con where
  params : List Ty
  results : List Ty
  F : denL params → Option (denL results)

def Con.Sound (P : Program) (I : World → Prop) (K : Nat) (c : Con) : Prop :=
  ∀ x y, c.F x = some y → ∀ (w : World) (S : Nat → Prop) (args : Array Value), I w → (∀ b, S b → b < w.heap.size) → RepVs w S c.params x args.toList →
    Calls P K args w fun e w' => ∃ v, e = .returned v ∧ RepRes w' S c.results y v ∧ Below w.heap.size w w'

/-! #### freezing -/
/-- The value, with the rows that it leads to as data. -/
def frz (H : Heap) : PV → PV
  | .all b => match H.at? b with
    | some (.row t l) => .rows t l false
    | some (.fro t l) => .rows t l false
    | _ => .junk
  | .sl b off len => match H.at? b with
    | some (.row t l) => .rows t ((l.drop off).take len) false
    | some (.fro t l) => .rows t ((l.drop off).take len) false
    | _ => .junk
  | p => p

def ids : PV → List Nat
  | .all b => [b]
  | .sl b _ _ => [b]
  | _ => []

def frz1 (H : Heap) (b : Nat) : Heap :=
  match H.at? b with
  | some (.row t l) => H.set b (some (.fro t l))
  | _ => H

def frzH (H : Heap) (bs : List Nat) : Heap := bs.foldl frz1 H

section
variable {P : Program} {base : Nat} {S0 : Nat → Prop} {ρ : Loc} {H : Heap} {w : World} {S : Nat → Prop}

theorem frz1_rel (hh : HRel base S0 ρ H w S) (b : Nat) : ∃ S', HRel base S0 ρ (frz1 H b) w S' ∧ Ext base ρ H w S ρ (frz1 H b) w S' := by
  unfold frz1
  split
  · rename_i t l ho; exact hh.freeze ho
  · exact ⟨S, hh, Ext.refl⟩

theorem frzH_rel : ∀ (bs : List Nat) {H : Heap} {S : Nat → Prop}, HRel base S0 ρ H w S → ∃ S', HRel base S0 ρ (frzH H bs) w S' ∧ Ext base ρ H w S ρ (frzH H bs) w S'
  | [], H, S, hh => ⟨S, hh, Ext.refl⟩
  | b :: bs, H, S, hh => by
    obtain ⟨S1, h1, e1⟩ := frz1_rel hh b
    obtain ⟨S2, h2, e2⟩ := frzH_rel bs h1
    exact ⟨S2, h2, e1.trans e2⟩

theorem frz1_at (H : Heap) (b c : Nat) : (frz1 H b).at? c = H.at? c ∨ ∃ t l, b = c ∧ H.at? c = some (.row t l) ∧ (frz1 H b).at? c = some (.fro t l) := by
  unfold frz1
  split
  · rename_i t l ho
    by_cases e : b = c
    · subst e; exact .inr ⟨t, l, rfl, ho, at_set_same (at_lt ho)⟩
    · exact .inl (at_set_other e)
  · exact .inl rfl

theorem frz1_same (H : Heap) (b : Nat) : (frz1 H b).at? b ≠ none → ∀ t l, (frz1 H b).at? b ≠ some (.row t l) := by
  intro _ t l h
  unfold frz1 at h
  split at h
  · rename_i t' l' ho
    rw [at_set_same (at_lt ho)] at h; cases h
  · rename_i hno; exact hno t l h

/-- Behind the freezing a frozen one is what it was, but that nobody writes to it. -/
theorem frzH_at : ∀ (bs : List Nat) (H : Heap) (c : Nat), ((frzH H bs).at? c = H.at? c ∧ (c ∈ bs → ∀ t l, H.at? c ≠ some (.row t l))) ∨ ∃ t l, H.at? c = some (.row t l) ∧ (frzH H bs).at? c = some (.fro t l)
  | [], H, c => .inl ⟨rfl, fun h => by cases h⟩
  | b :: bs, H, c => by
    have ih := frzH_at bs (frz1 H b) c
    have h1 := frz1_at H b c
    show ((frzH (frz1 H b) bs).at? c = _ ∧ _) ∨ _
    rcases h1 with h1 | ⟨t, l, rfl, h1, h2⟩
    · rcases ih with ⟨ih, hb⟩ | ⟨t, l, i1, i2⟩
      · refine .inl ⟨ih.trans h1, fun hm t l ho => ?_⟩
        rcases List.mem_cons.mp hm with rfl | hm
        · rw [← h1] at ho
          exact frz1_same H c (by rw [ho]; simp) t l ho
        · exact hb hm t l (h1.trans ho)
      · exact .inr ⟨t, l, h1 ▸ i1, i2⟩
    · rcases ih with ⟨ih, _⟩ | ⟨t', l', i1, _⟩
      · exact .inr ⟨t, l, h1, ih.trans h2⟩
      · rw [h2] at i1; cases i1

theorem rows_of_fro (hh : HRel base S0 ρ H w S) {b : Nat} {t : Ty} {l : List t.den} {v : Value} (ho : H.at? b = some (.fro t l)) (hp : PRel ρ H w S (.all b) v) : PRel ρ H w S (.rows t l false) v := by
  simp only [PRel] at hp ⊢
  refine ⟨?_, fun h => by cases h⟩
  rcases hp.2 _ ho rfl with ⟨blk, n, cap, hr, rfl, hle, hn⟩ | ⟨h0, a, rfl⟩
  · refine ⟨_, cap, rfl, hle, fun _ => ?_⟩
    rcases hh.block _ _ ho with ⟨blk', arr, elem, fz, h1, h2, h3, h4⟩ | ⟨h1, _⟩
    · rw [hr] at h1; cases h1
      exact ⟨blk, 0, arr, elem, fz, rfl, h3, h2, fun i hi => by simpa using h4 i hi⟩
    · rw [hr] at h1; cases h1
  · simp only [AO.len] at h0
    exact ⟨a, 0, by rw [h0], by omega, fun hne => absurd (List.length_eq_zero_iff.mp h0) hne⟩

theorem rows_of_sl (hh : HRel base S0 ρ H w S) {b off len : Nat} {t : Ty} {l : List t.den} {v : Value} (ho : H.at? b = some (.fro t l)) (hp : PRel ρ H w S (.sl b off len) v) :
    PRel ρ H w S (.rows t ((l.drop off).take len) false) v := by
  simp only [PRel] at hp ⊢
  refine ⟨?_, fun h => by cases h⟩
  obtain ⟨hle, hc⟩ := hp.2 _ ho rfl
  simp only [AO.len] at hle
  have hlen : ((l.drop off).take len).length = len := by simp; omega
  rcases hc with ⟨blk, n, cap, hr, rfl, hlc, hn⟩ | ⟨h0, a, rfl⟩
  · refine ⟨_, cap, by rw [hlen], by omega, fun _ => ?_⟩
    rcases hh.block _ _ ho with ⟨blk', arr, elem, fz, h1, h2, h3, h4⟩ | ⟨h1, _⟩
    · rw [hr] at h1; cases h1
      refine ⟨blk, off * t.size, arr, elem, fz, rfl, h3, h2, fun i hi => ?_⟩
      rw [hlen] at hi
      obtain ⟨vs, g1, g2⟩ := h4 (off + i) (by omega)
      refine ⟨vs, by simpa using g1, ?_⟩
      rw [← Nat.add_mul]; exact g2
    · rw [hr] at h1; cases h1
  · subst h0
    exact ⟨a, 0, by simp, by simp, fun hne => absurd (by simp) hne⟩

/-- A value that was frozen, behind the freezing. -/
theorem frz_rel {bs : List Nat} {p : PV} {v : Value} (hb : ∀ b ∈ ids p, b ∈ bs) {S' : Nat → Prop} (hh' : HRel base S0 ρ (frzH H bs) w S') (hp : PRel ρ (frzH H bs) w S' p v) : PRel ρ (frzH H bs) w S' (frz H p) v := by
  cases p with
  | all b =>
    have hm := hb b (by simp [ids])
    have hat := frzH_at bs H b
    unfold frz
    simp only
    split
    · rename_i t l ho
      rcases hat with ⟨_, h⟩ | ⟨t', l', h1, h2⟩
      · exact absurd ho (h hm t l)
      · rw [ho] at h1; cases h1
        exact rows_of_fro hh' h2 hp
    · rename_i t l ho
      rcases hat with ⟨h, _⟩ | ⟨t', l', h1, h2⟩
      · exact rows_of_fro hh' (h.trans ho) hp
      · rw [ho] at h1; cases h1
    · simp only [PRel]
  | sl b off len =>
    have hm := hb b (by simp [ids])
    have hat := frzH_at bs H b
    unfold frz
    simp only
    split
    · rename_i t l ho
      rcases hat with ⟨_, h⟩ | ⟨t', l', h1, h2⟩
      · exact absurd ho (h hm t l)
      · rw [ho] at h1; cases h1
        exact rows_of_sl hh' h2 hp
    · rename_i t l ho
      rcases hat with ⟨h, _⟩ | ⟨t', l', h1, h2⟩
      · exact rows_of_sl hh' (h.trans ho) hp
      · rw [ho] at h1; cases h1
    · simp only [PRel]
  | _ => exact hp

theorem frz_rels {bs : List Nat} {S' : Nat → Prop} (hh' : HRel base S0 ρ (frzH H bs) w S') : ∀ {ps : List PV} {vs : List Value}, (∀ p ∈ ps, ∀ b ∈ ids p, b ∈ bs) → PRels ρ (frzH H bs) w S' ps vs → PRels ρ (frzH H bs) w S' (ps.map (frz H)) vs
  | [], _, _, h => h
  | p :: ps, _, hb, h => by
    simp only [PRels] at h
    obtain ⟨u, us, rfl, h1, h2⟩ := h
    exact ⟨u, us, rfl, frz_rel (hb p (by simp)) hh' h1, frz_rels hh' (fun q hq => hb q (by simp [hq])) h2⟩

/-! #### arguments -/
/-- The cells of an argument. -/
def argCells (t : Ty) (p : PV) : Option (List PV) := if t.isAgg then aggCells p else if isScalar p then some [p] else none

def decArgs : (ts : List Ty) → List PV → Heap → Option (denL ts)
  | [], [], _ => some ()
  | t :: ts, p :: ps, H => match argCells t p with
    | some cs => match dec t (cs.map (frz H)) with
      | some (x, []) => match decArgs ts ps H with
        | some xs => some (x, xs)
        | none => none
      | _ => none
    | none => none
  | _, _, _ => none

def idsOf (ts : List Ty) (ps : List PV) : List Nat := (ts.zip ps).flatMap fun x => ((argCells x.1 x.2).getD []).flatMap ids

theorem argCells_rel {t : Ty} {p : PV} {cs : List PV} {v : Value} (hc : argCells t p = some cs) (hp : PRel ρ H w S p v) : PRels ρ H w S cs v.cells.toList ∧ (t.isAgg = true → ∃ us, v = .agg us) ∧ (t.isAgg = false → v.oneCell' = true) := by
  unfold argCells at hc
  split at hc
  · rename_i ht
    obtain ⟨us, rfl, h⟩ := aggCells_rel hc hp
    exact ⟨h, fun _ => ⟨us, rfl⟩, fun h => by rw [ht] at h; cases h⟩
  · rename_i ht
    split at hc
    · rename_i hs
      cases hc
      have h1 := scalar_rel hs hp
      refine ⟨?_, fun h => absurd h ht, fun _ => h1⟩
      rw [cells_one h1]
      exact ⟨v, [], rfl, hp, rfl⟩
    · cases hc

theorem decArgs_rel {bs : List Nat} {S' : Nat → Prop} (hh' : HRel base S0 ρ (frzH H bs) w S') : ∀ {ts : List Ty} {ps : List PV} {x : denL ts} {vs : List Value}, (∀ b ∈ idsOf ts ps, b ∈ bs) → decArgs ts ps H = some x →
    PRels ρ (frzH H bs) w S' ps vs → RepVs w S' ts x vs
  | [], [], _, _, _, _, h => h
  | t :: ts, p :: ps, x, vs, hb, hd, h => by
    simp only [PRels] at h
    obtain ⟨u, us, rfl, h1, h2⟩ := h
    simp only [decArgs] at hd
    split at hd
    · rename_i cs hc
      split at hd
      · rename_i x1 hx
        split at hd
        · rename_i xs hxs
          cases hd
          obtain ⟨g1, g2, g3⟩ := argCells_rel hc h1
          have hbc : ∀ q ∈ cs, ∀ b ∈ ids q, b ∈ bs := by
            intro q hq b hb'
            apply hb
            simp only [idsOf, List.zip_cons_cons, List.flatMap_cons, List.mem_append, List.mem_flatMap]
            exact .inl ⟨q, by rw [hc]; exact hq, hb'⟩
          obtain ⟨v1, v2, e1, e2, e3⟩ := dec_rep hx (frz_rels hh' hbc g1)
          simp only [PRels] at e3
          subst e3
          simp only [List.append_nil] at e1
          refine ⟨u, us, rfl, ⟨by rw [e1]; exact e2, g2, g3⟩, decArgs_rel hh' (fun b hb' => hb b ?_) hxs h2⟩
          simp only [idsOf, List.zip_cons_cons, List.flatMap_cons, List.mem_append]
          exact .inr hb'
        · cases hd
      · cases hd
    · cases hd
  | [], _ :: _, _, _, _, h, _ => by simp [decArgs] at h
  | _ :: _, [], _, _, _, h, _ => by simp [decArgs] at h

/-! #### results -/
def pvOf (t : Ty) (x : t.den) : PV := if t.isAgg then .agg (cellsP t x) else (cellsP t x).headD .junk

def pvsOf : (ts : List Ty) → denL ts → List PV
  | [], _ => []
  | t :: ts, x => pvOf t x.1 :: pvsOf ts x.2

def resPV (ts : List Ty) (x : denL ts) : PV :=
  match ts, x with
  | [t], x => pvOf t x.1
  | ts, x => .tuple (pvsOf ts x)

theorem pvOf_rel {t : Ty} {x : t.den} {v : Value} (h : RepV w S t x v) : PRel ρ H w S (pvOf t x) v := by
  unfold pvOf
  obtain ⟨h1, h2, h3⟩ := h
  split
  · rename_i ht
    obtain ⟨us, rfl⟩ := h2 ht
    exact ⟨us, rfl, Rep.cellsP h1⟩
  · rename_i ht
    have ho := h3 (by simpa using ht)
    rw [cells_one ho] at h1
    have := Rep.cellsP (ρ := ρ) (H := H) h1
    cases hc : cellsP t x with
    | nil => simp only [List.headD_nil, PRel]
    | cons p ps =>
      rw [hc] at this
      simp only [PRels] at this
      obtain ⟨u, us, e, g, _⟩ := this
      simp at e
      simp only [List.headD_cons]
      rw [e.1]; exact g

theorem pvsOf_rel : ∀ {ts : List Ty} {x : denL ts} {vs : List Value}, RepVs w S ts x vs → PRels ρ H w S (pvsOf ts x) vs
  | [], _, _, h => h
  | _ :: _, _, _, h => by
    obtain ⟨u, us, rfl, h1, h2⟩ := h
    exact ⟨u, us, rfl, pvOf_rel h1, pvsOf_rel h2⟩

theorem resPV_rel {ts : List Ty} {x : denL ts} {v : Value} (h : RepRes w S ts x v) : PRel ρ H w S (resPV ts x) v := by
  unfold RepRes at h
  unfold resPV
  split at h
  · exact pvOf_rel h
  · obtain ⟨us, rfl, h1⟩ := h
    exact ⟨us, rfl, pvsOf_rel h1⟩

end
end Go.Proofs.Ytecjkkofoafhaaa.V
