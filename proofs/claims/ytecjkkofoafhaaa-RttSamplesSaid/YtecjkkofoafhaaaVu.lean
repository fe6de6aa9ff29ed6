/- The pure machine, part u: a state that is like a pattern comes to what the pattern's state comes to. -/
import Derived.Test.YtecjkkofoafhaaaVt
namespace Go.Proofs.Ytecjkkofoafhaaa.V
open Go.RowKit
universe u

def Sig.le (s s' : Sig) : Prop := (∀ c x, s.at c = some x → s'.at c = some x) ∧ (∀ b ∈ s.Z, b ∈ s'.Z) ∧ s'.σ.length = s.σ.length

theorem Sig.le_refl (s : Sig) : s.le s := ⟨fun _ _ h => h, fun _ h => h, rfl⟩
theorem Sig.le_trans {a b c : Sig} (h : a.le b) (k : b.le c) : a.le c := ⟨fun i x hx => k.1 i x (h.1 i x hx), fun b hb => k.2.1 b (h.2.1 b hb), k.2.2.trans h.2.2⟩

theorem Sig.bind_ok {s s' : Sig} {c : Nat} {b : Option Nat} (h : s.bind c b = some s') : s'.at c = some b ∧ s.le s' := by
  unfold Sig.bind at h
  split at h
  · rename_i b' hb'
    split at h
    · rename_i b1 b2
      cases hq : Nat.beq b1 b2 with
      | true =>
        rw [hq] at h
        cases h
        rw [Nat.eq_of_beq_eq_true hq]
        exact ⟨hb', Sig.le_refl _⟩
      | false => rw [hq] at h; cases h
    · cases h; exact ⟨hb', Sig.le_refl _⟩
    · cases h
  · rename_i hn
    cases hq : Nat.blt c s.σ.length with
    | false => rw [hq] at h; cases h
    | true =>
      rw [hq] at h
      cases h
      have hlt : c < s.σ.length := Nat.lt_of_succ_le (by simpa [Nat.blt] using hq)
      refine ⟨by simp [Sig.at, List.getD, hlt], fun c' x hx => ?_, fun _ h => h, by simp⟩
      by_cases e : c = c'
      · subst e; rw [hn] at hx; cases hx
      · simpa [Sig.at, List.getD, List.getElem?_set_ne e] using hx

/-- What a block and what it is in the pattern's state have in common. -/
def Kin (o o' : AO) : Prop := o'.isRow = o.isRow ∧ o'.elemSize = o.elemSize ∧ o'.len = o.len ∧ ∀ cs', o' = .cells cs' → ∃ cs, o = .cells cs ∧ cs.length = cs'.length

/-- How the pattern's state goes with the state. -/
structure Good (s : Sig) (H : Heap) (ρ : Loc) (w : World) (S : Nat → Prop) (H' : Heap) (ρ' : Loc) (S' : Nat → Prop) : Prop where
  real : ∀ c b, s.at c = some (some b) → c < H'.length ∧ ρ' c = ρ b ∧ ∀ o', H'.at? c = some o' → ∃ o, H.at? b = some o ∧ Kin o o'
  virt : ∀ c, s.at c = some none → c < H'.length ∧ ∀ o', H'.at? c = some o' → o'.isRow = true ∧ o'.len = 0
  read : ∀ b ∈ s.Z, ∀ o blk n, H.at? b = some o → ρ b = some (blk, n) → ¬ S' blk
  less : ∀ b, b < w.heap.size → S' b → S b

theorem Good.le {s s' : Sig} {H : Heap} {ρ : Loc} {w : World} {S : Nat → Prop} {H' : Heap} {ρ' : Loc} {S' : Nat → Prop} (h : s.le s') (g : Good s' H ρ w S H' ρ' S') : Good s H ρ w S H' ρ' S' :=
  ⟨fun c b hb => g.real c b (h.1 _ _ hb), fun c hc => g.virt c (h.1 _ _ hc), fun b hb => g.read b (h.2.1 b hb), g.less⟩

section
variable {base : Nat} {S0 : Nat → Prop} {ρ ρ' : Loc} {H H' : Heap} {w : World} {S S' : Nat → Prop} {s : Sig}

theorem castL_ok {a t : Ty} {l : List a.den} {m : List t.den} (h : castL l = some m) : ∃ e : a = t, m = e ▸ l := by
  unfold castL at h
  split at h
  · rename_i e; cases h; exact ⟨e, rfl⟩
  · cases h

theorem good_same (g : Good s H ρ w S H' ρ' S') : ∀ {t : Ty} {x : t.den} {vs : List Value}, Rep w S t x vs → Rep w S' t x vs := fun h => h.mono (Same.refl _ _) g.less
theorem good_rowV (g : Good s H ρ w S H' ρ' S') {t : Ty} {l : List t.den} {v : Value} (h : RowV w S (Rep w S t) t.size l v) : RowV w S' (Rep w S' t) t.size l v :=
  h.mono (Same.refl _ _) g.less (fun _ _ h => good_same g h)

theorem rowV_nil (S : Nat → Prop) {t : Ty} (a : Option Addr) : RowV w S (Rep w S t) t.size [] (.slice a 0 0) :=
  ⟨a, 0, rfl, Nat.le_refl _, fun h => absurd rfl h⟩

theorem rowAt_ok {t : Ty} {b : Nat} {l : List t.den} (h : rowAt t H b = some l) : ∃ o, H.at? b = some o ∧ (o = .row t l ∨ o = .fro t l) := by
  unfold rowAt at h
  split at h
  · rename_i t' l' ho
    obtain ⟨e, rfl⟩ := castL_ok h
    subst e
    exact ⟨_, ho, .inl rfl⟩
  · rename_i t' l' ho
    obtain ⟨e, rfl⟩ := castL_ok h
    subst e
    exact ⟨_, ho, .inr rfl⟩
  · cases h

/-- A row's block, as data for those that only read it. -/
theorem row_block (hh : HRel base S0 ρ H w S) (g : Good s H ρ w S H' ρ' S') {b : Nat} (hb : b ∈ s.Z) {t : Ty} {l : List t.den} {o : AO} (ho : H.at? b = some o) (he : o = .row t l ∨ o = .fro t l) :
    (∃ blk arr elem fz, ρ b = some (blk, arr.size) ∧ w.heap[blk]? = some (.cells arr elem fz) ∧ ¬ S' blk ∧ ∀ i (h : i < l.length), ∃ vs, Rep w S' t l[i] vs ∧ At arr (i * t.size) vs) ∨ (ρ b = none ∧ l = []) := by
  rcases he with rfl | rfl
  · rcases hh.block _ _ ho with ⟨blk, arr, elem, fz, h1, h2, h3, h4⟩ | h
    · refine .inl ⟨blk, arr, elem, fz, h1, h2, g.read b hb _ _ _ ho h1, fun i hi => ?_⟩
      obtain ⟨vs, q1, q2⟩ := h4 i hi
      exact ⟨vs, good_same g q1, q2⟩
    · exact .inr h
  · rcases hh.block _ _ ho with ⟨blk, arr, elem, fz, h1, h2, h3, h4⟩ | h
    · refine .inl ⟨blk, arr, elem, fz, h1, h2, g.read b hb _ _ _ ho h1, fun i hi => ?_⟩
      obtain ⟨vs, q1, q2⟩ := h4 i hi
      exact ⟨vs, good_same g q1, q2⟩
    · exact .inr h

theorem row_facts {t : Ty} {l : List t.den} {o : AO} (he : o = .row t l ∨ o = .fro t l) : o.isRow = true ∧ o.len = l.length ∧ o.elemSize = t.size := by
  rcases he with rfl | rfl <;> exact ⟨rfl, rfl, rfl⟩

theorem rows_of_all (hh : HRel base S0 ρ H w S) (g : Good s H ρ w S H' ρ' S') {b : Nat} (hb : b ∈ s.Z) {t : Ty} {l : List t.den} (hl : rowAt t H b = some l) {v : Value} (hp : PRel ρ H w S (.all b) v) :
    PRel ρ' H' w S' (.rows t l false) v := by
  obtain ⟨o, ho, he⟩ := rowAt_ok hl
  obtain ⟨f1, f2, f3⟩ := row_facts he
  simp only [PRel] at hp ⊢
  refine ⟨?_, fun h => by cases h⟩
  rcases hp.2 _ ho f1 with ⟨blk, n, cap, hr, rfl, hle, hn⟩ | ⟨h0, a, rfl⟩
  · rw [f2] at hle ⊢
    refine ⟨_, cap, rfl, hle, fun _ => ?_⟩
    rcases row_block hh g hb ho he with ⟨blk', arr, elem, fz, h1, h2, h3, h4⟩ | ⟨h1, _⟩
    · rw [hr] at h1; cases h1
      exact ⟨blk, 0, arr, elem, fz, rfl, h3, h2, fun i hi => by simpa using h4 i hi⟩
    · rw [hr] at h1; cases h1
  · rw [f2] at h0
    rw [List.length_eq_zero_iff.mp h0]
    exact rowV_nil S' a

theorem rows_of_sl' (hh : HRel base S0 ρ H w S) (g : Good s H ρ w S H' ρ' S') {b off len : Nat} (hb : b ∈ s.Z) {t : Ty} {l : List t.den} (hl : rowAt t H b = some l) {v : Value} (hp : PRel ρ H w S (.sl b off len) v) :
    PRel ρ' H' w S' (.rows t ((l.drop off).take len) false) v := by
  obtain ⟨o, ho, he⟩ := rowAt_ok hl
  obtain ⟨f1, f2, f3⟩ := row_facts he
  simp only [PRel] at hp ⊢
  refine ⟨?_, fun h => by cases h⟩
  obtain ⟨hle, hc⟩ := hp.2 _ ho f1
  rw [f2] at hle
  have hlen : ((l.drop off).take len).length = len := by simp; omega
  rcases hc with ⟨blk, n, cap, hr, rfl, hlc, hn⟩ | ⟨h0, a, rfl⟩
  · refine ⟨_, cap, by rw [hlen], by omega, fun _ => ?_⟩
    rcases row_block hh g hb ho he with ⟨blk', arr, elem, fz, h1, h2, h3, h4⟩ | ⟨h1, _⟩
    · rw [hr] at h1; cases h1
      refine ⟨blk, off * t.size, arr, elem, fz, by rw [f3], h3, h2, fun i hi => ?_⟩
      rw [hlen] at hi
      obtain ⟨vs, g1, g2⟩ := h4 (off + i) (by omega)
      refine ⟨vs, by simpa using g1, ?_⟩
      rw [← Nat.add_mul]; exact g2
    · rw [hr] at h1; cases h1
  · subst h0
    simp only [List.take_zero]
    exact rowV_nil S' a

theorem bif_some {γ : Type u} {b : Bool} {x : Option γ} {y : γ} (h : (bif b then x else none) = some y) : b = true ∧ x = some y := by
  cases b with
  | true => exact ⟨rfl, h⟩
  | false => cases h

end

section
variable {base : Nat} {S0 : Nat → Prop} {ρ : Loc} {H : Heap} {w : World} {S : Nat → Prop} {β : Type u}

/-- The value goes with what the pattern makes of the holes. -/
def Takes (ρ : Loc) (H : Heap) (w : World) (S : Nat → Prop) (s' : Sig) (v q : PV) : Prop :=
  ∀ (H' : Heap) (ρ' : Loc) (S' : Nat → Prop), Good s' H ρ w S H' ρ' S' → ∀ u, PRel ρ H w S v u → PRel ρ' H' w S' q u
def TakesL (ρ : Loc) (H : Heap) (w : World) (S : Nat → Prop) (s' : Sig) (vs qs : List PV) : Prop :=
  ∀ (H' : Heap) (ρ' : Loc) (S' : Nat → Prop), Good s' H ρ w S H' ρ' S' → ∀ us, PRels ρ H w S vs us → PRels ρ' H' w S' qs us

theorem Takes.le {s s' : Sig} (h : s.le s') {v q : PV} (k : Takes ρ H w S s v q) : Takes ρ H w S s' v q := fun H' ρ' S' g => k H' ρ' S' (g.le h)
theorem TakesL.le {s s' : Sig} (h : s.le s') {v q : List PV} (k : TakesL ρ H w S s v q) : TakesL ρ H w S s' v q := fun H' ρ' S' g => k H' ρ' S' (g.le h)

theorem takes_nil {s : Sig} {t : Ty} {c : Bool} : Takes ρ H w S s (.val (.slice none 0 0)) (.rows t [] c) := by
  intro H' ρ' S' g u hu
  simp only [PRel] at hu ⊢
  subst hu
  exact ⟨rowV_nil S' _, fun _ => ⟨_, rfl⟩⟩
theorem takes_emp {s : Sig} {t : Ty} {c : Bool} : Takes ρ H w S s .emp (.rows t [] c) := by
  intro H' ρ' S' g u hu
  simp only [PRel] at hu ⊢
  obtain ⟨a, rfl⟩ := hu
  exact ⟨rowV_nil S' _, fun _ => ⟨_, rfl⟩⟩

theorem takes_virt {s : Sig} {c : Nat} (h : s.at c = some none) : Takes ρ H w S s .emp (.all c) := by
  intro H' ρ' S' g u hu
  simp only [PRel] at hu ⊢
  obtain ⟨a, rfl⟩ := hu
  obtain ⟨g1, g2⟩ := g.virt c h
  exact ⟨⟨g1, rfl⟩, fun o ho _ => .inr ⟨(g2 o ho).2, a, rfl⟩⟩
theorem takes_virt' {s : Sig} {c : Nat} (h : s.at c = some none) : Takes ρ H w S s (.val (.slice none 0 0)) (.all c) := by
  intro H' ρ' S' g u hu
  refine takes_virt h H' ρ' S' g u ?_
  simp only [PRel] at hu ⊢
  exact ⟨none, hu⟩

theorem takes_all {s : Sig} {c b : Nat} (h : s.at c = some (some b)) : Takes ρ H w S s (.all b) (.all c) := by
  intro H' ρ' S' g u hu
  simp only [PRel] at hu ⊢
  obtain ⟨g1, g2, g3⟩ := g.real c b h
  refine ⟨⟨g1, hu.1.2⟩, fun o' ho' hrow => ?_⟩
  obtain ⟨o, ho, k1, k2, k3, _⟩ := g3 o' ho'
  have := hu.2 o ho (k1 ▸ hrow)
  rw [g2, k2, k3]
  exact this

theorem takes_sl {s : Sig} {c b off len : Nat} (h : s.at c = some (some b)) : Takes ρ H w S s (.sl b off len) (.sl c off len) := by
  intro H' ρ' S' g u hu
  simp only [PRel] at hu ⊢
  obtain ⟨g1, g2, g3⟩ := g.real c b h
  refine ⟨⟨g1, hu.1.2⟩, fun o' ho' hrow => ?_⟩
  obtain ⟨o, ho, k1, k2, k3, _⟩ := g3 o' ho'
  have := hu.2 o ho (k1 ▸ hrow)
  rw [g2, k2, k3]
  exact this

theorem takes_cs {s : Sig} {c b off len sz : Nat} (h : s.at c = some (some b)) : Takes ρ H w S s (.cs b off len sz) (.cs c off len sz) := by
  intro H' ρ' S' g u hu
  simp only [PRel] at hu ⊢
  obtain ⟨g1, g2, g3⟩ := g.real c b h
  refine ⟨⟨g1, hu.1.2⟩, fun cs' ho' => ?_⟩
  obtain ⟨o, ho, k1, k2, k3, k4⟩ := g3 _ ho'
  obtain ⟨cs, rfl, hl⟩ := k4 cs' rfl
  have := hu.2 cs ho
  rw [g2, ← hl]
  exact this

theorem takes_ptr {s : Sig} {c b off : Nat} (h : s.at c = some (some b)) : Takes ρ H w S s (.ptr b off) (.ptr c off) := by
  intro H' ρ' S' g u hu
  simp only [PRel] at hu ⊢
  obtain ⟨g1, g2, g3⟩ := g.real c b h
  refine ⟨⟨g1, hu.1.2⟩, fun hs => ?_⟩
  obtain ⟨o', ho'⟩ := Option.isSome_iff_exists.mp hs
  obtain ⟨o, ho, _⟩ := g3 o' ho'
  rw [g2]
  exact hu.2 (by rw [ho]; rfl)

theorem takes_rptr {s : Sig} {c b i j : Nat} (h : s.at c = some (some b)) : Takes ρ H w S s (.rptr b i j) (.rptr c i j) := by
  intro H' ρ' S' g u hu
  simp only [PRel] at hu ⊢
  obtain ⟨g1, g2, g3⟩ := g.real c b h
  refine ⟨⟨g1, hu.1.2⟩, fun o' ho' hrow => ?_⟩
  obtain ⟨o, ho, k1, k2, k3, _⟩ := g3 o' ho'
  have := hu.2 o ho (k1 ▸ hrow)
  rw [g2, k2, k3]
  exact this

theorem takes_pin {s : Sig} {t : Ty} {x : t.den} {j : Nat} : Takes ρ H w S s (.pin t x j) (.pin t x j) := by
  intro H' ρ' S' g u hu
  simp only [PRel] at hu ⊢
  obtain ⟨blk, off, arr, elem, fz, vs, e, hs, hb, hx, ha⟩ := hu
  exact ⟨blk, off, arr, elem, fz, vs, e, fun h => hs (g.less blk (lt_of_heap hb) h), hb, good_same g hx, ha⟩

theorem takes_dat {s : Sig} {t : Ty} {vs : List PV} {x : t.den} (h : dec t vs = some (x, [])) : Takes ρ H w S s (.agg vs) (.agg (cellsP t x)) := by
  intro H' ρ' S' g u hu
  simp only [PRel] at hu ⊢
  obtain ⟨us, rfl, h1⟩ := hu
  obtain ⟨v1, v2, e, h2, h3⟩ := dec_rep h h1
  simp only [PRels] at h3
  subst h3
  simp only [List.append_nil] at e
  exact ⟨us, rfl, Rep.cellsP (e ▸ good_same g h2)⟩

theorem takes_val {s : Sig} {v : Value} : Takes ρ H w S s (.val v) (.val v) := fun _ _ _ _ _ hu => hu

mutual
theorem pm_ok (hh : HRel base S0 ρ H w S) : ∀ (p : Pat) (v : PV) (s : Sig) (k : denP p → Sig → Option β) (y : β), pm H p v s k = some y → ∃ x s', k x s' = some y ∧ s.le s' ∧ Takes ρ H w S s' v (inst p x)
  | .any, v, s, k, y, h => ⟨(), s, h, s.le_refl, fun _ _ _ _ _ _ => trivial⟩
  | .undef, v, s, k, y, h => by
    simp only [pm] at h
    split at h
    · split at h
      · rename_i x us _ hu
        have : us = #[] := by apply Array.ext'; simpa using hu
        subst this
        exact ⟨(), s, h, s.le_refl, takes_val⟩
      · cases h
    · cases h
  | .nilSlice, v, s, k, y, h => by
    simp only [pm] at h
    split at h
    · exact ⟨(), s, h, s.le_refl, takes_val⟩
    · cases h
  | .nilPtr, v, s, k, y, h => by
    simp only [pm] at h
    split at h
    · exact ⟨(), s, h, s.le_refl, takes_val⟩
    · cases h
  | .nilFunc, v, s, k, y, h => by
    simp only [pm] at h
    split at h
    · exact ⟨(), s, h, s.le_refl, takes_val⟩
    · cases h
  | .nilIface, v, s, k, y, h => by
    simp only [pm] at h
    split at h
    · exact ⟨(), s, h, s.le_refl, takes_val⟩
    · cases h
  | .intC i n, v, s, k, y, h => by
    simp only [pm] at h
    split at h
    · obtain ⟨h1, h2⟩ := bif_some h
      simp only [Bool.and_eq_true, decide_eq_true_eq] at h1
      obtain ⟨rfl, rfl⟩ := h1
      exact ⟨(), s, h2, s.le_refl, takes_val⟩
    · cases h
  | .boolC b, v, s, k, y, h => by
    simp only [pm] at h
    split at h
    · obtain ⟨h1, h2⟩ := bif_some h
      simp only [beq_iff_eq] at h1
      subst h1
      exact ⟨(), s, h2, s.le_refl, takes_val⟩
    · cases h
  | .int i, v, s, k, y, h => by
    simp only [pm] at h
    split at h
    · obtain ⟨h1, h2⟩ := bif_some h
      simp only [decide_eq_true_eq] at h1
      subst h1
      exact ⟨_, s, h2, s.le_refl, takes_val⟩
    · cases h
  | .bool, v, s, k, y, h => by
    simp only [pm] at h
    split at h
    · exact ⟨_, s, h, s.le_refl, takes_val⟩
    · cases h
  | .str, v, s, k, y, h => by
    simp only [pm] at h
    split at h
    · exact ⟨_, s, h, s.le_refl, takes_val⟩
    · cases h
  | .rows t c, v, s, k, y, h => by
    simp only [pm] at h
    split at h
    · rename_i t' l' c'
      obtain ⟨h1, h2⟩ := bif_some h
      split at h2
      · rename_i l hl
        obtain ⟨e, rfl⟩ := castL_ok hl
        subst e
        refine ⟨_, s, h2, s.le_refl, fun H' ρ' S' g u hu => ?_⟩
        simp only [PRel, inst] at hu ⊢
        refine ⟨good_rowV g hu.1, fun hc => hu.2 ?_⟩
        subst hc
        simpa using h1
      · cases h2
    · exact ⟨_, s, h, s.le_refl, takes_nil⟩
    · exact ⟨_, s, h, s.le_refl, takes_emp⟩
    · rename_i b
      cases c with
      | true => cases h
      | false =>
        simp only [cond_false] at h
        split at h
        · rename_i l hl
          refine ⟨_, _, h, ⟨fun _ _ h => h, fun _ h => List.mem_cons_of_mem _ h, rfl⟩, fun H' ρ' S' g u hu => ?_⟩
          exact rows_of_all hh g (List.mem_cons_self ..) hl hu
        · cases h
    · rename_i b off len
      cases c with
      | true => cases h
      | false =>
        simp only [cond_false] at h
        split at h
        · rename_i l hl
          refine ⟨_, _, h, ⟨fun _ _ h => h, fun _ h => List.mem_cons_of_mem _ h, rfl⟩, fun H' ρ' S' g u hu => ?_⟩
          exact rows_of_sl' hh g (List.mem_cons_self ..) hl hu
        · cases h
    · cases h
  | .all c, v, s, k, y, h => by
    simp only [pm] at h
    split at h
    · split at h
      · rename_i s' hs
        obtain ⟨h1, h2⟩ := Sig.bind_ok hs
        exact ⟨_, s', h, h2, takes_all h1⟩
      · cases h
    · split at h
      · rename_i s' hs
        obtain ⟨h1, h2⟩ := Sig.bind_ok hs
        exact ⟨_, s', h, h2, takes_virt' h1⟩
      · cases h
    · split at h
      · rename_i s' hs
        obtain ⟨h1, h2⟩ := Sig.bind_ok hs
        exact ⟨_, s', h, h2, takes_virt h1⟩
      · cases h
    · cases h
  | .sl c, v, s, k, y, h => by
    simp only [pm] at h
    split at h
    · split at h
      · rename_i s' hs
        obtain ⟨h1, h2⟩ := Sig.bind_ok hs
        exact ⟨_, s', h, h2, takes_sl h1⟩
      · cases h
    · cases h
  | .cs c off len sz, v, s, k, y, h => by
    simp only [pm] at h
    split at h
    · obtain ⟨h1, h2⟩ := bif_some h
      simp only [Bool.and_eq_true] at h1
      obtain ⟨⟨e1, e2⟩, e3⟩ := h1
      obtain rfl := Nat.eq_of_beq_eq_true e1
      obtain rfl := Nat.eq_of_beq_eq_true e2
      obtain rfl := Nat.eq_of_beq_eq_true e3
      split at h2
      · rename_i s' hs
        obtain ⟨h1, h3⟩ := Sig.bind_ok hs
        exact ⟨_, s', h2, h3, takes_cs h1⟩
      · cases h2
    · cases h
  | .ptr c off, v, s, k, y, h => by
    simp only [pm] at h
    split at h
    · obtain ⟨h1, h2⟩ := bif_some h
      obtain rfl := Nat.eq_of_beq_eq_true h1
      split at h2
      · rename_i s' hs
        obtain ⟨h1, h3⟩ := Sig.bind_ok hs
        exact ⟨_, s', h2, h3, takes_ptr h1⟩
      · cases h2
    · cases h
  | .rptr c j, v, s, k, y, h => by
    simp only [pm] at h
    split at h
    · obtain ⟨h1, h2⟩ := bif_some h
      obtain rfl := Nat.eq_of_beq_eq_true h1
      split at h2
      · rename_i s' hs
        obtain ⟨h1, h3⟩ := Sig.bind_ok hs
        exact ⟨_, s', h2, h3, takes_rptr h1⟩
      · cases h2
    · cases h
  | .pin t j, v, s, k, y, h => by
    simp only [pm] at h
    split at h
    · obtain ⟨h1, h2⟩ := bif_some h
      obtain rfl := Nat.eq_of_beq_eq_true h1
      split at h2
      · rename_i x r hl
        obtain ⟨e, hx⟩ := castL_ok hl
        subst e
        simp only [List.cons.injEq] at hx
        obtain ⟨rfl, rfl⟩ := hx
        exact ⟨_, s, h2, s.le_refl, takes_pin⟩
      · cases h2
    · cases h
  | .func fn a b, v, s, k, y, h => by
    simp only [pm] at h
    split at h
    · obtain ⟨h1, h2⟩ := bif_some h
      obtain rfl := Nat.eq_of_beq_eq_true h1
      obtain ⟨x1, s1, h3, l1, t1⟩ := pms_ok hh _ _ _ _ _ h2
      obtain ⟨x2, s2, h4, l2, t2⟩ := pms_ok hh _ _ _ _ _ h3
      refine ⟨_, s2, h4, Sig.le_trans l1 l2, fun H' ρ' S' g u hu => ?_⟩
      simp only [PRel, inst] at hu ⊢
      obtain ⟨f, c, e, q1, q2⟩ := hu
      exact ⟨f, c, e, t1.le l2 H' ρ' S' g _ q1, t2 H' ρ' S' g _ q2⟩
    · cases h
  | .iface t p, v, s, k, y, h => by
    simp only [pm] at h
    split at h
    · obtain ⟨h1, h2⟩ := bif_some h
      simp only [decide_eq_true_eq] at h1
      subst h1
      obtain ⟨x1, s1, h3, l1, t1⟩ := pm_ok hh _ _ _ _ _ h2
      refine ⟨_, s1, h3, l1, fun H' ρ' S' g u hu => ?_⟩
      simp only [PRel, inst] at hu ⊢
      obtain ⟨v, e, q1⟩ := hu
      exact ⟨v, e, t1 H' ρ' S' g _ q1⟩
    · cases h
  | .agg ps, v, s, k, y, h => by
    simp only [pm] at h
    split at h
    · obtain ⟨x1, s1, h3, l1, t1⟩ := pms_ok hh _ _ _ _ _ h
      refine ⟨_, s1, h3, l1, fun H' ρ' S' g u hu => ?_⟩
      simp only [PRel, inst] at hu ⊢
      obtain ⟨v, e, q1⟩ := hu
      exact ⟨v, e, t1 H' ρ' S' g _ q1⟩
    · cases h
  | .tuple ps, v, s, k, y, h => by
    simp only [pm] at h
    split at h
    · obtain ⟨x1, s1, h3, l1, t1⟩ := pms_ok hh _ _ _ _ _ h
      refine ⟨_, s1, h3, l1, fun H' ρ' S' g u hu => ?_⟩
      simp only [PRel, inst] at hu ⊢
      obtain ⟨v, e, q1⟩ := hu
      exact ⟨v, e, t1 H' ρ' S' g _ q1⟩
    · cases h
  | .emp, v, s, k, y, h => by
    simp only [pm] at h
    split at h
    · exact ⟨(), s, h, s.le_refl, fun _ _ _ _ _ hu => hu⟩
    · exact ⟨(), s, h, s.le_refl, fun _ _ _ _ _ hu => ⟨none, hu⟩⟩
    · cases h
  | .dat t, v, s, k, y, h => by
    simp only [pm] at h
    split at h
    · split at h
      · rename_i vs x hd
        exact ⟨x, s, h, s.le_refl, takes_dat hd⟩
      · cases h
    · cases h
theorem pms_ok (hh : HRel base S0 ρ H w S) : ∀ (ps : List Pat) (vs : List PV) (s : Sig) (k : denPs ps → Sig → Option β) (y : β), pms H ps vs s k = some y → ∃ x s', k x s' = some y ∧ s.le s' ∧ TakesL ρ H w S s' vs (insts ps x)
  | [], vs, s, k, y, h => by
    simp only [pms] at h
    split at h
    · exact ⟨(), s, h, s.le_refl, fun _ _ _ _ _ hu => hu⟩
    · cases h
  | p :: ps, vs, s, k, y, h => by
    simp only [pms] at h
    split at h
    · obtain ⟨x1, s1, h3, l1, t1⟩ := pm_ok hh _ _ _ _ _ h
      obtain ⟨x2, s2, h4, l2, t2⟩ := pms_ok hh _ _ _ _ _ h3
      refine ⟨_, s2, h4, Sig.le_trans l1 l2, fun H' ρ' S' g us hu => ?_⟩
      simp only [PRels, insts] at hu ⊢
      obtain ⟨u, us, e, q1, q2⟩ := hu
      exact ⟨u, us, e, t1.le l2 H' ρ' S' g _ q1, t2 H' ρ' S' g _ q2⟩
    · cases h
end

end
end Go.Proofs.Ytecjkkofoafhaaa.V
