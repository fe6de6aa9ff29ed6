/- The pure machine, part b: how its state goes on: a new block, a store, a row that turns, a call that leaves all alone. -/
import Derived.Test.YtecjkkofoafhaaaVa
import Derived.Laws.IdiomCopy
namespace Go.Proofs.Ytecjkkofoafhaaa.V
open Go.RowKit

theorem frozen_same {w w' : World} {b : Nat} (h : w'.heap[b]? = w.heap[b]?) (j : Nat) : w'.frozen? ⟨b, j, none⟩ = w.frozen? ⟨b, j, none⟩ := by
  unfold World.frozen?; rw [h]

/-- From (ρ, H, w, S) to (ρ', H', w', S'): whatever was related still is; below base nothing has turned. -/
structure Ext (base : Nat) (ρ : Loc) (H : Heap) (w : World) (S : Nat → Prop) (ρ' : Loc) (H' : Heap) (w' : World) (S' : Nat → Prop) : Prop where
  hH : HExt H H'
  hr : LocExt H ρ ρ'
  hw : Same S w w'
  hS : ∀ b, b < w.heap.size → S' b → S b
  below : Below base w w'

theorem Ext.rels {base : Nat} {ρ ρ' : Loc} {H H' : Heap} {w w' : World} {S S' : Nat → Prop} (h : Ext base ρ H w S ρ' H' w' S') {ps : List PV} {vs : List Value}
    (hp : PRels ρ H w S ps vs) : PRels ρ' H' w' S' ps vs := hp.mono h.hH h.hr h.hw h.hS
theorem Ext.rel {base : Nat} {ρ ρ' : Loc} {H H' : Heap} {w w' : World} {S S' : Nat → Prop} (h : Ext base ρ H w S ρ' H' w' S') {p : PV} {v : Value}
    (hp : PRel ρ H w S p v) : PRel ρ' H' w' S' p v := hp.mono h.hH h.hr h.hw h.hS

theorem Fits.trans {a b c : AO} (h : Fits a b) (k : Fits b c) : Fits a c := by
  cases h with
  | cells e => cases k with | cells e' => exact .cells (e.trans e')
  | row e => cases k with
    | row e' => exact .row (e.trans e')
    | freeze e' => exact .freeze (e.trans e')
  | freeze e => cases k with | fro e' => exact .freeze (e.trans e')
  | fro e => cases k with | fro e' => exact .fro (e.trans e')

theorem HExt.trans {a b c : Heap} (h : HExt a b) (k : HExt b c) : HExt a c := by
  refine ⟨Nat.le_trans h.len k.len, fun i hi o' ho' => ?_⟩
  obtain ⟨o1, h1, f1⟩ := k.fits i (Nat.lt_of_lt_of_le hi h.len) o' ho'
  obtain ⟨o2, h2, f2⟩ := h.fits i hi o1 h1
  exact ⟨o2, h2, f2.trans f1⟩

theorem Ext.refl {base : Nat} {ρ : Loc} {H : Heap} {w : World} {S : Nat → Prop} : Ext base ρ H w S ρ H w S :=
  ⟨HExt.refl _, LocExt.refl _ _, Same.refl _ _, fun _ _ h => h, Below.refl _ _⟩

theorem Ext.trans {base : Nat} {ρ ρ' ρ'' : Loc} {H H' H'' : Heap} {w w' w'' : World} {S S' S'' : Nat → Prop}
    (h : Ext base ρ H w S ρ' H' w' S') (k : Ext base ρ' H' w' S' ρ'' H'' w'' S'') : Ext base ρ H w S ρ'' H'' w'' S'' := by
  refine ⟨h.hH.trans k.hH, ⟨fun b hb => (k.hr.same b (Nat.lt_of_lt_of_le hb h.hH.len)).trans (h.hr.same b hb)⟩, ⟨Nat.le_trans h.hw.1 k.hw.1, fun b hb hs => ?_⟩, fun b hb hs => h.hS b hb (k.hS b (Nat.lt_of_lt_of_le hb h.hw.1) hs), h.below.trans k.below⟩
  exact (k.hw.2 b (Nat.lt_of_lt_of_le hb h.hw.1) (fun hs' => hs (h.hS b hb hs'))).trans (h.hw.2 b hb hs)

theorem at_lt {H : Heap} {b : Nat} {o : AO} (h : H.at? b = some o) : b < H.length := by
  unfold Heap.at? at h
  rcases Nat.lt_or_ge b H.length with h' | h'
  · exact h'
  · simp [List.getD, List.getElem?_eq_none h'] at h

theorem at_append_old {H : Heap} {x : Option AO} {b : Nat} (h : b < H.length) : Heap.at? (H ++ [x]) b = H.at? b := by
  simp [Heap.at?, List.getD, List.getElem?_append_left h]
theorem at_append_new {H : Heap} {x : Option AO} : Heap.at? (H ++ [x]) H.length = x := by
  simp [Heap.at?, List.getD]
theorem at_append_lt {H : Heap} {x : Option AO} {b : Nat} {o : AO} (h : Heap.at? (H ++ [x]) b = some o) : b < H.length ∨ b = H.length := by
  have := at_lt h; simp at this; omega

theorem at_set_same {H : Heap} {b : Nat} {x : Option AO} (h : b < H.length) : Heap.at? (H.set b x) b = x := by
  simp [Heap.at?, List.getD, h]
theorem at_set_other {H : Heap} {b c : Nat} {x : Option AO} (h : b ≠ c) : Heap.at? (H.set b x) c = H.at? c := by
  simp [Heap.at?, List.getD, List.getElem?_set_ne h]

section
variable {base : Nat} {S0 : Nat → Prop} {ρ ρ' : Loc} {H H' : Heap} {w w' : World} {S S' : Nat → Prop}

theorem BlockRel.mono {b : Nat} {o : AO} (hH : HExt H H') (hr : LocExt H ρ ρ') (hw : Same S w w') (hS : ∀ b, b < w.heap.size → S' b → S b)
    (hb : b < H.length) (hk : ∀ blk n, ρ b = some (blk, n) → w'.heap[blk]? = w.heap[blk]?) (h : BlockRel ρ H w S b o) : BlockRel ρ' H' w' S' b o := by
  cases o with
  | cells cs =>
    obtain ⟨blk, arr, elem, fz, h1, h2, h3, h4⟩ := h
    exact ⟨blk, arr, elem, fz, (hr.same b hb).trans h1, (hk _ _ h1).trans h2, fun j hj => (frozen_same (hk _ _ h1) j).trans (h3 j hj), h4.mono hH hr hw hS⟩
  | row t l =>
    rcases h with ⟨blk, arr, elem, fz, h1, h2, h3, h4⟩ | ⟨h1, h2⟩
    · refine .inl ⟨blk, arr, elem, fz, (hr.same b hb).trans h1, (hk _ _ h1).trans h2, fun j hj => (frozen_same (hk _ _ h1) j).trans (h3 j hj), fun i hi => ?_⟩
      obtain ⟨vs, g1, g2⟩ := h4 i hi
      exact ⟨vs, g1.mono hw hS, g2⟩
    · exact .inr ⟨(hr.same b hb).trans h1, h2⟩
  | fro t l =>
    rcases h with ⟨blk, arr, elem, fz, h1, h2, h3, h4⟩ | ⟨h1, h2⟩
    · refine .inl ⟨blk, arr, elem, fz, (hr.same b hb).trans h1, (hk _ _ h1).trans h2, fun h => h3 (hS _ (lt_of_heap h2) h), fun i hi => ?_⟩
      obtain ⟨vs, g1, g2⟩ := h4 i hi
      exact ⟨vs, g1.mono hw hS, g2⟩
    · exact .inr ⟨(hr.same b hb).trans h1, h2⟩

/-- A step of others: new memory alone. -/
theorem HRel.later (h : HRel base S0 ρ H w S) (hs : w.heap.size ≤ w'.heap.size) (hk : ∀ b, b < w.heap.size → w'.heap[b]? = w.heap[b]?) : HRel base S0 ρ H w' S := by
  have hw : Same S w w' := ⟨hs, fun b hb _ => hk b hb⟩
  refine ⟨Nat.le_trans h.base_le hs, h.outer, h.own, fun b o blk n ho hb => ?_, h.inj, fun b o ho => ?_⟩
  · have := h.from_ b o blk n ho hb; omega
  · exact (h.block b o ho).mono (HExt.refl _) (LocExt.refl _ _) hw (fun _ _ h => h) (at_lt ho) (fun blk n hb => hk blk (h.from_ b o blk n ho hb).2)

theorem Ext.later (hbase : base ≤ w.heap.size) (hb : Below w.heap.size w w') : Ext base ρ H w S ρ H w' S :=
  ⟨HExt.refl _, LocExt.refl _ _, ⟨hb.size, fun b hb' _ => hb.block b hb'⟩, fun _ _ h => h, hb.mono hbase⟩

/-- The machine's map with one block more. -/
def Loc.put (ρ : Loc) (b : Nat) (x : Option (Nat × Nat)) : Loc := fun c => if c = b then x else ρ c
theorem Loc.put_same {b : Nat} {x : Option (Nat × Nat)} : ρ.put b x b = x := by simp [Loc.put]
theorem Loc.put_other {b c : Nat} {x : Option (Nat × Nat)} (h : c ≠ b) : ρ.put b x c = ρ c := by simp [Loc.put, h]

theorem hext_append (x : Option AO) : HExt H (H ++ [x]) :=
  ⟨by simp, fun b hb o' ho' => ⟨o', by rwa [at_append_old hb] at ho', Fits.refl _⟩⟩
theorem locext_put (x : Option (Nat × Nat)) : LocExt H ρ (ρ.put H.length x) := ⟨fun b hb => Loc.put_other (by omega)⟩

theorem heap_alloc_old {o : Obj} {k : Nat} (h : k < w.heap.size) : (w.alloc o).heap[k]? = w.heap[k]? := Below.heap_alloc w o k h
theorem heap_alloc_new {o : Obj} : (w.alloc o).heap[w.heap.size]? = some o := by
  show (w.heap.push o)[w.heap.size]? = some o
  simp

/-- A new block of this call's own. -/
theorem HRel.alloc (h : HRel base S0 ρ H w S) (o : AO) (obj : Obj) (n : Nat)
    (hm : o.mutable = true)
    (hb : ∀ (ρ' : Loc) (H' : Heap) (S' : Nat → Prop), Ext base ρ H w S ρ' H' (w.alloc obj) S' → ρ' H.length = some (w.heap.size, n) → BlockRel ρ' H' (w.alloc obj) S' H.length o) :
    ∃ ρ' S', HRel base S0 ρ' (H ++ [some o]) (w.alloc obj) S' ∧ Ext base ρ H w S ρ' (H ++ [some o]) (w.alloc obj) S' ∧ ρ' H.length = some (w.heap.size, n) := by
  have hw : Same S w (w.alloc obj) := ⟨by simp, fun b hb _ => heap_alloc_old hb⟩
  have hS : ∀ b, b < w.heap.size → (S b ∨ b = w.heap.size) → S b := fun b hb hs => by rcases hs with hs | hs; exact hs; omega
  have hx : Ext base ρ H w S (ρ.put H.length (some (w.heap.size, n))) (H ++ [some o]) (w.alloc obj) (fun b => S b ∨ b = w.heap.size) :=
    ⟨hext_append _, locext_put _, hw, hS, (Below.refl _ _).alloc h.base_le _⟩
  refine ⟨_, _, ⟨?_, h.outer, ?_, ?_, ?_, ?_⟩, hx, Loc.put_same⟩
  · simp; have := h.base_le; omega
  · intro blk
    constructor
    · rintro (hs | rfl)
      · rcases (h.own blk).mp hs with h0 | ⟨b, o', n', h1, h2, h3⟩
        · exact .inl h0
        · exact .inr ⟨b, o', n', by rw [at_append_old (at_lt h1)]; exact h1, h2, by rw [Loc.put_other (by have := at_lt h1; omega)]; exact h3⟩
      · exact .inr ⟨H.length, o, n, at_append_new, hm, Loc.put_same⟩
    · rintro (h0 | ⟨b, o', n', h1, h2, h3⟩)
      · exact .inl ((h.own blk).mpr (.inl h0))
      · rcases at_append_lt h1 with hb' | rfl
        · rw [at_append_old hb'] at h1
          rw [Loc.put_other (by omega)] at h3
          exact .inl ((h.own blk).mpr (.inr ⟨b, o', n', h1, h2, h3⟩))
        · rw [Loc.put_same] at h3
          cases h3
          exact .inr rfl
  · intro b o' blk n' h1 h3
    rcases at_append_lt h1 with hb' | rfl
    · rw [at_append_old hb'] at h1
      rw [Loc.put_other (by omega)] at h3
      have := h.from_ b o' blk n' h1 h3
      simp; omega
    · rw [Loc.put_same] at h3
      cases h3
      simp; exact h.base_le
  · intro b b' o1 o2 blk n1 n2 h1 h2 h3 h4
    rcases at_append_lt h1 with hb1 | rfl <;> rcases at_append_lt h2 with hb2 | rfl
    · rw [at_append_old hb1] at h1
      rw [at_append_old hb2] at h2
      rw [Loc.put_other (by omega)] at h3 h4
      exact h.inj _ _ _ _ _ _ _ h1 h2 h3 h4
    · rw [at_append_old hb1] at h1
      rw [Loc.put_other (by omega)] at h3
      rw [Loc.put_same] at h4
      cases h4
      have := (h.from_ _ _ _ _ h1 h3).2
      omega
    · rw [at_append_old hb2] at h2
      rw [Loc.put_other (by omega)] at h4
      rw [Loc.put_same] at h3
      cases h3
      have := (h.from_ _ _ _ _ h2 h4).2
      omega
    · rfl
  · intro b o' h1
    rcases at_append_lt h1 with hb' | rfl
    · rw [at_append_old hb'] at h1
      exact (h.block b o' h1).mono hx.hH hx.hr hx.hw hx.hS hb' (fun blk n' hb => heap_alloc_old (h.from_ b o' blk n' h1 hb).2)
    · rw [at_append_new] at h1
      cases h1
      exact hb _ _ _ hx Loc.put_same

/-- A block of this call's own turns; nothing else does. -/
theorem HRel.turn (h : HRel base S0 ρ H w S) {b : Nat} {o o' : AO} {blk n : Nat} (ho : H.at? b = some o) (hm : o.mutable = true) (hm' : o'.mutable = true) (hf : Fits o o') (hρ : ρ b = some (blk, n))
    (hsz : w'.heap.size = w.heap.size) (hk : ∀ c, c ≠ blk → w'.heap[c]? = w.heap[c]?) (hbel : w'.os = w.os ∧ w'.tape = w.tape ∧ w'.output = w.output)
    (hb : Ext base ρ H w S ρ (H.set b (some o')) w' S → BlockRel ρ (H.set b (some o')) w' S b o') :
    HRel base S0 ρ (H.set b (some o')) w' S ∧ Ext base ρ H w S ρ (H.set b (some o')) w' S := by
  have hlt := at_lt ho
  have hSb : S blk := (h.own blk).mpr (.inr ⟨b, o, n, ho, hm, hρ⟩)
  have hfrom := h.from_ b o blk n ho hρ
  have hx : Ext base ρ H w S ρ (H.set b (some o')) w' S := by
    refine ⟨⟨by simp, fun c hc o1 h1 => ?_⟩, LocExt.refl _ _, ⟨by omega, fun c hc hs => hk c (fun e => hs (e ▸ hSb))⟩, fun _ _ h => h, ⟨hbel.1, hbel.2.1, hbel.2.2, by omega, fun k hk' => hk k (by omega)⟩⟩
    by_cases e : b = c
    · subst e
      rw [at_set_same hlt] at h1
      cases h1
      exact ⟨o, ho, hf⟩
    · rw [at_set_other e] at h1
      exact ⟨o1, h1, Fits.refl _⟩
  refine ⟨⟨by rw [hsz]; exact h.base_le, h.outer, ?_, ?_, ?_, ?_⟩, hx⟩
  · intro k
    rw [h.own k]
    refine or_congr Iff.rfl ⟨?_, ?_⟩
    · rintro ⟨c, o1, n1, h1, h2, h3⟩
      by_cases e : b = c
      · subst e
        exact ⟨b, o', n1, at_set_same hlt, hm', h3⟩
      · exact ⟨c, o1, n1, by rw [at_set_other e]; exact h1, h2, h3⟩
    · rintro ⟨c, o1, n1, h1, h2, h3⟩
      by_cases e : b = c
      · subst e
        exact ⟨b, o, n1, ho, hm, h3⟩
      · rw [at_set_other e] at h1
        exact ⟨c, o1, n1, h1, h2, h3⟩
  · intro c o1 blk1 n1 h1 h3
    rw [hsz]
    by_cases e : b = c
    · subst e
      exact h.from_ b o blk1 n1 ho h3
    · rw [at_set_other e] at h1
      exact h.from_ c o1 blk1 n1 h1 h3
  · intro c c' o1 o2 blk1 n1 n2 h1 h2 h3 h4
    have g : ∀ c o1, Heap.at? (H.set b (some o')) c = some o1 → ∃ o2, H.at? c = some o2 := by
      intro c o1 h1
      by_cases e : b = c
      · subst e; exact ⟨o, ho⟩
      · rw [at_set_other e] at h1; exact ⟨o1, h1⟩
    obtain ⟨p1, q1⟩ := g _ _ h1
    obtain ⟨p2, q2⟩ := g _ _ h2
    exact h.inj _ _ _ _ _ _ _ q1 q2 h3 h4
  · intro c o1 h1
    by_cases e : b = c
    · subst e
      rw [at_set_same hlt] at h1
      cases h1
      exact hb hx
    · rw [at_set_other e] at h1
      refine (h.block c o1 h1).mono hx.hH hx.hr hx.hw hx.hS (at_lt h1) (fun blk1 n1 hb1 => hk blk1 (fun e1 => ?_))
      subst e1
      exact e (h.inj _ _ _ _ _ _ _ ho h1 hρ hb1)

/-- A block is given up. -/
theorem HRel.kill (h : HRel base S0 ρ H w S) (b : Nat) :
    ∃ S', HRel base S0 ρ (H.set b none) w S' ∧ Ext base ρ H w S ρ (H.set b none) w S' := by
  have hx : Ext base ρ H w S ρ (H.set b none) w (fun k => S0 k ∨ ∃ c o n, Heap.at? (H.set b none) c = some o ∧ o.mutable = true ∧ ρ c = some (k, n)) := by
    refine ⟨⟨by simp, fun c hc o1 h1 => ?_⟩, LocExt.refl _ _, Same.refl _ _, ?_, Below.refl _ _⟩
    · by_cases e : b = c
      · subst e; rw [at_set_same hc] at h1; cases h1
      · rw [at_set_other e] at h1; exact ⟨o1, h1, Fits.refl _⟩
    · rintro k _ (h0 | ⟨c, o, n, h1, h2, h3⟩)
      · exact (h.own k).mpr (.inl h0)
      · by_cases e : b = c
        · subst e; have hl := at_lt h1; simp at hl; rw [at_set_same hl] at h1; cases h1
        · rw [at_set_other e] at h1; exact (h.own k).mpr (.inr ⟨c, o, n, h1, h2, h3⟩)
  have g : ∀ c o1, Heap.at? (H.set b none) c = some o1 → H.at? c = some o1 := by
    intro c o1 h1
    by_cases e : b = c
    · subst e; have hl := at_lt h1; simp at hl; rw [at_set_same hl] at h1; cases h1
    · rwa [at_set_other e] at h1
  refine ⟨_, ⟨h.base_le, h.outer, fun _ => Iff.rfl, fun c o1 blk n h1 h3 => h.from_ c o1 blk n (g _ _ h1) h3, fun c c' o1 o2 blk n1 n2 h1 h2 h3 h4 => h.inj _ _ _ _ _ _ _ (g _ _ h1) (g _ _ h2) h3 h4, fun c o1 h1 => ?_⟩, hx⟩
  exact (h.block c o1 (g _ _ h1)).mono hx.hH hx.hr hx.hw hx.hS (at_lt (g _ _ h1)) (fun _ _ _ => rfl)

/-- A row is frozen. -/
theorem HRel.freeze (h : HRel base S0 ρ H w S) {b : Nat} {t : Ty} {l : List t.den} (ho : H.at? b = some (.row t l)) :
    ∃ S', HRel base S0 ρ (H.set b (some (.fro t l))) w S' ∧ Ext base ρ H w S ρ (H.set b (some (.fro t l))) w S' := by
  have hlt := at_lt ho
  have hx : Ext base ρ H w S ρ (H.set b (some (.fro t l))) w (fun k => S0 k ∨ ∃ c o n, Heap.at? (H.set b (some (.fro t l))) c = some o ∧ o.mutable = true ∧ ρ c = some (k, n)) := by
    refine ⟨⟨by simp, fun c hc o1 h1 => ?_⟩, LocExt.refl _ _, Same.refl _ _, ?_, Below.refl _ _⟩
    · by_cases e : b = c
      · subst e; rw [at_set_same hc] at h1; cases h1; exact ⟨_, ho, .freeze rfl⟩
      · rw [at_set_other e] at h1; exact ⟨o1, h1, Fits.refl _⟩
    · rintro k _ (h0 | ⟨c, o, n, h1, h2, h3⟩)
      · exact (h.own k).mpr (.inl h0)
      · by_cases e : b = c
        · subst e; rw [at_set_same hlt] at h1; cases h1; cases h2
        · rw [at_set_other e] at h1; exact (h.own k).mpr (.inr ⟨c, o, n, h1, h2, h3⟩)
  have g : ∀ c o1, Heap.at? (H.set b (some (.fro t l))) c = some o1 → ∃ o2, H.at? c = some o2 := by
    intro c o1 h1
    by_cases e : b = c
    · subst e; exact ⟨_, ho⟩
    · rw [at_set_other e] at h1; exact ⟨o1, h1⟩
  refine ⟨_, ⟨h.base_le, h.outer, fun _ => Iff.rfl, fun c o1 blk n h1 h3 => ?_, fun c c' o1 o2 blk n1 n2 h1 h2 h3 h4 => ?_, fun c o1 h1 => ?_⟩, hx⟩
  · obtain ⟨o2, h2⟩ := g _ _ h1
    exact h.from_ c o2 blk n h2 h3
  · obtain ⟨p1, q1⟩ := g _ _ h1
    obtain ⟨p2, q2⟩ := g _ _ h2
    exact h.inj _ _ _ _ _ _ _ q1 q2 h3 h4
  · by_cases e : b = c
    · subst e
      rw [at_set_same hlt] at h1
      cases h1
      have hb := (h.block b _ ho).mono hx.hH hx.hr hx.hw hx.hS hlt (fun _ _ _ => rfl)
      rcases hb with ⟨blk, arr, elem, fz, h1, h2, h3, h4⟩ | hb
      · refine .inl ⟨blk, arr, elem, fz, h1, h2, ?_, h4⟩
        rintro (h0 | ⟨c, o, n, g1, g2, g3⟩)
        · have := h.outer _ h0
          have := (h.from_ b _ _ _ ho h1).1
          omega
        · have e : b = c := by
            obtain ⟨p2, q2⟩ := g _ _ g1
            exact h.inj _ _ _ _ _ _ _ ho q2 h1 g3
          subst e
          rw [at_set_same hlt] at g1
          cases g1
          cases g2
      · exact .inr hb
    · rw [at_set_other e] at h1
      exact (h.block c o1 h1).mono hx.hH hx.hr hx.hw hx.hS (at_lt h1) (fun _ _ _ => rfl)

end
end Go.Proofs.Ytecjkkofoafhaaa.V
