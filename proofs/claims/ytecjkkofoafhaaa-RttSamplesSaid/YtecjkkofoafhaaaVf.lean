/- The pure machine, part f: append; slices and structs built; bytes and strings; lengths. -/
import Derived.Test.YtecjkkofoafhaaaVe
import Derived.Lib.ConvBytes
import Derived.Laws.BytesString
namespace Go.Proofs.Ytecjkkofoafhaaa.V
open Go.RowKit

section
variable {P : Program} {base : Nat} {S0 : Nat → Prop} {ρ : Loc} {H : Heap} {w : World} {S : Nat → Prop}

theorem Rep.one : ∀ {t : Ty} {x : t.den} {vs : List Value}, Rep w S t x vs → ∀ v ∈ vs, v.oneCell' = true
  | .unit, _, _, h, v, hv => by obtain rfl := h; cases hv
  | .int _, _, _, h, v, hv => by obtain rfl := h; simp at hv; subst hv; rfl
  | .bool, _, _, h, v, hv => by obtain rfl := h; simp at hv; subst hv; rfl
  | .str, _, _, h, v, hv => by obtain rfl := h; simp at hv; subst hv; rfl
  | .pair a b, x, _, h, v, hv => by
    obtain ⟨v1, v2, rfl, h1, h2⟩ := h
    rcases List.mem_append.mp hv with hv | hv
    · exact Rep.one h1 v hv
    · exact Rep.one h2 v hv
  | .slice _, _, _, h, v, hv => by
    obtain ⟨u, rfl, a, cap, rfl, _⟩ := h
    simp at hv; subst hv; rfl

/-- The cells us are the data l, one behind the other. -/
def RepL (w : World) (S : Nat → Prop) (t : Ty) : List t.den → List Value → Prop
  | [], us => us = []
  | x :: l, us => ∃ v1 v2, us = v1 ++ v2 ∧ Rep w S t x v1 ∧ RepL w S t l v2

theorem RepL.length {t : Ty} : ∀ {l : List t.den} {us : List Value}, RepL w S t l us → us.length = l.length * t.size
  | [], _, h => by obtain rfl := h; simp
  | x :: l, _, h => by
    obtain ⟨v1, v2, rfl, h1, h2⟩ := h
    simp [h1.length, RepL.length h2, Nat.add_mul, Nat.add_comm]

theorem RepL.one {t : Ty} : ∀ {l : List t.den} {us : List Value}, RepL w S t l us → ∀ v ∈ us, v.oneCell' = true
  | [], _, h, v, hv => by obtain rfl := h; cases hv
  | x :: l, _, h, v, hv => by
    obtain ⟨v1, v2, rfl, h1, h2⟩ := h
    rcases List.mem_append.mp hv with hv | hv
    · exact h1.one v hv
    · exact RepL.one h2 v hv

theorem RepL.append {t : Ty} : ∀ {l l' : List t.den} {us us' : List Value}, RepL w S t l us → RepL w S t l' us' → RepL w S t (l ++ l') (us ++ us')
  | [], _, _, _, h, k => by obtain rfl := h; exact k
  | x :: l, _, _, _, h, k => by
    obtain ⟨v1, v2, rfl, h1, h2⟩ := h
    exact ⟨v1, _, by simp, h1, RepL.append h2 k⟩

theorem RepL.mono {w' : World} {S' : Nat → Prop} (hw : Same S w w') (hS : ∀ b, b < w.heap.size → S' b → S b) {t : Ty} :
    ∀ {l : List t.den} {us : List Value}, RepL w S t l us → RepL w' S' t l us
  | [], _, h => h
  | x :: l, _, h => by
    obtain ⟨v1, v2, e, h1, h2⟩ := h
    exact ⟨v1, v2, e, h1.mono hw hS, RepL.mono hw hS h2⟩

theorem At.append {arr : Array Value} {o : Nat} {us vs : List Value} (h : At arr o us) (k : At arr (o + us.length) vs) : At arr o (us ++ vs) := by
  intro j hj
  by_cases c : j < us.length
  · rw [h j c]; simp [List.getElem_append_left c]
  · simp at hj
    have := k (j - us.length) (by omega)
    rw [show o + us.length + (j - us.length) = o + j by omega] at this
    rw [this, List.getElem_append_right (by omega)]

theorem At.left {arr : Array Value} {o : Nat} {us vs : List Value} (h : At arr o (us ++ vs)) : At arr o us := by
  intro j hj
  rw [h j (by simp; omega), List.getElem_append_left hj]
theorem At.right {arr : Array Value} {o : Nat} {us vs : List Value} (h : At arr o (us ++ vs)) : At arr (o + us.length) vs := by
  intro j hj
  have := h (us.length + j) (by simp; omega)
  rw [← Nat.add_assoc] at this
  rw [this, List.getElem_append_right (by omega)]
  simp

theorem RepL.at {t : Ty} {arr : Array Value} : ∀ {l : List t.den} {us : List Value} {o : Nat}, RepL w S t l us → At arr o us → ∀ i (h : i < l.length), ∃ vs, Rep w S t l[i] vs ∧ At arr (o + i * t.size) vs
  | [], _, _, _, _, i, hi => by simp at hi
  | x :: l, _, o, h, ha, i, hi => by
    obtain ⟨v1, v2, rfl, h1, h2⟩ := h
    cases i with
    | zero => exact ⟨v1, h1, by simpa using ha.left⟩
    | succ i =>
      obtain ⟨vs, g1, g2⟩ := RepL.at h2 ha.right i (by simpa using hi)
      refine ⟨vs, by simpa using g1, ?_⟩
      rw [h1.length] at g2
      rw [Nat.add_mul, Nat.one_mul, show o + (i * t.size + t.size) = o + t.size + i * t.size by omega]
      exact g2

theorem repL_of {t : Ty} {arr : Array Value} : ∀ {l : List t.den} {o : Nat}, (∀ i (h : i < l.length), ∃ vs, Rep w S t l[i] vs ∧ At arr (o + i * t.size) vs) → ∃ us, RepL w S t l us ∧ At arr o us
  | [], _, _ => ⟨[], rfl, fun _ h => by simp at h⟩
  | x :: l, o, h => by
    obtain ⟨v1, h1, a1⟩ := h 0 (by simp)
    obtain ⟨us, h2, a2⟩ := repL_of (l := l) (o := o + t.size) (fun i hi => by
      obtain ⟨vs, g1, g2⟩ := h (i + 1) (by simpa using hi)
      refine ⟨vs, by simpa using g1, ?_⟩
      rwa [Nat.add_mul, Nat.one_mul, show o + (i * t.size + t.size) = o + t.size + i * t.size by omega] at g2)
    refine ⟨v1 ++ us, ⟨v1, us, rfl, by simpa using h1, h2⟩, At.append (by simpa using a1) ?_⟩
    rw [h1.length]; exact a2

/-! #### what a slice holds -/
def castL {s t : Ty} (l : List s.den) : Option (List t.den) := if h : s = t then some (h ▸ l) else none

theorem castL_some {s t : Ty} {l : List s.den} {l' : List t.den} (h : castL l = some l') : ∃ e : s = t, l' = e ▸ l := by
  unfold castL at h
  split at h
  · rename_i e; cases h; exact ⟨e, rfl⟩
  · cases h

def rowsOf (t : Ty) (H : Heap) (p : PV) : Option (List t.den) :=
  match p with
  | .val (.slice none 0 0) => some []
  | .emp => some []
  | .rows _ l _ => castL l
  | .all b => match H.at? b with
    | some (.row _ l) => castL l
    | some (.fro _ l) => castL l
    | _ => none
  | .sl b off len => match H.at? b with
    | some (.row _ l) => (castL l).map fun l => (l.drop off).take len
    | some (.fro _ l) => (castL l).map fun l => (l.drop off).take len
    | _ => none
  | _ => none

/-- v reads as l. -/
def Reads (P : Program) (w : World) (S : Nat → Prop) (t : Ty) (l : List t.den) (v : Value) : Prop :=
  ∃ us, RepL w S t l us ∧ (∃ a c, v = .slice a l.length c) ∧ ∀ xT e, P.underlying xT = some (.slice e) → Src P t.size xT v l.length us w

theorem reads_nil (t : Ty) (a : Option Addr) (c : Nat) : Reads P w S t [] (.slice a 0 c) := by
  refine ⟨[], rfl, ⟨a, c, rfl⟩, fun xT e hk => ?_⟩
  cases a with
  | none => exact Src.ofNil w hk c
  | some a => exact Src.ofSlice w hk a 0 c [] (by simp) (fun j u h => by simp at h) (fun u h => by cases h)

theorem reads_at {t : Ty} {l : List t.den} {blk off cap : Nat} {arr : Array Value} {e : TypeId} {fz : Nat × Nat} (hb : w.heap[blk]? = some (.cells arr e fz))
    (h : ∀ i (h : i < l.length), ∃ vs, Rep w S t l[i] vs ∧ At arr (off + i * t.size) vs) : Reads P w S t l (.slice (some ⟨blk, off, none⟩) l.length cap) := by
  obtain ⟨us, h1, h2⟩ := repL_of h
  refine ⟨us, h1, ⟨_, _, rfl⟩, fun xT e hk => Src.ofSlice w hk _ _ _ us h1.length (fun j u hj => ?_) h1.one⟩
  obtain ⟨hlt, rfl⟩ := List.getElem?_eq_some_iff.mp hj
  rw [addr_add, cell_at hb]
  exact h2 j hlt

theorem rowsOf_reads (hh : HRel base S0 ρ H w S) {t : Ty} {p : PV} {l : List t.den} {v : Value} (hl : rowsOf t H p = some l) (hp : PRel ρ H w S p v) : Reads P w S t l v := by
  have block : ∀ {b : Nat} {o : AO} {s : Ty} {m : List s.den}, H.at? b = some o → (o = .row s m ∨ o = .fro s m) →
      (∃ blk arr elem fz, ρ b = some (blk, arr.size) ∧ w.heap[blk]? = some (.cells arr elem fz) ∧ ∀ i (h : i < m.length), ∃ vs, Rep w S s m[i] vs ∧ At arr (i * s.size) vs) ∨ (ρ b = none ∧ m = []) := by
    rintro b o s m ho (rfl | rfl)
    · rcases hh.block _ _ ho with ⟨blk, arr, elem, fz, h1, h2, h3, h4⟩ | h
      · exact .inl ⟨blk, arr, elem, fz, h1, h2, h4⟩
      · exact .inr h
    · rcases hh.block _ _ ho with ⟨blk, arr, elem, fz, h1, h2, h3, h4⟩ | h
      · exact .inl ⟨blk, arr, elem, fz, h1, h2, h4⟩
      · exact .inr h
  have whole : ∀ {b : Nat} {o : AO} {s : Ty} {m : List s.den}, H.at? b = some o → (o = .row s m ∨ o = .fro s m) → PRel ρ H w S (.all b) v → Reads P w S s m v := by
    intro b o s m ho hor hp
    simp only [PRel] at hp
    have hrow : o.isRow = true := by rcases hor with rfl | rfl <;> rfl
    have hlen : o.len = m.length := by rcases hor with rfl | rfl <;> rfl
    rcases hp.2 o ho hrow with ⟨blk, n, cap, hr, rfl, hle, hn⟩ | ⟨h0, a, rfl⟩
    · rw [hlen]
      rcases block ho hor with ⟨blk', arr, elem, fz, h1, h2, h3⟩ | ⟨h1, rfl⟩
      · rw [hr] at h1; cases h1
        exact reads_at h2 (fun i hi => by simpa using h3 i hi)
      · rw [hr] at h1; cases h1
    · rw [hlen] at h0
      have : m = [] := List.length_eq_zero_iff.mp h0
      subst this
      exact reads_nil s a 0
  have piece : ∀ {b off len : Nat} {o : AO} {s : Ty} {m : List s.den}, H.at? b = some o → (o = .row s m ∨ o = .fro s m) → PRel ρ H w S (.sl b off len) v → Reads P w S s ((m.drop off).take len) v := by
    intro b off len o s m ho hor hp
    simp only [PRel] at hp
    have hrow : o.isRow = true := by rcases hor with rfl | rfl <;> rfl
    have hlen : o.len = m.length := by rcases hor with rfl | rfl <;> rfl
    have hes : o.elemSize = s.size := by rcases hor with rfl | rfl <;> rfl
    obtain ⟨hle, hc⟩ := hp.2 o ho hrow
    have hl2 : ((m.drop off).take len).length = len := by simp; omega
    rcases hc with ⟨blk, n, cap, hr, rfl, _, hn⟩ | ⟨h0, a, rfl⟩
    · rcases block ho hor with ⟨blk', arr, elem, fz, h1, h2, h3⟩ | ⟨h1, rfl⟩
      · rw [hr] at h1; cases h1
        have := reads_at (P := P) (S := S) (l := (m.drop off).take len) (off := off * o.elemSize) (cap := cap) h2 (fun i hi => by
          rw [hl2] at hi
          obtain ⟨vs, g1, g2⟩ := h3 (off + i) (by omega)
          refine ⟨vs, by simpa using g1, ?_⟩
          rw [hes, ← Nat.add_mul]
          exact g2)
        rwa [hl2] at this
      · rw [hr] at h1; cases h1
    · subst h0
      simp only [List.take_zero]
      exact reads_nil s a 0
  unfold rowsOf at hl
  split at hl
  · cases hl; simp only [PRel] at hp; subst hp; exact reads_nil t none 0
  · cases hl; simp only [PRel] at hp; obtain ⟨a, rfl⟩ := hp; exact reads_nil t a 0
  · rename_i s m c0
    obtain ⟨rfl, rfl⟩ := castL_some hl
    simp only [PRel] at hp
    obtain ⟨⟨a, cap, rfl, _, hne⟩, _⟩ := hp
    by_cases hx : l = []
    · subst hx; exact reads_nil _ a cap
    · obtain ⟨blk, off, arr, elem, fz, rfl, h1, h2, h3⟩ := hne hx
      exact reads_at h2 h3
  · split at hl
    · rename_i ho; obtain ⟨rfl, rfl⟩ := castL_some hl; exact whole ho (.inl rfl) hp
    · rename_i ho; obtain ⟨rfl, rfl⟩ := castL_some hl; exact whole ho (.inr rfl) hp
    · cases hl
  · split at hl
    · rename_i m ho
      cases hc : castL (t := t) m with
      | none => rw [hc] at hl; cases hl
      | some m' => rw [hc] at hl; cases hl; obtain ⟨rfl, rfl⟩ := castL_some hc; exact piece ho (.inl rfl) hp
    · rename_i m ho
      cases hc : castL (t := t) m with
      | none => rw [hc] at hl; cases hl
      | some m' => rw [hc] at hl; cases hl; obtain ⟨rfl, rfl⟩ := castL_some hc; exact piece ho (.inr rfl) hp
    · cases hl
  · cases hl

/-! #### a row made anew -/
theorem new_row (hh : HRel base S0 ρ H w S) {t : Ty} {l : List t.den} {us : List Value} {arr : Array Value} {e : TypeId} (fz : Nat × Nat) (hfz : ∀ j, j < arr.size → (decide (fz.1 ≤ j) && decide (j < fz.2)) = false)
    (h : RepL w S t l us) (ha : At arr 0 us) :
    ∃ ρ' S', HRel base S0 ρ' (H ++ [some (.row t l)]) (w.alloc (.cells arr e fz)) S' ∧ Ext base ρ H w S ρ' (H ++ [some (.row t l)]) (w.alloc (.cells arr e fz)) S' ∧ ρ' H.length = some (w.heap.size, arr.size) :=
  hh.alloc (.row t l) (.cells arr e fz) arr.size rfl fun _ _ _ hx hr =>
    .inl ⟨w.heap.size, arr, e, fz, hr, heap_alloc_new, fun j hj => by
      have := heap_alloc_new (w := w) (o := .cells arr e fz)
      unfold World.frozen?
      rw [this]
      exact hfz j hj, fun i hi => by simpa using (h.mono hx.hw hx.hS).at ha i hi⟩

theorem HRel.drew (hh : HRel base S0 ρ H w S) : HRel base S0 ρ H w.drew S := hh.later (Nat.le_refl _) (fun _ _ => rfl)
theorem Ext.drew (hh : HRel base S0 ρ H w S) : Ext base ρ H w S ρ H w.drew S := Ext.later hh.base_le ((Below.refl _ _).drew)

theorem At.ofList {us vs : List Value} : At (us ++ vs).toArray 0 us := by
  intro j hj
  simp [List.getElem?_append_left hj]

/-- The row b, longer: in its place. -/
theorem HRel.regrow (hh : HRel base S0 ρ H w S) {b : Nat} {t : Ty} {l l' : List t.den} {blk : Nat} {arr : Array Value} {e : TypeId} {fz : Nat × Nat} {us' : List Value} (ho : H.at? b = some (.row t l)) (hr : ρ b = some (blk, arr.size))
    (hb : w.heap[blk]? = some (.cells arr e fz)) (hf : ∀ j, j < arr.size → w.frozen? ⟨blk, j, none⟩ = false)
    (hel : ∀ i (h : i < l.length), ∃ vs, Rep w S t l[i] vs ∧ At arr (i * t.size) vs) (h' : RepL w S t l' us') (hroom : l.length * t.size + us'.length ≤ arr.size) :
    ∃ ρ', HRel base S0 ρ' (H.set b none ++ [some (.row t (l ++ l'))]) (w.setCells blk (l.length * t.size) us') S ∧
      Ext base ρ H w S ρ' (H.set b none ++ [some (.row t (l ++ l'))]) (w.setCells blk (l.length * t.size) us') S ∧ ρ' H.length = some (blk, arr.size) := by
  have hlt := at_lt ho
  have hlen : (H.set b none).length = H.length := by simp
  have hSb : S blk := (hh.own blk).mpr (.inr ⟨b, _, _, ho, rfl, hr⟩)
  have hfrom := hh.from_ b _ blk _ ho hr
  obtain ⟨f1, f2, f3, f4⟩ := setCells_frame blk us' (l.length * t.size) w
  have other : ∀ c, c ≠ blk → (w.setCells blk (l.length * t.size) us').heap[c]? = w.heap[c]? := fun c hc => setCells_other blk c hc _ _ _
  have g : ∀ c o1, c < H.length → Heap.at? (H.set b none ++ [some (.row t (l ++ l'))]) c = some o1 → H.at? c = some o1 ∧ c ≠ b := by
    intro c o1 hc h1
    rw [at_append_old (by rw [hlen]; exact hc)] at h1
    by_cases e : b = c
    · subst e; rw [at_set_same hlt] at h1; cases h1
    · rw [at_set_other e] at h1; exact ⟨h1, fun h => e h.symm⟩
  have new : Heap.at? (H.set b none ++ [some (.row t (l ++ l'))]) H.length = some (.row t (l ++ l')) := by
    have := at_append_new (H := H.set b none) (x := some (.row t (l ++ l')))
    rwa [hlen] at this
  have cases_ : ∀ {c o1}, Heap.at? (H.set b none ++ [some (.row t (l ++ l'))]) c = some o1 → c < H.length ∨ c = H.length := by
    intro c o1 h1
    have := at_lt h1
    simp at this
    omega
  have hx : Ext base ρ H w S (ρ.put H.length (some (blk, arr.size))) (H.set b none ++ [some (.row t (l ++ l'))]) (w.setCells blk (l.length * t.size) us') S := by
    refine ⟨⟨by simp, fun c hc o1 h1 => ⟨o1, (g c o1 hc h1).1, Fits.refl _⟩⟩, locext_put _, ⟨by omega, fun c hc hs => other c (fun e => hs (e ▸ hSb))⟩, fun _ _ h => h, ⟨f2, f3, f4, by omega, fun k hk => other k (by omega)⟩⟩
  refine ⟨_, ⟨by rw [f1]; exact hh.base_le, hh.outer, ?_, ?_, ?_, ?_⟩, hx, Loc.put_same⟩
  · intro k
    rw [hh.own k]
    refine or_congr Iff.rfl ⟨?_, ?_⟩
    · rintro ⟨c, o1, n1, h1, h2, h3⟩
      by_cases e : c = b
      · subst e
        rw [hr] at h3; cases h3
        exact ⟨H.length, _, _, new, rfl, Loc.put_same⟩
      · have hc := at_lt h1
        refine ⟨c, o1, n1, ?_, h2, by rw [Loc.put_other (by omega)]; exact h3⟩
        rw [at_append_old (by rw [hlen]; exact hc), at_set_other (fun h => e h.symm)]; exact h1
    · rintro ⟨c, o1, n1, h1, h2, h3⟩
      rcases cases_ h1 with hc | rfl
      · rw [Loc.put_other (by omega)] at h3
        exact ⟨c, o1, n1, (g c o1 hc h1).1, h2, h3⟩
      · rw [Loc.put_same] at h3; cases h3
        exact ⟨b, _, _, ho, rfl, hr⟩
  · intro c o1 blk1 n1 h1 h3
    rw [f1]
    rcases cases_ h1 with hc | rfl
    · rw [Loc.put_other (by omega)] at h3
      exact hh.from_ c o1 blk1 n1 (g c o1 hc h1).1 h3
    · rw [Loc.put_same] at h3; cases h3; exact hfrom
  · intro c c' o1 o2 blk1 n1 n2 h1 h2 h3 h4
    rcases cases_ h1 with hc | rfl <;> rcases cases_ h2 with hc' | rfl
    · rw [Loc.put_other (by omega)] at h3 h4
      exact hh.inj _ _ _ _ _ _ _ (g _ _ hc h1).1 (g _ _ hc' h2).1 h3 h4
    · rw [Loc.put_other (by omega)] at h3
      rw [Loc.put_same] at h4; cases h4
      exact absurd (hh.inj _ _ _ _ _ _ _ (g _ _ hc h1).1 ho h3 hr) (g _ _ hc h1).2
    · rw [Loc.put_other (by omega)] at h4
      rw [Loc.put_same] at h3; cases h3
      exact absurd (hh.inj _ _ _ _ _ _ _ (g _ _ hc' h2).1 ho h4 hr) (g _ _ hc' h2).2
    · rfl
  · intro c o1 h1
    rcases cases_ h1 with hc | rfl
    · obtain ⟨h1, hne⟩ := g c o1 hc h1
      refine (hh.block c o1 h1).mono hx.hH hx.hr hx.hw hx.hS hc (fun blk1 n1 hb1 => other blk1 (fun e1 => ?_))
      subst e1
      exact hne (hh.inj _ _ _ _ _ _ _ h1 ho hb1 hr)
    · rw [new] at h1; cases h1
      refine .inl ⟨blk, (V.sets arr.toList (l.length * t.size) us').toArray, e, fz, ?_, setCells_heap blk _ _ _ hb, fun j hj => ?_, ?_⟩
      · rw [Loc.put_same]; simp [sets_length]
      · rw [World.frozen?_setCells]; exact hf j (by simpa [sets_length] using hj)
      · obtain ⟨us, k1, k2⟩ := repL_of (arr := arr) (o := 0) (l := l) (fun i hi => by simpa using hel i hi)
        have hul := k1.length
        have hA : At (V.sets arr.toList (l.length * t.size) us').toArray 0 (us ++ us') := by
          intro j hj
          simp at hj
          rw [List.getElem?_toArray, sets_get]
          by_cases c : j < us.length
          · rw [if_neg (by omega)]
            have := k2 j c
            simp only [Nat.zero_add] at this ⊢
            rw [List.getElem_append_left c]
            simpa using this
          · rw [if_pos ⟨by omega, by omega, by simp; omega⟩, Nat.zero_add, List.getElem_append_right (by omega), List.getElem?_eq_getElem (by omega)]
            congr 2
            omega
        intro i hi
        obtain ⟨vs, p1, p2⟩ := (RepL.append (k1.mono hx.hw hx.hS) (h'.mono hx.hw hx.hS)).at hA i hi
        exact ⟨vs, p1, by simpa using p2⟩

end
end Go.Proofs.Ytecjkkofoafhaaa.V
