/- The pure machine, part a: plain data (types, values), how they lie in memory, and what of that stands when memory grows. No program in it. -/
import Derived.Calls
import Derived.Below
import Derived.Laws.World
namespace Go.Proofs.Ytecjkkofoafhaaa.V
open Go.RowKit

/-- Types of plain data. -/
inductive Ty where
  | unit
  | int (k : IntKind)
  | bool
  | str
  | pair (a b : Ty)
  | slice (t : Ty)
  deriving DecidableEq

@[reducible] def Ty.den : Ty → Type
  | .unit => Unit
  | .int _ => Int
  | .bool => Bool
  | .str => ByteArray
  | .pair a b => a.den × b.den
  | .slice t => List t.den

/-- How many cells. -/
def Ty.size : Ty → Nat
  | .unit => 0
  | .int _ => 1
  | .bool => 1
  | .str => 1
  | .pair a b => a.size + b.size
  | .slice _ => 1

def Ty.dflt : (t : Ty) → t.den
  | .unit => ()
  | .int _ => (0 : Int)
  | .bool => false
  | .str => (⟨#[]⟩ : ByteArray)
  | .pair a b => (a.dflt, b.dflt)
  | .slice _ => []

/-- The cells vs lie in arr from o on. -/
def At (arr : Array Value) (o : Nat) (vs : List Value) : Prop := ∀ j (h : j < vs.length), arr[o + j]? = some vs[j]

/-- A slice's value v that reads as l, its elements by R; the block that it lies in is none of S. -/
def RowV {α : Type} (w : World) (S : Nat → Prop) (R : α → List Value → Prop) (sz : Nat) (l : List α) (v : Value) : Prop :=
  ∃ a cap, v = .slice a l.length cap ∧ l.length ≤ cap ∧
    (l ≠ [] → ∃ blk off arr elem fz, a = some ⟨blk, off, none⟩ ∧ ¬ S blk ∧ w.heap[blk]? = some (.cells arr elem fz) ∧
      ∀ i (h : i < l.length), ∃ vs, R l[i] vs ∧ At arr (off + i * sz) vs)

/-- The cells vs are the datum x. -/
def Rep (w : World) (S : Nat → Prop) : (t : Ty) → t.den → List Value → Prop
  | .unit, _, vs => vs = []
  | .int k, n, vs => vs = [.int k n]
  | .bool, b, vs => vs = [.bool b]
  | .str, s, vs => vs = [.string s]
  | .pair a b, x, vs => ∃ v1 v2, vs = v1 ++ v2 ∧ Rep w S a x.1 v1 ∧ Rep w S b x.2 v2
  | .slice t, l, vs => ∃ v, vs = [v] ∧ RowV w S (Rep w S t) t.size l v

theorem Rep.length {w : World} {S : Nat → Prop} : ∀ {t : Ty} {x : t.den} {vs : List Value}, Rep w S t x vs → vs.length = t.size
  | .unit, _, _, h => by obtain rfl := h; rfl
  | .int _, _, _, h => by obtain rfl := h; rfl
  | .bool, _, _, h => by obtain rfl := h; rfl
  | .str, _, _, h => by obtain rfl := h; rfl
  | .pair a b, x, _, h => by
    obtain ⟨v1, v2, rfl, h1, h2⟩ := h
    simp [Ty.size, Rep.length h1, Rep.length h2]
  | .slice _, _, _, h => by obtain ⟨v, rfl, _⟩ := h; rfl

/-- From w to w' no block that there is, and is none of S, has turned. -/
def Same (S : Nat → Prop) (w w' : World) : Prop := w.heap.size ≤ w'.heap.size ∧ ∀ b, b < w.heap.size → ¬ S b → w'.heap[b]? = w.heap[b]?

theorem Same.refl (S : Nat → Prop) (w : World) : Same S w w := ⟨Nat.le_refl _, fun _ _ _ => rfl⟩
theorem Same.trans {S : Nat → Prop} {a b c : World} (h : Same S a b) (k : Same S b c) : Same S a c :=
  ⟨Nat.le_trans h.1 k.1, fun i hi hs => (k.2 i (Nat.lt_of_lt_of_le hi h.1) hs).trans (h.2 i hi hs)⟩

theorem lt_of_heap {w : World} {b : Nat} {o : Obj} (h : w.heap[b]? = some o) : b < w.heap.size := by
  rcases Nat.lt_or_ge b w.heap.size with h' | h'
  · exact h'
  · rw [Array.getElem?_eq_none h'] at h; cases h

theorem RowV.mono {α : Type} {w w' : World} {S S' : Nat → Prop} {R R' : α → List Value → Prop} {sz : Nat} {l : List α} {v : Value}
    (hw : Same S w w') (hS : ∀ b, b < w.heap.size → S' b → S b) (hR : ∀ x vs, R x vs → R' x vs) (h : RowV w S R sz l v) : RowV w' S' R' sz l v := by
  obtain ⟨a, cap, e, hc, hl⟩ := h
  refine ⟨a, cap, e, hc, fun hne => ?_⟩
  obtain ⟨blk, off, arr, elem, fz, ea, hs, hb, hat⟩ := hl hne
  have hlt := lt_of_heap hb
  refine ⟨blk, off, arr, elem, fz, ea, fun hx => hs (hS blk hlt hx), (hw.2 blk hlt hs).trans hb, fun i hi => ?_⟩
  obtain ⟨vs, h1, h2⟩ := hat i hi
  exact ⟨vs, hR _ _ h1, h2⟩

theorem Rep.mono {w w' : World} {S S' : Nat → Prop} (hw : Same S w w') (hS : ∀ b, b < w.heap.size → S' b → S b) :
    ∀ {t : Ty} {x : t.den} {vs : List Value}, Rep w S t x vs → Rep w' S' t x vs
  | .unit, _, _, h => h
  | .int _, _, _, h => h
  | .bool, _, _, h => h
  | .str, _, _, h => h
  | .pair _ _, _, _, h => by
    obtain ⟨v1, v2, e, h1, h2⟩ := h
    exact ⟨v1, v2, e, h1.mono hw hS, h2.mono hw hS⟩
  | .slice _, _, _, h => by
    obtain ⟨v, e, h1⟩ := h
    exact ⟨v, e, h1.mono hw hS (fun _ _ h => h.mono hw hS)⟩

/-- Values of the pure machine. -/
inductive PV where
  /-- a value that leads nowhere -/
  | val (v : Value)
  /-- a slice that nobody writes to: what it holds; clip: its capacity is its length -/
  | rows (t : Ty) (l : List t.den) (clip : Bool)
  /-- a slice of the row b, from element off on -/
  | sl (b off len : Nat)
  /-- the slice that is the whole row b -/
  | all (b : Nat)
  /-- a slice of the cells b, from cell off on, of elements of sz cells -/
  | cs (b off len sz : Nat)
  /-- a pointer to cell off of the cells b -/
  | ptr (b off : Nat)
  /-- a pointer to cell j of element i of the row b -/
  | rptr (b i j : Nat)
  /-- a pointer to cell j of a datum that nobody writes to -/
  | pin (t : Ty) (x : t.den) (j : Nat)
  | func (fn : Fn) (first captured : List PV)
  | iface (t : TypeId) (x : PV)
  | agg (cells : List PV)
  | tuple (vs : List PV)
  /-- an empty slice of capacity 0 -/
  | emp
  /-- whatever -/
  | junk
  deriving Inhabited

/-- Blocks of the pure machine. -/
inductive AO where
  | cells (cs : List PV)
  /-- a row that only this call has; it may be written to -/
  | row (t : Ty) (l : List t.den)
  /-- a row that nobody writes to any more -/
  | fro (t : Ty) (l : List t.den)

abbrev Heap := List (Option AO)

def Heap.at? (H : Heap) (b : Nat) : Option AO := H.getD b none

/-- How many elements a row has. -/
def AO.len : AO → Nat
  | .cells _ => 0
  | .row _ l => l.length
  | .fro _ l => l.length

def AO.elemSize : AO → Nat
  | .cells _ => 0
  | .row t _ => t.size
  | .fro t _ => t.size

def AO.isRow : AO → Bool
  | .cells _ => false
  | _ => true

/-- Which block of memory the row or the cells b are, and how many cells that has; none: no block (an empty row). -/
abbrev Loc := Nat → Option (Nat × Nat)

def isSliceV : Value → Bool
  | .slice .. => true
  | _ => false
def isPtrV : Value → Bool
  | .pointer (some a) => a.spot.isNone
  | _ => false

mutual
def PRel (ρ : Loc) (H : Heap) (w : World) (S : Nat → Prop) : PV → Value → Prop
  | .val x, v => v = x
  | .rows t l clip, v => RowV w S (Rep w S t) t.size l v ∧ (clip = true → ∃ a, v = .slice a l.length l.length)
  | .sl b off len, v => (b < H.length ∧ isSliceV v = true) ∧ ∀ o, H.at? b = some o → o.isRow = true →
      off + len ≤ o.len ∧
      ((∃ blk n cap, ρ b = some (blk, n) ∧ v = .slice (some ⟨blk, off * o.elemSize, none⟩) len cap ∧ len ≤ cap ∧ (off + cap) * o.elemSize ≤ n) ∨
       (len = 0 ∧ ∃ a, v = .slice a 0 0))
  | .all b, v => (b < H.length ∧ isSliceV v = true) ∧ ∀ o, H.at? b = some o → o.isRow = true →
      ((∃ blk n cap, ρ b = some (blk, n) ∧ v = .slice (some ⟨blk, 0, none⟩) o.len cap ∧ o.len ≤ cap ∧ cap * o.elemSize ≤ n) ∨
       (o.len = 0 ∧ ∃ a, v = .slice a 0 0))
  | .cs b off len sz, v => (b < H.length ∧ isSliceV v = true) ∧ ∀ cells, H.at? b = some (.cells cells) → off + len * sz ≤ cells.length ∧ ∃ blk n cap, ρ b = some (blk, n) ∧ v = .slice (some ⟨blk, off, none⟩) len cap ∧ len ≤ cap
  | .ptr b off, v => (b < H.length ∧ isPtrV v = true) ∧ ((H.at? b).isSome = true → ∃ blk n, ρ b = some (blk, n) ∧ v = .pointer (some ⟨blk, off, none⟩))
  | .rptr b i j, v => (b < H.length ∧ isPtrV v = true) ∧ ∀ o, H.at? b = some o → o.isRow = true → i < o.len ∧ ∃ blk n, ρ b = some (blk, n) ∧ v = .pointer (some ⟨blk, i * o.elemSize + j, none⟩)
  | .pin t x j, v => ∃ blk off arr elem fz vs, v = .pointer (some ⟨blk, off + j, none⟩) ∧ ¬ S blk ∧ w.heap[blk]? = some (.cells arr elem fz) ∧ Rep w S t x vs ∧ At arr off vs
  | .func fn first captured, v => ∃ f c, v = .func fn f c ∧ PRels ρ H w S first f.toList ∧ PRels ρ H w S captured c.toList
  | .iface t x, v => ∃ u, v = .iface t u ∧ PRel ρ H w S x u
  | .agg cs, v => ∃ us, v = .agg us ∧ PRels ρ H w S cs us.toList
  | .tuple vs, v => ∃ us, v = .tuple us ∧ PRels ρ H w S vs us.toList
  | .emp, v => ∃ a, v = .slice a 0 0
  | .junk, _ => True
def PRels (ρ : Loc) (H : Heap) (w : World) (S : Nat → Prop) : List PV → List Value → Prop
  | [], vs => vs = []
  | p :: ps, vs => ∃ u us, vs = u :: us ∧ PRel ρ H w S p u ∧ PRels ρ H w S ps us
end

/-- What a block may turn into, so that what leads into it still does. -/
inductive Fits : AO → AO → Prop where
  | cells {cs cs' : List PV} : cs.length = cs'.length → Fits (.cells cs) (.cells cs')
  | row {t : Ty} {l l' : List t.den} : l.length = l'.length → Fits (.row t l) (.row t l')
  | freeze {t : Ty} {l l' : List t.den} : l.length = l'.length → Fits (.row t l) (.fro t l')
  | fro {t : Ty} {l l' : List t.den} : l.length = l'.length → Fits (.fro t l) (.fro t l')

theorem Fits.refl (o : AO) : Fits o o := by
  cases o
  · exact .cells rfl
  · exact .row rfl
  · exact .fro rfl

theorem Fits.facts {o o' : AO} (h : Fits o o') : o.isRow = o'.isRow ∧ o.elemSize = o'.elemSize ∧ o.len = o'.len := by
  cases h <;> simp_all [AO.isRow, AO.elemSize, AO.len]

/-- The heap H turned into H' : nothing that leads into H goes astray. -/
structure HExt (H H' : Heap) : Prop where
  len : H.length ≤ H'.length
  fits : ∀ b, b < H.length → ∀ o', H'.at? b = some o' → ∃ o, H.at? b = some o ∧ Fits o o'

theorem HExt.refl (H : Heap) : HExt H H := ⟨Nat.le_refl _, fun _ _ o' h => ⟨o', h, Fits.refl _⟩⟩

structure LocExt (H : Heap) (ρ ρ' : Loc) : Prop where
  same : ∀ b, b < H.length → ρ' b = ρ b

theorem LocExt.refl (H : Heap) (ρ : Loc) : LocExt H ρ ρ := ⟨fun _ _ => rfl⟩

section
variable {ρ ρ' : Loc} {H H' : Heap} {w w' : World} {S S' : Nat → Prop}
mutual
theorem PRel.mono (hH : HExt H H') (hr : LocExt H ρ ρ') (hw : Same S w w') (hS : ∀ b, b < w.heap.size → S' b → S b) :
    ∀ {p : PV} {v : Value}, PRel ρ H w S p v → PRel ρ' H' w' S' p v
  | .val _, _, h => h
  | .rows t l clip, v, h => ⟨h.1.mono hw hS (fun _ _ h => h.mono hw hS), h.2⟩
  | .sl b off len, v, h => by
    simp only [PRel] at h ⊢
    refine ⟨⟨Nat.lt_of_lt_of_le h.1.1 hH.len, h.1.2⟩, fun o' ho' hrow => ?_⟩
    obtain ⟨o, ho, hf⟩ := hH.fits b h.1.1 o' ho'
    obtain ⟨f1, f2, f3⟩ := hf.facts
    obtain ⟨g1, g2⟩ := h.2 o ho (f1.trans hrow)
    refine ⟨f3 ▸ g1, ?_⟩
    rw [hr.same b h.1.1, ← f2]
    exact g2
  | .all b, v, h => by
    simp only [PRel] at h ⊢
    refine ⟨⟨Nat.lt_of_lt_of_le h.1.1 hH.len, h.1.2⟩, fun o' ho' hrow => ?_⟩
    obtain ⟨o, ho, hf⟩ := hH.fits b h.1.1 o' ho'
    obtain ⟨f1, f2, f3⟩ := hf.facts
    have g := h.2 o ho (f1.trans hrow)
    rw [hr.same b h.1.1, ← f2, ← f3]
    exact g
  | .cs b off len sz, v, h => by
    simp only [PRel] at h ⊢
    refine ⟨⟨Nat.lt_of_lt_of_le h.1.1 hH.len, h.1.2⟩, fun cells ho' => ?_⟩
    obtain ⟨o, ho, hf⟩ := hH.fits b h.1.1 _ ho'
    cases hf with
    | cells e =>
      rw [hr.same b h.1.1, ← e]
      exact h.2 _ ho
  | .ptr b off, v, h => by
    simp only [PRel] at h ⊢
    refine ⟨⟨Nat.lt_of_lt_of_le h.1.1 hH.len, h.1.2⟩, fun hs => ?_⟩
    obtain ⟨o', ho'⟩ := Option.isSome_iff_exists.mp hs
    obtain ⟨o, ho, _⟩ := hH.fits b h.1.1 o' ho'
    rw [hr.same b h.1.1]
    exact h.2 (by rw [ho]; rfl)
  | .rptr b i j, v, h => by
    simp only [PRel] at h ⊢
    refine ⟨⟨Nat.lt_of_lt_of_le h.1.1 hH.len, h.1.2⟩, fun o' ho' hrow => ?_⟩
    obtain ⟨o, ho, hf⟩ := hH.fits b h.1.1 o' ho'
    obtain ⟨f1, f2, f3⟩ := hf.facts
    obtain ⟨g1, g2⟩ := h.2 o ho (f1.trans hrow)
    refine ⟨f3 ▸ g1, ?_⟩
    rw [hr.same b h.1.1, ← f2]
    exact g2
  | .pin t x j, v, h => by
    simp only [PRel] at h ⊢
    obtain ⟨blk, off, arr, elem, fz, vs, e, hs, hb, hx, ha⟩ := h
    have hlt := lt_of_heap hb
    exact ⟨blk, off, arr, elem, fz, vs, e, fun h => hs (hS blk hlt h), (hw.2 blk hlt hs).trans hb, hx.mono hw hS, ha⟩
  | .func fn first captured, v, h => by
    simp only [PRel] at h ⊢
    obtain ⟨f, c, e, h1, h2⟩ := h
    exact ⟨f, c, e, PRels.mono hH hr hw hS h1, PRels.mono hH hr hw hS h2⟩
  | .iface t x, v, h => by
    simp only [PRel] at h ⊢
    obtain ⟨u, e, h1⟩ := h
    exact ⟨u, e, PRel.mono hH hr hw hS h1⟩
  | .agg cs, v, h => by
    simp only [PRel] at h ⊢
    obtain ⟨us, e, h1⟩ := h
    exact ⟨us, e, PRels.mono hH hr hw hS h1⟩
  | .tuple cs, v, h => by
    simp only [PRel] at h ⊢
    obtain ⟨us, e, h1⟩ := h
    exact ⟨us, e, PRels.mono hH hr hw hS h1⟩
  | .emp, _, h => h
  | .junk, _, _ => trivial
theorem PRels.mono (hH : HExt H H') (hr : LocExt H ρ ρ') (hw : Same S w w') (hS : ∀ b, b < w.heap.size → S' b → S b) :
    ∀ {ps : List PV} {vs : List Value}, PRels ρ H w S ps vs → PRels ρ' H' w' S' ps vs
  | [], _, h => h
  | p :: ps, vs, h => by
    simp only [PRels] at h ⊢
    obtain ⟨u, us, e, h1, h2⟩ := h
    exact ⟨u, us, e, PRel.mono hH hr hw hS h1, PRels.mono hH hr hw hS h2⟩
end
end

/-! Lists of values. -/
section
variable {ρ : Loc} {H : Heap} {w : World} {S : Nat → Prop}
theorem PRels.length : ∀ {ps : List PV} {vs : List Value}, PRels ρ H w S ps vs → ps.length = vs.length
  | [], _, h => by simp only [PRels] at h; subst h; rfl
  | p :: ps, _, h => by
    simp only [PRels] at h
    obtain ⟨u, us, rfl, _, h2⟩ := h
    simp [PRels.length h2]
theorem PRels.get : ∀ {ps : List PV} {vs : List Value}, PRels ρ H w S ps vs → ∀ (i : Nat) (p : PV), ps[i]? = some p → ∃ v, vs[i]? = some v ∧ PRel ρ H w S p v
  | [], _, _ => fun i p e => by simp at e
  | p :: ps, _, h => by
    simp only [PRels] at h
    obtain ⟨u, us, rfl, h1, h2⟩ := h
    intro i q e
    cases i with
    | zero => simp at e; subst e; exact ⟨u, by simp, h1⟩
    | succ i => simp at e; obtain ⟨v, e1, e2⟩ := PRels.get h2 i q e; exact ⟨v, by simpa using e1, e2⟩
theorem PRels.append : ∀ {ps qs : List PV} {vs us : List Value}, PRels ρ H w S ps vs → PRels ρ H w S qs us → PRels ρ H w S (ps ++ qs) (vs ++ us)
  | [], _, _, _, h, k => by simp only [PRels] at h; subst h; exact k
  | p :: ps, _, _, _, h, k => by
    simp only [PRels] at h
    obtain ⟨u, us, rfl, h1, h2⟩ := h
    exact ⟨u, _, rfl, h1, PRels.append h2 k⟩
theorem PRels.set : ∀ {ps : List PV} {vs : List Value}, PRels ρ H w S ps vs → ∀ (i : Nat) {p : PV} {v : Value}, PRel ρ H w S p v → PRels ρ H w S (ps.set i p) (vs.set i v)
  | [], _, h => fun i p v _ => by simp only [PRels] at h; subst h; simp [PRels]
  | p :: ps, _, h => by
    simp only [PRels] at h
    obtain ⟨u, us, rfl, h1, h2⟩ := h
    intro i q v hq
    cases i with
    | zero => exact ⟨v, us, rfl, hq, h2⟩
    | succ i => exact ⟨u, _, rfl, h1, PRels.set h2 i hq⟩
theorem PRels.drop : ∀ {ps : List PV} {vs : List Value}, PRels ρ H w S ps vs → ∀ (n : Nat), PRels ρ H w S (ps.drop n) (vs.drop n)
  | [], _, h => fun n => by simp only [PRels] at h; subst h; simp [PRels]
  | p :: ps, _, h => by
    intro n
    cases n with
    | zero => exact h
    | succ n =>
      simp only [PRels] at h
      obtain ⟨u, us, rfl, h1, h2⟩ := h
      simpa using PRels.drop h2 n
theorem PRels.take : ∀ {ps : List PV} {vs : List Value}, PRels ρ H w S ps vs → ∀ (n : Nat), PRels ρ H w S (ps.take n) (vs.take n)
  | [], _, h => fun n => by simp only [PRels] at h; subst h; simp [PRels]
  | p :: ps, _, h => by
    intro n
    simp only [PRels] at h
    obtain ⟨u, us, rfl, h1, h2⟩ := h
    cases n with
    | zero => simp [PRels]
    | succ n =>
      simp only [List.take_succ_cons]
      exact ⟨u, _, rfl, h1, PRels.take h2 n⟩
end

/-- The cells of a plain datum, as values of the pure machine. -/
def cellsP : (t : Ty) → t.den → List PV
  | .unit, _ => []
  | .int k, n => [.val (.int k n)]
  | .bool, b => [.val (.bool b)]
  | .str, s => [.val (.string s)]
  | .pair a b, x => cellsP a x.1 ++ cellsP b x.2
  | .slice t, l => [.rows t l false]

theorem cellsP_length : ∀ (t : Ty) (x : t.den), (cellsP t x).length = t.size
  | .unit, _ => rfl
  | .int _, _ => rfl
  | .bool, _ => rfl
  | .str, _ => rfl
  | .pair a b, x => by simp [cellsP, Ty.size, cellsP_length a, cellsP_length b]
  | .slice _, _ => rfl

theorem Rep.cellsP {ρ : Loc} {H : Heap} {w : World} {S : Nat → Prop} : ∀ {t : Ty} {x : t.den} {vs : List Value}, Rep w S t x vs → PRels ρ H w S (cellsP t x) vs
  | .unit, _, _, h => h
  | .int _, _, _, h => ⟨_, [], h, rfl, rfl⟩
  | .bool, _, _, h => ⟨_, [], h, rfl, rfl⟩
  | .str, _, _, h => ⟨_, [], h, rfl, rfl⟩
  | .pair a b, x, _, h => by
    obtain ⟨v1, v2, rfl, h1, h2⟩ := h
    exact PRels.append (Rep.cellsP h1) (Rep.cellsP h2)
  | .slice t, l, _, h => by
    obtain ⟨v, rfl, h1⟩ := h
    exact ⟨v, [], rfl, ⟨h1, fun h => by cases h⟩, rfl⟩

/-- A plain datum out of cells; what is left of them. -/
def dec : (t : Ty) → List PV → Option (t.den × List PV)
  | .unit, ps => some ((), ps)
  | .int k, ps => match ps with
    | .val (.int k' n) :: r => if k' = k then some (n, r) else none
    | _ => none
  | .bool, ps => match ps with
    | .val (.bool b) :: r => some (b, r)
    | _ => none
  | .str, ps => match ps with
    | .val (.string s) :: r => some (s, r)
    | _ => none
  | .pair a b, ps => match dec a ps with
    | some (x, r) => match dec b r with
      | some (y, r') => some ((x, y), r')
      | none => none
    | none => none
  | .slice t, ps => match ps with
    | .rows t' l _ :: r => if h : t' = t then some (h ▸ l, r) else none
    | .val (.slice none 0 0) :: r => some ([], r)
    | .emp :: r => some ([], r)
    | _ => none

theorem dec_rep {ρ : Loc} {H : Heap} {w : World} {S : Nat → Prop} : ∀ {t : Ty} {ps : List PV} {x : t.den} {r : List PV}, dec t ps = some (x, r) → ∀ {vs : List Value}, PRels ρ H w S ps vs →
    ∃ v1 v2, vs = v1 ++ v2 ∧ Rep w S t x v1 ∧ PRels ρ H w S r v2
  | .unit, ps, x, r, h, vs, hp => by
    simp only [dec, Option.some.injEq, Prod.mk.injEq] at h
    obtain ⟨_, rfl⟩ := h
    exact ⟨[], vs, rfl, rfl, hp⟩
  | .int k, ps, x, r, h, vs, hp => by
    simp only [dec] at h
    split at h
    · split at h
      · rename_i e; subst e
        simp only [Option.some.injEq, Prod.mk.injEq] at h
        obtain ⟨rfl, rfl⟩ := h
        simp only [PRels, PRel] at hp
        obtain ⟨u, us, rfl, rfl, h2⟩ := hp
        exact ⟨[_], us, rfl, rfl, h2⟩
      · cases h
    · cases h
  | .bool, ps, x, r, h, vs, hp => by
    simp only [dec] at h
    split at h
    · simp only [Option.some.injEq, Prod.mk.injEq] at h
      obtain ⟨rfl, rfl⟩ := h
      simp only [PRels, PRel] at hp
      obtain ⟨u, us, rfl, rfl, h2⟩ := hp
      exact ⟨[_], us, rfl, rfl, h2⟩
    · cases h
  | .str, ps, x, r, h, vs, hp => by
    simp only [dec] at h
    split at h
    · simp only [Option.some.injEq, Prod.mk.injEq] at h
      obtain ⟨rfl, rfl⟩ := h
      simp only [PRels, PRel] at hp
      obtain ⟨u, us, rfl, rfl, h2⟩ := hp
      exact ⟨[_], us, rfl, rfl, h2⟩
    · cases h
  | .pair a b, ps, x, r, h, vs, hp => by
    simp only [dec] at h
    split at h
    · rename_i x1 r1 e1
      split at h
      · rename_i x2 r2 e2
        simp only [Option.some.injEq, Prod.mk.injEq] at h
        obtain ⟨rfl, rfl⟩ := h
        obtain ⟨v1, v2, rfl, g1, g2⟩ := dec_rep e1 hp
        obtain ⟨v3, v4, rfl, g3, g4⟩ := dec_rep e2 g2
        exact ⟨v1 ++ v3, v4, by simp, ⟨v1, v3, rfl, g1, g3⟩, g4⟩
      · cases h
    · cases h
  | .slice t, ps, x, r, h, vs, hp => by
    simp only [dec] at h
    split at h
    · split at h
      · rename_i e; subst e
        simp only [Option.some.injEq, Prod.mk.injEq] at h
        obtain ⟨rfl, rfl⟩ := h
        simp only [PRels, PRel] at hp
        obtain ⟨u, us, rfl, h1, h2⟩ := hp
        exact ⟨[u], us, rfl, ⟨u, rfl, h1.1⟩, h2⟩
      · cases h
    · simp only [Option.some.injEq, Prod.mk.injEq] at h
      obtain ⟨rfl, rfl⟩ := h
      simp only [PRels, PRel] at hp
      obtain ⟨u, us, rfl, rfl, h2⟩ := hp
      exact ⟨[_], us, rfl, ⟨_, rfl, none, 0, rfl, Nat.le_refl _, fun h => absurd rfl h⟩, h2⟩
    · simp only [Option.some.injEq, Prod.mk.injEq] at h
      obtain ⟨rfl, rfl⟩ := h
      simp only [PRels, PRel] at hp
      obtain ⟨u, us, rfl, ⟨a, rfl⟩, h2⟩ := hp
      exact ⟨[_], us, rfl, ⟨_, rfl, a, 0, rfl, Nat.le_refl _, fun h => absurd rfl h⟩, h2⟩
    · cases h

/-- What lies in block blk of the world w is what the pure machine holds of it. -/
def BlockRel (ρ : Loc) (H : Heap) (w : World) (S : Nat → Prop) (b : Nat) : AO → Prop
  | .cells cs => ∃ blk arr elem fz, ρ b = some (blk, arr.size) ∧ w.heap[blk]? = some (.cells arr elem fz) ∧ (∀ j, j < arr.size → w.frozen? ⟨blk, j, none⟩ = false) ∧ PRels ρ H w S cs arr.toList
  | .row t l => (∃ blk arr elem fz, ρ b = some (blk, arr.size) ∧ w.heap[blk]? = some (.cells arr elem fz) ∧ (∀ j, j < arr.size → w.frozen? ⟨blk, j, none⟩ = false) ∧
      ∀ i (h : i < l.length), ∃ vs, Rep w S t l[i] vs ∧ At arr (i * t.size) vs) ∨ (ρ b = none ∧ l = [])
  | .fro t l => (∃ blk arr elem fz, ρ b = some (blk, arr.size) ∧ w.heap[blk]? = some (.cells arr elem fz) ∧ ¬ S blk ∧
      ∀ i (h : i < l.length), ∃ vs, Rep w S t l[i] vs ∧ At arr (i * t.size) vs) ∨ (ρ b = none ∧ l = [])

def AO.mutable : AO → Bool
  | .fro _ _ => false
  | _ => true

/-- Where this call may write: base is where its own blocks begin, S0 what belongs to others. -/
structure HRel (base : Nat) (S0 : Nat → Prop) (ρ : Loc) (H : Heap) (w : World) (S : Nat → Prop) : Prop where
  base_le : base ≤ w.heap.size
  outer : ∀ b, S0 b → b < base
  own : ∀ blk, S blk ↔ S0 blk ∨ ∃ b o n, H.at? b = some o ∧ o.mutable = true ∧ ρ b = some (blk, n)
  from_ : ∀ b o blk n, H.at? b = some o → ρ b = some (blk, n) → base ≤ blk ∧ blk < w.heap.size
  inj : ∀ b b' o o' blk n n', H.at? b = some o → H.at? b' = some o' → ρ b = some (blk, n) → ρ b' = some (blk, n') → b = b'
  block : ∀ b o, H.at? b = some o → BlockRel ρ H w S b o

end Go.Proofs.Ytecjkkofoafhaaa.V
