/- The pure machine, part c: what the operations that only reckon, read and write do. -/
import Derived.Test.YtecjkkofoafhaaaVb
import Derived.Laws.Cells
import Derived.Laws.Entries
namespace Go.Proofs.Ytecjkkofoafhaaa.V
open Go.RowKit

/-- A run that asks for nothing but the program. -/
def semPure {α : Type} (P : Program) : Sem α → Option α
  | .pure a => some a
  | .program k => semPure P (k P)
  | _ => none

theorem semPure_run {α : Type} {P : Program} : ∀ {s : Sem α} {a : α}, semPure P s = some a → ∀ w, s.run P w = .ok a w
  | .pure _, _, h, w => by simp only [semPure, Option.some.injEq] at h; subst h; rfl
  | .program k, _, h, w => by simp only [semPure] at h; simpa only [Sem.run] using semPure_run h w
  | .load .., _, h, _ => by simp [semPure] at h
  | .store .., _, h, _ => by simp [semPure] at h
  | .new .., _, h, _ => by simp [semPure] at h
  | .shape .., _, h, _ => by simp [semPure] at h
  | .freeze .., _, h, _ => by simp [semPure] at h
  | .frozen .., _, h, _ => by simp [semPure] at h
  | .getObj .., _, h, _ => by simp [semPure] at h
  | .setObj .., _, h, _ => by simp [semPure] at h
  | .choose .., _, h, _ => by simp [semPure] at h
  | .sys .., _, h, _ => by simp [semPure] at h
  | .mark .., _, h, _ => by simp [semPure] at h
  | .halt .., _, h, _ => by simp [semPure] at h

/-- What an operation comes to, if b: a value; a block that turns; a new block; a block that goes and a new one; one of two values. -/
inductive OpR where
  | still (b : Bool) (p : PV)
  | put (b : Bool) (k : Nat) (o : AO)
  | new (b : Bool) (f : Nat → PV) (o : AO)
  | swap (b : Bool) (k : Nat) (o : AO)
  | pick (c : Bool) (p q : PV)
  | fail

/-- What is told behind what tells nothing. -/
def nothing : PV := .val (.tuple #[])

def OpR.applyTo : OpR → Heap → Option (Bool × PV × Heap)
  | .still b p, H => some (b, p, H)
  | .put b k o, H => some (b, nothing, H.set k (some o))
  | .new b f o, H => some (b, f H.length, H ++ [some o])
  | .swap b k o, H => some (b, .all H.length, H.set k none ++ [some o])
  | .pick c p q, H => some (true, if c then p else q, H)
  | .fail, _ => none

/-- A value, if there is one. -/
def OpR.ofOpt : Option PV → OpR
  | some p => .still true p
  | none => .fail
def OpR.ofTst : Option (Bool × PV) → OpR
  | some (b, p) => .still b p
  | none => .fail

section
variable (P : Program)

def szOf (T : TypeId) : Option Nat := (P.info? T).map (·.size)
def aggOf (T : TypeId) : Option Bool :=
  match P.underlying T with
  | some (.struct _) => some true
  | some (.array ..) => some true
  | some _ => some false
  | none => none
def zeroOf (T : TypeId) : Option Value := (P.info? T).bind (·.zero)

/-- The datum's type of a type, if it is one of plain data. -/
def tyOf : Nat → TypeId → Option Ty
  | 0, _ => none
  | n + 1, T => match P.underlying T with
    | some .bool => some .bool
    | some (.int k) => some (.int k)
    | some .string => some .str
    | some (.slice e) => (tyOf n e).map .slice
    | some (.struct fs) => fs.toList.foldr (fun f r => match tyOf n f.type, r with | some a, some b => some (.pair a b) | _, _ => none) (some .unit)
    | some (.array m e) => (tyOf n e).bind fun a => some (Nat.rec .unit (fun _ r => .pair a r) m)
    | _ => none

end

def isScalar : PV → Bool
  | .agg _ => false
  | .tuple _ => false
  | .junk => false
  | .val (.agg _) => false
  | .val (.tuple _) => false
  | _ => true

/-- The cells of a value. -/
def cellsOf : PV → Option (List PV)
  | .agg cs => some cs
  | .val (.agg us) => some (us.toList.map .val)
  | p => if isScalar p then some [p] else none

section
variable {P : Program} {base : Nat} {S0 : Nat → Prop} {ρ : Loc} {H : Heap} {w : World} {S : Nat → Prop}

theorem PRels.vals : ∀ (us : List Value), PRels ρ H w S (us.map .val) us
  | [] => rfl
  | u :: us => ⟨u, us, rfl, rfl, PRels.vals us⟩

theorem scalar_rel {p : PV} {v : Value} (hs : isScalar p = true) (h : PRel ρ H w S p v) : v.oneCell' = true := by
  cases p with
  | val x =>
    simp only [PRel] at h; subst h
    cases v <;> first | rfl | simp [isScalar] at hs
  | rows t l c => simp only [PRel] at h; obtain ⟨⟨a, cap, rfl, _⟩, _⟩ := h; rfl
  | sl b off len => simp only [PRel] at h; have := h.1.2; cases v <;> first | rfl | simp [isSliceV] at this
  | all b => simp only [PRel] at h; have := h.1.2; cases v <;> first | rfl | simp [isSliceV] at this
  | cs b off len sz => simp only [PRel] at h; have := h.1.2; cases v <;> first | rfl | simp [isSliceV] at this
  | ptr b off => simp only [PRel] at h; have := h.1.2; cases v <;> first | rfl | simp [isPtrV] at this
  | rptr b i j => simp only [PRel] at h; have := h.1.2; cases v <;> first | rfl | simp [isPtrV] at this
  | pin t x j => simp only [PRel] at h; obtain ⟨_, _, _, _, _, _, rfl, _⟩ := h; rfl
  | func fn f c => simp only [PRel] at h; obtain ⟨_, _, rfl, _⟩ := h; rfl
  | iface t x => simp only [PRel] at h; obtain ⟨_, rfl, _⟩ := h; rfl
  | emp => simp only [PRel] at h; obtain ⟨_, rfl⟩ := h; rfl
  | agg _ => simp [isScalar] at hs
  | tuple _ => simp [isScalar] at hs
  | junk => simp [isScalar] at hs

theorem cells_one {v : Value} (h : v.oneCell' = true) : v.cells = #[v] := by
  cases v <;> first | rfl | simp [Value.oneCell'] at h

theorem cellsOf_rel {p : PV} {v : Value} {cs : List PV} (hc : cellsOf p = some cs) (h : PRel ρ H w S p v) : PRels ρ H w S cs v.cells.toList := by
  unfold cellsOf at hc
  split at hc
  · cases hc
    simp only [PRel] at h
    obtain ⟨us, rfl, h1⟩ := h
    exact h1
  · cases hc
    simp only [PRel] at h
    subst h
    exact PRels.vals _
  · split at hc
    · rename_i hs
      cases hc
      rw [cells_one (scalar_rel hs h)]
      exact ⟨v, [], rfl, h, rfl⟩
    · cases hc

/-- s runs, and tells p. -/
def Did (P : Program) (s : Sem Value) (base : Nat) (S0 : Nat → Prop) (ρ : Loc) (H : Heap) (w : World) (S : Nat → Prop) (p : PV) (H' : Heap) : Prop :=
  ∃ ρ' w' S' v, s.run P w = .ok v w' ∧ HRel base S0 ρ' H' w' S' ∧ Ext base ρ H w S ρ' H' w' S' ∧ PRel ρ' H' w' S' p v
/-- s runs, and tells nothing. -/
def DidU (P : Program) (s : Sem Unit) (base : Nat) (S0 : Nat → Prop) (ρ : Loc) (H : Heap) (w : World) (S : Nat → Prop) (H' : Heap) : Prop :=
  ∃ ρ' w' S', s.run P w = .ok () w' ∧ HRel base S0 ρ' H' w' S' ∧ Ext base ρ H w S ρ' H' w' S'

theorem Did.still {s : Sem Value} {p : PV} {v : Value} (hh : HRel base S0 ρ H w S) (hr : s.run P w = .ok v w) (hp : PRel ρ H w S p v) : Did P s base S0 ρ H w S p H :=
  ⟨ρ, w, S, v, hr, hh, Ext.refl, hp⟩

theorem frozen_new {arr : Array Value} {e : TypeId} (j : Nat) : (w.alloc (.cells arr e)).frozen? ⟨w.heap.size, j, none⟩ = false := World.frozen?_alloc_new w arr e j

theorem alloc_cells (hh : HRel base S0 ρ H w S) {cs : List PV} {arr : Array Value} (e : TypeId) (hc : PRels ρ H w S cs arr.toList) :
    ∃ ρ' S', HRel base S0 ρ' (H ++ [some (.cells cs)]) (w.alloc (.cells arr e)) S' ∧ Ext base ρ H w S ρ' (H ++ [some (.cells cs)]) (w.alloc (.cells arr e)) S' ∧ ρ' H.length = some (w.heap.size, arr.size) :=
  hh.alloc (.cells cs) (.cells arr e) arr.size rfl fun _ _ _ hx hr =>
    ⟨w.heap.size, arr, e, (0, 0), hr, heap_alloc_new, fun j _ => frozen_new j, hx.rels hc⟩

/-! #### new variables -/
theorem newVar_run (t : TypeId) (v : Value) : (newVar t v).run P w = .ok ⟨w.heap.size, 0, none⟩ (w.alloc (.cells v.cells t)) := rfl

theorem box_did (hh : HRel base S0 ρ H w S) {p : PV} {v : Value} {cs : List PV} (hc : cellsOf p = some cs) (hp : PRel ρ H w S p v) (T : TypeId) :
    Did P (Instr.box T v) base S0 ρ H w S (.ptr H.length 0) (H ++ [some (.cells cs)]) := by
  obtain ⟨ρ', S', h1, h2, h3⟩ := alloc_cells hh T (cellsOf_rel hc hp)
  refine ⟨ρ', _, S', .pointer (some ⟨w.heap.size, 0, none⟩), rfl, h1, h2, ?_⟩
  simp only [PRel]
  exact ⟨⟨by simp, rfl⟩, fun _ => ⟨_, _, h3, rfl⟩⟩

theorem zeroValue_run {T : TypeId} {z : Value} (h : zeroOf P T = some z) : (zeroValue T).run P w = .ok z w := by
  unfold zeroOf at h
  cases hi : P.info? T with
  | none => rw [hi] at h; cases h
  | some i =>
    rw [hi] at h
    simp only [Option.bind_some] at h
    simp [zeroValue, typeInfo, hi, h]

theorem alloc_did (hh : HRel base S0 ρ H w S) {T : TypeId} {z : Value} (hz : zeroOf P T = some z) :
    Did P (Instr.alloc T true (.tuple #[])) base S0 ρ H w S (.ptr H.length 0) (H ++ [some (.cells (z.cells.toList.map .val))]) := by
  obtain ⟨ρ', S', h1, h2, h3⟩ := alloc_cells hh T (cs := z.cells.toList.map .val) (arr := z.cells) (PRels.vals _)
  refine ⟨ρ', _, S', .pointer (some ⟨w.heap.size, 0, none⟩), ?_, h1, h2, ?_⟩
  · simp only [Instr.alloc, Sem.run_bind, zeroValue_run hz, Result.andThen_ok, newVar_run, Sem.run_pure]
  simp only [PRel]
  exact ⟨⟨by simp, rfl⟩, fun _ => ⟨_, _, h3, rfl⟩⟩

/-! #### loads -/
theorem sizeOf_run {T : TypeId} {n : Nat} (h : szOf P T = some n) : (sizeOf T).run P w = .ok n w := by
  unfold szOf at h
  cases hi : P.info? T with
  | none => rw [hi] at h; cases h
  | some i => rw [hi] at h; cases h; simp [sizeOf, typeInfo, hi]

theorem isAgg_run {T : TypeId} {b : Bool} (h : aggOf P T = some b) : (isAgg T).run P w = .ok b w := by
  unfold aggOf at h
  cases hi : P.underlying T with
  | none => rw [hi] at h; cases h
  | some d =>
    rw [hi] at h
    simp only [isAgg, Sem.run_bind, run_underlying hi, Result.andThen_ok]
    cases d <;> simp_all

theorem addr_add (b o n : Nat) : (⟨b, o, none⟩ : Addr).add n = ⟨b, o + n, none⟩ := by
  unfold Addr.add; split <;> simp_all

theorem cell_at {blk o : Nat} {arr : Array Value} {e : TypeId} {fz : Nat × Nat} (hb : w.heap[blk]? = some (.cells arr e fz)) : w.cell? ⟨blk, o, none⟩ = arr[o]? := by
  simp [World.cell?, hb]

/-- The cells, as one value. -/
def mk (g : Bool) (n : Nat) (cs : List PV) : Option PV :=
  if cs.length = n then (if g then some (.agg cs) else match cs with | [p] => some p | _ => none) else none

theorem loadVar_run {T : TypeId} {n : Nat} {g : Bool} (hs : szOf P T = some n) (hg : aggOf P T = some g)
    {blk o : Nat} {arr : Array Value} {e : TypeId} {fz : Nat × Nat} {cs : List PV} {vs : List Value} {p : PV} (hb : w.heap[blk]? = some (.cells arr e fz)) (ha : At arr o vs)
    (hc : PRels ρ H w S cs vs) (hm : mk g n cs = some p) : ∃ u, (loadVar T ⟨blk, o, none⟩).run P w = .ok u w ∧ PRel ρ H w S p u := by
  unfold mk at hm
  split at hm
  · rename_i hl
    have hl' : vs.length = n := by rw [← hc.length]; exact hl
    cases g with
    | true =>
      simp only [if_true] at hm
      cases hm
      refine ⟨.agg vs.toArray, ?_, ⟨_, rfl, by simpa using hc⟩⟩
      simp only [loadVar, Sem.run_bind, isAgg_run hg, sizeOf_run hs, Result.andThen_ok, if_true]
      rw [← hl', run_loadCells_list (P := P) (w := w) (a := ⟨blk, o, none⟩) (cs := vs) (fun j v hj => by
        rw [addr_add, cell_at hb]
        obtain ⟨hlt, rfl⟩ := List.getElem?_eq_some_iff.mp hj
        exact ha j hlt)]
      rfl
    | false =>
      simp only [Bool.false_eq_true, if_false] at hm
      split at hm
      · cases hm
        simp only [PRels] at hc
        obtain ⟨u, us, rfl, h1, h2⟩ := hc
        refine ⟨u, ?_, h1⟩
        have h0 := ha 0 (by simp)
        simp only [Nat.add_zero, List.getElem_cons_zero] at h0
        simp only [loadVar, Sem.run_bind, isAgg_run hg, Result.andThen_ok, Bool.false_eq_true, if_false, run_load, cell_at hb, h0]
      · cases hm
  · cases hm

/-- What lies at p. -/
def loadP (P : Program) (T : TypeId) (p : PV) (H : Heap) : Option PV :=
  match szOf P T, aggOf P T with
  | some n, some g => match p with
    | .ptr b off => match H.at? b with
      | some (.cells cs) => mk g n ((cs.drop off).take n)
      | _ => none
    | .rptr b i j => match H.at? b with
      | some (.row t l) => mk g n (((cellsP t (l.getD i t.dflt)).drop j).take n)
      | some (.fro t l) => mk g n (((cellsP t (l.getD i t.dflt)).drop j).take n)
      | _ => none
    | .pin t x j => mk g n (((cellsP t x).drop j).take n)
    | _ => none
  | _, _ => none

theorem At.sub {arr : Array Value} {o : Nat} {vs : List Value} (h : At arr o vs) (j n : Nat) : At arr (o + j) ((vs.drop j).take n) := by
  intro i hi
  have hi' : j + i < vs.length := by simp at hi; omega
  have := h (j + i) hi'
  rw [← Nat.add_assoc] at this
  rw [this]
  simp

theorem At.toList {arr : Array Value} : At arr 0 arr.toList := by
  intro j hj
  simp at hj
  simp [hj]

theorem getD_lt {α : Type} {l : List α} {i : Nat} {d : α} (h : i < l.length) : l.getD i d = l[i] := by simp [List.getD, h]

theorem load_run (hh : HRel base S0 ρ H w S) {T : TypeId} {p q : PV} {v : Value} (hl : loadP P T p H = some q) (hp : PRel ρ H w S p v) :
    ∃ ad u, v = .pointer (some ad) ∧ (loadVar T ad).run P w = .ok u w ∧ PRel ρ H w S q u := by
  unfold loadP at hl
  split at hl
  · rename_i n g hs hg
    split at hl
    · -- ptr
      rename_i b off
      split at hl
      · rename_i cs ho
        simp only [PRel] at hp
        obtain ⟨blk, m, hr, rfl⟩ := hp.2 (by rw [ho]; rfl)
        obtain ⟨blk', arr, elem, fz, h1, h2, h3, h4⟩ := hh.block _ _ ho
        rw [hr] at h1; cases h1
        have : At arr off ((arr.toList.drop off).take n) := by simpa using At.toList.sub off n
        exact ⟨_, _, rfl, (loadVar_run hs hg h2 this ((h4.drop off).take n) hl).choose_spec⟩
      · cases hl
    · -- rptr
      rename_i b i j
      split at hl
      · rename_i t l ho
        simp only [PRel] at hp
        obtain ⟨hi, blk, m, hr, rfl⟩ := hp.2 _ ho rfl
        simp only [AO.len] at hi
        rcases hh.block _ _ ho with ⟨blk', arr, elem, fz, h1, h2, h3, h4⟩ | ⟨h1, rfl⟩
        · rw [hr] at h1; cases h1
          obtain ⟨vs, g1, g2⟩ := h4 i hi
          rw [getD_lt hi] at hl
          exact ⟨_, _, rfl, (loadVar_run hs hg h2 (g2.sub j n) (((Rep.cellsP g1).drop j).take n) hl).choose_spec⟩
        · simp at hi
      · rename_i t l ho
        simp only [PRel] at hp
        obtain ⟨hi, blk, m, hr, rfl⟩ := hp.2 _ ho rfl
        simp only [AO.len] at hi
        rcases hh.block _ _ ho with ⟨blk', arr, elem, fz, h1, h2, h3, h4⟩ | ⟨h1, rfl⟩
        · rw [hr] at h1; cases h1
          obtain ⟨vs, g1, g2⟩ := h4 i hi
          rw [getD_lt hi] at hl
          exact ⟨_, _, rfl, (loadVar_run hs hg h2 (g2.sub j n) (((Rep.cellsP g1).drop j).take n) hl).choose_spec⟩
        · simp at hi
      · cases hl
    · rename_i t x j
      simp only [PRel] at hp
      obtain ⟨blk, off, arr, elem, fz, vs, rfl, h1, h2, h3, h4⟩ := hp
      exact ⟨_, _, rfl, (loadVar_run hs hg h2 (h4.sub j n) (((Rep.cellsP h3).drop j).take n) hl).choose_spec⟩
    · cases hl
  · cases hl

theorem load_did (hh : HRel base S0 ρ H w S) {T : TypeId} {p q : PV} {v : Value} (hl : loadP P T p H = some q) (hp : PRel ρ H w S p v) :
    Did P (Instr.loadAt T v) base S0 ρ H w S q H := by
  obtain ⟨ad, u, rfl, h1, h2⟩ := load_run hh hl hp
  refine Did.still hh (v := u) ?_ h2
  simp only [Instr.loadAt, Instr.sureAddr, Sem.run_bind, Sem.run_pure, Result.andThen_ok, h1]

/-! #### stores -/
def sets {α : Type} : List α → Nat → List α → List α
  | l, _, [] => l
  | l, o, v :: r => sets (l.set o v) (o + 1) r

theorem sets_length {α : Type} : ∀ (vs : List α) (l : List α) (o : Nat), (sets l o vs).length = l.length
  | [], _, _ => rfl
  | v :: r, l, o => by simp [sets, sets_length r]

theorem PRels.sets : ∀ {qs : List PV} {us : List Value} {ps : List PV} {vs : List Value} (o : Nat), PRels ρ H w S ps vs → PRels ρ H w S qs us → PRels ρ H w S (V.sets ps o qs) (V.sets vs o us)
  | [], us, ps, vs, o, h, k => by simp only [PRels] at k; subst k; exact h
  | q :: qs, _, ps, vs, o, h, k => by
    simp only [PRels] at k
    obtain ⟨u, us, rfl, k1, k2⟩ := k
    exact PRels.sets (o + 1) (h.set o k1) k2

theorem sets_get {α : Type} : ∀ (vs : List α) (l : List α) (o j : Nat), (sets l o vs)[j]? = if o ≤ j ∧ j < o + vs.length ∧ j < l.length then vs[j - o]? else l[j]?
  | [], l, o, j => by simp [sets]; omega
  | v :: r, l, o, j => by
    rw [sets, sets_get r]
    simp only [List.length_set, List.length_cons]
    by_cases h : o = j
    · subst h
      rw [if_neg (by omega)]
      by_cases hl : o < l.length
      · rw [if_pos (by omega)]; simp [hl]
      · rw [if_neg (by omega)]; rw [List.getElem?_eq_none (by rw [List.length_set]; omega), List.getElem?_eq_none (by omega)]
    · by_cases h1 : o + 1 ≤ j ∧ j < o + 1 + r.length ∧ j < l.length
      · rw [if_pos h1, if_pos (by omega)]
        obtain ⟨k, rfl⟩ : ∃ k, j = o + 1 + k := ⟨j - (o + 1), by omega⟩
        have e1 : o + 1 + k - (o + 1) = k := by omega
        have e2 : o + 1 + k - o = k + 1 := by omega
        rw [e1, e2]; rfl
      · rw [if_neg h1, if_neg (by omega)]
        simp [List.getElem?_set_ne h]

theorem setCells_heap (blk : Nat) : ∀ (vs : List Value) (o : Nat) (w : World) {arr : Array Value} {e : TypeId} {fz : Nat × Nat}, w.heap[blk]? = some (.cells arr e fz) →
    (w.setCells blk o vs).heap[blk]? = some (.cells (V.sets arr.toList o vs).toArray e fz)
  | [], _, w, arr, e, fz, h => by simpa [World.setCells, V.sets] using h
  | v :: r, o, w, arr, e, fz, h => by
    have h1 : (w.setCell ⟨blk, o, none⟩ v).heap[blk]? = some (.cells (arr.setIfInBounds o v) e fz) := by
      simp only [World.setCell, Array.getElem?_modify, if_true, h, Option.map_some]; rfl
    rw [World.setCells, setCells_heap blk r (o + 1) _ h1]
    simp [V.sets]

theorem setCells_other (blk c : Nat) (hc : c ≠ blk) : ∀ (vs : List Value) (o : Nat) (w : World), (w.setCells blk o vs).heap[c]? = w.heap[c]?
  | [], _, _ => rfl
  | v :: r, o, w => by
    rw [World.setCells, setCells_other blk c hc r]
    exact Below.heap_setCell w _ v c hc

theorem setCells_frame (blk : Nat) : ∀ (vs : List Value) (o : Nat) (w : World), (w.setCells blk o vs).heap.size = w.heap.size ∧ (w.setCells blk o vs).os = w.os ∧ (w.setCells blk o vs).tape = w.tape ∧ (w.setCells blk o vs).output = w.output
  | [], _, _ => ⟨rfl, rfl, rfl, rfl⟩
  | v :: r, o, w => by
    obtain ⟨a, b, c, d⟩ := setCells_frame blk r (o + 1) (w.setCell ⟨blk, o, none⟩ v)
    rw [World.setCells]
    exact ⟨a.trans (by simp [World.setCell]), b, c, d⟩

theorem storeVar_run {T : TypeId} {v : Value} {n blk o : Nat} {arr : Array Value} {e : TypeId} {fz : Nat × Nat} (hs : szOf P T = some n) (hn : v.cells.size = n)
    (hb : w.heap[blk]? = some (.cells arr e fz)) (ho : o + n ≤ arr.size) (hf : ∀ j, j < arr.size → w.frozen? ⟨blk, j, none⟩ = false) (h1 : ∀ x ∈ v.cells.toList, x.oneCell' = true) :
    (storeVar T ⟨blk, o, none⟩ v).run P w = .ok () (w.setCells blk o v.cells.toList) := by
  simp only [storeVar, Sem.run_bind, sizeOf_run hs, Result.andThen_ok]
  rw [if_neg (by simp [hn])]
  have := run_storeCells_cells (P := P) blk o v.cells.toList 0 w (fun j hj => by
      simp at hj
      rw [cell_at hb, Nat.add_zero, Array.getElem?_eq_getElem (by omega)]; rfl) (fun j hj => by
      simp at hj
      exact hf _ (by omega)) h1
  simpa using this

/-- p takes q's cells. -/
def storeP (P : Program) (T : TypeId) (p q : PV) (H : Heap) : OpR :=
  match szOf P T, cellsOf q with
  | some n, some cs => if cs.length = n ∧ cs.all isScalar then match p with
    | .ptr b off => match H.at? b with
      | some (.cells ps) => if off + n ≤ ps.length then .put true b (.cells (sets ps off cs)) else .fail
      | _ => .fail
    | .rptr b i j => match H.at? b with
      | some (.row t l) => if j + n ≤ t.size then match dec t (sets (cellsP t (l.getD i t.dflt)) j cs) with
        | some (x, []) => .put true b (.row t (l.set i x))
        | _ => .fail else .fail
      | _ => .fail
    | _ => .fail else .fail
  | _, _ => .fail

theorem scalars {cs : List PV} : ∀ {vs : List Value}, cs.all isScalar = true → PRels ρ H w S cs vs → ∀ x ∈ vs, x.oneCell' = true := by
  induction cs with
  | nil => intro vs _ h x hx; simp only [PRels] at h; subst h; cases hx
  | cons c cs ih =>
    intro vs hs h x hx
    simp only [PRels] at h
    obtain ⟨u, us, rfl, h1, h2⟩ := h
    simp only [List.all_cons, Bool.and_eq_true] at hs
    rcases List.mem_cons.mp hx with rfl | hx
    · exact scalar_rel hs.1 h1
    · exact ih hs.2 h2 x hx

theorem store_did (hh : HRel base S0 ρ H w S) {T : TypeId} {p q : PV} {v u : Value} {r : PV} {H' : Heap} (hl : (storeP P T p q H).applyTo H = some (true, r, H')) (hp : PRel ρ H w S p v) (hq : PRel ρ H w S q u) :
    r = nothing ∧ DidU P (Instr.storeAt T v u) base S0 ρ H w S H' := by
  unfold storeP at hl
  split at hl
  · rename_i n cs hs hc
    split at hl
    · rename_i hcs
      obtain ⟨hn, hsc⟩ := hcs
      have hrel := cellsOf_rel hc hq
      have hlen : u.cells.size = n := by have := hrel.length; simp at this; omega
      have hone := scalars hsc hrel
      split at hl
      · rename_i b off
        split at hl
        · rename_i ps ho
          split at hl
          · rename_i hle
            simp only [OpR.applyTo, Option.some.injEq, Prod.mk.injEq, true_and] at hl
            obtain ⟨hnot, rfl⟩ := hl
            simp only [PRel] at hp
            obtain ⟨blk, m, hr, rfl⟩ := hp.2 (by rw [ho]; rfl)
            obtain ⟨blk', arr, elem, fz, h1, h2, h3, h4⟩ := hh.block _ _ ho
            rw [hr] at h1; cases h1
            have hsz : ps.length = arr.size := by simpa using h4.length
            have hrun := storeVar_run (P := P) (w := w) hs hlen h2 (by rw [← hsz]; exact hle) h3 hone
            obtain ⟨f1, f2, f3, f4⟩ := setCells_frame blk u.cells.toList off w
            obtain ⟨g1, g2⟩ := hh.turn (w' := w.setCells blk off u.cells.toList) (o' := .cells (sets ps off cs)) ho rfl rfl (.cells (by rw [sets_length])) hr f1
              (fun c hc => setCells_other blk c hc _ _ _) ⟨f2, f3, f4⟩ (fun hx => by
                refine ⟨blk, (V.sets arr.toList off u.cells.toList).toArray, elem, fz, ?_, setCells_heap blk _ _ _ h2, fun j hj => ?_, ?_⟩
                · rw [hr]; simp [sets_length]
                · rw [World.frozen?_setCells]; exact h3 j (by simpa [sets_length] using hj)
                · simpa using hx.rels (PRels.sets off h4 hrel))
            exact ⟨hnot.symm, ρ, _, S, hrun, g1, g2⟩
          · cases hl
        · cases hl
      · rename_i b i j
        split at hl
        · rename_i t l ho
          split at hl
          · rename_i hle
            split at hl
            · rename_i x hx
              simp only [OpR.applyTo, Option.some.injEq, Prod.mk.injEq, true_and] at hl
              obtain ⟨hnot, rfl⟩ := hl
              simp only [PRel] at hp
              obtain ⟨hi, blk, m, hr, rfl⟩ := hp.2 _ ho rfl
              simp only [AO.len] at hi
              rcases hh.block _ _ ho with ⟨blk', arr, elem, fz, h1, h2, h3, h4⟩ | ⟨h1, rfl⟩
              · rw [hr] at h1; cases h1
                obtain ⟨old, k1, k2⟩ := h4 i hi
                have hold := k1.length
                rw [getD_lt hi] at hx
                have hfit : i * t.size + j + n ≤ arr.size := by
                  by_cases hz : n = 0 ∧ j = 0
                  · obtain ⟨rfl, rfl⟩ := hz
                    by_cases ht : t.size = 0
                    · simp [ht]
                    · have hlt : 0 < old.length := by omega
                      have := k2 (old.length - 1) (by omega)
                      have hb2 : i * t.size + (old.length - 1) < arr.size := by
                        rcases Nat.lt_or_ge (i * t.size + (old.length - 1)) arr.size with h | h
                        · exact h
                        · rw [Array.getElem?_eq_none h] at this; cases this
                      omega
                  · have hlt : 0 < old.length := by omega
                    have := k2 (old.length - 1) (by omega)
                    have hb2 : i * t.size + (old.length - 1) < arr.size := by
                      rcases Nat.lt_or_ge (i * t.size + (old.length - 1)) arr.size with h | h
                      · exact h
                      · rw [Array.getElem?_eq_none h] at this; cases this
                    omega
                have hrun := storeVar_run (P := P) (w := w) (o := i * t.size + j) hs hlen h2 hfit h3 hone
                obtain ⟨f1, f2, f3, f4⟩ := setCells_frame blk u.cells.toList (i * t.size + j) w
                obtain ⟨g1, g2⟩ := hh.turn (w' := w.setCells blk (i * t.size + j) u.cells.toList) (o' := .row t (l.set i x)) ho rfl rfl (.row (by simp)) hr f1
                  (fun c hc => setCells_other blk c hc _ _ _) ⟨f2, f3, f4⟩ (fun hxx => by
                    refine .inl ⟨blk, (V.sets arr.toList (i * t.size + j) u.cells.toList).toArray, elem, fz, ?_, setCells_heap blk _ _ _ h2, fun k hk => ?_, fun i' hi' => ?_⟩
                    · rw [hr]; simp [sets_length]
                    · rw [World.frozen?_setCells]; exact h3 k (by simpa [sets_length] using hk)
                    · simp only [List.length_set] at hi'
                      by_cases e : i = i'
                      · subst e
                        obtain ⟨v1, v2, e1, e2, e3⟩ := dec_rep hx (PRels.sets j (Rep.cellsP (ρ := ρ) (H := H) k1) hrel)
                        simp only [PRels] at e3
                        subst e3
                        simp only [List.append_nil] at e1
                        refine ⟨v1, by simpa using e2.mono hxx.hw hxx.hS, fun k hk => ?_⟩
                        subst e1
                        rw [sets_length] at hk
                        have hk2 := k2 k hk
                        simp only [List.getElem?_toArray, sets_get]
                        have hin : i * t.size + k < arr.size := by
                          rcases Nat.lt_or_ge (i * t.size + k) arr.size with h | h
                          · exact h
                          · rw [Array.getElem?_eq_none h] at hk2; cases hk2
                        rw [← List.getElem?_eq_getElem (h := by rw [sets_length]; exact hk), sets_get]
                        by_cases c : j ≤ k ∧ k < j + u.cells.toList.length ∧ k < old.length
                        · rw [if_pos c, if_pos (by simp at c ⊢; omega)]
                          congr 1
                          omega
                        · rw [if_neg c, if_neg (by simp at c ⊢; omega), List.getElem?_eq_getElem hk]
                          simpa using hk2
                      · obtain ⟨vs, p1, p2⟩ := h4 i' hi'
                        refine ⟨vs, ?_, fun k hk => ?_⟩
                        · rw [List.getElem_set_ne e]; exact p1.mono hxx.hw hxx.hS
                        · have pl := p1.length
                          simp only [List.getElem?_toArray, sets_get]
                          have hlu : u.cells.toList.length = n := by simpa using hlen
                          rw [if_neg]
                          · simpa using p2 k hk
                          · rw [hlu]
                            rintro ⟨q1, q2, _⟩
                            rcases Nat.lt_or_gt_of_ne e with h | h
                            · have : (i + 1) * t.size ≤ i' * t.size := Nat.mul_le_mul_right _ h
                              rw [Nat.add_mul] at this
                              omega
                            · have : (i' + 1) * t.size ≤ i * t.size := Nat.mul_le_mul_right _ h
                              rw [Nat.add_mul] at this
                              omega)
                exact ⟨hnot.symm, ρ, _, S, hrun, g1, g2⟩
              · simp at hi
            · cases hl
          · cases hl
        · cases hl
      · cases hl
    · cases hl
  · cases hl

end
end Go.Proofs.Ytecjkkofoafhaaa.V
