/- The pure machine, part y: what comes in, as data; a law's row. -/
import Derived.Test.YtecjkkofoafhaaaVx
import Derived.Carry
import Derived.ChangeOld
import Derived.ChangeShapes
import Derived.ChangeSlices
import Derived.ChangeArms
import Derived.SizedLaws
import Derived.JoinedOf
import Derived.ShutString
import Derived.WalkKit
import Derived.ProofKit
import Derived.OpenShut
namespace Go.Proofs.Ytecjkkofoafhaaa.V
open Go.RowKit

/-- What can stand in memory. -/
def Wf : (t : Ty) → t.den → Prop
  | .unit, _ => True
  | .int k, n => (Lit.int k n).wf = true
  | .bool, _ => True
  | .str, s => s.size ≤ maxLen
  | .pair a b, x => Wf a x.1 ∧ Wf b x.2
  | .slice t, l => l.length ≤ maxLen ∧ ∀ x ∈ l, Wf t x

def Wfs : (ts : List Ty) → denL ts → Prop
  | [], _ => True
  | t :: ts, x => Wf t x.1 ∧ Wfs ts x.2

def layF (P : Program) (lay : TypeId → Ty → Bool) : List Field → Nat → Ty → Bool
  | [], _, .unit => true
  | f :: fs, off, .pair a b => f.offset == off && P.cellsOf f.type == a.size && lay f.type a && layF P lay fs (off + a.size) b
  | _, _, _ => false

def layA (lay : Ty → Bool) (sz : Nat) : Nat → Ty → Bool
  | 0, .unit => true
  | n + 1, .pair a b => a.size == sz && lay a && layA lay sz n b
  | _, _ => false

/-- The type T of the program is the type t of data. -/
def lay (P : Program) : Nat → TypeId → Ty → Bool
  | 0, _, _ => false
  | n + 1, T, t => match P.underlying T with
    | some .bool => match t with
      | .bool => true
      | _ => false
    | some (.int k) => match t with
      | .int k' => decide (k = k')
      | _ => false
    | some .string => match t with
      | .str => true
      | _ => false
    | some (.slice e) => match t with
      | .slice t => lay P n e t && P.cellsOf e == t.size && decide (0 < t.size)
      | _ => false
    | some (.struct fs) => t.isAgg && P.cellsOf T == t.size && layF P (lay P n) fs.toList 0 t
    | some (.array m e) => t.isAgg && P.cellsOf T == t.size && layA (lay P n e) (P.cellsOf e) m t
    | _ => false

section
variable {H : Type} {enc : TypeId × Value → H} {P : Program} {w : World}

theorem at_cells {a : Addr} {n : Nat} {cs : List Value} (h : w.cells? 0 a n = some cs) (hn : 0 < n) : ∃ arr elem fz, a.spot = none ∧ w.heap[a.block]? = some (.cells arr elem fz) ∧ At arr a.off cs := by
  obtain ⟨_, h2, h3⟩ := World.cells?_some h
  have key : ∀ i, i < n → w.cell? (a.add i) = cs[i]? := h3
  have h0 := key 0 hn
  have hs : cs[0]? = some cs[0] := List.getElem?_eq_getElem (by omega)
  rw [hs] at h0
  have e0 : a.add 0 = a := by simp [Addr.add]
  rw [e0] at h0
  unfold World.cell? at h0
  split at h0
  · rename_i arr elem fz hb
    split at h0
    · cases h0
    · rename_i hsp
      have hspn : a.spot = none := by simpa using hsp
      refine ⟨arr, elem, fz, hspn, hb, fun j hj => ?_⟩
      have := key j (by omega)
      have e : (a.add j).block = a.block ∧ (a.add j).off = a.off + j ∧ (a.add j).spot = none := by
        unfold Addr.add
        split
        · rename_i hj0; subst hj0; exact ⟨rfl, rfl, hspn⟩
        · exact ⟨rfl, rfl, rfl⟩
      unfold World.cell? at this
      rw [e.1, hb] at this
      simp only [e.2.2, Option.isSome_none, Bool.false_eq_true, if_false, e.2.1] at this
      rw [this]
      exact List.getElem?_eq_getElem hj
  · cases h0

/-- A list of data, place by place. -/
theorem choose_list {α : Type} (R : Nat → α → Prop) : ∀ (n : Nat), (∀ i, i < n → ∃ x, R i x) → ∃ l : List α, l.length = n ∧ ∀ i (h : i < l.length), R i l[i]
  | 0, _ => ⟨[], rfl, fun i h => by simp at h⟩
  | n + 1, h => by
    obtain ⟨l, h1, h2⟩ := choose_list R n (fun i hi => h i (by omega))
    obtain ⟨x, hx⟩ := h n (by omega)
    refine ⟨l ++ [x], by simp [h1], fun i hi => ?_⟩
    by_cases e : i < l.length
    · rw [List.getElem_append_left e]; exact h2 i e
    · have : i = n := by simp at hi; omega
      subst this
      simp [h1, hx]

def noS : Nat → Prop := fun _ => False

theorem struct_rep {f : TypeId → List Value → Prop} {L : TypeId → Ty → Bool} (hL : ∀ T t cs, L T t = true → f T cs → ∃ x : t.den, Rep w noS t x cs ∧ Wf t x) {cs : List Value} :
    ∀ (fs : List Field) (off : Nat) (t : Ty), layF P L fs off t = true → off + t.size = cs.length → (∀ (i : Nat) (fd : Field), fs[i]? = some fd → f fd.type ((cs.drop fd.offset).take (P.cellsOf fd.type))) → ∃ x : t.den, Rep w noS t x (cs.drop off) ∧ Wf t x
  | [], off, t, h, hs, _ => by
    cases t <;> simp [layF] at h
    simp [Ty.size] at hs
    exact ⟨(), by simp [Rep]; omega, trivial⟩
  | fd :: fs, off, t, h, hs, hf => by
    cases t <;> simp [layF] at h
    rename_i a b
    obtain ⟨⟨⟨h1, h2⟩, h3⟩, h4⟩ := h
    simp [Ty.size] at hs
    obtain ⟨x1, r1, w1⟩ := hL _ _ _ h3 (hf 0 fd rfl)
    obtain ⟨x2, r2, w2⟩ := struct_rep hL fs (off + a.size) b h4 (by omega) (fun i fd' hi => hf (i + 1) fd' (by simpa using hi))
    refine ⟨(x1, x2), ⟨_, _, ?_, r1, r2⟩, w1, w2⟩
    rw [h1, h2, ← List.drop_drop, List.take_append_drop]

theorem array_rep {f : List Value → Prop} {L : Ty → Bool} {sz : Nat} (hL : ∀ t cs, L t = true → f cs → ∃ x : t.den, Rep w noS t x cs ∧ Wf t x) {cs : List Value} :
    ∀ (n off : Nat) (t : Ty), layA L sz n t = true → off * sz + t.size = cs.length → (∀ i, i < n → f ((cs.drop ((off + i) * sz)).take sz)) → ∃ x : t.den, Rep w noS t x (cs.drop (off * sz)) ∧ Wf t x
  | 0, off, t, h, hs, _ => by
    cases t <;> simp [layA] at h
    simp [Ty.size] at hs
    exact ⟨(), by simp [Rep]; omega, trivial⟩
  | n + 1, off, t, h, hs, hf => by
    cases t <;> simp [layA] at h
    rename_i a b
    obtain ⟨⟨h1, h3⟩, h4⟩ := h
    simp [Ty.size] at hs
    obtain ⟨x1, r1, w1⟩ := hL _ _ h3 (by simpa using hf 0 (by omega))
    obtain ⟨x2, r2, w2⟩ := array_rep hL (cs := cs) n (off + 1) b h4 (by rw [Nat.add_mul, Nat.one_mul]; omega) (fun i hi => by have := hf (i + 1) (by omega); rwa [show off + (i + 1) = off + 1 + i by omega] at this)
    refine ⟨(x1, x2), ⟨_, _, ?_, r1, r2⟩, w1, w2⟩
    rw [Nat.add_mul, Nat.one_mul, ← List.drop_drop, List.take_append_drop]

/-- What can be read is data. -/
theorem trod_rep : ∀ (n : Nat) (T : TypeId) (t : Ty) (fuel : Nat) (cs : List Value) (y : DataW H × List MemPlace), lay P n T t = true → DataW.trod enc P w 0 (fun _ => true) true fuel T cs = some y →
    ∃ x : t.den, Rep w noS t x cs ∧ Wf t x := by
  intro n
  induction n with
  | zero => intro T t fuel cs y h; simp [lay] at h
  | succ n ih =>
    intro T t fuel cs y h hy
    simp only [lay] at h
    split at h
    · rename_i hu
      split at h
      · obtain ⟨b, rfl, _⟩ := DataW.trod_bool hu hy
        exact ⟨b, rfl, trivial⟩
      · cases h
    · rename_i k hu
      split at h
      · rename_i k'
        simp only [decide_eq_true_eq] at h
        subst h
        obtain ⟨m, rfl, _, hw⟩ := DataW.trod_int hu hy
        exact ⟨m, rfl, hw⟩
      · cases h
    · rename_i hu
      split at h
      · obtain ⟨s, rfl, _, hw⟩ := DataW.trod_string hu hy
        exact ⟨s, rfl, hw⟩
      · cases h
    · rename_i e hu
      split at h
      · rename_i t
        simp only [Bool.and_eq_true, beq_iff_eq, decide_eq_true_eq] at h
        obtain ⟨⟨h1, h2⟩, h3⟩ := h
        rcases DataW.trod_slice hu hy with ⟨rfl, _⟩ | ⟨a, len, cap, elems, rest, m, _, rfl, _, _, hl, hm, hlen, hel, _⟩
        · exact ⟨[], ⟨_, rfl, none, 0, rfl, Nat.le_refl _, fun h => absurd rfl h⟩, by simp [Wf]⟩
        · have each : ∀ i, i < len → ∃ x : t.den, ∃ cs', w.cells? 0 (a.add (i * t.size)) t.size = some cs' ∧ Rep w noS t x cs' ∧ Wf t x := by
            intro i hi
            have hx := hel i hi
            rw [List.getElem?_eq_getElem (by omega), Option.bind_eq_some_iff] at hx
            obtain ⟨cs', c1, c2⟩ := hx
            obtain ⟨x, r1, r2⟩ := ih e t m cs' _ h1 c2
            exact ⟨x, cs', by rw [← h2]; exact c1, r1, r2⟩
          obtain ⟨l, l1, l2⟩ := choose_list _ len each
          refine ⟨l, ⟨_, rfl, some a, cap, by rw [l1], by omega, fun hne => ?_⟩, by rw [l1]; omega, fun x hx => ?_⟩
          · have hpos : 0 < l.length := List.length_pos_iff.mpr hne
            obtain ⟨cs0, c1, c2, _⟩ := l2 0 hpos
            obtain ⟨arr, elem, fz, q1, q2, q3⟩ := at_cells c1 h3
            simp only [Nat.zero_mul] at q1 q2
            have e0 : a.add 0 = a := by simp [Addr.add]
            rw [e0] at q1 q2
            refine ⟨a.block, a.off, arr, elem, fz, by cases a; simp_all, fun h => h, q2, fun i hi => ?_⟩
            obtain ⟨cs', d1, d2, _⟩ := l2 i hi
            obtain ⟨arr', elem', fz', p1, p2, p3⟩ := at_cells d1 h3
            have e1 : (a.add (i * t.size)).block = a.block := by unfold Addr.add; split <;> rfl
            have e2 : (a.add (i * t.size)).off = a.off + i * t.size := by unfold Addr.add; split <;> simp_all
            rw [e1, q2] at p2
            simp only [Option.some.injEq, Obj.cells.injEq] at p2
            obtain ⟨rfl, _, _⟩ := p2
            rw [e2] at p3
            exact ⟨cs', d2, p3⟩
          · obtain ⟨i, hi, rfl⟩ := List.getElem_of_mem hx
            obtain ⟨_, _, _, hw⟩ := l2 i hi
            exact hw
      · cases h
    · rename_i fs hu
      simp only [Bool.and_eq_true, beq_iff_eq] at h
      obtain ⟨⟨_, h1⟩, h2⟩ := h
      obtain ⟨xs, m, _, _, hlen, hxl, hx⟩ := DataW.trod_struct hu hy
      have := struct_rep (w := w) (P := P) (f := fun T cs => ∃ y, DataW.trod enc P w 0 (fun _ => true) true m T cs = some y) (L := lay P n) (fun T t cs hl hf => by obtain ⟨y, hy⟩ := hf; exact ih T t m cs y hl hy) (cs := cs) fs.toList 0 t h2 (by omega)
        (fun i fd hi => ⟨xs[i]'(by have := (List.getElem?_eq_some_iff.mp hi).1; simp at this; omega), by
          rw [hx i fd (by simpa using hi)]
          exact List.getElem?_eq_getElem _⟩)
      simpa using this
    · rename_i m e hu
      simp only [Bool.and_eq_true, beq_iff_eq] at h
      obtain ⟨⟨_, h1⟩, h2⟩ := h
      obtain ⟨xs, fu, _, _, hlen, hxl, hx⟩ := DataW.trod_array hu hy
      have := array_rep (w := w) (f := fun cs => ∃ y, DataW.trod enc P w 0 (fun _ => true) true fu e cs = some y) (L := lay P n e) (sz := P.cellsOf e) (fun t cs hl hf => by obtain ⟨y, hy⟩ := hf; exact ih e t fu cs y hl hy) (cs := cs) m 0 t h2 (by omega)
        (fun i hi => ⟨xs[i]'(by omega), by
          rw [Nat.zero_add, hx i hi]
          exact List.getElem?_eq_getElem _⟩)
      simpa using this
    · cases h

end
end Go.Proofs.Ytecjkkofoafhaaa.V
