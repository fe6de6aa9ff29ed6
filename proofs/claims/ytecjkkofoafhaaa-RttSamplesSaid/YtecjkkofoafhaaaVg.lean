/- The pure machine, part g: append. -/
import Derived.Test.YtecjkkofoafhaaaVf
import Derived.Deep.Upon
namespace Go.Proofs.Ytecjkkofoafhaaa.V
open Go.RowKit

section
variable {P : Program} {base : Nat} {S0 : Nat → Prop} {ρ : Loc} {H : Heap} {w : World} {S : Nat → Prop}

theorem repL_bytes : ∀ (l : List UInt8), RepL w S (.int .u8) (l.map fun b => (b.toNat : Int)) (l.map fun b => Value.int .u8 b.toNat)
  | [] => rfl
  | _ :: l => ⟨[_], _, rfl, rfl, repL_bytes l⟩

/-- What is appended. -/
def srcP (P : Program) (xT : TypeId) (t : Ty) (H : Heap) (x : PV) : Option (List t.den) :=
  match P.underlying xT with
  | some (.slice _) => rowsOf t H x
  | some .string => match x with
    | .val (.string s) => castL (s := .int .u8) (s.data.toList.map fun b => (b.toNat : Int))
    | _ => none
  | _ => none

theorem srcP_src (hh : HRel base S0 ρ H w S) {xT : TypeId} {t : Ty} {x : PV} {l : List t.den} {v : Value} (hl : srcP P xT t H x = some l) (hp : PRel ρ H w S x v) :
    ∃ us, RepL w S t l us ∧ Src P t.size xT v l.length us w := by
  unfold srcP at hl
  split at hl
  · rename_i hk
    obtain ⟨us, h1, _, h2⟩ := rowsOf_reads (P := P) hh hl hp
    exact ⟨us, h1, h2 xT _ hk⟩
  · rename_i hk
    split at hl
    · rename_i s
      obtain ⟨rfl, rfl⟩ := castL_some hl
      simp only [PRel] at hp
      subst hp
      refine ⟨byteCells s, repL_bytes _, ?_⟩
      have := Src.ofString w hk s
      have e : (s.data.toList.map fun b => (b.toNat : Int)).length = s.size := by simp
      rw [e]
      exact this
    · cases hl
  · cases hl

theorem zeroCells_size (z : Array Value) (n : Nat) : (Builtin.zeroCells z n).size = n * z.size := by simp [Builtin.zeroCells]

theorem HRel.absent (hh : HRel base S0 ρ H w S) (t : Ty) :
    ∃ ρ', HRel base S0 ρ' (H ++ [some (.row t [])]) w S ∧ Ext base ρ H w S ρ' (H ++ [some (.row t [])]) w S := by
  have hx : Ext base ρ H w S (ρ.put H.length none) (H ++ [some (.row t [])]) w S := ⟨hext_append _, locext_put _, Same.refl _ _, fun _ _ h => h, Below.refl _ _⟩
  refine ⟨_, ⟨hh.base_le, hh.outer, ?_, ?_, ?_, ?_⟩, hx⟩
  · intro k
    rw [hh.own k]
    refine or_congr Iff.rfl ⟨?_, ?_⟩
    · rintro ⟨c, o1, n1, h1, h2, h3⟩
      have := at_lt h1
      exact ⟨c, o1, n1, by rw [at_append_old this]; exact h1, h2, by rw [Loc.put_other (by omega)]; exact h3⟩
    · rintro ⟨c, o1, n1, h1, h2, h3⟩
      rcases at_append_lt h1 with hc | rfl
      · rw [at_append_old hc] at h1
        rw [Loc.put_other (by omega)] at h3
        exact ⟨c, o1, n1, h1, h2, h3⟩
      · rw [Loc.put_same] at h3; cases h3
  · intro c o1 blk1 n1 h1 h3
    rcases at_append_lt h1 with hc | rfl
    · rw [at_append_old hc] at h1
      rw [Loc.put_other (by omega)] at h3
      exact hh.from_ c o1 blk1 n1 h1 h3
    · rw [Loc.put_same] at h3; cases h3
  · intro c c' o1 o2 blk1 n1 n2 h1 h2 h3 h4
    rcases at_append_lt h1 with hc | rfl
    · rcases at_append_lt h2 with hc' | rfl
      · rw [at_append_old hc] at h1
        rw [at_append_old hc'] at h2
        rw [Loc.put_other (by omega)] at h3 h4
        exact hh.inj _ _ _ _ _ _ _ h1 h2 h3 h4
      · rw [Loc.put_same] at h4; cases h4
    · rw [Loc.put_same] at h3; cases h3
  · intro c o1 h1
    rcases at_append_lt h1 with hc | rfl
    · rw [at_append_old hc] at h1
      exact (hh.block c o1 h1).mono hx.hH hx.hr hx.hw hx.hS hc (fun _ _ _ => rfl)
    · rw [at_append_new] at h1; cases h1
      exact .inr ⟨Loc.put_same, rfl⟩

/-- What the element's type must be. -/
structure Elem (P : Program) (e : TypeId) (t : Ty) (i : TypeInfo) (z : Value) : Prop where
  info : P.info? e = some i
  zero : i.zero = some z
  size : i.size = t.size
  zsize : z.cells.size = t.size
  bytes : i.bytes ≤ 32768

theorem append_grow {sT xT ty e : TypeId} {t : Ty} {i : TypeInfo} {z : Value} (ht : P.underlying sT = some (.slice e)) (he : Elem P e t i z) {l l' : List t.den} {a : Option Addr} {cap : Nat} {x : Value} {us us' : List Value}
    (hl : Src P t.size sT (.slice a l.length cap) l.length us w) (hx : Src P t.size xT x l'.length us' w) (hc : cap < l.length + l'.length) (hb : l.length + l'.length ≤ 4294967296) :
    ∃ c zs, (Builtin.append_ #[sT, xT] ty #[.slice a l.length cap, x]).run P w = .ok (.slice (some ⟨w.heap.size, 0, none⟩) (l.length + l'.length) c) (w.drew.alloc (.cells ((us ++ us') ++ zs : List Value).toArray e)) ∧
      l.length + l'.length ≤ c ∧ c * t.size ≤ ((us ++ us') ++ zs).length := by
  have hn := Room.nextslicecap_le' (need := l.length + l'.length) (old := cap) hc
  have h48 : Builtin.nextslicecap (l.length + l'.length) cap * i.bytes ≤ 281474976710656 := by
    calc Builtin.nextslicecap (l.length + l'.length) cap * i.bytes ≤ (2 * 4294967296) * 32768 := Nat.mul_le_mul (by omega) he.bytes
      _ ≤ 281474976710656 := by omega
  have hge := grownCap_ge w (l.length + l'.length) cap e
  have run := run_append_grow_src (P := P) w sT xT ty e i z ht he.info he.zero a l.length cap us (by rw [he.size]; exact hl.cellsD) x l'.length us' (by rw [he.size]; exact hx) hc (by omega) h48
  refine ⟨_, (Builtin.zeroCells z.cells (grownCap w (l.length + l'.length) cap e - (l.length + l'.length))).toList, ?_, hge, ?_⟩
  · rw [run]
    congr 2
    simp
  · have h1 := hl.newsLen
    have h2 := hx.newsLen
    simp [zeroCells_size, he.zsize, h1, h2]
    rw [← Nat.add_mul, ← Nat.add_mul]
    exact Nat.mul_le_mul_right _ (by omega)


/-- The element's type of a slice's type, with all that append asks of it. -/
def elemOk (P : Program) (sT : TypeId) : Option (TypeId × Ty) :=
  match P.underlying sT with
  | some (.slice e) => match P.info? e, tyOf P 30 e with
    | some i, some t => match i.zero with
      | some z => if i.size = t.size ∧ z.cells.size = t.size ∧ i.bytes ≤ 32768 then some (e, t) else none
      | none => none
    | _, _ => none
  | _ => none

theorem elemOk_elem {sT e : TypeId} {t : Ty} (h : elemOk P sT = some (e, t)) : P.underlying sT = some (.slice e) ∧ ∃ i z, Elem P e t i z := by
  unfold elemOk at h
  split at h
  · rename_i e' hu
    split at h
    · rename_i i t' hi ht
      split at h
      · rename_i z hz
        split at h
        · rename_i hc
          cases h
          exact ⟨hu, i, z, hi, hz, hc.1, hc.2.1, hc.2.2⟩
        · cases h
      · cases h
    · cases h
  · cases h

def appendP (P : Program) (sT xT : TypeId) (s x : PV) (H : Heap) : OpR :=
  match elemOk P sT with
  | some (_, t) => match srcP P xT t H x with
    | some l' => match s with
      | .val (.slice none 0 0) => .new (decide (l'.length ≤ 4294967296)) .all (.row t l')
      | .emp => .new (decide (l'.length ≤ 4294967296)) .all (.row t l')
      | .all b => match H.at? b with
        | some (.row _ m) => match castL (t := t) m with
          | some l => .swap (decide (l.length + l'.length ≤ 4294967296)) b (.row t (l ++ l'))
          | none => .fail
        | _ => .fail
      | .rows _ m clip => match castL (t := t) m with
        | some l => .still (clip && decide (l.length + l'.length ≤ 4294967296)) (.rows t (l ++ l') false)
        | none => .fail
      | _ => .fail
    | none => .fail
  | none => .fail

theorem append_new (hh : HRel base S0 ρ H w S) {sT xT ty e : TypeId} {t : Ty} {i : TypeInfo} {z : Value} (ht : P.underlying sT = some (.slice e)) (he : Elem P e t i z) {l' : List t.den} {a : Option Addr} {x : Value} {us' : List Value}
    (h' : RepL w S t l' us') (hx : Src P t.size xT x l'.length us' w) (hb : l'.length ≤ 4294967296) :
    Did P (Builtin.append_ #[sT, xT] ty #[.slice a 0 0, x]) base S0 ρ H w S (.all H.length) (H ++ [some (.row t l')]) := by
  by_cases h0 : l' = []
  · subst h0
    obtain ⟨ρ', g1, g2⟩ := hh.absent t
    have e0 : us' = [] := by have := h'.length; simpa using this
    subst e0
    refine ⟨ρ', w, S, .slice a 0 0, ?_, g1, g2, ?_⟩
    · exact run_append_nothing w sT xT ty e i ht he.info a 0 0 (Nat.le_refl _) x (by rw [he.size]; exact hx)
    · simp only [PRel]
      refine ⟨⟨by simp, rfl⟩, fun o ho _ => ?_⟩
      rw [at_append_new] at ho; cases ho
      exact .inr ⟨rfl, a, rfl⟩
  · have hpos : 0 < l'.length := List.length_pos_iff.mpr h0
    obtain ⟨us, k1, _, k2⟩ := reads_nil (P := P) (w := w) (S := S) t a 0
    obtain rfl := k1
    obtain ⟨c, zs, run, hc1, hc2⟩ := append_grow (ty := ty) (l := []) ht he (k2 sT e ht) hx (by simpa using hpos) (by simpa using hb)
    have hd := hh.drew
    obtain ⟨ρ', S', g1, g2, g3⟩ := new_row (e := e) hd (t := t) (l := l') (us := us') (arr := (([] ++ us') ++ zs : List Value).toArray) (0, 0) (fun j _ => by simp) (h'.mono (Ext.drew (base := base) (ρ := ρ) (H := H) hh).hw (fun _ _ h => h)) (by simpa using At.ofList)
    refine ⟨ρ', _, S', _, run, g1, (Ext.drew hh).trans g2, ?_⟩
    simp only [PRel]
    refine ⟨⟨by simp, rfl⟩, fun o ho _ => ?_⟩
    rw [at_append_new] at ho; cases ho
    refine .inl ⟨w.heap.size, _, c, g3, by simp [AO.len], by simpa [AO.len] using hc1, by simpa [AO.elemSize] using hc2⟩

theorem append_did (hh : HRel base S0 ρ H w S) {sT xT ty : TypeId} {s x q : PV} {v u : Value} {H' : Heap} (hl : (appendP P sT xT s x H).applyTo H = some (true, q, H')) (hs : PRel ρ H w S s v) (hx : PRel ρ H w S x u) :
    Did P (Builtin.append_ #[sT, xT] ty #[v, u]) base S0 ρ H w S q H' := by
  unfold appendP at hl
  split at hl
  · rename_i e t hel
    obtain ⟨ht, i, z, he⟩ := elemOk_elem hel
    split at hl
    · rename_i l' hsrc
      obtain ⟨us', h', hsr⟩ := srcP_src hh hsrc hx
      split at hl
      · simp only [OpR.applyTo, Option.some.injEq, Prod.mk.injEq, decide_eq_true_eq] at hl
        obtain ⟨hb, rfl, rfl⟩ := hl
        simp only [PRel] at hs
        subst hs
        exact append_new hh ht he h' hsr hb
      · simp only [OpR.applyTo, Option.some.injEq, Prod.mk.injEq, decide_eq_true_eq] at hl
        obtain ⟨hb, rfl, rfl⟩ := hl
        simp only [PRel] at hs
        obtain ⟨a, rfl⟩ := hs
        exact append_new hh ht he h' hsr hb
      · rename_i b
        split at hl
        · rename_i t1 m ho
          split at hl
          · rename_i l hc
            obtain ⟨rfl, rfl⟩ := castL_some hc
            simp only [OpR.applyTo, Option.some.injEq, Prod.mk.injEq, decide_eq_true_eq] at hl
            obtain ⟨hb, rfl, rfl⟩ := hl
            have hb0 := hs
            simp only [PRel] at hs
            have hlen : (H.set b none).length = H.length := by simp
            rcases hs.2 _ ho rfl with ⟨blk, n, cap, hr, rfl, hle, hn⟩ | ⟨h0, a, rfl⟩
            · simp only [AO.len, AO.elemSize] at hle hn ⊢
              rcases hh.block _ _ ho with ⟨blk', arr, elem, fz, h1, h2, h3, h4⟩ | ⟨h1, _⟩
              · rw [hr] at h1; cases h1
                by_cases hroom : l.length + l'.length ≤ cap
                · -- in its place
                  have hfit : l.length * t1.size + us'.length ≤ arr.size := by
                    rw [h'.length, ← Nat.add_mul]
                    exact Nat.le_trans (Nat.mul_le_mul_right _ hroom) hn
                  obtain ⟨ρ', g1, g2, g3⟩ := hh.regrow ho hr h2 h3 h4 h' hfit
                  have run := run_append_room_src (P := P) w sT xT ty e i ht he.info blk 0 l.length cap u l'.length us' (by rw [he.size]; exact hsr) hroom
                    (fun j hj => by rw [cell_at h2, he.size, Array.getElem?_eq_getElem (by omega)]; rfl) (fun j hj => by rw [he.size]; exact h3 _ (by omega))
                  rw [he.size, Nat.zero_add] at run
                  refine ⟨ρ', _, S, _, run, g1, g2, ?_⟩
                  simp only [PRel]
                  refine ⟨⟨by simp, rfl⟩, fun o ho' _ => ?_⟩
                  have := at_append_new (H := H.set b none) (x := some (.row t1 (l ++ l')))
                  rw [hlen] at this
                  rw [this] at ho'; cases ho'
                  exact .inl ⟨blk, _, cap, g3, by simp [AO.len], by simpa [AO.len] using hroom, by simpa [AO.elemSize] using hn⟩
                · have hrd := rowsOf_reads (P := P) hh (t := t1) (p := .all b) (l := l) (by simp [rowsOf, ho, castL]) hb0
                  obtain ⟨us, k1, _, k2⟩ := hrd
                  obtain ⟨c, zs, run, hc1, hc2⟩ := append_grow (ty := ty) ht he (k2 sT e ht) hsr (by omega) hb
                  obtain ⟨S1, q1, q2⟩ := hh.kill b
                  have hd := q1.drew
                  have hal : RepL w S1 t1 (l ++ l') (us ++ us') := (k1.append h').mono q2.hw q2.hS
                  obtain ⟨ρ', S', g1, g2, g3⟩ := new_row (e := e) hd (t := t1) (l := l ++ l') (us := us ++ us') (arr := ((us ++ us') ++ zs : List Value).toArray) (0, 0) (fun j _ => by simp) (hal.mono (Ext.drew q1).hw (fun _ _ h => h)) At.ofList
                  refine ⟨ρ', _, S', _, run, g1, q2.trans ((Ext.drew q1).trans g2), ?_⟩
                  simp only [PRel]
                  refine ⟨⟨by simp, rfl⟩, fun o ho' _ => ?_⟩
                  have := at_append_new (H := H.set b none) (x := some (.row t1 (l ++ l')))
                  rw [hlen] at this g3
                  rw [this] at ho'; cases ho'
                  exact .inl ⟨w.heap.size, _, c, g3, by simp [AO.len], by simpa [AO.len] using hc1, by simpa [AO.elemSize] using hc2⟩
              · rw [hr] at h1; cases h1
            · simp only [AO.len] at h0
              have : l = [] := List.length_eq_zero_iff.mp h0
              subst this
              obtain ⟨S1, q1, q2⟩ := hh.kill b
              have := append_new (ty := ty) (a := a) (x := u) q1 ht he (h'.mono q2.hw q2.hS) hsr (by simpa using hb)
              obtain ⟨ρ', w', S', r, p1, p2, p3, p4⟩ := this
              rw [hlen] at p4
              exact ⟨ρ', w', S', r, p1, p2, q2.trans p3, p4⟩
          · cases hl
        · cases hl
      · rename_i t1 clip m
        split at hl
        · rename_i l hc
          obtain ⟨rfl, rfl⟩ := castL_some hc
          simp only [OpR.applyTo, Option.some.injEq, Prod.mk.injEq, Bool.and_eq_true, decide_eq_true_eq] at hl
          obtain ⟨⟨hcl, hb⟩, rfl, rfl⟩ := hl
          have hrd := rowsOf_reads (P := P) hh (t := t1) (l := l) (by simp [rowsOf, castL]) hs
          simp only [PRel] at hs
          obtain ⟨hrow, hclip⟩ := hs
          obtain ⟨a, rfl⟩ := hclip hcl
          obtain ⟨us, k1, _, k2⟩ := hrd
          by_cases h0 : l' = []
          · subst h0
            have e0 : us' = [] := by have := h'.length; simpa using this
            subst e0
            refine Did.still hh (v := .slice a l.length l.length) ?_ ?_
            · exact run_append_nothing w sT xT ty e i ht he.info a _ _ (Nat.le_refl _) u (by rw [he.size]; exact hsr)
            · simp only [PRel, List.append_nil]
              exact ⟨hrow, fun h => by cases h⟩
          · have hpos : 0 < l'.length := List.length_pos_iff.mpr h0
            obtain ⟨c, zs, run, hc1, hc2⟩ := append_grow (ty := ty) ht he (k2 sT e ht) hsr (by omega) hb
            have hsz : w.heap.size ≤ (w.drew.alloc (.cells ((us ++ us') ++ zs : List Value).toArray e)).heap.size := by simp
            have hold : ∀ k, k < w.heap.size → (w.drew.alloc (.cells ((us ++ us') ++ zs : List Value).toArray e)).heap[k]? = w.heap[k]? := fun k hk => heap_alloc_old (w := w.drew) hk
            have hbel : Below w.heap.size w (w.drew.alloc (.cells ((us ++ us') ++ zs : List Value).toArray e)) := ((Below.refl _ _).drew).alloc (Nat.le_refl _) _
            have hx' : Ext base ρ H w S ρ H _ S := Ext.later hh.base_le hbel
            refine ⟨ρ, _, S, _, run, hh.later hsz hold, hx', ?_⟩
            simp only [PRel]
            refine ⟨⟨some ⟨w.heap.size, 0, none⟩, c, by rw [List.length_append], by simpa using hc1, fun _ => ?_⟩, fun h => by cases h⟩
            refine ⟨w.heap.size, 0, _, e, (0, 0), rfl, fun hS => ?_, heap_alloc_new (w := w.drew), fun j hj => ?_⟩
            · rcases (hh.own _).mp hS with h0 | ⟨b, o, n, o1, _, o3⟩
              · have := hh.outer _ h0; have := hh.base_le; omega
              · have := (hh.from_ b o _ n o1 o3).2; omega
            · obtain ⟨vs, r1, r2⟩ := ((k1.append h').mono hx'.hw hx'.hS).at (arr := ((us ++ us') ++ zs : List Value).toArray) (o := 0) At.ofList j hj
              exact ⟨vs, r1, r2⟩
        · cases hl
      · cases hl
    · cases hl
  · cases hl

end
end Go.Proofs.Ytecjkkofoafhaaa.V
