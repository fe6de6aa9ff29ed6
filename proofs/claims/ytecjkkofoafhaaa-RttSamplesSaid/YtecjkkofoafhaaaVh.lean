/- The pure machine, part h: structs and slices built, slices made, bytes and strings, lengths. -/
import Derived.Test.YtecjkkofoafhaaaVg
namespace Go.Proofs.Ytecjkkofoafhaaa.V
open Go.RowKit

section
variable {P : Program} {base : Nat} {S0 : Nat → Prop} {ρ : Loc} {H : Heap} {w : World} {S : Nat → Prop}

/-! #### what is built -/
theorem foldl_sets (off : Nat) : ∀ (l : List Value) (k : Nat) (cs : Array Value), ((l.zipIdx k).foldl (fun cs x => cs.setIfInBounds (off + x.2) x.1) cs).toList = sets cs.toList (off + k) l
  | [], _, _ => rfl
  | v :: l, k, cs => by
    simp only [List.zipIdx_cons, List.foldl_cons, sets]
    rw [foldl_sets off l (k + 1)]
    simp [Nat.add_assoc]

def fillP (place : Nat → Option (Nat × Nat)) (cells : List PV) : List (Nat × PV) → Option (List PV)
  | [] => some cells
  | (i, p) :: rest => match place i, cellsOf p with
    | some (off, size), some cs => if cs.length = size ∧ off + size ≤ cells.length then fillP place (sets cells off cs) rest else none
    | _, _ => none

/-- The parts, as the pure machine has them and as memory does. -/
inductive Parts (ρ : Loc) (H : Heap) (w : World) (S : Nat → Prop) : List (Nat × PV) → List (Nat × Value) → Prop where
  | nil : Parts ρ H w S [] []
  | cons {i : Nat} {p : PV} {v : Value} {ps vs} : PRel ρ H w S p v → Parts ρ H w S ps vs → Parts ρ H w S ((i, p) :: ps) ((i, v) :: vs)

theorem fill_rel {place : Nat → Option (Nat × Nat)} {ps : List (Nat × PV)} {vs : List (Nat × Value)} (h : Parts ρ H w S ps vs) : ∀ {cells out : List PV} {arr : Array Value}, fillP place cells ps = some out → PRels ρ H w S cells arr.toList →
    ∃ arr', Instr.fill place arr vs = some arr' ∧ PRels ρ H w S out arr'.toList ∧ arr'.size = arr.size := by
  induction h with
  | nil => intro cells out arr ho hc; simp only [fillP, Option.some.injEq] at ho; subst ho; exact ⟨arr, rfl, hc, rfl⟩
  | @cons i p v ps vs hp _ ih =>
    intro cells out arr ho hc
    simp only [fillP] at ho
    split at ho
    · rename_i off size cs hpl hcs
      split at ho
      · rename_i hsz
        have hrel := cellsOf_rel hcs hp
        have hl := hrel.length
        simp at hl
        have hcl := hc.length
        simp at hcl
        have hfold : (v.cells.zipIdx.foldl (fun cs x => cs.setIfInBounds (off + x.2) x.1) arr).toList = sets arr.toList off v.cells.toList := by
          rw [← Array.foldl_toList]
          have := foldl_sets off v.cells.toList 0 arr
          simpa using this
        obtain ⟨arr', h1, h2, h3⟩ := ih (arr := v.cells.zipIdx.foldl (fun cs x => cs.setIfInBounds (off + x.2) x.1) arr) ho (by rw [hfold]; exact PRels.sets off hc hrel)
        refine ⟨arr', ?_, h2, ?_⟩
        · simp only [Instr.fill, hpl]
          rw [if_neg (by simp; omega)]
          exact h1
        · have : (v.cells.zipIdx.foldl (fun cs x => cs.setIfInBounds (off + x.2) x.1) arr).size = arr.size := by
            rw [← Array.length_toList, hfold, sets_length]; simp
          omega
      · cases ho
    · cases ho

def placesP (P : Program) (fs : List Field) : Option (List (Nat × Nat)) :=
  fs.mapM fun f => (szOf P f.type).map fun n => (f.offset, n)

theorem places_run : ∀ {fs : List Field} {l : List (Nat × Nat)}, placesP P fs = some l → (fs.mapM (m := Sem) fun f => do pure (f.offset, ← sizeOf f.type)).run P w = .ok l w
  | [], l, h => by simp [placesP] at h; subst h; simp
  | f :: fs, l, h => by
    simp only [placesP, List.mapM_cons] at h
    cases hs : szOf P f.type with
    | none => rw [hs] at h; simp at h
    | some n =>
      rw [hs] at h
      cases hr : placesP P fs with
      | none => unfold placesP at hr; rw [hr] at h; simp at h
      | some r =>
        have hr' := hr
        unfold placesP at hr'
        rw [hr'] at h
        simp at h
        subst h
        simp only [List.mapM_cons, Sem.run_bind, sizeOf_run hs, Result.andThen_ok, Sem.run_pure, places_run hr]

def buildP (P : Program) (T : TypeId) (parts : List (Nat × PV)) : Option PV :=
  match zeroOf P T, P.underlying T with
  | some z, some (.struct fs) => match placesP P fs.toList with
    | some l => (fillP (l[·]?) (z.cells.toList.map .val) parts).map .agg
    | none => none
  | some z, some (.array _ e) => match szOf P e with
    | some n => (fillP (fun i => some (i * n, n)) (z.cells.toList.map .val) parts).map .agg
    | none => none
  | _, _ => none

theorem build_did (hh : HRel base S0 ρ H w S) {T : TypeId} {ps : List (Nat × PV)} {vs : Array (Nat × Value)} {q : PV} (hl : buildP P T ps = some q) (hp : Parts ρ H w S ps vs.toList) :
    Did P (Instr.build T vs) base S0 ρ H w S q H := by
  unfold buildP at hl
  split at hl
  · rename_i z fs hz hu
    split at hl
    · rename_i l hpl
      cases hf : fillP (l[·]?) (z.cells.toList.map .val) ps with
      | none => rw [hf] at hl; cases hl
      | some out =>
        rw [hf] at hl
        cases hl
        obtain ⟨arr', h1, h2, _⟩ := fill_rel hp hf (arr := z.cells) (PRels.vals _)
        refine Did.still hh (v := .agg arr') ?_ ⟨_, rfl, h2⟩
        have hpr : (fs.mapM (m := Sem) fun f => do pure (f.offset, ← sizeOf f.type)).run P w = .ok l.toArray w := by
          have := places_run (w := w) hpl
          rw [Array.mapM_eq_mapM_toList, Sem.run_map, this]; rfl
        have hfun : (fun x => (l.toArray)[x]?) = (fun x : Nat => l[x]?) := by funext x; simp
        simp only [Instr.build, Sem.run_bind, zeroValue_run hz, Result.andThen_ok, run_underlying hu, hpr, hfun, h1, Sem.run_pure]
    · cases hl
  · rename_i z n e hz hu
    split at hl
    · rename_i sz hs
      cases hf : fillP (fun i => some (i * sz, sz)) (z.cells.toList.map .val) ps with
      | none => rw [hf] at hl; cases hl
      | some out =>
        rw [hf] at hl
        cases hl
        obtain ⟨arr', h1, h2, _⟩ := fill_rel hp hf (arr := z.cells) (PRels.vals _)
        refine Did.still hh (v := .agg arr') ?_ ⟨_, rfl, h2⟩
        simp only [Instr.build, Sem.run_bind, zeroValue_run hz, Result.andThen_ok, run_underlying hu, sizeOf_run hs, h1, Sem.run_pure]
    · cases hl
  · cases hl

/-- n data out of cells. -/
def decL (t : Ty) : Nat → List PV → Option (List t.den)
  | 0, [] => some []
  | 0, _ :: _ => none
  | n + 1, ps => match dec t ps with
    | some (x, r) => (decL t n r).map (x :: ·)
    | none => none

theorem decL_rep {t : Ty} : ∀ {n : Nat} {ps : List PV} {l : List t.den} {us : List Value}, decL t n ps = some l → PRels ρ H w S ps us → RepL w S t l us ∧ l.length = n
  | 0, [], _, _, h, k => by simp only [decL, Option.some.injEq] at h; subst h; simp only [PRels] at k; exact ⟨k, rfl⟩
  | 0, _ :: _, _, _, h, _ => by simp [decL] at h
  | n + 1, ps, l, us, h, k => by
    simp only [decL] at h
    split at h
    · rename_i x r hd
      cases hr : decL t n r with
      | none => rw [hr] at h; cases h
      | some m =>
        rw [hr] at h; cases h
        obtain ⟨v1, v2, rfl, h1, h2⟩ := dec_rep hd k
        obtain ⟨g1, g2⟩ := decL_rep hr h2
        exact ⟨⟨v1, v2, rfl, h1, g1⟩, by simp [g2]⟩
    · cases h

def buildSliceP (P : Program) (T : TypeId) (len : Nat) (parts : List (Nat × PV)) : OpR :=
  match P.underlying T with
  | some (.slice e) => match szOf P e, zeroOf P e with
    | some n, some z => if len * n ≤ 16777216 ∧ len * n ≠ 0 ∧ z.cells.size = n then
        match fillP (fun i => some (i * n, n)) ((List.range (len * n)).map fun i => .val (z.cells[i % z.cells.size]!)) parts with
        | some out => match tyOf P 30 e with
          | some t => if t.size = n then match decL t len out with
            | some l => .new true .all (.row t l)
            | none => .new true (fun k => .cs k 0 len n) (.cells out)
            else .fail
          | none => .new true (fun k => .cs k 0 len n) (.cells out)
        | none => .fail
      else .fail
    | _, _ => .fail
  | _ => .fail

theorem PRels.valsMap {α : Type} (f : α → Value) : ∀ (l : List α), PRels ρ H w S (l.map fun x => .val (f x)) (l.map f)
  | [] => rfl
  | _ :: l => ⟨_, _, rfl, rfl, PRels.valsMap f l⟩

theorem buildSlice_did (hh : HRel base S0 ρ H w S) {T : TypeId} {len : Nat} {ps : List (Nat × PV)} {vs : Array (Nat × Value)} {q : PV} {H' : Heap} (hl : (buildSliceP P T len ps).applyTo H = some (true, q, H')) (hp : Parts ρ H w S ps vs.toList) :
    Did P (Instr.buildSlice T len vs) base S0 ρ H w S q H' := by
  unfold buildSliceP at hl
  split at hl
  · rename_i e hu
    split at hl
    · rename_i n z hs hz
      split at hl
      · rename_i hc
        split at hl
        · rename_i out hf
          have h0 : PRels ρ H w S ((List.range (len * n)).map fun i => .val (z.cells[i % z.cells.size]!)) ((Array.range (len * n)).map fun i => z.cells[i % z.cells.size]!).toList := by
            simpa using PRels.valsMap (ρ := ρ) (H := H) (w := w) (S := S) (fun i => z.cells[i % z.cells.size]!) (List.range (len * n))
          obtain ⟨arr', h1, h2, h3⟩ := fill_rel hp hf h0
          have hsz : arr'.size = len * n := by rw [h3]; simp
          have run : (Instr.buildSlice T len vs).run P w = .ok (.slice (some ⟨w.heap.size, 0, none⟩) len len) (w.alloc (.cells arr' e)) := by
            have hA : ¬ (len * n > 2 ^ 24) := by omega
            simp only [Instr.buildSlice, Sem.run_bind, run_underlying hu, Result.andThen_ok, sizeOf_run hs, hA, if_false, hc.2.1, zeroValue_run hz, Sem.run_pure, h1, newRow, run_newObj]
            rfl
          have row : ∀ (t : Ty) (l : List t.den), t.size = n → decL t len out = some l → Did P (Instr.buildSlice T len vs) base S0 ρ H w S (.all H.length) (H ++ [some (.row t l)]) := by
            intro t l ht hd
            obtain ⟨k1, k2⟩ := decL_rep hd h2
            obtain ⟨ρ', S', g1, g2, g3⟩ := new_row (e := e) hh (0, 0) (fun j _ => by simp) k1 At.toList
            refine ⟨ρ', _, S', _, run, g1, g2, ?_⟩
            simp only [PRel]
            refine ⟨⟨by simp, rfl⟩, fun o ho _ => ?_⟩
            rw [at_append_new] at ho; cases ho
            exact .inl ⟨_, _, len, g3, by simp [AO.len, k2], by simp [AO.len, k2], by simp [AO.elemSize, ht, hsz]⟩
          have raw : Did P (Instr.buildSlice T len vs) base S0 ρ H w S (.cs H.length 0 len n) (H ++ [some (.cells out)]) := by
            obtain ⟨ρ', S', g1, g2, g3⟩ := alloc_cells hh e h2
            refine ⟨ρ', _, S', _, run, g1, g2, ?_⟩
            simp only [PRel]
            refine ⟨⟨by simp, rfl⟩, fun cs ho => ?_⟩
            rw [at_append_new] at ho; cases ho
            have := h2.length
            simp at this
            exact ⟨by omega, _, _, len, g3, rfl, Nat.le_refl _⟩
          split at hl
          · rename_i t ht
            split at hl
            · rename_i hts
              split at hl
              · rename_i l hd
                simp only [OpR.applyTo, Option.some.injEq, Prod.mk.injEq, true_and] at hl
                obtain ⟨rfl, rfl⟩ := hl
                exact row t l hts hd
              · simp only [OpR.applyTo, Option.some.injEq, Prod.mk.injEq, true_and] at hl
                obtain ⟨rfl, rfl⟩ := hl
                exact raw
            · cases hl
          · simp only [OpR.applyTo, Option.some.injEq, Prod.mk.injEq, true_and] at hl
            obtain ⟨rfl, rfl⟩ := hl
            exact raw
        · cases hl
      · cases hl
    · cases hl
  · cases hl

/-! #### bytes and strings -/
def bytesStr (l : List Int) : ByteArray := l.foldl (fun r n => r.push (UInt8.ofNat n.toNat)) ByteArray.empty

def intCells : List PV → Option (List Int)
  | [] => some []
  | .val (.int .u8 n) :: r => (intCells r).map (n :: ·)
  | _ => none

theorem intCells_rel : ∀ {ps : List PV} {l : List Int} {us : List Value}, intCells ps = some l → PRels ρ H w S ps us → us = l.map (Value.int .u8)
  | [], _, _, h, k => by simp only [intCells, Option.some.injEq] at h; subst h; simp only [PRels] at k; subst k; rfl
  | p :: r, l, us, h, k => by
    simp only [PRels] at k
    obtain ⟨u, us', rfl, k1, k2⟩ := k
    unfold intCells at h
    split at h
    · rename_i e; cases e
    · rename_i n r' e
      cases e
      cases hr : intCells r with
      | none => rw [hr] at h; cases h
      | some m =>
        rw [hr] at h; cases h
        simp only [PRel] at k1
        subst k1
        rw [intCells_rel hr k2]; rfl
    · cases h

def convertP (P : Program) (src dst : TypeId) (x : PV) (H : Heap) : OpR :=
  match x with
  | .val (.string s) => match P.underlying src, P.underlying dst with
    | some _, some (.slice e) => match P.underlying e with
      | some (.int .u8) => .new true .all (.row (.int .u8) (s.data.toList.map fun b => (b.toNat : Int)))
      | _ => .fail
    | some _, some .string => .still true (.val (.string s))
    | _, _ => .fail
  | .val a => .ofOpt ((semPure P (convert src dst a)).map .val)
  | _ => match P.underlying src, P.underlying dst with
    | some (.slice e), some .string => match P.underlying e with
      | some (.int .u8) => match x with
        | .cs b off len 1 => match H.at? b with
          | some (.cells cells) => .ofOpt ((intCells ((cells.drop off).take len)).map fun l => .val (.string (bytesStr l)))
          | _ => .fail
        | _ => .ofOpt ((rowsOf (.int .u8) H x).map fun l => .val (.string (bytesStr l)))
      | _ => .fail
    | _, _ => .fail

theorem repL_ints : ∀ {l : List Int} {us : List Value}, RepL w S (.int .u8) l us → us = l.map (Value.int .u8)
  | [], _, h => h
  | n :: l, _, h => by
    obtain ⟨v1, v2, rfl, h1, h2⟩ := h
    obtain rfl := h1
    rw [repL_ints h2]; rfl

theorem convert_did (hh : HRel base S0 ρ H w S) {src dst : TypeId} {x q : PV} {v : Value} {H' : Heap} (hl : (convertP P src dst x H).applyTo H = some (true, q, H')) (hp : PRel ρ H w S x v) :
    Did P (convert src dst v) base S0 ρ H w S q H' := by
  unfold convertP at hl
  split at hl
  · rename_i s
    simp only [PRel] at hp
    subst hp
    split at hl
    · rename_i d e hsrc hdst
      split at hl
      · rename_i he
        simp only [OpR.applyTo, Option.some.injEq, Prod.mk.injEq, true_and] at hl
        obtain ⟨rfl, rfl⟩ := hl
        have run := Lib.run_convert_string_bytes (P := P) w src dst e s hsrc hdst he
        have hd := hh.drew
        -- the new row, frozen behind its end
        have hworld : Lib.bytesWorld w e s = w.drew.alloc (.cells (Lib.bytesCells w e s) e ((Lib.bytesCells w e s).size, (Lib.bytesCells w e s).size + 1)) := by
          simp only [Lib.bytesWorld, World.freeze]
          rw [if_neg (by omega)]
          simp only [World.alloc, World.drew]
          congr 1
          apply Array.ext_getElem?
          intro k
          rw [Array.getElem?_modify]
          by_cases hk : k = w.heap.size
          · subst hk; simp
          · simp only [Array.getElem?_push, hk, if_false]
            split
            · rename_i hk2; exact absurd hk2.symm hk
            · rfl
        have hA : At (Lib.bytesCells w e s) 0 (s.data.toList.map fun b => Value.int .u8 b.toNat) := by
          intro j hj
          simp at hj
          simp [Lib.bytesCells, Array.getElem?_append, hj]
        obtain ⟨ρ', S', g1, g2, g3⟩ := new_row (e := e) (arr := Lib.bytesCells w e s) hd ((Lib.bytesCells w e s).size, (Lib.bytesCells w e s).size + 1) (fun j hj => by simp; omega) (repL_bytes s.data.toList) hA
        rw [← hworld] at g1 g2
        refine ⟨ρ', _, S', _, run, g1, (Ext.drew hh).trans g2, ?_⟩
        simp only [PRel]
        refine ⟨⟨by simp, rfl⟩, fun o ho _ => ?_⟩
        rw [at_append_new] at ho; cases ho
        have hge := grownCap_ge w s.size 0 e
        have e1 : (AO.row (.int .u8) (s.data.toList.map fun b => (b.toNat : Int))).len = s.size := by simp [AO.len]
        rw [e1]
        refine .inl ⟨_, _, grownCap w s.size 0 e, g3, rfl, hge, ?_⟩
        have e2 : s.data.size = s.size := rfl
        simp [AO.elemSize, Ty.size, Lib.bytesCells, e2]
        omega
      · cases hl
    · rename_i hsrc hdst
      simp only [OpR.applyTo, Option.some.injEq, Prod.mk.injEq, true_and] at hl
      obtain ⟨rfl, rfl⟩ := hl
      refine Did.still hh (v := .string s) ?_ rfl
      simp only [convert, Sem.run_bind, run_underlying hsrc, run_underlying hdst, Result.andThen_ok]
      rename_i d _
      cases d <;> rfl
    · cases hl
  · simp only [PRel] at hp
    subst hp
    cases h : semPure P (convert src dst v) with
    | none => rw [h] at hl; cases hl
    | some r =>
      rw [h] at hl
      simp only [Option.map_some, OpR.ofOpt, OpR.applyTo, Option.some.injEq, Prod.mk.injEq, true_and] at hl
      obtain ⟨rfl, rfl⟩ := hl
      exact Did.still hh (semPure_run h w) rfl
  · split at hl
    · rename_i e hsrc hdst
      split at hl
      · rename_i he
        have toS : ∀ {a : Option Addr} {len cap : Nat} {l : List Int}, v = .slice a len cap → ((a = none → l = []) ∧ ∀ ad, a = some ad → (loadCells ad len).run P w = .ok (l.map (Value.int .u8)).toArray w) →
            (convert src dst v).run P w = .ok (.string (bytesStr l)) w := by
          rintro a len cap l rfl ⟨h0, h1⟩
          rw [run_convert_bytes_string w src dst e a len cap hsrc he hdst]
          cases a with
          | none => rw [h0 rfl]; rfl
          | some ad => exact run_bytesToString w ad len cap l (h1 ad rfl)
        split at hl
        · rename_i b off len _ _
          split at hl
          · rename_i cells ho
            cases hi : intCells ((cells.drop off).take len) with
            | none => rw [hi] at hl; cases hl
            | some l =>
              rw [hi] at hl
              simp only [Option.map_some, OpR.ofOpt, OpR.applyTo, Option.some.injEq, Prod.mk.injEq, true_and] at hl
              obtain ⟨rfl, rfl⟩ := hl
              simp only [PRel] at hp
              obtain ⟨hle, blk, n, cap, hr, rfl, _⟩ := hp.2 _ ho
              obtain ⟨blk', arr, elem, fz, h1, h2, h3, h4⟩ := hh.block _ _ ho
              rw [hr] at h1; cases h1
              have hus := intCells_rel hi ((h4.drop off).take len)
              refine Did.still hh (v := .string (bytesStr l)) (toS rfl ⟨fun h => (by cases h), fun ad had => ?_⟩) rfl
              cases had
              rw [← hus]
              have hl2 : ((arr.toList.drop off).take len).length = len := by
                have := h4.length
                simp at this ⊢
                omega
              have := run_loadCells_list (P := P) (w := w) (a := ⟨blk, off, none⟩) (cs := (arr.toList.drop off).take len) (fun j u hj => by
                  obtain ⟨hlt, rfl⟩ := List.getElem?_eq_some_iff.mp hj
                  rw [addr_add, cell_at h2]
                  have := (At.toList (arr := arr)).sub off len j hlt
                  rw [Nat.zero_add] at this
                  exact this)
              rwa [hl2] at this
          · cases hl
        · cases hr : rowsOf (.int .u8) H x with
          | none => rw [hr] at hl; cases hl
          | some l =>
            rw [hr] at hl
            simp only [Option.map_some, OpR.ofOpt, OpR.applyTo, Option.some.injEq, Prod.mk.injEq, true_and] at hl
            obtain ⟨rfl, rfl⟩ := hl
            obtain ⟨us, h1, ⟨a, c, rfl⟩, h2⟩ := rowsOf_reads (P := P) hh hr hp
            have hsr := h2 src e hsrc
            have hus := repL_ints h1
            refine Did.still hh (v := .string (bytesStr l)) (toS rfl ⟨fun ha => ?_, fun ad had => ?_⟩) rfl
            · subst ha
              have := hsr.cells
              simp [Builtin.firstCells] at this
              rw [this] at hus
              cases l with
              | nil => rfl
              | cons x l => cases hus
            · subst had
              have := hsr.cells
              rw [hus] at this
              simpa [Builtin.firstCells, Ty.size] using this
      · cases hl
    · cases hl

end
end Go.Proofs.Ytecjkkofoafhaaa.V
