/- The pure machine, part i: one operation of a region. -/
import Derived.Test.YtecjkkofoafhaaaVh
namespace Go.Proofs.Ytecjkkofoafhaaa.V
open Go.RowKit

section
variable {P : Program} {base : Nat} {S0 : Nat → Prop} {ρ : Loc} {H : Heap} {w : World} {S : Nat → Prop}

def lenP (P : Program) (T : TypeId) (x : PV) (H : Heap) : Option PV :=
  match P.underlying T with
  | some (.slice _) => match x with
    | .rows _ l _ => some (.val (.int .i64 l.length))
    | .emp => some (.val (.int .i64 0))
    | .val (.slice _ n _) => some (.val (.int .i64 n))
    | .all b => match H.at? b with
      | some o => if o.isRow then some (.val (.int .i64 o.len)) else none
      | none => none
    | .sl b _ len => match H.at? b with
      | some o => if o.isRow then some (.val (.int .i64 len)) else none
      | none => none
    | .cs b _ len _ => match H.at? b with
      | some (.cells _) => some (.val (.int .i64 len))
      | _ => none
    | _ => none
  | some (.array n _) => some (.val (.int .i64 n))
  | some .string => match x with
    | .val (.string s) => some (.val (.int .i64 s.size))
    | _ => none
  | _ => none

theorem len_run (hh : HRel base S0 ρ H w S) {T : TypeId} {x q : PV} {v : Value} (ts : Array TypeId) (ty : TypeId) (as : Array Value) (ht : ts[0]? = some T) (ha : as[0]? = some v) (hl : lenP P T x H = some q) (hp : PRel ρ H w S x v) :
    Did P (Builtin.len_ ts ty as) base S0 ρ H w S q H := by
  unfold lenP at hl
  split at hl
  · rename_i e hu
    have run : ∀ {a n c}, v = .slice a n c → (Builtin.len_ ts ty as).run P w = .ok (.int .i64 n) w := by
      rintro a n c rfl
      simp only [Builtin.len_, ht, ha, Sem.run_bind, run_underlying hu, Result.andThen_ok]
      rfl
    split at hl
    · cases hl
      simp only [PRel] at hp
      obtain ⟨⟨a, c, rfl, _⟩, _⟩ := hp
      exact Did.still hh (run rfl) rfl
    · cases hl
      simp only [PRel] at hp
      obtain ⟨a, rfl⟩ := hp
      exact Did.still hh (run rfl) rfl
    · cases hl
      simp only [PRel] at hp
      subst hp
      exact Did.still hh (run rfl) rfl
    · split at hl
      · rename_i o ho
        split at hl
        · rename_i hrow
          cases hl
          simp only [PRel] at hp
          rcases hp.2 o ho hrow with ⟨blk, n, cap, hr, rfl, _⟩ | ⟨h0, a, rfl⟩
          · exact Did.still hh (run rfl) rfl
          · rw [h0]; exact Did.still hh (run rfl) rfl
        · cases hl
      · cases hl
    · split at hl
      · rename_i o ho
        split at hl
        · rename_i hrow
          cases hl
          simp only [PRel] at hp
          obtain ⟨_, ⟨blk, n, cap, hr, rfl, _⟩ | ⟨h0, a, rfl⟩⟩ := hp.2 o ho hrow
          · exact Did.still hh (run rfl) rfl
          · rw [h0]; exact Did.still hh (run rfl) rfl
        · cases hl
      · cases hl
    · split at hl
      · rename_i cells ho
        cases hl
        simp only [PRel] at hp
        obtain ⟨_, blk, n, cap, hr, rfl, _⟩ := hp.2 _ ho
        exact Did.still hh (run rfl) rfl
      · cases hl
    · cases hl
  · rename_i n e hu
    cases hl
    refine Did.still hh (v := .int .i64 n) ?_ rfl
    simp only [Builtin.len_, ht, ha, Sem.run_bind, run_underlying hu, Result.andThen_ok]
    rfl
  · rename_i hu
    split at hl
    · cases hl
      simp only [PRel] at hp
      subst hp
      refine Did.still hh (v := .int .i64 _) ?_ rfl
      simp only [Builtin.len_, ht, ha, Sem.run_bind, run_underlying hu, Result.andThen_ok]
      rfl
    · cases hl
  · cases hl

def builtinP (P : Program) (b : Builtin) (ts : Array TypeId) (ty : TypeId) (consts : Array Bool) (args : List PV) (H : Heap) : OpR :=
  match b with
  | .append => match ts.toList, args with
    | [sT, xT], [s, x] => appendP P sT xT s x H
    | _, _ => .fail
  | .len => match ts[0]?, args with
    | some T, [x] => .ofOpt (lenP P T x H)
    | _, _ => .fail
  | .min => match valsOf args with
    | some l => .ofOpt ((semPure P (Builtin.min_ ts ty l.toArray)).map .val)
    | none => .fail
  | .max => match valsOf args with
    | some l => .ofOpt ((semPure P (Builtin.max_ ts ty l.toArray)).map .val)
    | none => .fail
  | _ => if consts.size = 0 then .fail else .fail

/-- s runs, and tells p, or nothing. -/
def DidN (P : Program) (s : Sem Next) (base : Nat) (S0 : Nat → Prop) (ρ : Loc) (H : Heap) (w : World) (S : Nat → Prop) (p : PV) (H' : Heap) : Prop :=
  ∃ ρ' w' S' v, (s.run P w = .ok (.value v) w' ∨ (s.run P w = .ok .skip w' ∧ v = undef)) ∧ HRel base S0 ρ' H' w' S' ∧ Ext base ρ H w S ρ' H' w' S' ∧ PRel ρ' H' w' S' p v

theorem Did.next {s : Sem Value} {p : PV} {H' : Heap} (h : Did P s base S0 ρ H w S p H') : DidN P (do pure (.value (← s))) base S0 ρ H w S p H' := by
  obtain ⟨ρ', w', S', v, hr, h1, h2, h3⟩ := h
  exact ⟨ρ', w', S', v, .inl (by simp [hr]), h1, h2, h3⟩

theorem Did.next' {s : Sem Value} {p : PV} {H' : Heap} (h : Did P s base S0 ρ H w S p H') : DidN P (s >>= fun x => pure (.value x)) base S0 ρ H w S p H' := h.next

theorem DidU.next {s : Sem Unit} {H' : Heap} (h : DidU P s base S0 ρ H w S H') : DidN P (do s; pure .skip) base S0 ρ H w S nothing H' := by
  obtain ⟨ρ', w', S', hr, h1, h2⟩ := h
  exact ⟨ρ', w', S', undef, .inr ⟨by simp [hr], rfl⟩, h1, h2, rfl⟩

theorem ofOpt_some {o : Option PV} {q : PV} {H' : Heap} (h : (OpR.ofOpt o).applyTo H = some (true, q, H')) : o = some q ∧ H' = H := by
  cases o with
  | none => simp [OpR.ofOpt, OpR.applyTo] at h
  | some p => simp [OpR.ofOpt, OpR.applyTo] at h; exact ⟨by rw [h.1], h.2.symm⟩
theorem ofTst_some {o : Tst} {q : PV} {H' : Heap} (h : (OpR.ofTst o).applyTo H = some (true, q, H')) : o = some (true, q) ∧ H' = H := by
  cases o with
  | none => simp [OpR.ofTst, OpR.applyTo] at h
  | some p => obtain ⟨b, p⟩ := p; simp [OpR.ofTst, OpR.applyTo] at h; obtain ⟨rfl, rfl, rfl⟩ := h; exact ⟨rfl, rfl⟩

theorem builtin_did (hh : HRel base S0 ρ H w S) {b : Builtin} {ts : Array TypeId} {ty : TypeId} {cs : Array Bool} {args : List PV} {vs : Array Value} {q : PV} {H' : Heap}
    (hl : (builtinP P b ts ty cs args H).applyTo H = some (true, q, H')) (hp : PRels ρ H w S args vs.toList) :
    DidN P (builtin b ts ty cs vs) base S0 ρ H w S q H' := by
  unfold builtinP at hl
  split at hl
  · split at hl
    · rename_i sT xT s x hts
      simp only [PRels] at hp
      obtain ⟨v, us, e1, h1, u, us2, e2, h2, e3⟩ := hp
      subst e3 e2
      have hv : vs = #[v, u] := by apply Array.ext'; simpa using e1
      have ht : ts = #[sT, xT] := by apply Array.ext'; simpa using hts
      subst hv ht
      exact (append_did (ty := ty) hh hl h1 h2).next
    · simp [OpR.applyTo] at hl
  · split at hl
    · rename_i T x ht
      simp only [PRels] at hp
      obtain ⟨v, us, e1, h1, e2⟩ := hp
      subst e2
      obtain ⟨h2, rfl⟩ := ofOpt_some hl
      have hv : vs = #[v] := by apply Array.ext'; simpa using e1
      subst hv
      exact (len_run hh ts ty #[v] ht rfl h2 h1).next
    · simp [OpR.applyTo] at hl
  · split at hl
    · rename_i l hv
      obtain ⟨h2, rfl⟩ := ofOpt_some hl
      have := valsOf_rel hv hp
      have hv' : vs = l.toArray := by apply Array.ext'; simpa using this
      subst hv'
      cases hs : semPure P (Builtin.min_ ts ty l.toArray) with
      | none => rw [hs] at h2; cases h2
      | some r =>
        rw [hs] at h2; cases h2
        exact (Did.still (p := .val r) hh (semPure_run hs w) rfl).next
    · simp [OpR.applyTo] at hl
  · split at hl
    · rename_i l hv
      obtain ⟨h2, rfl⟩ := ofOpt_some hl
      have := valsOf_rel hv hp
      have hv' : vs = l.toArray := by apply Array.ext'; simpa using this
      subst hv'
      cases hs : semPure P (Builtin.max_ ts ty l.toArray) with
      | none => rw [hs] at h2; cases h2
      | some r =>
        rw [hs] at h2; cases h2
        exact (Did.still (p := .val r) hh (semPure_run hs w) rfl).next
    · simp [OpR.applyTo] at hl
  · split at hl <;> simp [OpR.applyTo] at hl

/-- An operation that calls nobody. -/
def opP (P : Program) (o : Oper) (ev : Operand → PV) (H : Heap) : OpR :=
  match o.op with
  | .move x => .still true (ev x)
  | .assign x => .still true (ev x)
  | .pick c a b => match ev c with
    | .val (.bool t) => .pick t (ev a) (ev b)
    | _ => .fail
  | .alloc T => match zeroOf P T with
    | some z => .new true (fun n => .ptr n 0) (.cells (z.cells.toList.map .val))
    | none => .fail
  | .box _ x => match cellsOf (ev x) with
    | some cs => .new true (fun n => .ptr n 0) (.cells cs)
    | none => .fail
  | .build T parts => .ofOpt (buildP P T (parts.toList.map fun x => (x.1, ev x.2)))
  | .buildSlice T len parts => buildSliceP P T len (parts.toList.map fun x => (x.1, ev x.2))
  | .load T a => .ofOpt (loadP P T (ev a) H)
  | .store T a x => storeP P T (ev a) (ev x) H
  | .nilCheck x => .ofOpt (nilCheckP (ev x))
  | .binOp op T x y _ => .ofTst (binOpP P op T x y (ev x) (ev y))
  | .unOp op _ x => .ofOpt (valP P (Op.unary op) (ev x))
  | .convert s d x => convertP P s d (ev x) H
  | .makeInterface T x => .ofOpt (makeIfaceP P T (ev x))
  | .makeFunc fn first captured => .still true (.func fn (first.toList.map ev) (captured.toList.map ev))
  | .slice T x lo hi mx => .ofTst (sliceP P T (ev x) (lo.map ev) (hi.map ev) (mx.map ev) (isZero mx) H)
  | .fieldAddr s x f => .ofOpt (fieldAddrP P s f (ev x))
  | .field T x f => .ofOpt (fieldP P T (ev x) f)
  | .indexAddr T x ix => .ofTst (indexAddrP P T (ev x) (ev ix) H)
  | .index T x ix => .ofTst (indexP P T (ev x) (ev ix))
  | .typeAssert x _ T ok => .ofOpt (assertP P T (ev x) ok)
  | .extract t ix => .ofOpt (extractP (ev t) ix)
  | .call c => match c.callee with
    | .builtin b => builtinP P b c.argTypes o.type (c.args.map fun | .const _ => true | _ => false) (c.args.toList.map ev) H
    | _ => .fail
  | _ => .fail

theorem PRels.map {ev : Operand → PV} {a : Operand → Value} (h : ∀ x, PRel ρ H w S (ev x) (a x)) : ∀ (l : List Operand), PRels ρ H w S (l.map ev) (l.map a)
  | [] => rfl
  | x :: l => ⟨_, _, rfl, h x, PRels.map h l⟩

theorem Parts.map {ev : Operand → PV} {a : Operand → Value} (h : ∀ x, PRel ρ H w S (ev x) (a x)) : ∀ (l : List (Nat × Operand)), Parts ρ H w S (l.map fun x => (x.1, ev x.2)) (l.map fun x => (x.1, a x.2))
  | [] => .nil
  | (_, x) :: l => .cons (h x) (Parts.map h l)

theorem op_did (hh : HRel base S0 ρ H w S) {o : Oper} {ev : Operand → PV} {a : Operand → Value} (h : ∀ x, PRel ρ H w S (ev x) (a x)) {q : PV} {H' : Heap}
    (hl : (opP P o ev H).applyTo H = some (true, q, H')) : DidN P (execOp a o) base S0 ρ H w S q H' := by
  have same : ∀ {v : Value} {s : Sem Next}, s.run P w = .ok (.value v) w → ∀ {p}, PRel ρ H w S p v → DidN P s base S0 ρ H w S p H := fun hr _ hp => ⟨ρ, w, S, _, .inl hr, hh, Ext.refl, hp⟩
  have opt : ∀ (x : Option Operand) (p : PV), x.map ev = some p → ∃ v, x.map a = some v ∧ PRel ρ H w S p v := by
    rintro (_ | x) p hx
    · cases hx
    · cases hx; exact ⟨_, rfl, h x⟩
  have opt0 : ∀ (x : Option Operand), x.map ev = none → x.map a = none := by
    rintro (_ | x) hx
    · rfl
    · cases hx
  obtain ⟨dst, op, ty, pos, aft, gd⟩ := o
  unfold opP at hl
  cases op with
  | move x =>
    simp only [OpR.applyTo, Option.some.injEq, Prod.mk.injEq, true_and] at hl
    obtain ⟨rfl, rfl⟩ := hl
    exact same rfl (h x)
  | assign x =>
    simp only [OpR.applyTo, Option.some.injEq, Prod.mk.injEq, true_and] at hl
    obtain ⟨rfl, rfl⟩ := hl
    exact same rfl (h x)
  | pick c x y =>
    simp only at hl
    split at hl
    · rename_i t ht
      simp only [OpR.applyTo, Option.some.injEq, Prod.mk.injEq, true_and] at hl
      obtain ⟨rfl, rfl⟩ := hl
      have hc := h c
      rw [ht] at hc
      simp only [PRel] at hc
      refine same (v := if t then a x else a y) ?_ ?_
      · simp only [execOp, hc, asBool, Sem.run_bind, Sem.run_pure, Result.andThen_ok]
      · cases t
        · exact h y
        · exact h x
    · simp [OpR.applyTo] at hl
  | alloc T =>
    simp only at hl
    split at hl
    · rename_i z hz
      simp only [OpR.applyTo, Option.some.injEq, Prod.mk.injEq, true_and] at hl
      obtain ⟨rfl, rfl⟩ := hl
      exact (alloc_did hh hz).next
    · simp [OpR.applyTo] at hl
  | box T x =>
    simp only at hl
    split at hl
    · rename_i cs hc
      simp only [OpR.applyTo, Option.some.injEq, Prod.mk.injEq, true_and] at hl
      obtain ⟨rfl, rfl⟩ := hl
      exact (box_did hh hc (h x) T).next
    · simp [OpR.applyTo] at hl
  | build T parts =>
    obtain ⟨h2, rfl⟩ := ofOpt_some hl
    have hv : (parts.map fun (x : Nat × Operand) => match x with | (i, x) => (i, a x)).toList = parts.toList.map fun x => (x.1, a x.2) := by simp
    have := build_did hh h2 (vs := parts.map fun (x : Nat × Operand) => match x with | (i, x) => (i, a x)) (by rw [hv]; exact Parts.map h parts.toList)
    exact this.next
  | buildSlice T len parts =>
    have hv : (parts.map fun (x : Nat × Operand) => match x with | (i, x) => (i, a x)).toList = parts.toList.map fun x => (x.1, a x.2) := by simp
    have := buildSlice_did hh hl (vs := parts.map fun (x : Nat × Operand) => match x with | (i, x) => (i, a x)) (by rw [hv]; exact Parts.map h parts.toList)
    exact this.next
  | load T x => obtain ⟨h2, rfl⟩ := ofOpt_some hl; exact (load_did hh h2 (h x)).next
  | store T x y =>
    obtain ⟨rfl, h2⟩ := store_did hh hl (h x) (h y)
    exact h2.next
  | nilCheck x =>
    obtain ⟨h2, rfl⟩ := ofOpt_some hl
    obtain ⟨hr, rfl⟩ := nilCheck_run (P := P) (o := ⟨dst, .nilCheck x, ty, pos, aft, gd⟩) x rfl h2 (h x)
    exact same hr (h x)
  | binOp op T x y yT => obtain ⟨h2, rfl⟩ := ofTst_some hl; exact (binOp_did hh h2 (h x) (h y)).next
  | unOp op T x => obtain ⟨h2, rfl⟩ := ofOpt_some hl; exact (val_did (s := Op.unary op) hh h2 (h x)).next
  | convert s d x => exact (convert_did hh hl (h x)).next
  | makeInterface T x => obtain ⟨h2, rfl⟩ := ofOpt_some hl; exact (makeIface_did hh h2 (h x)).next
  | makeFunc fn first captured =>
    simp only [OpR.applyTo, Option.some.injEq, Prod.mk.injEq, true_and] at hl
    obtain ⟨rfl, rfl⟩ := hl
    refine same (v := .func fn (first.map a) (captured.map a)) rfl ?_
    simp only [PRel]
    exact ⟨_, _, rfl, by simpa using PRels.map h first.toList, by simpa using PRels.map h captured.toList⟩
  | slice T x lo hi mx =>
    obtain ⟨h2, rfl⟩ := ofTst_some hl
    exact (slice_did hh h2 (h x) (opt lo) (opt0 lo) (opt hi) (opt0 hi) (opt mx) (opt0 mx)).next
  | fieldAddr s x f => obtain ⟨h2, rfl⟩ := ofOpt_some hl; exact (fieldAddr_did hh h2 (h x)).next
  | field T x f => obtain ⟨h2, rfl⟩ := ofOpt_some hl; exact (field_did hh h2 (h x)).next
  | indexAddr T x ix => obtain ⟨h2, rfl⟩ := ofTst_some hl; exact (indexAddr_did hh h2 (h x) (h ix)).next
  | index T x ix => obtain ⟨h2, rfl⟩ := ofTst_some hl; exact (index_did hh h2 (h x) (h ix)).next
  | typeAssert x xT T ok => obtain ⟨h2, rfl⟩ := ofOpt_some hl; exact (assert_did (xT := xT) hh h2 (h x)).next
  | extract t ix => obtain ⟨h2, rfl⟩ := ofOpt_some hl; exact (extract_did hh h2 (h t)).next
  | call c =>
    simp only at hl
    split at hl
    · rename_i b hb
      have := builtin_did hh hl (vs := c.args.map a) (by simpa using PRels.map h c.args.toList)
      have e : execOp a ⟨dst, .call c, ty, pos, aft, gd⟩ = builtin b c.argTypes ty (c.args.map fun | .const _ => true | _ => false) (c.args.map a) := by
        simp only [execOp, resolve, hb]
        rfl
      rw [e]; exact this
    · simp [OpR.applyTo] at hl
  | _ => simp [OpR.applyTo] at hl

end
end Go.Proofs.Ytecjkkofoafhaaa.V
