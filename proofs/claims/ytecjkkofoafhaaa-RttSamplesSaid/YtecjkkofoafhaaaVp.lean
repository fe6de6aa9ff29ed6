/- The pure machine, part p: whoever goes on soundly, goes soundly. -/
import Derived.Test.YtecjkkofoafhaaaVo
namespace Go.Proofs.Ytecjkkofoafhaaa.V
open Go.RowKit

section
variable {P : Program} {I : World → Prop} {g : Nat} {M : Mach P I g} {R : Type} {fin : List PV → Heap → Option R}
variable {base : Nat} {S0 : Nat → Prop} {cs0 : List Frame} {post : World → Value → R → Prop}

theorem range'_cons {i n : Nat} (h : i < n) : List.range' i (n - i) = i :: List.range' (i + 1) (n - (i + 1)) := by
  rw [show n - i = (n - (i + 1)) + 1 by omega, List.range'_succ]

/-- One operation of a region, at the machine. -/
theorem wpOp_steps {ops : Array Oper} {i : Nat} {rest : List Nat} {K : Act → World → Prop} {a : Act} {w : World} (h : wpOp P ops (fun _ _ _ => False) i K a w) (b : Frame) (k : List Item) (cs : List Frame) :
    ∃ a' w', K a' w' ∧ Steps P (lone (b.at a (.inRegion ops (i :: rest) :: k)) cs w) (lone (b.at a' (.inRegion ops rest :: k)) cs w') := by
  unfold wpOp at h
  cases ho : ops[i]? with
  | none =>
    rw [ho] at h
    have hs := step_op_skip (P := P) (b := b) (a := a) (k := k) (cs := cs) (w := w) (ops := ops) (i := i) (rest := rest) (by simp [ho])
    simp only [ho, Option.bind_none, Act.put] at hs
    exact ⟨a, w, h, .one hs⟩
  | some o =>
    simp only [ho] at h
    by_cases hw : Region.wanted o (yielded ops a.tmps) = true
    · simp only [hw, if_true] at h
      rcases h with h | ⟨_, a₀, w₀, hq⟩
      case inr => exact hq.elim
      simp only [Oper.wp, Oper.upon] at h
      have hg := stepG_op (P := P) (b := b) (k := k) (cs := cs) (w := w) (rest := rest) ho hw
      have hfin : ∀ v, (b.at a (.inRegion ops (i :: rest) :: k)).finish v = b.at (a.put o.dst v) (.inRegion ops rest :: k) := by
        intro v; rw [Frame.finish_at, ho]; rfl
      split at h
      · rename_i v w' hr
        refine ⟨_, _, h, .one (step_lone_go ?_)⟩
        rw [hg, ← hfin]; simp [stepG.apply, hr]
      · rename_i w' hr
        refine ⟨_, _, h, .one (step_lone_go ?_)⟩
        rw [hg, ← hfin]; simp [stepG.apply, hr]
      · rename_i d w' hr
        refine ⟨_, _, h, .one (step_lone_go ?_)⟩
        have : ({ b.at a (.inRegion ops (i :: rest) :: k) with defers := d :: a.defers } : Frame).finish undef =
            b.at ({ a with defers := d :: a.defers }.put o.dst undef) (.inRegion ops rest :: k) := by
          have := Frame.finish_at b { a with defers := d :: a.defers } ops i rest k undef
          rw [ho] at this; exact this
        rw [hg]; simp only [stepG.apply, Sem.runT_eq, hr, GStep.bare_after]
        exact congrArg (fun fr => GStep.go { frame := fr, callers := cs, status := .running, dying := none } w') this
      · rename_i f args w' hr
        obtain ⟨e, w'', fr, hR, hsteps, _, hleave⟩ := h (b.at a (.inRegion ops (i :: rest) :: k) :: cs)
        have henter : step P (lone (b.at a (.inRegion ops (i :: rest) :: k)) cs w) =
            .next (lone (Frame.enter P f args .normal) (b.at a (.inRegion ops (i :: rest) :: k) :: cs) w') :=
          step_lone_go (by rw [hg]; simp [stepG.apply, hr, Frame.at])
        cases e with
        | returned v =>
          refine ⟨_, _, hR, .head henter (hsteps.trans (.one ?_))⟩
          rw [← hfin]; exact step_leave_returned hleave
        | panicked chain => exact hR.elim
        | outgrown => obtain ⟨a₀, w₀, hq⟩ := hR; exact hq.elim
      · rename_i row args w' hr
        obtain ⟨v, w'', hR, hsteps⟩ := h (b.at a (.inRegion ops (i :: rest) :: k)) cs
        have henter : step P (lone (b.at a (.inRegion ops (i :: rest) :: k)) cs w) =
            .next (lone (Frame.ofRow P row args .normal) (b.at a (.inRegion ops (i :: rest) :: k) :: cs) w') :=
          step_lone_go (by rw [hg]; simp [stepG.apply, hr, Frame.at])
        refine ⟨_, _, hR, .head henter ?_⟩
        rw [← hfin]; exact hsteps
      · exact h.elim
      · exact h.elim
    · simp only [hw, if_false, Bool.false_eq_true] at h
      have hs := step_op_skip (P := P) (b := b) (a := a) (k := k) (cs := cs) (w := w) (ops := ops) (i := i) (rest := rest)
        (by simp [ho]; simpa using hw)
      simp only [ho, Option.bind_some] at hs
      exact ⟨_, _, h, .one hs⟩

theorem Sound.plain {c : Cfg} {r : R} (hs : c.top.start = none) (h : Sound M base S0 cs0 post c r) : ∀ (ρ : Loc) (w : World) (S : Nat → Prop) (b : Frame) (a : Act) (todo : List Item) (cs : List Frame), I w → g ≤ base →
    HRel base S0 ρ c.H w S → PRels ρ c.H w S c.top.env a.tmps.toList → Stands M c.top b a todo → Stack M cs0 ρ c.H w S c.rest cs → Fin P (bottom c.top.K c.rest) base cs0 post w (lone (b.at a todo) cs w) r := by
  intro ρ w S b a todo cs hI hg hh he hst hs'
  have e1 : c.H0 = c.H := by simp [Cfg.H0, hs]
  have e2 : c.env0 = c.top.env := by simp [Cfg.env0, hs]
  exact h ρ w S b a todo cs hI hg (e1 ▸ hh) (by rw [e1, e2]; exact he) hst (by rw [e1]; exact hs') (by simp [Traced, hs])

theorem Sound.at (c : Cfg) (q : List Nat) {r : R} {ρ : Loc} {w : World} {S : Nat → Prop} {b : Frame} {a : Act} {td k : List Item} {code : Code} {cs : List Frame} {f : Func} {body : Code} (hI : I w) (hg : g ≤ base) (hh : HRel base S0 ρ c.H w S)
    (he : PRels ρ c.H w S c.top.env a.tmps.toList) (hb1 : b.fn = c.top.K) (hb2 : b.kind = .normal) (hd : a.defers = []) (hf : M.fn c.top.K = some f) (hb : f.body = some body) (ht : todoAt body q [] = some (code, k)) (htd : Head code k td)
    (hst : Stack M cs0 ρ c.H w S c.rest cs) (h : Sound M base S0 cs0 post (c.at q) r) : Fin P (bottom c.top.K c.rest) base cs0 post w (lone (b.at a td) cs w) r :=
  h ρ w S b a td cs hI hg hh he ⟨hb1, hb2, hd, f, body, code, k, hf, hb, ht, rfl, htd⟩ hst trivial

/-- The call returns. -/
theorem ret_sound (hfin : FinOk fin base S0 post) {c : Cfg} {f : Func} {F : Cfg → Option R} {r : R} (hr : (retSt M fin c f).run F = some r) (hF : ∀ c', F c' = some r → Sound M base S0 cs0 post c' r)
    (hf : M.fn c.top.K = some f) {ρ : Loc} {w : World} {S : Nat → Prop} {b : Frame} {a : Act} {td : List Item} {cs : List Frame} (hI : I w) (hg : g ≤ base) (hh : HRel base S0 ρ c.H w S) (he : PRels ρ c.H w S c.top.env a.tmps.toList)
    (hb1 : b.fn = c.top.K) (hb2 : b.kind = .normal) (hd : a.defers = []) (hst : Stack M cs0 ρ c.H w S c.rest cs) :
    Fin P (bottom c.top.K c.rest) base cs0 post w (lone { b.at a td with mode := .returning } cs w) r := by
  unfold retSt at hr
  cases hps : resultsP P f c.top.env c.H with
  | none => rw [hps] at hr; cases hr
  | some ps =>
    rw [hps] at hr
    obtain ⟨v, hv1, hv2⟩ := results_run hh he hps
    have hfn := M.fn_ok _ _ hf
    have hleave : ({ b.at a td with mode := .returning } : Frame).leaving P w (.returned v) := ⟨rfl, hd, hb2, f, by show P.funcs[b.fn]? = some f; rw [hb1]; exact hfn.1, hv1⟩
    cases hrest : c.rest with
    | nil =>
      rw [hrest] at hr hst
      cases hst
      simp only at hr
      cases hfi : fin ps c.H with
      | none => rw [hfi] at hr; cases hr
      | some r' =>
        rw [hfi] at hr
        simp only [St.run, Option.some.injEq] at hr
        subst hr
        exact ⟨_, w, v, Steps.refl _ _, hb1, hleave, hfin ps c.H r' ρ w S v hfi hh hv2, Below.refl _ _⟩
    | cons fr rest =>
      rw [hrest] at hr hst
      cases hst with
      | @cons _ conc _ cs' hwait hst' =>
        obtain ⟨b', a', ops, id, k, i, o, f', body, e1, e2, e3, e4, e5, e6, e7, e8, e9, e10, e11⟩ := hwait.is
        subst e1
        simp only [e5, e8, e6, e7, e9, St.run] at hr
        have hstep := step_leave_returned (P := P) (c := b'.at a' (.inRegion ops (List.range' i (ops.size - i)) :: k)) (cs := cs') hleave
        have hlt : i < ops.size := (Array.getElem?_eq_some_iff.1 e9).1
        rw [range'_cons hlt, Frame.finish_at, e9] at hstep
        rw [range'_cons hlt]
        have hS := (hF _ hr).plain e11 ρ w S b' (a'.put o.dst v) (.inRegion ops (List.range' (i + 1) (ops.size - (i + 1))) :: k) cs' hI hg hh (putP_rel e10 hv2 o.dst)
          ⟨e2, e3, (put_defers' _ _ _).trans e4, f', body, .region id ops false, k, e5, e6, e7, id, ops, false, rfl, by rw [e11]; exact ⟨rfl, rfl⟩⟩ hst'
        exact Fin.steps (.one hstep) hS

/-- Where it goes on, the machine comes. -/
def AfterQ (P : Program) (body : Code) (b : Frame) (a : Act) (cs : List Frame) (w : World) (k : List Item) (q : Option (List Nat)) : Prop :=
  match q with
  | some q => ∃ c' k' td, todoAt body q [] = some (c', k') ∧ Head c' k' td ∧ Steps P (lone (b.at a k) cs w) (lone (b.at a td) cs w)
  | none => Steps P (lone (b.at a k) cs w) (lone (b.at a []) cs w)

theorem afterQ {body : Code} {p : List Nat} {c : Code} {k : List Item} (h : todoAt body p [] = some (c, k)) (b : Frame) (a : Act) (cs : List Frame) (w : World) : AfterQ P body b a cs w k (after body p) := by
  have := after_steps (P := P) (b := b) (a := a) (cs := cs) (w := w) body p [] h
  unfold AfterQ
  cases hq : after body p with
  | some q => rw [hq] at this; exact this
  | none => rw [hq] at this; exact this

theorem goOn_sound (hfin : FinOk fin base S0 post) {c : Cfg} {f : Func} {F : Cfg → Option R} {r : R} {q : Option (List Nat)} (hr : (goOn M fin c f q).run F = some r) (hF : ∀ c', F c' = some r → Sound M base S0 cs0 post c' r)
    (hf : M.fn c.top.K = some f) {body : Code} (hb : f.body = some body) {ρ : Loc} {w : World} {S : Nat → Prop} {b : Frame} {a : Act} {k : List Item} {cs : List Frame} (hI : I w) (hg : g ≤ base) (hh : HRel base S0 ρ c.H w S) (he : PRels ρ c.H w S c.top.env a.tmps.toList)
    (hb1 : b.fn = c.top.K) (hb2 : b.kind = .normal) (hd : a.defers = []) (hst : Stack M cs0 ρ c.H w S c.rest cs)
    (hq : AfterQ P body b a cs w k q) :
    Fin P (bottom c.top.K c.rest) base cs0 post w (lone (b.at a k) cs w) r := by
  cases q with
  | some q =>
    obtain ⟨c', k', td, h1, h2, h3⟩ : ∃ c' k' td, todoAt body q [] = some (c', k') ∧ Head c' k' td ∧ Steps P (lone (b.at a k) cs w) (lone (b.at a td) cs w) := hq
    simp only [goOn, St.run] at hr
    exact Fin.steps h3 (Sound.at c q hI hg hh he hb1 hb2 hd hf hb h1 h2 hst (hF _ hr))
  | none =>
    simp only [goOn] at hr
    have hq' : Steps P (lone (b.at a k) cs w) (lone (b.at a []) cs w) := hq
    refine Fin.steps (hq'.trans (.one step_end)) (ret_sound hfin hr hF hf hI hg hh he hb1 hb2 hd hst)

/-- Behind an operation. -/
theorem opstep_sound {c : Cfg} {f : Func} {body : Code} {id : Nat} {ops : Array Oper} {draw : Bool} {k : List Item} {i : Nat} {o : Oper} {p : PV} {H' : Heap} {ft : Ft} {r : R} (hf : M.fn c.top.K = some f) (hb : f.body = some body)
    (ht : todoAt body c.top.path [] = some (.region id ops draw, k)) (hix : c.top.ix = some i) (hs : OpStep M ops i c.top.env c.H (putP c.top.env o.dst p) H' ft)
    (h : Sound M base S0 cs0 post (adv c i o.dst p H' ft) r) : Sound M base S0 cs0 post c r := by
  intro ρ w S b a todo cs hI hg hh he hst hstack htr
  obtain ⟨hb1, hb2, hd, f', body', code, k', e1, e2, e3, e4⟩ := hst
  rw [hf] at e1; cases e1
  rw [hb] at e2; cases e2
  rw [ht] at e3; cases e3
  rw [hix] at e4
  obtain ⟨id', ops', draw', e5, e6⟩ := e4
  cases e5
  have hlt : i < ops.size := by
    obtain ⟨oo, _, ho, _⟩ := hs
    exact (Array.getElem?_eq_some_iff.1 ho).1
  cases hstart : c.top.start with
  | none =>
    rw [hstart] at e6
    obtain ⟨rfl, rfl⟩ := e6
    have eH : c.H0 = c.H := by simp [Cfg.H0, hstart]
    have eE : c.env0 = c.top.env := by simp [Cfg.env0, hstart]
    rw [eH] at hh he hstack
    rw [eE] at he
    have hwp := opstep_wp (M := M) (Q := fun _ _ _ => False) (K := fun a' w' => ∃ ρ' S', I w' ∧ HRel base S0 ρ' H' w' S' ∧ Ext base ρ c.H w S ρ' H' w' S' ∧ PRels ρ' H' w' S' (putP c.top.env o.dst p) a'.tmps.toList ∧ a'.defers = a.defers)
      hg hI hh he hs (fun ρ' w' S' a' h1 h2 h3 h4 h5 => ⟨ρ', S', h1, h2, h3, h4, h5⟩)
    rw [range'_cons hlt]
    obtain ⟨a', w', ⟨ρ', S', h1, h2, h3, h4, h5⟩, hsteps⟩ := wpOp_steps hwp b (rest := List.range' (i + 1) (ops.size - (i + 1))) k cs
    refine Fin.steps hsteps (Fin.world h3.below ?_)
    have hsn : (adv c i o.dst p H' ft).top.start = none := hstart
    exact h.plain hsn ρ' w' S' b a' _ cs h1 hg h2 h4 ⟨hb1, hb2, h5.trans hd, f, body, .region id ops false, k, hf, hb, ht, id, ops, false, rfl, by rw [hsn]; exact ⟨rfl, rfl⟩⟩ (hstack.ext h3)
  | some s =>
    obtain ⟨e, h0⟩ := s
    rw [hstart] at e6
    obtain ⟨rfl, rfl⟩ := e6
    have hsn : (adv c i o.dst p H' ft).top.start = some (e, h0) := hstart
    have eH : (adv c i o.dst p H' ft).H0 = c.H0 := by simp [Cfg.H0, hsn, hstart]
    have eE : (adv c i o.dst p H' ft).env0 = c.env0 := by simp [Cfg.env0, hsn, hstart]
    refine h ρ w S b a _ cs hI hg (eH ▸ hh) (by rw [eH, eE]; exact he) ⟨hb1, hb2, hd, f, body, .region id ops true, k, hf, hb, ht, id, ops, true, rfl, by rw [hsn]; exact ⟨rfl, rfl⟩⟩ (by rw [eH]; exact hstack) ?_
    simp only [Traced, hsn]
    intro f2 body2 id2 ops2 draw2 k2 i2 q1 q2 q3 q4
    have q1' : M.fn c.top.K = some f2 := q1
    rw [hf] at q1'; cases q1'
    rw [hb] at q2; cases q2
    have q3' : todoAt body c.top.path [] = _ := q3
    rw [ht] at q3'; cases q3'
    have q4' : some (i + 1) = some i2 := q4
    cases q4'
    simp only [Traced, hstart] at htr
    obtain ⟨t1, t2⟩ := htr f body id ops true k i hf hb ht hix
    have hfeet : (adv c i o.dst p H' ft).top.feet = c.top.feet ++ [(i, ft)] := by simp [adv, hstart]
    rw [hfeet]
    refine ⟨t1.snoc hs, ?_⟩
    rw [List.map_append, t2, List.range_succ]
    rfl

end
end Go.Proofs.Ytecjkkofoafhaaa.V
