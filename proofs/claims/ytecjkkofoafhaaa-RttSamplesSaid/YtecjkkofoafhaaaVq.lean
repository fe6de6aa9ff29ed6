/- The pure machine, part q: each step is sound; so is what it comes to. -/
import Derived.Test.YtecjkkofoafhaaaVp
namespace Go.Proofs.Ytecjkkofoafhaaa.V
open Go.RowKit

section
variable {P : Program} {I : World → Prop} {g : Nat} {M : Mach P I g} {R : Type} {fin : List PV → Heap → Option R}
variable {base : Nat} {S0 : Nat → Prop} {cs0 : List Frame} {post : World → Value → R → Prop}

theorem step_scope' {b : Frame} {a : Act} {c : Code} {k : List Item} {cs : List Frame} {w : World} : Go.step P (lone (b.at a (.code (.scope c) :: k)) cs w) = .next (lone (b.at a (.code c :: .inScope c :: k)) cs w) :=
  step_lone_go (by simp [stepG, stepG.exec, Frame.at])

theorem enter_step {ops : Array Oper} {i : Nat} {rest : List Nat} {o : Oper} {a : Act} {w : World} {K : Nat} {vs : Array Value} (ho : ops[i]? = some o) (hw : Region.wanted o (yielded ops a.tmps) = true)
    (hr : (execOp a.eval o).run P w = .ok (.enter K vs) w) (b : Frame) (k : List Item) (cs : List Frame) :
    Go.step P (lone (b.at a (.inRegion ops (i :: rest) :: k)) cs w) = .next (lone (Frame.enter P K vs .normal) (b.at a (.inRegion ops (i :: rest) :: k) :: cs) w) := by
  have hg := stepG_op (P := P) (b := b) (k := k) (cs := cs) (w := w) (rest := rest) ho hw
  exact step_lone_go (by rw [hg]; simp [stepG.apply, hr, Frame.at])

theorem PRels.replicate {ρ : Loc} {H : Heap} {w : World} {S : Nat → Prop} (n : Nat) : PRels ρ H w S (List.replicate n nothing) (List.replicate n undef) := by
  induction n with
  | zero => exact rfl
  | succ n ih => exact ⟨undef, _, List.replicate_succ, rfl, ih⟩

theorem St.run_bind {α : Type} {o : Option α} {k : α → St R} {F : Cfg → Option R} {r : R} (h : (St.bind o k).run F = some r) : ∃ y, o = some y ∧ (k y).run F = some r := by
  cases o with
  | none => cases h
  | some y => exact ⟨y, rfl, h⟩

theorem wanted_bool {ops : Array Oper} {o : Oper} {env : List PV} {j : Nat} {want x : Bool} {d : Tmp} (hgd : o.guard = some (j, want)) (hd0 : (ops[j]?).bind (·.dst) = some d) (hx : env.getD d .junk = .val (.bool x)) : Wanted ops o env (x == want) := by
  unfold Wanted
  rw [hgd]
  simp only [hd0, hx]

theorem wanted_none {ops : Array Oper} {o : Oper} {env : List PV} {j : Nat} {want : Bool} (hgd : o.guard = some (j, want)) (hd0 : (ops[j]?).bind (·.dst) = none) : Wanted ops o env false := by
  unfold Wanted
  rw [hgd]
  simp only [hd0]

theorem wanted_undef {ops : Array Oper} {o : Oper} {env : List PV} {j : Nat} {want : Bool} {d : Tmp} {us : Array Value} (hgd : o.guard = some (j, want)) (hd0 : (ops[j]?).bind (·.dst) = some d) (hx : env.getD d .junk = .val (.tuple us)) : Wanted ops o env false := by
  unfold Wanted
  rw [hgd]
  simp only [hd0, hx]

theorem execSt_sound {c : Cfg} {f : Func} {body : Code} {id : Nat} {ops : Array Oper} {draw : Bool} {k : List Item} {i : Nat} {o : Oper} {r : R} {F : Cfg → Option R} (hf : M.fn c.top.K = some f) (hb : f.body = some body)
    (ht : todoAt body c.top.path [] = some (.region id ops draw, k)) (hix : c.top.ix = some i) (ho : ops[i]? = some o) (hw : Wanted ops o c.top.env true)
    (hr : (execSt (R := R) M c o i).run F = some r) (hF : ∀ c', F c' = some r → Sound M base S0 cs0 post c' r) : Sound M base S0 cs0 post c r := by
  unfold execSt at hr
  split at hr
  · rename_i K args hcp
    split at hr
    · rename_i cn hcon
      split at hr
      · rename_i x hx
        obtain ⟨y, hy, hr⟩ := St.run_bind hr
        exact opstep_sound hf hb ht hix ⟨o, _, ho, OpAct.call hw hcp hcon hx hy, rfl, rfl⟩ (hF _ hr)
      · cases hr
    · split at hr
      · cases hr
      · rename_i hstart
        split at hr
        · rename_i fK hfK
          simp only [St.run] at hr
          intro ρ w S b a todo cs hI hg hh he hst hstack htr
          obtain ⟨hb1, hb2, hd, f', body', code, k', e1, e2, e3, e4⟩ := hst
          rw [hf] at e1; cases e1
          rw [hb] at e2; cases e2
          rw [ht] at e3; cases e3
          rw [hix] at e4
          obtain ⟨id', ops', draw', e5, e6⟩ := e4
          cases e5
          rw [hstart] at e6
          obtain ⟨rfl, rfl⟩ := e6
          have eH : c.H0 = c.H := by simp [Cfg.H0, hstart]
          have eE : c.env0 = c.top.env := by simp [Cfg.env0, hstart]
          rw [eH] at hh he hstack
          rw [eE] at he
          have hlt : i < ops.size := (Array.getElem?_eq_some_iff.1 ho).1
          obtain ⟨hfn1, hfn2, hfn3⟩ := M.fn_ok _ _ hfK
          obtain ⟨vs, hrun, hargs⟩ := call_run he hcp ⟨fK, hfn1, hfn2, hfn3⟩
          obtain ⟨bodyK, hbK⟩ := Option.isSome_iff_exists.mp hfn3
          have hstep := enter_step (rest := List.range' (i + 1) (ops.size - (i + 1))) ho (wanted_conc he hw) hrun b k cs
          have henter : Frame.enter P K vs .normal =
              ({ (default : Frame) with fn := K, kind := .normal } : Frame).at { tmps := vs ++ Array.replicate (fK.ntmps - vs.size) undef, defers := [] } [.code bodyK] := by
            simp [Frame.enter, Frame.at, hfn1, hbK]
          rw [henter] at hstep
          rw [range'_cons hlt]
          refine Fin.steps (.one hstep) ?_
          have hlen : args.length = vs.size := by simpa using hargs.length
          refine (hF _ hr).plain rfl ρ w S _ _ _ _ hI hg hh ?_ ⟨rfl, rfl, rfl, fK, bodyK, bodyK, [], hfK, hbK, rfl, rfl, .inl rfl⟩ (.cons ⟨b, a, ops, id, k, i, o, f, body, ?_, hb1, hb2, hd, hf, hb, ht, rfl, ho, he, hstart⟩ hstack)
          · have : (vs ++ Array.replicate (fK.ntmps - vs.size) undef).toList = vs.toList ++ List.replicate (fK.ntmps - args.length) undef := by simp [hlen]
            simp only [this]
            exact hargs.append (PRels.replicate _)
          · rw [range'_cons hlt]
        · cases hr
  · split at hr
    · rename_i b p q hop
      split at hr
      rotate_left
      · cases hr
      rename_i x y z hopp
      have hxyz : evalP c.top.env x = .val (.bool b) ∧ p = evalP c.top.env y ∧ q = evalP c.top.env z := by
        unfold opP at hop
        rw [hopp] at hop
        simp only at hop
        split at hop
        · rename_i t ht
          simp only [OpR.pick.injEq] at hop
          obtain ⟨rfl, rfl, rfl⟩ := hop
          exact ⟨ht, rfl, rfl⟩
        · cases hop
      obtain ⟨hx, rfl, rfl⟩ := hxyz
      simp only [St.run] at hr
      have act : ∀ t : PV, t = (if b then evalP c.top.env y else evalP c.top.env z) → OpStep M ops i c.top.env c.H (putP c.top.env o.dst t) (setAll c.H [] ++ []) ((keepE t).ft (readsOf o (evalP c.top.env)) c.H) := by
        rintro t rfl
        exact ⟨o, keepE (if b then evalP c.top.env y else evalP c.top.env z), ho, OpAct.op hw (by rw [hop]; rfl), rfl, rfl⟩
      cases b with
      | true =>
        rw [Cfg.refO_eq hx] at hr
        exact opstep_sound hf hb ht hix (act _ rfl) (hF _ hr)
      | false =>
        rw [Cfg.refO_eq hx] at hr
        exact opstep_sound hf hb ht hix (act _ rfl) (hF _ hr)
    · split at hr
      · rename_i b e heff
        simp only [St.run] at hr
        cases b with
        | false => simp at hr
        | true =>
          simp only [cond_true] at hr
          exact opstep_sound hf hb ht hix ⟨o, e, ho, OpAct.op hw heff, rfl, rfl⟩ (hF _ hr)
      · cases hr

theorem opSt_sound (hfin : FinOk fin base S0 post) {c : Cfg} {f : Func} {body : Code} {id : Nat} {ops : Array Oper} {draw : Bool} {k : List Item} {i : Nat} {r : R} {F : Cfg → Option R} (hf : M.fn c.top.K = some f) (hb : f.body = some body)
    (ht : todoAt body c.top.path [] = some (.region id ops draw, k)) (hix : c.top.ix = some i)
    (hr : (opSt M fin c f body ops draw i).run F = some r) (hF : ∀ c', F c' = some r → Sound M base S0 cs0 post c' r) : Sound M base S0 cs0 post c r := by
  unfold opSt at hr
  split at hr
  · -- the region's end
    rename_i hnone
    have hge : ops.size ≤ i := by
      rcases Nat.lt_or_ge i ops.size with h | h
      · simp [h] at hnone
      · exact h
    intro ρ w S b a todo cs hI hg hh he hst hstack htr
    obtain ⟨hb1, hb2, hd, f', body', code, k', e1, e2, e3, e4⟩ := hst
    rw [hf] at e1; cases e1
    rw [hb] at e2; cases e2
    rw [ht] at e3; cases e3
    rw [hix] at e4
    obtain ⟨id', ops', draw', e5, e6⟩ := e4
    cases e5
    split at hr
    · rename_i hstart
      rw [hstart] at e6
      obtain ⟨_, rfl⟩ := e6
      have eH : c.H0 = c.H := by simp [Cfg.H0, hstart]
      have eE : c.env0 = c.top.env := by simp [Cfg.env0, hstart]
      rw [eH] at hh he hstack
      rw [eE] at he
      have hemp : List.range' i (ops.size - i) = [] := by rw [show ops.size - i = 0 by omega]; rfl
      rw [hemp]
      exact Fin.steps (.one step_region_end) (goOn_sound hfin hr hF hf hb hI hg hh he hb1 hb2 hd hstack (afterQ ht _ _ _ _))
    · rename_i st hstart
      obtain ⟨e0, h0⟩ := st
      rw [hstart] at e6
      obtain ⟨_, rfl⟩ := e6
      have eH : c.H0 = h0 := by simp [Cfg.H0, hstart]
      have eE : c.env0 = e0 := by simp [Cfg.env0, hstart]
      rw [eH] at hh he hstack
      rw [eE] at he
      split at hr
      · rename_i hcond
        simp only [Bool.and_eq_true, decide_eq_true_eq] at hcond
        obtain ⟨⟨hfine, hedge⟩, hisz⟩ := hcond
        simp only [Traced, hstart] at htr
        obtain ⟨t1, t2⟩ := htr f body id ops true k i hf hb ht hix
        have hdr : HRel base S0 ρ h0 w.drew S := hh.drew
        have hIw : I w.drew := M.keep _ _ base hg ((Below.refl _ _).drew) hI
        have hany := trace_any (M := M) (base := base) (S0 := S0) hedge hg (Q := fun e a' w' => e = .normal ∧ ∃ ρ' S', I w' ∧ HRel base S0 ρ' c.H w' S' ∧ Ext base ρ h0 w S ρ' c.H w' S' ∧ PRels ρ' c.H w' S' c.top.env a'.tmps.toList ∧ a'.defers = a.defers)
          ops.size c.top.feet (Array.replicate ops.size false) ρ e0 h0 w.drew S a
          (by have := congrArg List.length t2; simp at this; omega) (by simp)
          (fun j => by
            rw [t2, List.mem_range, hisz]
            by_cases hj : j < ops.size
            · simp [hj]
            · simp [hj])
          (by rw [t2]; exact List.pairwise_lt_range)
          (fun c1 o1 _ hl => by
            have hl' : (Array.replicate ops.size false).getD c1 false = true := hl
            by_cases hj : c1 < ops.size
            · simp [hj] at hl'
            · simp [hj] at hl')
          hfine hIw hdr ((Ext.drew hh).rels he) t1
          (fun ρ' w' S' a' q1 q2 q3 q4 q5 => ⟨rfl, ρ', S', q1, q2, (Ext.drew hh).trans q3, q4, q5⟩)
        have hwp := wp_region_any (id := id) M.mixed hany
        obtain ⟨e, a', w', ⟨rfl, ρ', S', q1, q2, q3, q4, q5⟩, harr⟩ := hwp b k cs
        exact Fin.steps harr (Fin.world q3.below (goOn_sound hfin hr hF hf hb q1 hg q2 q4 hb1 hb2 (q5.trans hd) (hstack.ext q3) (afterQ ht _ _ _ _)))
      · cases hr
    · cases hr
  · rename_i o ho
    have skip : (Wanted ops o c.top.env false) → (F (adv c i o.dst nothing (setAll c.H [] ++ []) ⟨[], [], none⟩) = some r) → Sound M base S0 cs0 post c r :=
      fun hw hk => opstep_sound hf hb ht hix ⟨o, keepE nothing, ho, OpAct.skip hw, rfl, rfl⟩ (hF _ hk)
    split at hr
    · rename_i hgd
      exact execSt_sound hf hb ht hix ho (by simp [Wanted, hgd]) hr hF
    · rename_i j want hgd
      split at hr
      · rename_i hd0
        exact skip (wanted_none hgd hd0) hr
      · rename_i d hd0
        split at hr
        · rename_i x hx
          cases want with
          | true =>
            simp only [St.run] at hr
            cases x with
            | true => rw [Cfg.ref_eq hx] at hr; exact execSt_sound hf hb ht hix ho (wanted_bool hgd hd0 hx) hr hF
            | false => rw [Cfg.ref_eq hx] at hr; exact skip (wanted_bool hgd hd0 hx) hr
          | false =>
            simp only [St.run] at hr
            cases x with
            | true => rw [Cfg.ref_eq hx] at hr; exact skip (wanted_bool hgd hd0 hx) hr
            | false => rw [Cfg.ref_eq hx] at hr; exact execSt_sound hf hb ht hix ho (wanted_bool hgd hd0 hx) hr hF
        · rename_i us hx
          exact skip (wanted_undef hgd hd0 hx) hr
        · cases hr

theorem step_sound (hfin : FinOk fin base S0 post) {c : Cfg} {r : R} {F : Cfg → Option R} (hr : (stepA M fin c).run F = some r) (hF : ∀ c', F c' = some r → Sound M base S0 cs0 post c' r) : Sound M base S0 cs0 post c r := by
  unfold stepA at hr
  split at hr
  · cases hr
  · rename_i f hf
    split at hr
    · cases hr
    · rename_i body hb
      split at hr
      · cases hr
      · rename_i code k ht
        split at hr
        · rename_i i hix
          split at hr
          · rename_i id ops draw
            exact opSt_sound hfin hf hb ht hix hr hF
          · cases hr
        · rename_i hix
          intro ρ w S b a todo cs hI hg hh he hst hstack htr
          obtain ⟨hb1, hb2, hd, f', body', code', k', e1, e2, e3, e4⟩ := hst
          rw [hf] at e1; cases e1
          rw [hb] at e2; cases e2
          rw [ht] at e3; cases e3
          rw [hix] at e4
          obtain ⟨hstart, hhead⟩ := e4
          have eH : c.H0 = c.H := by simp [Cfg.H0, hstart]
          have eE : c.env0 = c.top.env := by simp [Cfg.env0, hstart]
          rw [eH] at hh he hstack
          rw [eE] at he
          have aft : ∀ (a : Act) (w : World), AfterQ P body b a cs w k (after body c.top.path) := fun a w => afterQ ht b a cs w
          have down : ∀ (d : Nat), todoAt body (c.top.path ++ [d]) [] = todoAt code [d] k := fun d => todoAt_down body c.top.path [] d ht
          split at hr
          · -- skip
            rcases hhead with rfl | ⟨d, hd', _⟩
            · exact Fin.steps (.one step_skip) (goOn_sound hfin hr hF hf hb hI hg hh he hb1 hb2 hd hstack (aft a w))
            · cases hd'
          · rcases hhead with rfl | ⟨d, hd', _⟩
            · exact Fin.steps (.one step_label) (goOn_sound hfin hr hF hf hb hI hg hh he hb1 hb2 hd hstack (aft a w))
            · cases hd'
          · -- seq
            rcases hhead with rfl | ⟨d, hd', _⟩
            · exact Fin.steps (.one step_seq) (Sound.at c _ hI hg hh he hb1 hb2 hd hf hb (down 0) (.inl rfl) hstack (hF _ hr))
            · cases hd'
          · -- block
            rcases hhead with rfl | ⟨d, hd', _⟩
            · exact Fin.steps (.one step_block) (Sound.at c _ hI hg hh he hb1 hb2 hd hf hb (down 0) (.inl rfl) hstack (hF _ hr))
            · cases hd'
          · -- loop
            rcases hhead with rfl | ⟨d, hd', rfl⟩
            · exact Fin.steps (.one step_loop) (Sound.at c _ hI hg hh he hb1 hb2 hd hf hb (down 0) (.inl rfl) hstack (hF _ hr))
            · cases hd'
              exact Fin.steps (.one step_inLoop) (Sound.at c _ hI hg hh he hb1 hb2 hd hf hb (down 0) (.inl rfl) hstack (hF _ hr))
          · -- scope
            rcases hhead with rfl | ⟨d, hd', _⟩
            · exact Fin.steps (.one step_scope') (Sound.at c _ hI hg hh he hb1 hb2 hd hf hb (down 0) (.inl rfl) hstack (hF _ hr))
            · cases hd'
          · -- cond
            rename_i x y z
            rcases hhead with rfl | ⟨d, hd', _⟩
            · split at hr
              · rename_i t hx
                have hv := evalP_rel he x
                rw [hx] at hv
                simp only [PRel] at hv
                simp only [St.run] at hr
                refine Fin.steps (.one (step_cond hv)) ?_
                cases t with
                | true => rw [Cfg.refO_eq hx] at hr; exact Sound.at c _ hI hg hh he hb1 hb2 hd hf hb (down 0) (.inl rfl) hstack (hF _ hr)
                | false => rw [Cfg.refO_eq hx] at hr; exact Sound.at c _ hI hg hh he hb1 hb2 hd hf hb (down 1) (.inl rfl) hstack (hF _ hr)
              · cases hr
            · cases hd'
          · -- exit
            rename_i id
            rcases hhead with rfl | ⟨d, hd', _⟩
            · have hex := exit_steps (P := P) (b := b) (a := a) (cs := cs) (w := w) id body c.top.path [] ht
              split at hr
              · rename_i q hq
                rw [hq] at hex
                cases q with
                | some q =>
                  obtain ⟨kx, c', k', td, h1, h2, h3, h4⟩ := hex
                  exact Fin.steps (.one (step_exit h1)) (goOn_sound hfin hr hF hf hb hI hg hh he hb1 hb2 hd hstack ⟨c', k', td, h2, h3, h4⟩)
                | none =>
                  obtain ⟨kx, h1, h2⟩ := hex
                  exact Fin.steps (.one (step_exit h1)) (goOn_sound hfin hr hF hf hb hI hg hh he hb1 hb2 hd hstack h2)
              · cases hr
            · cases hd'
          · -- ret
            rcases hhead with rfl | ⟨d, hd', _⟩
            · exact Fin.steps (.one step_ret) (ret_sound hfin hr hF hf hI hg hh he hb1 hb2 hd hstack)
            · cases hd'
          · -- region
            rename_i id ops draw
            rcases hhead with rfl | ⟨d, hd', _⟩
            · simp only [St.run] at hr
              have hS := hF _ hr
              cases draw with
              | false =>
                refine Fin.steps (.one step_region) ?_
                refine hS.plain rfl ρ w S b a _ cs hI hg hh he ⟨hb1, hb2, hd, f, body, .region id ops false, k, hf, hb, ht, id, ops, false, rfl, rfl, ?_⟩ hstack
                rw [List.range_eq_range']
                rfl
              | true =>
                refine hS ρ w S b a _ cs hI hg hh he ⟨hb1, hb2, hd, f, body, .region id ops true, k, hf, hb, ht, id, ops, true, rfl, rfl, rfl⟩ hstack ?_
                simp only [Traced, if_true]
                intro f2 body2 id2 ops2 draw2 k2 i2 q1 q2 q3 q4
                cases q4
                exact ⟨.nil, rfl⟩
            · cases hd'
          · cases hr

theorem runA_sound (hfin : FinOk fin base S0 post) {X : Cfg → Option (Option R)} {r : R} (hX : ∀ c, X c = some (some r) → Sound M base S0 cs0 post c r) : ∀ (n : Nat) (c : Cfg), runA M fin X n c = some r → Sound M base S0 cs0 post c r
  | 0, _, h => by cases h
  | n + 1, c, h => by
    refine step_sound hfin h (fun c' hc' => ?_)
    split at hc'
    · rename_i o ho; exact hX c' (by rw [ho, hc'])
    · exact runA_sound hfin hX n c' hc'

/-- Places where it is told what it comes to, by what is known after m rounds. -/
theorem fam_sound (hfin : FinOk fin base S0 post) (X : Nat → Cfg → Option (Option R)) (h0 : ∀ c r, X 0 c ≠ some (some r))
    (hS : ∀ m c r, X (m + 1) c = some (some r) → ∃ c' n, (Sound M base S0 cs0 post c' r → Sound M base S0 cs0 post c r) ∧ runA M fin (X m) n c' = some r) :
    ∀ m c r, X m c = some (some r) → Sound M base S0 cs0 post c r := by
  intro m
  induction m with
  | zero => intro c r h; exact absurd h (h0 c r)
  | succ m ih =>
    intro c r h
    obtain ⟨c', n, h1, h2⟩ := hS m c r h
    exact h1 (runA_sound hfin (fun c hc => ih c r hc) n c' h2)

end
end Go.Proofs.Ytecjkkofoafhaaa.V
