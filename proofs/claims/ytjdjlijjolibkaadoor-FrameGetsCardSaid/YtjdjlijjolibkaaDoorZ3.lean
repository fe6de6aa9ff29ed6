/- The law FrameGets, part 3 of 6: what is proved: for every input that can be read the call of FrameGets returns true and leaves its arguments alone. No conditions but the listed tables of the card. -/
import Derived.Carry
import Derived.ChangeOld
import Derived.ChangeShapes
import Derived.ChangeSlices
import Derived.ChangeArms
import Derived.SizedLaws
import Derived.JoinedOf
import Derived.ShutString
import Derived.WalkKit
import Derived.ProofKit
import Derived.OpenShut
import Derived.Laws.Strings
import Derived.Test.YtjdjlijjolibkaaDoorProg
import Derived.KernelRfl
import Derived.Laws.Externs
import Derived.Lib.Builder
import Derived.Laws.Cover3
import Derived.Test.YtjdjlijjolibkaaDoorZ2
namespace Go.Proofs.YtjdjlijjolibkaaDoor.V
open Go.RowKit
section
variable {P : Program} {I : World → Prop} {g : Nat} {M : Mach P I g} {R : Type} {fin : Fins R}
variable {base : Base} {S0 : Nat → Prop} {cs0 : List Frame} {post : World → Ending → R → Prop}
theorem step_scope' {b : Frame} {a : Act} {c : Code} {k : List Item} {cs : List Frame} {w : World} : Go.step P (lone (b.at a (.code (.scope c) :: k)) cs w) = .next (lone (b.at a (.code c :: .inScope c :: k)) cs w) :=
 step_lone_go (by simp [stepG, stepG.exec, Frame.at])
theorem enter_step {ops : Array Oper} {i : Nat} {rest : List Nat} {o : Oper} {a : Act} {w : World} {K : Nat} {vs : Array Value} (ho : ops[i]? = some o) (hw : Region.wanted o (yielded ops a.tmps) = true)
  (hr : (execOp a.eval o).run P w = .ok (.enter K vs) w) (b : Frame) (k : List Item) (cs : List Frame) :
  Go.step P (lone (b.at a (.inRegion ops (i :: rest) :: k)) cs w) = .next (lone (Frame.enter P K vs .normal) (b.at a (.inRegion ops (i :: rest) :: k) :: cs) w) := by
 have hg := stepG_op (P := P) (b := b) (k := k) (cs := cs) (w := w) (rest := rest) ho hw
 exact step_lone_go (by rw [hg]; simp [stepG.apply, hr, Frame.at])
theorem PRels.replicate {ρ : Loc} {H : Heap} {w : World} {S : Nat → Prop} (n : Nat) : PRels ρ H w S (List.replicate n nothing) (List.replicate n undef) := by
 induction n with
 | zero => exact rfl
 | succ n ih => exact ⟨undef, _, List.replicate_succ, rfl, ih⟩
theorem St.run_bind {α : Type} {o : Option α} {k : α → St R} {F : Cfg → Option R} {r : R} (h : (St.bind o k).run F = some r) : ∃ y, o = some y ∧ (k y).run F = some r := by
 cases o with
 | none => cases h
 | some y => exact ⟨y, rfl, h⟩
theorem wanted_bool {ops : Array Oper} {o : Oper} {env : List PV} {j : Nat} {want x : Bool} {d : Tmp} (hgd : o.guard = some (j, want)) (hd0 : (ops[j]?).bind (·.dst) = some d) (hx : env.getD d .junk = .val (.bool x)) : Wanted ops o env (x == want) := by
 unfold Wanted
 rw [hgd]
 simp only [hd0, hx]
theorem wanted_none {ops : Array Oper} {o : Oper} {env : List PV} {j : Nat} {want : Bool} (hgd : o.guard = some (j, want)) (hd0 : (ops[j]?).bind (·.dst) = none) : Wanted ops o env false := by
 unfold Wanted
 rw [hgd]
 simp only [hd0]
theorem wanted_undef {ops : Array Oper} {o : Oper} {env : List PV} {j : Nat} {want : Bool} {d : Tmp} {us : Array Value} (hgd : o.guard = some (j, want)) (hd0 : (ops[j]?).bind (·.dst) = some d) (hx : env.getD d .junk = .val (.tuple us)) : Wanted ops o env false := by
 unfold Wanted
 rw [hgd]
 simp only [hd0, hx]
theorem extP_some {K : Nat} {args : List PV} {p : PV} (h : extP M K args = some p) : args = [p] ∧ M.ext K = true := by
 unfold extP at h
 split at h
 ·
  cases he : M.ext K with
  | false => rw [he] at h; cases h
  | true => rw [he] at h; cases h; exact ⟨rfl, rfl⟩
 · cases h
theorem splitSt_run {f : Nat → St R} {i : Int} {F : Cfg → Option R} {r : R} : ∀ (n c : Nat), (splitSt f i c n).run F = some r → ∃ m : Nat, m < c + n ∧ i = m ∧ (f m).run F = some r
 | 0, _, h => by cases h
 | n + 1, c, h => by
  simp only [splitSt, St.run] at h
  by_cases e : i = c
  ·
   simp only [e, decide_true, cond_true] at h
   exact ⟨c, by omega, e, h⟩
  ·
   simp only [e, decide_false, cond_false] at h
   obtain ⟨m, h1, h2, h3⟩ := splitSt_run n (c + 1) h
   exact ⟨m, by omega, h2, h3⟩
theorem closedV_rel {ρ : Loc} {H : Heap} {w : World} {S : Nat → Prop} {p : PV} {u v : Value} (h : closedV p = some u) (hp : PRel ρ H w S p v) : v = u := by
 cases p with
 | val x => simp only [closedV, Option.some.injEq] at h; subst h; simpa only [PRel] using hp
 | agg ps =>
  simp only [closedV] at h
  cases hv : valsOf ps with
  | none => rw [hv] at h; cases h
  | some l =>
   rw [hv] at h
   simp only [Option.map_some, Option.some.injEq] at h
   subst h
   simp only [PRel] at hp
   obtain ⟨us, rfl, hu⟩ := hp
   have := valsOf_rel hv hu
   rw [← this]
 | _ => cases h
theorem panic_run (hg : Low g base S0) {w : World} (hI : I w) {ρ : Loc} {H : Heap} {S : Nat → Prop} (hh : HRel base S0 ρ H w S) {o : Oper} {env : List PV} {a : Act} {pv : Value} (he : PRels ρ H w S env a.tmps.toList) (hp : panicOf o (evalP M.gl env) = some pv) :
  (execOp a.eval o).run P w = .halt (.panic pv) w := by
 obtain ⟨dst, op, ty, pos, aft, gd⟩ := o
 unfold panicOf at hp
 split at hp
 ·
  rename_i x hop
  simp only at hop
  subst hop
  split at hp
  ·
   rename_i T p hx
   have hr := evalP_rel M hg hI hh he x
   rw [hx] at hr
   simp only [PRel] at hr
   obtain ⟨u, hu, hpu⟩ := hr
   cases hc : closedV p with
   | none => rw [hc] at hp; cases hp
   | some u' =>
    rw [hc] at hp
    simp only [Option.map_some, Option.some.injEq] at hp
    subst hp
    have := closedV_rel hc hpu
    subst this
    simp only [execOp, hu]
    rfl
  · cases hp
 · cases hp
theorem pan_now (hfin : FinOk fin base S0 post) {c : Cfg} {f : Func} {body : Code} {id : Nat} {ops : Array Oper} {draw : Bool} {k : List Item} {i : Nat} {r : R} {pv : Value} (hf : M.fn c.top.K = some f) (hb : f.body = some body)
  (ht : todoAt body c.top.path [] = some (.region id ops draw, k)) (hix : c.top.ix = some i) (hstart : c.top.start = none) (hlt : i < ops.size) (hr : fin.pan pv = some r)
  (hp : ∀ (ρ : Loc) (w : World) (S : Nat → Prop) (a : Act), I w → Low g base S0 → HRel base S0 ρ c.H w S → PRels ρ c.H w S c.top.env a.tmps.toList →
   wpOp P ops (fun e a' w' => e = .panic [{ v := pv, recovered := false }] ∧ a'.defers = a.defers ∧ Keeps base.B w w') i (fun _ _ => False) a w) : Sound M base S0 cs0 post c r := by
 intro ρ w S b a todo cs hI hg hh he hst hstack htr
 obtain ⟨hb1, hb2, hd, f', body', code, k', e1, e2, e3, e4⟩ := hst
 rw [hf] at e1; cases e1
 rw [hb] at e2; cases e2
 rw [ht] at e3; cases e3
 rw [hix] at e4
 obtain ⟨id', ops', draw', e5, e6⟩ := e4
 cases e5
 rw [hstart] at e6
 obtain ⟨rfl, rfl⟩ := e6
 have eH : c.H0 = c.H := by simp [Cfg.H0, hstart]
 have eE : c.env0 = c.top.env := by simp [Cfg.env0, hstart]
 rw [eH] at hh he hstack
 rw [eE] at he
 have hwp := hp ρ w S a hI hg hh he
 rw [range'_cons hlt]
 have hops : wpOps P ops (fun e a' w' => e = .panic [{ v := pv, recovered := false }] ∧ a'.defers = a.defers ∧ Keeps base.B w w') (i :: List.range' (i + 1) (ops.size - (i + 1))) a w := by
  rw [wpOps_cons]
  exact wpOp_mono (fun _ _ h => h.elim) hwp
 obtain ⟨e, a', w', ⟨rfl, hd', hk⟩, harr⟩ := wp_ops _ a w hops b k cs
 obtain ⟨td, hsteps⟩ := harr
 exact pan_fin hfin hr hf hb1 (hd'.trans hd) hstack hk hsteps
theorem sortedB_pairwise : ∀ {l : List Nat}, sortedB l = true → l.Pairwise (· < ·)
 | [], _ => .nil
 | x :: l, h => by
  simp only [sortedB, Bool.and_eq_true, List.all_eq_true, decide_eq_true_eq] at h
  exact .cons h.1 (sortedB_pairwise h.2)
theorem OpTrace.append {l1 l2 : List (Nat × Ft)} {env H env1 H1 env2 H2} {ops : Array Oper} (h : OpTrace M ops l1 env H env1 H1) (k : OpTrace M ops l2 env1 H1 env2 H2) : OpTrace M ops (l1 ++ l2) env H env2 H2 := by
 induction h with
 | nil => exact k
 | cons h1 _ ih => exact .cons h1 (ih k)
theorem late_trace {ops : Array Oper} {i : Nat} {look : List Tmp} : ∀ {n j : Nat} {env : List PV} {H : Heap} {l : List (Nat × Ft)}, late M ops i look n j env H = some l →
  ∃ envF, OpTrace M ops l env H envF H ∧ ∀ t ∈ look, envF.getD t .junk = env.getD t .junk
 | 0, _, env, H, l, h => by simp only [late, Option.some.injEq] at h; subst h; exact ⟨env, .nil, fun _ _ => rfl⟩
 | n + 1, j, env, H, l, h => by
  simp only [late] at h
  split at h
  · simp only [Option.some.injEq] at h; subst h; exact ⟨env, .nil, fun _ _ => rfl⟩
  ·
   rename_i o ho
   cases hdep : depB ops 4 j i with
   | true => rw [hdep] at h; exact late_trace h
   | false =>
    rw [hdep] at h
    simp only [cond_false] at h
    split at h
    ·
     rename_i p hgd hcp hop
     cases hl : seenB look o.dst with
     | true => rw [hl] at h; cases h
     | false =>
      rw [hl] at h
      simp only [cond_false] at h
      cases hrec : late M ops i look n (j + 1) (putP env o.dst p) H with
      | none => rw [hrec] at h; cases h
      | some l' =>
       rw [hrec] at h
       simp only [Option.map_some, Option.some.injEq] at h
       subst h
       obtain ⟨envF, ht, hk⟩ := late_trace hrec
       have hx : (keepE p).heap H = H := by simp [keepE, Eff.heap, setAll]
       refine ⟨envF, .cons ⟨o, keepE p, ho, OpAct.op (by simp [Wanted, hgd]) (by rw [hop]; rfl), rfl, hx.symm⟩ ht, fun t htl => (hk t htl).trans (putP_getD fun d hd e => ?_)⟩
       rw [hd] at hl
       subst e
       have : look.contains d = true := by simpa using htl
       simp only [seenB, this] at hl
       cases hl
    · cases h
theorem badSt_sound (hfin : FinOk fin base S0 post) {c : Cfg} {f : Func} {body : Code} {id : Nat} {ops : Array Oper} {draw : Bool} {k : List Item} {i : Nat} {o : Oper} {r : R} {F : Cfg → Option R} {ft : Ft} {pv : Value} {env' : List PV} {H' : Heap} (hf : M.fn c.top.K = some f) (hb : f.body = some body)
  (ht : todoAt body c.top.path [] = some (.region id ops draw, k)) (hix : c.top.ix = some i) (ho : ops[i]? = some o) (hs : OpStepB M ops i c.top.env c.H env' H' ft (some pv))
  (hr : (badSt M fin c ops o i ft pv).run F = some r) : Sound M base S0 cs0 post c r := by
 have hlt : i < ops.size := (Array.getElem?_eq_some_iff.1 ho).1
 have hpan : ∀ {x : St R}, x = finPan fin pv → x.run F = some r → fin.pan pv = some r := by
  rintro _ rfl h
  unfold finPan at h
  split at h
  ·
   rename_i r' hr'
   simp only [St.run, Option.some.injEq] at h
   subst h; exact hr'
  · cases h
 unfold badSt at hr
 cases hstart : c.top.start with
 | none =>
  rw [hstart] at hr
  exact pan_now hfin hf hb ht hix hstart hlt (hpan rfl hr) (fun ρ w S a hI hg hh he => oppan_wp hg hI hh he hs (fun w' hk => ⟨rfl, rfl, hk⟩))
 | some st =>
  rw [hstart] at hr
  simp only at hr
  split at hr
  rotate_left
  · cases hr
  rename_i l hl
  cases hok : panOk ops (c.top.feet ++ l) i ft with
  | false => rw [hok] at hr; cases hr
  | true =>
   rw [hok] at hr
   have hpanr := hpan rfl hr
   obtain ⟨e0, h0⟩ := st
   intro ρ w S b a todo cs hI hg hh he hst hstack htr
   obtain ⟨hb1, hb2, hd, f', body', code, k', e1, e2, e3, e4⟩ := hst
   rw [hf] at e1; cases e1
   rw [hb] at e2; cases e2
   rw [ht] at e3; cases e3
   rw [hix] at e4
   obtain ⟨id', ops', draw', e5, e6⟩ := e4
   cases e5
   rw [hstart] at e6
   obtain ⟨rfl, rfl⟩ := e6
   have eH : c.H0 = h0 := by simp [Cfg.H0, hstart]
   have eE : c.env0 = e0 := by simp [Cfg.env0, hstart]
   rw [eH] at hh he hstack
   rw [eE] at he
   simp only [Traced, hstart] at htr
   obtain ⟨t1, _⟩ := htr f body id ops true k i hf hb ht hix
   obtain ⟨envF, t2, hlook⟩ := late_trace hl
   have t3 := t1.append t2
   obtain ⟨oo, ee, ho2, ha, _, _⟩ := hs
   rw [ho] at ho2; cases ho2
   have hs' : OpStepB M ops i envF c.H _ _ ft (some pv) := ⟨o, ee, ho, ha.local hlook (fun _ _ => rfl) (.inl rfl), rfl, rfl⟩
   simp only [panOk, Bool.and_eq_true, decide_eq_true_eq] at hok
   obtain ⟨⟨⟨⟨⟨hel, hfine⟩, hsort⟩, hall⟩, hcov⟩, hsz⟩ := hok
   simp only [List.all_eq_true, Bool.and_eq_true, bne_iff_ne, ne_eq, Bool.or_eq_true, beq_iff_eq, List.any_eq_true, List.mem_range, decide_eq_true_eq] at hall hcov
   have hdr : HRel base S0 ρ h0 w.drew S := hh.drew
   have hIw : I w.drew := M.keep _ _ g (Nat.le_refl _) ((Below.refl _ _).drew) hI
   have hrep : ∀ j, (Array.replicate ops.size false).getD j true = false ↔ j < ops.size := by
    intro j
    by_cases hj : j < ops.size
    · simp [hj]
    · simp [hj]
   have hany := trace_pan (M := M) (base := base) (S0 := S0) hel hg (Q := fun e a' w' => e = .panic [{ v := pv, recovered := false }] ∧ a'.defers = a.defers ∧ Keeps base.B w w') ho
    (ops.size - 1) (c.top.feet ++ l) (Array.replicate ops.size false) ρ e0 h0 w.drew S a envF c.H _ _
    (by omega) (by simp)
    (fun j hj => by
     obtain ⟨x, hx, rfl⟩ := List.mem_map.mp hj
     exact (hrep x.1).mpr (hall x hx).1.2)
    (fun j hj => by
     rcases hcov j ((hrep j).mp hj) with (⟨x, hx, rfl⟩ | h) | h
     · exact .inl (List.mem_map.mpr ⟨x, hx, rfl⟩)
     · exact .inr (.inl h)
     · exact .inr (.inr h))
    ((hrep i).mpr hlt)
    (fun hm => by
     obtain ⟨x, hx, e⟩ := List.mem_map.mp hm
     exact (hall x hx).1.1 e)
    (sortedB_pairwise hsort)
    (fun c1 o1 _ hl => by
     have hl' : (Array.replicate ops.size false).getD c1 false = true := hl
     by_cases hj : c1 < ops.size
     · simp [hj] at hl'
     · simp [hj] at hl')
    hfine
    (fun x hx => by
     rcases (hall x hx).2 with h | h
     · exact .inl (freeB_free h)
     · exact .inr h)
    hIw hdr ((Ext.drew hh).rels he) t3 hs'
    (fun w' a' q1 q2 => ⟨rfl, q2, (Ext.drew hh).below.trans q1⟩)
   rw [show ops.size - 1 + 1 = ops.size by omega] at hany
   have hwp := wp_region_any (id := id) M.mixed hany
   obtain ⟨e, a', w', ⟨rfl, hd', hk⟩, harr⟩ := hwp b k cs
   obtain ⟨td, hsteps⟩ := harr
   exact pan_fin hfin hpanr hf hb1 (hd'.trans hd) hstack hk hsteps
theorem execSt_sound (hfin : FinOk fin base S0 post) {c : Cfg} {f : Func} {body : Code} {id : Nat} {ops : Array Oper} {draw : Bool} {k : List Item} {i : Nat} {o : Oper} {r : R} {F : Cfg → Option R} (hf : M.fn c.top.K = some f) (hb : f.body = some body)
  (ht : todoAt body c.top.path [] = some (.region id ops draw, k)) (hix : c.top.ix = some i) (ho : ops[i]? = some o) (hw : Wanted ops o c.top.env true)
  (hr : (execSt M fin c ops o i).run F = some r) (hF : ∀ c', F c' = some r → Sound M base S0 cs0 post c' r) : Sound M base S0 cs0 post c r := by
 unfold execSt at hr
 split at hr
 ·
  rename_i K args hcp
  split at hr
  ·
   rename_i f0 hfd
   obtain ⟨hmem, hmt⟩ := hfind_ok hfd
   obtain ⟨y, hy, ⟨pv, hbad, hr⟩ | ⟨hbad, hr⟩⟩ := f0.c.elim_is _ _ _ _ _ hr
   · exact badSt_sound hfin hf hb ht hix ho ⟨o, _, ho, OpAct.pcall hw hcp hmem hmt hy hbad, rfl, rfl⟩ hr
   · exact opstep_sound hf hb ht hix ⟨o, _, ho, OpAct.hcall hw hcp hmem hmt hy hbad, rfl, rfl⟩ (hF _ hr)
  split at hr
  ·
   rename_i cn hcon
   split at hr
   ·
    rename_i x hx
    obtain ⟨y, hy, hr⟩ := St.run_bind hr
    exact opstep_sound hf hb ht hix ⟨o, _, ho, OpAct.ocall hw hcp hcon hx hy, rfl, rfl⟩ (hF _ hr)
   · cases hr
  split at hr
  ·
   rename_i cn hcon
   split at hr
   ·
    rename_i x hx
    obtain ⟨y, hy, hr⟩ := St.run_bind hr
    exact opstep_sound hf hb ht hix ⟨o, _, ho, OpAct.call hw hcp hcon hx hy, rfl, rfl⟩ (hF _ hr)
   · cases hr
  ·
   split at hr
   ·
    rename_i p hext
    obtain ⟨rfl, hext2⟩ := extP_some hext
    simp only [St.run] at hr
    exact opstep_sound hf hb ht hix ⟨o, _, ho, OpAct.ext hw hcp hext2, rfl, rfl⟩ (hF _ hr)
   split at hr
   · cases hr
   ·
    rename_i hstart
    split at hr
    ·
     rename_i fK hfK
     simp only [St.run] at hr
     intro ρ w S b a todo cs hI hg hh he hst hstack htr
     obtain ⟨hb1, hb2, hd, f', body', code, k', e1, e2, e3, e4⟩ := hst
     rw [hf] at e1; cases e1
     rw [hb] at e2; cases e2
     rw [ht] at e3; cases e3
     rw [hix] at e4
     obtain ⟨id', ops', draw', e5, e6⟩ := e4
     cases e5
     rw [hstart] at e6
     obtain ⟨rfl, rfl⟩ := e6
     have eH : c.H0 = c.H := by simp [Cfg.H0, hstart]
     have eE : c.env0 = c.top.env := by simp [Cfg.env0, hstart]
     rw [eH] at hh he hstack
     rw [eE] at he
     have hlt : i < ops.size := (Array.getElem?_eq_some_iff.1 ho).1
     obtain ⟨hfn1, hfn2, hfn3⟩ := M.fn_ok _ _ hfK
     obtain ⟨vs, hrun, hargs⟩ := call_run hg hI hh he hcp ⟨fK, hfn1, hfn2, hfn3⟩
     obtain ⟨bodyK, hbK⟩ := Option.isSome_iff_exists.mp hfn3
     have hstep := enter_step (rest := List.range' (i + 1) (ops.size - (i + 1))) ho (wanted_conc he hw) hrun b k cs
     have henter : Frame.enter P K vs .normal =
       ({ (default : Frame) with fn := K, kind := .normal } : Frame).at { tmps := vs ++ Array.replicate (fK.ntmps - vs.size) undef, defers := [] } [.code bodyK] := by
      simp [Frame.enter, Frame.at, hfn1, hbK]
     rw [henter] at hstep
     rw [range'_cons hlt]
     refine Fin.steps (.one hstep) ?_
     have hlen : args.length = vs.size := by simpa using hargs.length
     refine (hF _ hr).plain rfl ρ w S _ _ _ _ hI hg hh ?_ ⟨rfl, rfl, rfl, fK, bodyK, bodyK, [], hfK, hbK, rfl, rfl, .inl rfl⟩ (.cons ⟨b, a, ops, id, k, i, o, f, body, ?_, hb1, hb2, hd, hf, hb, ht, rfl, ho, he, hstart⟩ hstack)
     ·
      have : (vs ++ Array.replicate (fK.ntmps - vs.size) undef).toList = vs.toList ++ List.replicate (fK.ntmps - args.length) undef := by simp [hlen]
      simp only [this]
      exact hargs.append (PRels.replicate _)
     · rw [range'_cons hlt]
    · cases hr
 ·
  split at hr
  ·
   -- a panic
   rename_i pv hpv
   split at hr
   rotate_left
   · cases hr
   rename_i hstart
   have hlt : i < ops.size := (Array.getElem?_eq_some_iff.1 ho).1
   have hpan : fin.pan pv = some r := by
    unfold finPan at hr
    split at hr
    ·
     rename_i r' hr'
     simp only [St.run, Option.some.injEq] at hr
     subst hr; exact hr'
    · cases hr
   refine pan_now hfin hf hb ht hix hstart hlt hpan (fun ρ w S a hI hg hh he => ?_)
   unfold wpOp
   simp only [ho]
   rw [wanted_conc he hw]
   simp only [if_true]
   left
   unfold Oper.wp
   rw [panic_run hg hI hh he hpv]
   exact ⟨rfl, rfl, Keeps.refl _ _⟩
  split at hr
  ·
   rename_i b p q hop
   split at hr
   rotate_left
   · cases hr
   rename_i x y z hopp
   have hxyz : evalP M.gl c.top.env x = .val (.bool b) ∧ p = evalP M.gl c.top.env y ∧ q = evalP M.gl c.top.env z := by
    unfold opP at hop
    rw [hopp] at hop
    simp only at hop
    split at hop
    ·
     rename_i t ht
     simp only [OpR.pick.injEq] at hop
     obtain ⟨rfl, rfl, rfl⟩ := hop
     exact ⟨ht, rfl, rfl⟩
    · cases hop
   obtain ⟨hx, rfl, rfl⟩ := hxyz
   simp only [St.run] at hr
   have act : ∀ t : PV, t = (if b then evalP M.gl c.top.env y else evalP M.gl c.top.env z) → OpStep M ops i c.top.env c.H (putP c.top.env o.dst t) (setAll c.H [] ++ []) ((keepE t).ft (readsOf o (evalP M.gl c.top.env)) c.H) := by
    rintro t rfl
    exact ⟨o, keepE (if b then evalP M.gl c.top.env y else evalP M.gl c.top.env z), ho, OpAct.op hw (by rw [hop]; rfl), rfl, rfl⟩
   cases b with
   | true =>
    rw [Cfg.refO_eq hx] at hr
    exact opstep_sound hf hb ht hix (act _ rfl) (hF _ hr)
   | false =>
    rw [Cfg.refO_eq hx] at hr
    exact opstep_sound hf hb ht hix (act _ rfl) (hF _ hr)
  ·
   rename_i j n f hop
   obtain ⟨m, hlt, rfl, hr2⟩ := splitSt_run n 0 hr
   refine opstep_sound hf hb ht hix ⟨o, keepE (f m), ho, OpAct.op hw (by rw [hop]; simp only [OpR.eff]; rw [decide_eq_true (by omega)]; rfl), rfl, rfl⟩ (hF _ hr2)
  ·
   split at hr
   ·
    rename_i b e heff
    simp only [St.run] at hr
    cases b with
    | false => simp at hr
    | true =>
     simp only [cond_true] at hr
     exact opstep_sound hf hb ht hix ⟨o, e, ho, OpAct.op hw heff, rfl, rfl⟩ (hF _ hr)
   · cases hr
theorem opSt_sound (hfin : FinOk fin base S0 post) {c : Cfg} {f : Func} {body : Code} {id : Nat} {ops : Array Oper} {draw : Bool} {k : List Item} {i : Nat} {r : R} {F : Cfg → Option R} (hf : M.fn c.top.K = some f) (hb : f.body = some body)
  (ht : todoAt body c.top.path [] = some (.region id ops draw, k)) (hix : c.top.ix = some i)
  (hr : (opSt M fin c f body ops draw i).run F = some r) (hF : ∀ c', F c' = some r → Sound M base S0 cs0 post c' r) : Sound M base S0 cs0 post c r := by
 unfold opSt at hr
 split at hr
 ·
  -- the region's end
  rename_i hnone
  have hge : ops.size ≤ i := by
   rcases Nat.lt_or_ge i ops.size with h | h
   · simp [h] at hnone
   · exact h
  intro ρ w S b a todo cs hI hg hh he hst hstack htr
  obtain ⟨hb1, hb2, hd, f', body', code, k', e1, e2, e3, e4⟩ := hst
  rw [hf] at e1; cases e1
  rw [hb] at e2; cases e2
  rw [ht] at e3; cases e3
  rw [hix] at e4
  obtain ⟨id', ops', draw', e5, e6⟩ := e4
  cases e5
  split at hr
  ·
   rename_i hstart
   rw [hstart] at e6
   obtain ⟨_, rfl⟩ := e6
   have eH : c.H0 = c.H := by simp [Cfg.H0, hstart]
   have eE : c.env0 = c.top.env := by simp [Cfg.env0, hstart]
   rw [eH] at hh he hstack
   rw [eE] at he
   have hemp : List.range' i (ops.size - i) = [] := by rw [show ops.size - i = 0 by omega]; rfl
   rw [hemp]
   exact Fin.steps (.one step_region_end) (goOn_sound hfin hr hF hf hb hI hg hh he hb1 hb2 hd hstack (afterQ ht _ _ _ _))
  ·
   rename_i st hstart
   obtain ⟨e0, h0⟩ := st
   rw [hstart] at e6
   obtain ⟨_, rfl⟩ := e6
   have eH : c.H0 = h0 := by simp [Cfg.H0, hstart]
   have eE : c.env0 = e0 := by simp [Cfg.env0, hstart]
   rw [eH] at hh he hstack
   rw [eE] at he
   split at hr
   ·
    rename_i hcond
    simp only [Bool.and_eq_true, decide_eq_true_eq] at hcond
    obtain ⟨⟨hfine, hedge⟩, hisz⟩ := hcond
    simp only [Traced, hstart] at htr
    obtain ⟨t1, t2⟩ := htr f body id ops true k i hf hb ht hix
    have hdr : HRel base S0 ρ h0 w.drew S := hh.drew
    have hIw : I w.drew := M.keep _ _ g (Nat.le_refl _) ((Below.refl _ _).drew) hI
    have hany := trace_any (M := M) (base := base) (S0 := S0) hedge hg (Q := fun e a' w' => e = .normal ∧ ∃ ρ' S', I w' ∧ HRel base S0 ρ' c.H w' S' ∧ Ext base ρ h0 w S ρ' c.H w' S' ∧ PRels ρ' c.H w' S' c.top.env a'.tmps.toList ∧ a'.defers = a.defers)
     ops.size c.top.feet (Array.replicate ops.size false) ρ e0 h0 w.drew S a
     (by have := congrArg List.length t2; simp at this; omega) (by simp)
     (fun j => by
      rw [t2, List.mem_range, hisz]
      by_cases hj : j < ops.size
      · simp [hj]
      · simp [hj])
     (by rw [t2]; exact List.pairwise_lt_range)
     (fun c1 o1 _ hl => by
      have hl' : (Array.replicate ops.size false).getD c1 false = true := hl
      by_cases hj : c1 < ops.size
      · simp [hj] at hl'
      · simp [hj] at hl')
     hfine hIw hdr ((Ext.drew hh).rels he) t1
     (fun ρ' w' S' a' q1 q2 q3 q4 q5 => ⟨rfl, ρ', S', q1, q2, (Ext.drew hh).trans q3, q4, q5⟩)
    have hwp := wp_region_any (id := id) M.mixed hany
    obtain ⟨e, a', w', ⟨rfl, ρ', S', q1, q2, q3, q4, q5⟩, harr⟩ := hwp b k cs
    exact Fin.steps harr (Fin.world q3.below (goOn_sound hfin hr hF hf hb q1 hg q2 q4 hb1 hb2 (q5.trans hd) (hstack.ext q3) (afterQ ht _ _ _ _)))
   · cases hr
  · cases hr
 ·
  rename_i o ho
  have skip : (Wanted ops o c.top.env false) → (F (adv c i o.dst nothing (setAll c.H [] ++ []) ⟨[], [], []⟩) = some r) → Sound M base S0 cs0 post c r :=
   fun hw hk => opstep_sound hf hb ht hix ⟨o, keepE nothing, ho, OpAct.skip hw, rfl, rfl⟩ (hF _ hk)
  split at hr
  ·
   rename_i hgd
   exact execSt_sound hfin hf hb ht hix ho (by simp [Wanted, hgd]) hr hF
  ·
   rename_i j want hgd
   split at hr
   ·
    rename_i hd0
    exact skip (wanted_none hgd hd0) hr
   ·
    rename_i d hd0
    split at hr
    ·
     rename_i x hx
     cases want with
     | true =>
      simp only [St.run] at hr
      cases x with
      | true => rw [Cfg.ref_eq hx] at hr; exact execSt_sound hfin hf hb ht hix ho (wanted_bool hgd hd0 hx) hr hF
      | false => rw [Cfg.ref_eq hx] at hr; exact skip (wanted_bool hgd hd0 hx) hr
     | false =>
      simp only [St.run] at hr
      cases x with
      | true => rw [Cfg.ref_eq hx] at hr; exact skip (wanted_bool hgd hd0 hx) hr
      | false => rw [Cfg.ref_eq hx] at hr; exact execSt_sound hfin hf hb ht hix ho (wanted_bool hgd hd0 hx) hr hF
    ·
     rename_i us hx
     exact skip (wanted_undef hgd hd0 hx) hr
    · cases hr
theorem step_sound (hfin : FinOk fin base S0 post) {c : Cfg} {r : R} {F : Cfg → Option R} (hr : (stepA M fin c).run F = some r) (hF : ∀ c', F c' = some r → Sound M base S0 cs0 post c' r) : Sound M base S0 cs0 post c r := by
 unfold stepA at hr
 split at hr
 · cases hr
 ·
  rename_i f hf
  split at hr
  · cases hr
  ·
   rename_i body hb
   split at hr
   · cases hr
   ·
    rename_i code k ht
    split at hr
    ·
     rename_i i hix
     split at hr
     ·
      rename_i id ops draw
      exact opSt_sound hfin hf hb ht hix hr hF
     · cases hr
    ·
     rename_i hix
     intro ρ w S b a todo cs hI hg hh he hst hstack htr
     obtain ⟨hb1, hb2, hd, f', body', code', k', e1, e2, e3, e4⟩ := hst
     rw [hf] at e1; cases e1
     rw [hb] at e2; cases e2
     rw [ht] at e3; cases e3
     rw [hix] at e4
     obtain ⟨hstart, hhead⟩ := e4
     have eH : c.H0 = c.H := by simp [Cfg.H0, hstart]
     have eE : c.env0 = c.top.env := by simp [Cfg.env0, hstart]
     rw [eH] at hh he hstack
     rw [eE] at he
     have aft : ∀ (a : Act) (w : World), AfterQ P body b a cs w k (after body c.top.path) := fun a w => afterQ ht b a cs w
     have down : ∀ (d : Nat), todoAt body (c.top.path ++ [d]) [] = todoAt code [d] k := fun d => todoAt_down body c.top.path [] d ht
     split at hr
     ·
      -- skip
      rcases hhead with rfl | ⟨d, hd', _⟩
      · exact Fin.steps (.one step_skip) (goOn_sound hfin hr hF hf hb hI hg hh he hb1 hb2 hd hstack (aft a w))
      · cases hd'
     ·
      rcases hhead with rfl | ⟨d, hd', _⟩
      · exact Fin.steps (.one step_label) (goOn_sound hfin hr hF hf hb hI hg hh he hb1 hb2 hd hstack (aft a w))
      · cases hd'
     ·
      -- seq
      rcases hhead with rfl | ⟨d, hd', _⟩
      · exact Fin.steps (.one step_seq) (Sound.at c _ hI hg hh he hb1 hb2 hd hf hb (down 0) (.inl rfl) hstack (hF _ hr))
      · cases hd'
     ·
      -- block
      rcases hhead with rfl | ⟨d, hd', _⟩
      · exact Fin.steps (.one step_block) (Sound.at c _ hI hg hh he hb1 hb2 hd hf hb (down 0) (.inl rfl) hstack (hF _ hr))
      · cases hd'
     ·
      -- loop
      rcases hhead with rfl | ⟨d, hd', rfl⟩
      · exact Fin.steps (.one step_loop) (Sound.at c _ hI hg hh he hb1 hb2 hd hf hb (down 0) (.inl rfl) hstack (hF _ hr))
      ·
       cases hd'
       exact Fin.steps (.one step_inLoop) (Sound.at c _ hI hg hh he hb1 hb2 hd hf hb (down 0) (.inl rfl) hstack (hF _ hr))
     ·
      -- scope
      rcases hhead with rfl | ⟨d, hd', _⟩
      · exact Fin.steps (.one step_scope') (Sound.at c _ hI hg hh he hb1 hb2 hd hf hb (down 0) (.inl rfl) hstack (hF _ hr))
      · cases hd'
     ·
      -- cond
      rename_i x y z
      rcases hhead with rfl | ⟨d, hd', _⟩
      ·
       split at hr
       ·
        rename_i t hx
        have hv := evalP_rel M hg hI hh he x
        rw [hx] at hv
        simp only [PRel] at hv
        simp only [St.run] at hr
        refine Fin.steps (.one (step_cond hv)) ?_
        cases t with
        | true => rw [Cfg.refO_eq hx] at hr; exact Sound.at c _ hI hg hh he hb1 hb2 hd hf hb (down 0) (.inl rfl) hstack (hF _ hr)
        | false => rw [Cfg.refO_eq hx] at hr; exact Sound.at c _ hI hg hh he hb1 hb2 hd hf hb (down 1) (.inl rfl) hstack (hF _ hr)
       · cases hr
      · cases hd'
     ·
      -- exit
      rename_i id
      rcases hhead with rfl | ⟨d, hd', _⟩
      ·
       have hex := exit_steps (P := P) (b := b) (a := a) (cs := cs) (w := w) id body c.top.path [] ht
       split at hr
       ·
        rename_i q hq
        rw [hq] at hex
        cases q with
        | some q =>
         obtain ⟨kx, c', k', td, h1, h2, h3, h4⟩ := hex
         exact Fin.steps (.one (step_exit h1)) (goOn_sound hfin hr hF hf hb hI hg hh he hb1 hb2 hd hstack ⟨c', k', td, h2, h3, h4⟩)
        | none =>
         obtain ⟨kx, h1, h2⟩ := hex
         exact Fin.steps (.one (step_exit h1)) (goOn_sound hfin hr hF hf hb hI hg hh he hb1 hb2 hd hstack h2)
       · cases hr
      · cases hd'
     ·
      -- ret
      rcases hhead with rfl | ⟨d, hd', _⟩
      · exact Fin.steps (.one step_ret) (ret_sound hfin hr hF hf hI hg hh he hb1 hb2 hd hstack)
      · cases hd'
     ·
      -- region
      rename_i id ops draw
      rcases hhead with rfl | ⟨d, hd', _⟩
      ·
       simp only [St.run] at hr
       have hS := hF _ hr
       cases draw with
       | false =>
        refine Fin.steps (.one step_region) ?_
        refine hS.plain rfl ρ w S b a _ cs hI hg hh he ⟨hb1, hb2, hd, f, body, .region id ops false, k, hf, hb, ht, id, ops, false, rfl, rfl, ?_⟩ hstack
        rw [List.range_eq_range']
        rfl
       | true =>
        refine hS ρ w S b a _ cs hI hg hh he ⟨hb1, hb2, hd, f, body, .region id ops true, k, hf, hb, ht, id, ops, true, rfl, rfl, rfl⟩ hstack ?_
        simp only [Traced, if_true]
        intro f2 body2 id2 ops2 draw2 k2 i2 q1 q2 q3 q4
        cases q4
        exact ⟨.nil, rfl⟩
      · cases hd'
     · cases hr
theorem runA_sound (hfin : FinOk fin base S0 post) {X : Cfg → Option (Option R)} {r : R} (hX : ∀ c, X c = some (some r) → Sound M base S0 cs0 post c r) : ∀ (n : Nat) (c : Cfg), runA M fin X n c = some r → Sound M base S0 cs0 post c r
 | 0, _, h => by cases h
 | n + 1, c, h => by
  refine step_sound hfin h (fun c' hc' => ?_)
  split at hc'
  · rename_i o ho; exact hX c' (by rw [ho, hc'])
  · exact runA_sound hfin hX n c' hc'
end
section
variable {P : Program} {I : World → Prop} {g : Nat} {M : Mach P I g}
def finP (c : Con) : Fins (denL c.results) := ⟨fun ps H => decArgs c.results ps H, fun _ => none⟩
def Ret {R : Type} (p : World → Value → R → Prop) (w : World) (e : Ending) (r : R) : Prop := ∃ v, e = .returned v ∧ p w v r
def startP (K ntmps : Nat) (ps : List PV) : Cfg := ⟨⟨K, [], none, ps ++ List.replicate (ntmps - ps.length) nothing, none, []⟩, [], []⟩
theorem pvsOf_length : ∀ (ts : List Ty) (x : denL ts), (pvsOf ts x).length = ts.length
 | [], _ => rfl
 | _ :: ts, x => by simp [pvsOf, pvsOf_length ts]
def Base.all (w : World) : Base := ⟨fun b => b < w.heap.size, 0, fun _ => none, []⟩
theorem Keeps.all {w w' : World} (h : Keeps (Base.all w).B w w') : Below w.heap.size w w' := h.below fun _ hb => hb
theorem HRel.empty {w : World} {S : Nat → Prop} (hS : ∀ b, S b → b < w.heap.size) : HRel (Base.all w) S (fun _ => none) [] w S :=
 ⟨⟨fun _ h => h, Nat.zero_le _, fun _ h => absurd h (Nat.not_lt_zero _), fun _ h => absurd h (Nat.not_lt_zero _), fun _ h => absurd h (Nat.not_lt_zero _)⟩, hS, fun blk => ⟨fun h => .inl h, fun h => by
   rcases h with h | ⟨b, o, n, h1, _⟩
   · exact h
   · have := at_lt h1; simp at this⟩,
  fun b o blk n h1 _ => by have := at_lt h1; simp at this, fun b b' o o' blk n n' h1 _ _ _ => by have := at_lt h1; simp at this, fun b o h1 => by have := at_lt h1; simp at this⟩
theorem finP_ok (c : Con) (base : Base) (S0 : Nat → Prop) : FinOk (finP c) base S0 (Ret fun w v r => RepRes w S0 c.results r v) := by
 refine ⟨fun ps H r ρ w S v hf hh hv => ⟨v, rfl, ?_⟩, fun v r w h => by cases h⟩
 obtain ⟨S1, f1, f2⟩ := frzH_rel (idsOf c.results ps) hh
 have hS : ∀ b, b < w.heap.size → S0 b → S1 b := fun b _ h => (f1.own b).mpr (.inl h)
 unfold finP at hf
 obtain ⟨params, results, F⟩ := c
 simp only at hf f1 f2 r ⊢
 have list : ∀ vs, PRels ρ H w S ps vs → RepVs w S0 results r vs := fun vs hvs =>
  (decArgs_rel f1 (fun b hb => hb) hf (f2.rels hvs)).mono (Same.refl _ _) (fun b hb h => hS b hb h)
 unfold RepRes
 split
 ·
  rename_i t r
  cases ps with
  | nil => simp [decArgs] at hf
  | cons p qs => cases qs with
   | nil =>
    obtain ⟨u, us, e, h1, h2⟩ := list [v] ⟨v, [], rfl, hv, rfl⟩
    simp at e
    obtain ⟨rfl, rfl⟩ := e
    exact h1
   | cons q qs =>
    simp only [decArgs] at hf
    (repeat' split at hf) <;> first | cases hf | skip
    all_goals (rename_i h; simp at h)
 ·
  rename_i r hne
  have tup : ∃ us, v = .tuple us ∧ PRels ρ H w S ps us.toList := by
   cases ps with
   | nil => exact hv
   | cons p qs => cases qs with
    | nil =>
     exfalso
     cases results with
     | nil => simp [decArgs] at hf
     | cons t ts => cases ts with
      | nil => exact hne t r rfl HEq.rfl
      | cons t2 ts =>
       simp only [decArgs] at hf
       (repeat' split at hf) <;> first | cases hf | skip
       all_goals (rename_i h; simp [decArgs] at h)
    | cons q qs => exact hv
  obtain ⟨us, rfl, h1⟩ := tup
  exact ⟨us, rfl, list _ h1⟩
theorem RepVs.length {w : World} {S : Nat → Prop} : ∀ {ts : List Ty} {x : denL ts} {vs : List Value}, RepVs w S ts x vs → vs.length = ts.length
 | [], _, _, h => by obtain rfl := h; rfl
 | _ :: _, _, _, h => by obtain ⟨u, us, rfl, _, h2⟩ := h; simp [RepVs.length h2]
theorem comes_of_steps {m m' : Machine} {e : Ending} (h : Steps P m m') (he : e ≠ .outgrown) : Comes P m m' e := by
 cases e with
 | outgrown => exact absurd rfl he
 | _ => exact h
theorem call_sound {R : Type} {post : Base → (Nat → Prop) → World → Ending → R → Prop} {y : R} {ts : List Ty} {x : denL ts} (hret : ∀ b S w e, post b S w e y → e ≠ .outgrown) (hgI : ∀ w, I w → g ≤ w.heap.size) {K : Nat} {f : Func} (hf : M.fn K = some f)
  (h : ∀ base S0 cs0, base.n = 0 → Sound M base S0 cs0 (post base S0) (startP K f.ntmps (pvsOf ts x)) y) (w : World) (S : Nat → Prop) (args : Array Value) (hI : I w) (hS : ∀ b, S b → g ≤ b ∧ b < w.heap.size) (hargs : RepVs w S ts x args.toList) :
  Calls P K args w fun e w' => post (Base.all w) S w' e y ∧ Below w.heap.size w w' := by
 intro cs
 obtain ⟨hfn, _, hbody⟩ := M.fn_ok _ _ hf
 obtain ⟨body, hb⟩ := Option.isSome_iff_exists.mp hbody
 have henter : Frame.enter P K args .normal = ({ (default : Frame) with fn := K, kind := .normal } : Frame).at { tmps := args ++ Array.replicate (f.ntmps - args.size) undef, defers := [] } [.code body] := by
  simp [Frame.enter, Frame.at, hfn, hb]
 have hlen : (pvsOf ts x).length = args.size := by rw [pvsOf_length]; have := hargs.length; simp at this; omega
 have := h (Base.all w) S cs rfl (fun _ => none) w S ({ (default : Frame) with fn := K, kind := .normal } : Frame) { tmps := args ++ Array.replicate (f.ntmps - args.size) undef, defers := [] } [.code body] cs hI ⟨fun b hb => Nat.lt_of_lt_of_le hb (hgI w hI), fun b hb => (hS b hb).1⟩ (HRel.empty fun b hb => (hS b hb).2)
  (by
   have e : (args ++ Array.replicate (f.ntmps - args.size) undef).toList = args.toList ++ List.replicate (f.ntmps - (pvsOf ts x).length) undef := by simp [hlen]
   simp only [e]
   exact (pvsOf_rel hargs).append (PRels.replicate _))
  ⟨rfl, rfl, rfl, f, body, body, [], hf, hb, rfl, rfl, .inl rfl⟩ .nil trivial
 obtain ⟨fr, w', e, h1, h2, h3, h4, h5⟩ := this
 refine ⟨e, w', fr, ⟨h4, h5.all⟩, ?_, h2, h3⟩
 rw [henter]
 exact comes_of_steps h1 (hret _ _ _ _ h4)
theorem con_sound (hgI : ∀ w, I w → g ≤ w.heap.size) {K : Nat} {c : Con} {f : Func} (hf : M.fn K = some f)
  (h : ∀ x y, c.F x = some y → ∀ base S0 cs0, base.n = 0 → Sound M base S0 cs0 (Ret fun w v r => RepRes w S0 c.results r v) (startP K f.ntmps (pvsOf c.params x)) y) : c.Sound P I g K :=
 fun x y hxy w S args hI hS hargs => (call_sound (post := fun _ S0 => Ret fun w v r => RepRes w S0 c.results r v) (fun _ _ _ _ h => by obtain ⟨v, rfl, _⟩ := h; simp) hgI hf (fun base S0 cs0 hn => h x y hxy base S0 cs0 hn) w S args hI hS hargs).mono fun e w' h => by
  obtain ⟨⟨v, e1, e2⟩, e3⟩ := h
  exact ⟨v, e1, e2, e3⟩
def finO (t : Ty) : Fins (List t.den) := ⟨fun ps H => match ps with
 | [.all b] => match H.at? b with
  | some (.row _ m) => castL m
  | _ => none
 | [.val (.slice none 0 0)] => some []
 | [.sl b 0 k] => match H.at? b with
  | some (.row _ m) => (castL m).map fun l => l.take k
  | _ => none
 | _ => none, fun _ => none⟩
def OPost (t : Ty) (base : Base) (S0 : Nat → Prop) : World → Ending → List t.den → Prop := Ret fun w v r => OwnRow base.B w S0 t r v
theorem finO_ok (t : Ty) (base : Base) (S0 : Nat → Prop) : FinOk (finO t) base S0 (OPost t base S0) := by
 refine ⟨fun ps H r ρ w S v hf hh hv => ⟨v, rfl, ?_⟩, fun v r w h => by cases h⟩
 simp only [finO] at hf
 split at hf
 ·
  rename_i b
  split at hf
  ·
   rename_i t' m ho
   obtain ⟨rfl, rfl⟩ := castL_some hf
   have hv : PRel ρ H w S (.all b) v := hv
   simp only [PRel] at hv
   rcases hv.2 _ ho rfl with ⟨blk, n, cap, hr, rfl, hle, hn⟩ | ⟨h0, rfl⟩
   ·
    rcases hh.block _ _ ho with ⟨blk', arr, elem, fz, h1, h2, h3, h4, h5⟩ | ⟨h1, _⟩
    ·
     rw [hr] at h1; cases h1
     exact .inr ⟨blk, arr, elem, fz, cap, S, rfl, hle, hn, (hh.from_ b _ _ _ ho hr).1, h2, h3, fun b hb => (hh.own b).mpr (.inl hb), (hh.own blk).mpr (.inr ⟨b, _, _, ho, rfl, hr⟩), h4, h5⟩
    · rw [hr] at h1; cases h1
   · exact .inl ⟨List.length_eq_zero_iff.mp h0, rfl⟩
  · cases hf
 ·
  cases hf
  have hv : PRel ρ H w S (.val (.slice none 0 0)) v := hv
  simp only [PRel] at hv
  exact .inl ⟨rfl, hv⟩
 ·
  rename_i b k
  split at hf
  ·
   rename_i t' m ho
   obtain ⟨l, hl, rfl⟩ := Option.map_eq_some_iff.mp hf
   obtain ⟨rfl, rfl⟩ := castL_some hl
   have hv : PRel ρ H w S (.sl b 0 k) v := hv
   simp only [PRel] at hv
   obtain ⟨hk, ⟨blk, n, cap, hr, rfl, hle, hn⟩ | ⟨h0, a, rfl, ha⟩⟩ := hv.2 _ ho rfl
   ·
    have hk' : k ≤ l.length := by simpa [AO.len] using hk
    rcases hh.block _ _ ho with ⟨blk', arr, elem, fz, h1, h2, h3, h4, h5⟩ | ⟨h1, _⟩
    ·
     rw [hr] at h1; cases h1
     have hlen : (l.take k).length = k := by simp; omega
     refine .inr ⟨blk, arr, elem, fz, cap, S, by rw [hlen]; simp, by rw [hlen]; exact hle, by simpa [AO.elemSize] using hn, (hh.from_ b _ _ _ ho hr).1, h2, h3, fun b hb => (hh.own b).mpr (.inl hb), (hh.own blk).mpr (.inr ⟨b, _, _, ho, rfl, hr⟩), fun i hi => ?_, h5⟩
     obtain ⟨vs, g1, g2⟩ := h4 i (by omega)
     exact ⟨vs, by rw [List.getElem_take]; exact g1, g2⟩
    · rw [hr] at h1; cases h1
   ·
    subst h0
    rw [ha trivial]
    exact .inl ⟨by simp, rfl⟩
  · cases hf
 · cases hf
theorem ocon_sound (hgI : ∀ w, I w → g ≤ w.heap.size) {K : Nat} {c : OCon} {f : Func} (hf : M.fn K = some f)
  (h : ∀ x y, c.F x = some y → ∀ base S0 cs0, base.n = 0 → Sound M base S0 cs0 (OPost c.t base S0) (startP K f.ntmps (pvsOf c.params x)) y) : c.Sound P I g K :=
 fun x y hxy w S args hI hS hargs => (call_sound (post := fun base S0 => OPost c.t base S0) (fun _ _ _ _ h => by obtain ⟨v, rfl, _⟩ := h; simp) hgI hf (fun base S0 cs0 hn => h x y hxy base S0 cs0 hn) w S args hI hS hargs).mono fun e w' h => by
  obtain ⟨⟨v, e1, e2⟩, e3⟩ := h
  exact ⟨v, e1, e2, e3⟩
end
universe u
section
variable {α : Type u}
def kInt (i : IntKind) (k : IntKind → α) : α := match i with
 | .i8 => k .i8 | .i16 => k .i16 | .i32 => k .i32 | .i64 => k .i64 | .u8 => k .u8 | .u16 => k .u16 | .u32 => k .u32 | .u64 => k .u64
def kVal (v : Value) (k : Value → α) : α := match v with
 | .int i n => kInt i fun i => k (.int i n)
 | .bool b => k (.bool b)
 | .string s => k (.string s)
 | .tuple us => k (.tuple us)
 | v => k v
def kBool (b : Bool) (k : Bool → α) : α := match b with
 | true => k true
 | false => k false
theorem kInt_eq (i : IntKind) (k : IntKind → α) : kInt i k = k i := by cases i <;> rfl
theorem kVal_eq (v : Value) (k : Value → α) : kVal v k = k v := by cases v <;> simp only [kVal, kInt_eq]
theorem kBool_eq (b : Bool) (k : Bool → α) : kBool b k = k b := by cases b <;> rfl
def kNat (tbl : List Nat) (n : Nat) (k : Nat → α) : α := match tbl with
 | [] => k n
 | t :: tbl => bif Nat.beq n t then k t else kNat tbl n k
termination_by structural tbl
theorem kNat_eq : ∀ (tbl : List Nat) (n : Nat) (k : Nat → α), kNat tbl n k = k n
 | [], _, _ => rfl
 | t :: tbl, n, k => by
  rw [kNat]
  cases h : Nat.beq n t with
  | true => simp [Nat.eq_of_beq_eq_true h]
  | false => exact kNat_eq tbl n k
def small : List Nat := [0, 1, 2, 3, 4, 5, 6, 7, 8, 9, 10, 11, 12, 13, 14, 15, 16, 17, 18, 19, 20, 21, 22, 23, 24, 25, 26, 27, 28, 29, 30, 31, 32, 33, 34, 35, 36, 37, 38, 39, 40]
mutual
def kPV (p : PV) (k : PV → α) : α := match p with
 | .val v => kVal v fun v => k (.val v)
 | .rows t l c => kBool c fun c => k (.rows t l c)
 | .sl b off len => kNat small b fun b => k (.sl b off len)
 | .all b => kNat small b fun b => k (.all b)
 | .cs b off len sz => kNat small b fun b => k (.cs b off len sz)
 | .ptr b off => kNat small b fun b => kNat small off fun off => k (.ptr b off)
 | .rptr b i j => kNat small b fun b => kNat small j fun j => k (.rptr b i j)
 | .pin t x j => k (.pin t x j)
 | .func fn f c => kPVs f fun f => kPVs c fun c => k (.func fn f c)
 | .iface t x => kPV x fun x => k (.iface t x)
 | .agg cs => kPVs cs fun cs => k (.agg cs)
 | .tuple vs => kPVs vs fun vs => k (.tuple vs)
 | .emp => k .emp
 | .junk => k .junk
 | .tab t l => k (.tab t l)
 | .head b => kNat small b fun b => k (.head b)
 | .nos b off => kNat small b fun b => kNat small off fun off => k (.nos b off)
termination_by structural p
def kPVs (ps : List PV) (k : List PV → α) : α := match ps with
 | [] => k []
 | p :: ps => kPV p fun p => kPVs ps fun ps => k (p :: ps)
termination_by structural ps
end
mutual
theorem kPV_eq : ∀ (p : PV) (k : PV → α), kPV p k = k p
 | .val v, k => kVal_eq v _
 | .rows t l c, k => kBool_eq c _
 | .sl b off len, k => kNat_eq _ _ _
 | .all b, k => kNat_eq _ _ _
 | .cs b off len sz, k => kNat_eq _ _ _
 | .ptr b off, k => by rw [kPV, kNat_eq, kNat_eq]
 | .rptr b i j, k => by rw [kPV, kNat_eq, kNat_eq]
 | .pin t x j, k => rfl
 | .func fn f c, k => by rw [kPV, kPVs_eq f, kPVs_eq c]
 | .iface t x, k => by rw [kPV, kPV_eq x]
 | .agg cs, k => by rw [kPV, kPVs_eq cs]
 | .tuple vs, k => by rw [kPV, kPVs_eq vs]
 | .emp, k => rfl
 | .junk, k => rfl
 | .tab t l, k => rfl
 | .head b, k => by rw [kPV, kNat_eq]
 | .nos b off, k => by rw [kPV, kNat_eq, kNat_eq]
theorem kPVs_eq : ∀ (ps : List PV) (k : List PV → α), kPVs ps k = k ps
 | [], k => rfl
 | p :: ps, k => by rw [kPVs, kPV_eq p, kPVs_eq ps]
end
def kAO (o : Option AO) (k : Option AO → α) : α := match o with
 | none => k none
 | some (.cells e cs) => kPVs cs fun cs => k (some (.cells e cs))
 | some (.row t l) => k (some (.row t l))
 | some (.fro t l) => k (some (.fro t l))
 | some .res => k (some .res)
theorem kAO_eq (o : Option AO) (k : Option AO → α) : kAO o k = k o := by
 cases o with
 | none => rfl
 | some o => cases o <;> first | rfl | exact kPVs_eq _ _
def kHeap (H : Heap) (k : Heap → α) : α := match H with
 | [] => k []
 | o :: H => kAO o fun o => kHeap H fun H => k (o :: H)
termination_by structural H
theorem kHeap_eq : ∀ (H : Heap) (k : Heap → α), kHeap H k = k H
 | [], _ => rfl
 | o :: H, k => by rw [kHeap, kAO_eq, kHeap_eq H]
def kList {β : Type} (l : List β) (k : List β → α) : α := match l with
 | [] => k []
 | x :: l => kList l fun l => k (x :: l)
termination_by structural l
theorem kList_eq {β : Type} : ∀ (l : List β) (k : List β → α), kList l k = k l
 | [], _ => rfl
 | x :: l, k => by rw [kList, kList_eq l]
def kFt (x : Nat × Ft) (k : Nat × Ft → α) : α := match x with
 | (i, ⟨r, w, n⟩) => kList r fun r => kList w fun w => kList n fun n => k (i, ⟨r, w, n⟩)
theorem kFt_eq (x : Nat × Ft) (k : Nat × Ft → α) : kFt x k = k x := by
 obtain ⟨i, r, w, n⟩ := x
 simp only [kFt, kList_eq]
def kFts (l : List (Nat × Ft)) (k : List (Nat × Ft) → α) : α := match l with
 | [] => k []
 | x :: l => kFt x fun x => kFts l fun l => k (x :: l)
termination_by structural l
theorem kFts_eq : ∀ (l : List (Nat × Ft)) (k : List (Nat × Ft) → α), kFts l k = k l
 | [], _ => rfl
 | x :: l, k => by rw [kFts, kFt_eq, kFts_eq l]
def kFr (Ks : List Nat) (f : Fr) (k : Fr → α) : α := match f with
 | ⟨K, path, ix, env, start, feet⟩ => kNat Ks K fun K => kList path fun path => kPVs env fun env => kFts feet fun feet => match ix with
  | none => match start with
   | none => k ⟨K, path, none, env, none, feet⟩
   | some (e, h) => k ⟨K, path, none, env, some (e, h), feet⟩
  | some i => kNat small i fun i => match start with
   | none => k ⟨K, path, some i, env, none, feet⟩
   | some (e, h) => k ⟨K, path, some i, env, some (e, h), feet⟩
theorem kFr_eq (Ks : List Nat) (f : Fr) (k : Fr → α) : kFr Ks f k = k f := by
 obtain ⟨K, path, ix, env, start, feet⟩ := f
 simp only [kFr, kNat_eq, kList_eq, kPVs_eq, kFts_eq]
 cases ix <;> cases start <;> rfl
def kFrs (Ks : List Nat) (l : List Fr) (k : List Fr → α) : α := match l with
 | [] => k []
 | x :: l => kFr Ks x fun x => kFrs Ks l fun l => k (x :: l)
termination_by structural l
theorem kFrs_eq (Ks : List Nat) : ∀ (l : List Fr) (k : List Fr → α), kFrs Ks l k = k l
 | [], _ => rfl
 | x :: l, k => by rw [kFrs, kFr_eq, kFrs_eq Ks l]
def kCfg (Ks : List Nat) (c : Cfg) (k : Cfg → α) : α := match c with
 | ⟨top, rest, H⟩ => kFr Ks top fun top => kFrs Ks rest fun rest => kHeap H fun H => k ⟨top, rest, H⟩
theorem kCfg_eq (Ks : List Nat) (c : Cfg) (k : Cfg → α) : kCfg Ks c k = k c := by
 obtain ⟨top, rest, H⟩ := c
 simp only [kCfg, kFr_eq, kFrs_eq, kHeap_eq]
end
section
variable {P : Program} {I : World → Prop} {g : Nat} (M : Mach P I g) {R : Type} (fin : Fins R)
noncomputable def runB (Ks : List Nat) (X : Cfg → Option (Option R)) : Nat → Cfg → Option R
 | 0, _ => none
 | n + 1, c => (stepA M fin c).run fun c' => kCfg Ks c' fun c' => match X c' with
  | some o => o
  | none => runB Ks X n c'
theorem runB_eq (Ks : List Nat) (X : Cfg → Option (Option R)) : ∀ (n : Nat) (c : Cfg), runB M fin Ks X n c = runA M fin X n c
 | 0, _ => rfl
 | n + 1, c => by
  simp only [runB, runA, kCfg_eq]
  congr 1
  all_goals (funext c'; rw [runB_eq Ks X n]; try (cases X c' <;> rfl))
end
structure FPat where
 K : Nat
 path : List Nat
 ix : Option Nat
 env : List Pat
 pad : Nat
structure CPat where
 top : FPat
 rest : List FPat
 H : List HPat
 fix : Nat
@[reducible] def denFs : List FPat → Type
 | [] => Unit
 | f :: fs => denPs f.env × denFs fs
@[reducible] def denC (c : CPat) : Type := denPs c.top.env × denFs c.rest × denBs c.H
def instF (f : FPat) (x : denPs f.env) : Fr := ⟨f.K, f.path, f.ix, insts f.env x ++ List.replicate f.pad .junk, none, []⟩
def instFs : (fs : List FPat) → denFs fs → List Fr
 | [], _ => []
 | f :: fs, x => instF f x.1 :: instFs fs x.2
def instC (c : CPat) (x : denC c) : Cfg := ⟨instF c.top x.1, instFs c.rest x.2.1, instBs c.H x.2.2⟩
def eqNats : List Nat → List Nat → Bool
 | [], [] => true
 | a :: l, b :: m => Nat.beq a b && eqNats l m
 | _, _ => false
def eqIx : Option Nat → Option Nat → Bool
 | none, none => true
 | some a, some b => Nat.beq a b
 | _, _ => false
theorem eqNats_ok : ∀ {l m : List Nat}, eqNats l m = true → l = m
 | [], [], _ => rfl
 | a :: l, b :: m, h => by
  simp only [eqNats, Bool.and_eq_true] at h
  rw [Nat.eq_of_beq_eq_true h.1, eqNats_ok h.2]
 | [], _ :: _, h => by cases h
 | _ :: _, [], h => by cases h
theorem eqIx_ok : ∀ {l m : Option Nat}, eqIx l m = true → l = m
 | none, none, _ => rfl
 | some a, some b, h => by rw [Nat.eq_of_beq_eq_true h]
 | none, some _, h => by cases h
 | some _, none, h => by cases h
def isNoneB {α : Type u} : Option α → Bool
 | none => true
 | some _ => false
def atF (f : FPat) (fr : Fr) : Bool := Nat.beq fr.K f.K && eqNats fr.path f.path && eqIx fr.ix f.ix && isNoneB fr.start && Nat.beq fr.env.length (f.env.length + f.pad)
def atFs : List FPat → List Fr → Bool
 | [], [] => true
 | f :: fs, fr :: frs => atF f fr && atFs fs frs
 | _, _ => false
section
variable {β : Type u} (H : Heap)
def pmsT (ps : List Pat) (vs : List PV) (s : Sig) (k : denPs ps → Sig → Option β) : Option β := match ps, k with
 | [], k => k () s
 | p :: ps, k => match vs with
  | v :: vs => pm H p v s fun x s => pmsT ps vs s fun y s => k (x, y) s
  | [] => none
termination_by structural ps
def pmFs : (fs : List FPat) → List Fr → Sig → (denFs fs → Sig → Option β) → Option β
 | [], _, s, k => k () s
 | f :: fs, frs, s, k => match frs with
  | fr :: frs => pmsT H f.env fr.env s fun x s => pmFs fs frs s fun y s => k (x, y) s
  | [] => none
end
def pmC {β : Type u} (p : CPat) (c : Cfg) (k : denC p → Option β) : Option β :=
 bif atF p.top c.top && atFs p.rest c.rest then
  pmsT c.H p.top.env c.top.env (sig0 p.fix p.H.length) fun x s => pmFs c.H p.rest c.rest s fun y s => pmBs c.H p.H 0 s fun z s => bif s.fine p.H && Nat.ble p.fix p.H.length then k (x, y, z) else none
 else none
theorem isNoneB_ok {α : Type u} {o : Option α} (h : isNoneB o = true) : o = none := by cases o with | none => rfl | some _ => cases h
section
variable {P : Program} {I : World → Prop} {g : Nat} {M : Mach P I g} {R : Type} {fin : Fins R}
variable {base : Base} {S0 : Nat → Prop} {cs0 : List Frame} {post : World → Ending → R → Prop}
variable {ρ : Loc} {H : Heap} {w : World} {S : Nat → Prop} {β : Type u}
theorem Waits.turn {H' : Heap} {ρ' : Loc} {S' : Nat → Prop} {fr fr' : Fr} {conc : Frame} (hK : fr'.K = fr.K) (hp : fr'.path = fr.path) (hi : fr'.ix = fr.ix) (hs : fr'.start = none)
  (he : ∀ us, PRels ρ H w S fr.env us → PRels ρ' H' w S' fr'.env us) (k : Waits M ρ H w S fr conc) : Waits M ρ' H' w S' fr' conc := by
 obtain ⟨b, a, ops, id, kk, i, o, f, body, h1, h2, h3, h4, h5, h6, h7, h8, h9, h10, h11⟩ := k.is
 exact ⟨b, a, ops, id, kk, i, o, f, body, h1, hK ▸ h2, h3, h4, hK ▸ h5, h6, hp ▸ h7, hi ▸ h8, h9, he _ h10, hs⟩
theorem atF_ok {f : FPat} {fr : Fr} (h : atF f fr = true) (x : denPs f.env) : (instF f x).K = fr.K ∧ (instF f x).path = fr.path ∧ (instF f x).ix = fr.ix ∧ fr.start = none := by
 simp only [atF, Bool.and_eq_true] at h
 obtain ⟨⟨⟨⟨h1, h2⟩, h3⟩, h4⟩, _⟩ := h
 exact ⟨(Nat.eq_of_beq_eq_true h1).symm, (eqNats_ok h2).symm, (eqIx_ok h3).symm, isNoneB_ok h4⟩
theorem PRels.junks {ρ : Loc} {H : Heap} {w : World} {S : Nat → Prop} : ∀ (us : List Value) {n : Nat}, us.length = n → PRels ρ H w S (List.replicate n .junk) us
 | [], _, h => by subst h; rfl
 | u :: us, n, h => by
  subst h
  exact ⟨u, us, rfl, trivial, PRels.junks us rfl⟩
theorem pmsT_ok (hh : HRel base S0 ρ H w S) : ∀ (ps : List Pat) (vs : List PV) (s : Sig) (k : denPs ps → Sig → Option β) (y : β) (n : Nat), vs.length = ps.length + n → pmsT H ps vs s k = some y →
  ∃ x s', k x s' = some y ∧ s.le s' ∧ TakesL ρ H w S s' vs (insts ps x ++ List.replicate n .junk)
 | [], vs, s, k, y, n, hl, h => ⟨(), s, h, s.le_refl, fun H' ρ' S' _ us hu => by
   have := hu.length
   exact PRels.junks us (by simp at hl; omega)⟩
 | p :: ps, vs, s, k, y, n, hl, h => by
  cases vs with
  | nil => simp at hl; omega
  | cons v vs =>
   simp only [pmsT] at h
   obtain ⟨x1, s1, h3, l1, t1⟩ := pm_ok hh _ _ _ _ _ h
   obtain ⟨x2, s2, h4, l2, t2⟩ := pmsT_ok hh ps vs s1 _ y n (by simp at hl; omega) h3
   refine ⟨(x1, x2), s2, h4, Sig.le_trans l1 l2, fun H' ρ' S' g us hu => ?_⟩
   simp only [PRels] at hu
   obtain ⟨u, us', rfl, g1, g2⟩ := hu
   exact ⟨u, _, rfl, t1.le l2 H' ρ' S' g u g1, t2 H' ρ' S' g us' g2⟩
theorem atF_len {f : FPat} {fr : Fr} (h : atF f fr = true) : fr.env.length = f.env.length + f.pad := by
 simp only [atF, Bool.and_eq_true] at h
 exact Nat.eq_of_beq_eq_true h.2
theorem pmFs_ok (hh : HRel base S0 ρ H w S) : ∀ (fs : List FPat) (frs : List Fr) (s : Sig) (k : denFs fs → Sig → Option β) (y : β), atFs fs frs = true → pmFs H fs frs s k = some y →
  ∃ x s', k x s' = some y ∧ s.le s' ∧ ∀ sF, s'.le sF → ∀ H' ρ' S', Good sF H ρ w S H' ρ' S' → ∀ cs, Stack M cs0 ρ H w S frs cs → Stack M cs0 ρ' H' w S' (instFs fs x) cs
 | [], frs, s, k, y, ha, h => by
  cases frs with
  | nil => exact ⟨(), s, h, s.le_refl, fun _ _ _ _ _ _ cs hs => by cases hs; exact .nil⟩
  | cons _ _ => cases ha
 | f :: fs, frs, s, k, y, ha, h => by
  cases frs with
  | nil => cases ha
  | cons fr frs =>
   simp only [atFs, Bool.and_eq_true] at ha
   simp only [pmFs] at h
   obtain ⟨x1, s1, h3, l1, t1⟩ := pmsT_ok hh _ _ _ _ _ _ (atF_len ha.1) h
   obtain ⟨x2, s2, h4, l2, t2⟩ := pmFs_ok hh fs frs s1 _ y ha.2 h3
   refine ⟨(x1, x2), s2, h4, Sig.le_trans l1 l2, fun sF hF H' ρ' S' g cs hs => ?_⟩
   cases hs with
   | cons w1 r1 =>
    obtain ⟨e1, e2, e3, e4⟩ := atF_ok ha.1 x1
    exact .cons (w1.turn e1 e2 e3 rfl (t1.le (Sig.le_trans l2 hF) H' ρ' S' g)) (t2 sF hF H' ρ' S' g _ r1)
theorem bottom_eq : ∀ (fs : List FPat) (frs : List Fr) (x : denFs fs) (K : Nat), atFs fs frs = true → bottom K (instFs fs x) = bottom K frs
 | [], [], _, _, _ => rfl
 | f :: fs, fr :: frs, x, K, h => by
  simp only [atFs, Bool.and_eq_true] at h
  obtain ⟨e1, _⟩ := atF_ok h.1 x.1
  simp only [instFs, bottom]
  rw [e1]
  exact bottom_eq fs frs x.2 _ h.2
 | [], _ :: _, _, _, h => by cases h
 | _ :: _, [], _, _, h => by cases h
theorem pmC_ok {p : CPat} {c : Cfg} {k : denC p → Option β} {y : β} {r : R} (hfix : base.n ≤ p.fix) (h : pmC p c k = some y) (hS : ∀ x, k x = some y → Sound M base S0 cs0 post (instC p x) r) : Sound M base S0 cs0 post c r := by
 unfold pmC at h
 obtain ⟨ha, h⟩ := bif_some h
 simp only [Bool.and_eq_true] at ha
 obtain ⟨ha1, ha2⟩ := ha
 have hst : c.top.start = none := by
  simp only [atF, Bool.and_eq_true] at ha1
  exact isNoneB_ok ha1.1.2
 intro ρ w S b a todo cs hI hg hh he hstand hstack htr
 have eH : c.H0 = c.H := by unfold Cfg.H0; rw [hst]
 have eE : c.env0 = c.top.env := by unfold Cfg.env0; rw [hst]
 rw [eH] at hh hstack he
 rw [eE] at he
 obtain ⟨x1, s1, h1, l1, t1⟩ := pmsT_ok hh _ _ _ _ _ _ (atF_len ha1) h
 obtain ⟨x2, s2, h2, l2, t2⟩ := pmFs_ok (M := M) (cs0 := cs0) hh _ _ _ _ _ ha2 h1
 obtain ⟨x3, s3, h3, l3, t3⟩ := pmBs_ok hh _ _ _ _ _ h2
 obtain ⟨hf, h4⟩ := bif_some h3
 simp only [Bool.and_eq_true] at hf
 obtain ⟨hf, hle⟩ := hf
 have hle : p.fix ≤ p.H.length := Nat.le_of_ble_eq_true hle
 have l13 := Sig.le_trans l1 (Sig.le_trans l2 l3)
 obtain ⟨ρ', S', hh', good⟩ := good_of hh (x := x3) (s3 := s3) hfix hle hf (by rw [l13.2.2, sig0_length hle]) (fun c hc => l13.1 _ _ (sig0_at hc))
  (fun i hi => by have := (t3 s3 s3.le_refl i hi).2; rwa [Nat.zero_add] at this)
 let H' := instBs p.H x3
 obtain ⟨e1, e2, e3, e4⟩ := atF_ok ha1 x1
 have hS1 := hS (x1, x2, x3) h4
 have := hS1 ρ' w S' b a todo cs hI hg hh' (t1.le (Sig.le_trans l2 l3) H' ρ' S' good _ he) ?_ (t2 s3 l3 H' ρ' S' good cs hstack) trivial
 ·
  show Fin P (bottom c.top.K c.rest) base cs0 post w (lone (b.at a todo) cs w) r
  have eb : bottom (instC p (x1, x2, x3)).top.K (instC p (x1, x2, x3)).rest = bottom c.top.K c.rest := by
   show bottom (instF p.top x1).K (instFs p.rest x2) = _
   rw [bottom_eq _ _ _ _ ha2, e1]
  rw [eb] at this
  exact this
 ·
  obtain ⟨h1, h2, h3, f, body, code, kk, h5, h6, h7, h8⟩ := hstand
  refine ⟨h1.trans e1.symm, h2, h3, f, body, code, kk, ?_, h6, ?_, ?_⟩
  ·
   show M.fn (instF p.top x1).K = _
   rw [e1]; exact h5
  ·
   show todoAt body (instF p.top x1).path [] = _
   rw [e2]; exact h7
  ·
   show match (instF p.top x1).ix with | none => _ | some i => _
   rw [e3]
   cases hix : c.top.ix with
   | none =>
    rw [hix] at h8
    exact ⟨rfl, h8.2⟩
   | some i =>
    rw [hix, hst] at h8
    exact h8
end
def cut {R : Type} (p : CPat) (J : denC p → Option R) (X : Cfg → Option (Option R)) : Cfg → Option (Option R) := fun c =>
 match pmC p c fun x => some (J x) with
 | some o => some o
 | none => X c
def nowhere {R : Type} : Cfg → Option (Option R) := fun _ => none
section
variable {P : Program} {I : World → Prop} {g : Nat} (M : Mach P I g) {R : Type} (fin : Fins R)
variable (base : Base) (S0 : Nat → Prop) (cs0 : List Frame) (post : World → Ending → R → Prop)
def OSound (X : Cfg → Option (Option R)) : Prop := ∀ c r, X c = some (some r) → Sound M base S0 cs0 post c r
def JSound (p : CPat) (J : denC p → Option R) : Prop := ∀ x r, J x = some r → Sound M base S0 cs0 post (instC p x) r
variable {M fin base S0 cs0 post}
theorem OSound.nowhere : OSound M base S0 cs0 post (nowhere (R := R)) := fun _ _ h => by cases h
theorem OSound.cut {X : Cfg → Option (Option R)} (hX : OSound M base S0 cs0 post X) {p : CPat} (hfix : base.n ≤ p.fix) {J : denC p → Option R} (hJ : JSound M base S0 cs0 post p J) : OSound M base S0 cs0 post (cut p J X) := by
 intro c r h
 unfold V.cut at h
 split at h
 ·
  rename_i o ho
  cases h
  exact pmC_ok hfix ho (fun x hx => hJ x r (by simpa using hx))
 · exact hX c r h
theorem run_sound (hfin : FinOk fin base S0 post) {X : Cfg → Option (Option R)} (hX : OSound M base S0 cs0 post X) {Ks : List Nat} {n : Nat} {c : Cfg} {r : R} (h : runB M fin Ks X n c = some r) : Sound M base S0 cs0 post c r :=
 runA_sound hfin (fun c' h' => hX c' r h') n c ((runB_eq M fin Ks X n c).symm.trans h)
theorem JSound.join (hfin : FinOk fin base S0 post) {X : Cfg → Option (Option R)} (hX : OSound M base S0 cs0 post X) (Ks : List Nat) (n : Nat) {p : CPat} {J : denC p → Option R} (h : ∀ x, J x = runB M fin Ks X n (instC p x)) : JSound M base S0 cs0 post p J :=
 fun x _ hx => run_sound hfin hX ((h x).symm.trans hx)
theorem JSound.loop (hfin : FinOk fin base S0 post) {X : Cfg → Option (Option R)} (hX : OSound M base S0 cs0 post X) (Ks : List Nat) (n : Nat) {p : CPat} (hfix : base.n ≤ p.fix) {L : Nat → denC p → Option R} (h0 : ∀ x, L 0 x = none) (hs : ∀ m x, L (m + 1) x = runB M fin Ks (cut p (L m) X) n (instC p x)) :
  ∀ m, JSound M base S0 cs0 post p (L m) := by
 intro m
 induction m with
 | zero => intro x r h; rw [h0] at h; cases h
 | succ m ih => exact JSound.join hfin (hX.cut hfix ih) Ks n (hs m)
theorem JSound.loop' (hfin : FinOk fin base S0 post) (Ks : List Nat) (n : Nat) {p : CPat} {A : Type} (un : A → denC p → Option R) (X' : A → Cfg → Option (Option R)) (hX' : ∀ k, JSound M base S0 cs0 post p (un k) → OSound M base S0 cs0 post (X' k))
  (L : Nat → A) (h0 : ∀ x, un (L 0) x = none) (hs : ∀ m x, un (L (m + 1)) x = runB M fin Ks (X' (L m)) n (instC p x)) : ∀ m, JSound M base S0 cs0 post p (un (L m)) := by
 intro m
 induction m with
 | zero => intro x r h; rw [h0] at h; cases h
 | succ m ih => exact JSound.join hfin (hX' _ ih) Ks n (hs m)
end
def finR (rs : List Ty) : Fins (denL rs) := ⟨fun ps H => decArgs rs ps H, fun _ => none⟩
def Post (rs : List Ty) (S0 : Nat → Prop) : World → Ending → denL rs → Prop := Ret fun w v r => RepRes w S0 rs r v
theorem con_run {P : Program} {I : World → Prop} {g : Nat} {M : Mach P I g} (hgI : ∀ w, I w → g ≤ w.heap.size) {K : Nat} {c : Con} {f : Func} (hf : M.fn K = some f) (Ks : List Nat) (n : Nat)
  {X : Cfg → Option (Option (denL c.results))} (hX : ∀ base S0 cs0, base.n = 0 → FinOk (finR c.results) base S0 (Post c.results S0) → OSound M base S0 cs0 (Post c.results S0) X)
  (h : ∀ x, c.F x = runB M (finR c.results) Ks X n (startP K f.ntmps (pvsOf c.params x))) : c.Sound P I g K :=
 con_sound hgI hf fun x _ hxy base S0 cs0 hn => run_sound (finP_ok c base S0) (hX base S0 cs0 hn (finP_ok c base S0)) ((h x).symm.trans hxy)
/-! #### contracts of functions that are given blocks -/
def finH (c : HCon) : Fins c.R := ⟨fun ps H => 
 pms H c.qa ps (sig0 c.pH.length c.qH.length) fun x s => pmBs H c.qH 0 s fun z s => bif s.fine c.qH && Nat.ble c.pH.length c.qH.length then some (c.proj (x, z)) else none, c.pan⟩
def HPost (c : HCon) (base : Base) (S0 : Nat → Prop) (w : World) (e : Ending) (r : c.R) : Prop :=
 (∀ pv, c.bad r = some pv → e = .panicked [{ v := pv, recovered := false }]) ∧ (c.bad r = none → ∃ v ρ' S', e = .returned v ∧ HRel base S0 ρ' (instBs c.qH (c.out r).2) w S' ∧ PRel ρ' (instBs c.qH (c.out r).2) w S' (oneP (insts c.qa (c.out r).1)) v)
theorem pms_len {H : Heap} {β : Type} : ∀ (qs : List Pat) (vs : List PV) (s : Sig) (k : denPs qs → Sig → Option β) (y : β), pms H qs vs s k = some y → qs.length = vs.length
 | [], vs, s, k, y, h => by
  simp only [pms] at h
  split at h
  · rfl
  · cases h
 | q :: qs, vs, s, k, y, h => by
  simp only [pms] at h
  split at h
  ·
   obtain ⟨x1, s1, h3, _⟩ := pm_local _ _ _ _ _ h
   simp [pms_len qs _ _ _ _ h3]
  · cases h
theorem insts_len : ∀ (qs : List Pat) (x : denPs qs), (insts qs x).length = qs.length
 | [], _ => rfl
 | _ :: qs, x => by simp [insts, insts_len qs]
theorem finH_ok (c : HCon) {base : Base} (hn : base.n = c.pH.length) (S0 : Nat → Prop) : FinOk (finH c) base S0 (HPost c base S0) := by
 refine ⟨fun ps H r ρ w S v hf hh hv => ?_, fun v r w h => ⟨fun pv hb => (by rw [c.pan_bad v r h] at hb; cases hb; rfl), fun hb => (by rw [c.pan_bad v r h] at hb; cases hb)⟩⟩
 simp only [finH] at hf
 have hlen := pms_len _ _ _ _ _ hf
 obtain ⟨x1, s1, h1, l1, t1⟩ := pms_ok hh _ _ _ _ _ hf
 obtain ⟨x3, s3, h3, l3, t3⟩ := pmBs_ok hh _ _ _ _ _ h1
 obtain ⟨hchk, hxs⟩ := bif_some h3
 simp only [Option.some.injEq] at hxs
 subst hxs
 simp only [Bool.and_eq_true] at hchk
 obtain ⟨hfine, hle⟩ := hchk
 have hle : c.pH.length ≤ c.qH.length := Nat.le_of_ble_eq_true hle
 have l13 := Sig.le_trans l1 l3
 obtain ⟨ρ', S', hh', good⟩ := good_of hh (x := x3) (s3 := s3) (n0 := c.pH.length) (Nat.le_of_eq hn) hle hfine (by rw [l13.2.2, sig0_length hle]) (fun c hc => l13.1 _ _ (sig0_at hc))
  (fun i hi => by have := (t3 s3 s3.le_refl i hi).2; rwa [Nat.zero_add] at this)
 refine ⟨fun pv hb => (by rw [c.good] at hb; cases hb), fun _ => ?_⟩
 rw [c.out_proj]
 refine ⟨v, ρ', S', rfl, hh', ?_⟩
 have tt : ∀ us, PRels ρ H w S ps us → PRels ρ' (instBs c.qH x3) w S' (insts c.qa x1) us := t1.le l3 _ ρ' S' good
 have hl2 : (insts c.qa x1).length = ps.length := (insts_len _ _).trans hlen
 show PRel ρ' (instBs c.qH x3) w S' (oneP (insts c.qa x1)) v
 match ps, hv, tt, hl2 with
 | [p], hv, tt, hl2 =>
  have := tt [v] ⟨v, [], rfl, hv, rfl⟩
  match hq : insts c.qa x1, hl2 with
  | [q], _ =>
   rw [hq] at this
   simp only [PRels] at this
   obtain ⟨u, us, e, g1, _⟩ := this
   simp at e
   rw [e.1]
   exact g1
 | [], hv, tt, hl2 =>
  match hq : insts c.qa x1, hl2 with
  | [], _ => exact hv
 | p :: q :: ps, hv, tt, hl2 =>
  have hv' : PRel ρ H w S (.tuple (p :: q :: ps)) v := hv
  simp only [PRel] at hv'
  obtain ⟨us, rfl, h⟩ := hv'
  have := tt _ h
  match hq : insts c.qa x1, hl2 with
  | a :: b :: l, _ =>
   rw [hq] at this
   exact ⟨us, rfl, this⟩
def startH (K ntmps : Nat) (ps : List PV) (H : Heap) : Cfg := ⟨⟨K, [], none, ps ++ List.replicate (ntmps - ps.length) nothing, none, []⟩, [], H⟩
theorem hcon_sound {P : Program} {I : World → Prop} {g : Nat} {M : Mach P I g} {K : Nat} {c : HCon} {f : Func} (hf : M.fn K = some f)
  (h : ∀ x r, c.F x = some r → ∀ base S0 cs0, base.n = c.pH.length → Sound M base S0 cs0 (HPost c base S0) (startH K f.ntmps (insts c.pa x.1) (instBs c.pH x.2)) r) : c.Sound P I g K := by
 intro x y hxy B S0 ρ w S args hI hg hh hargs cs
 obtain ⟨hfn, _, hbody⟩ := M.fn_ok _ _ hf
 obtain ⟨body, hb⟩ := Option.isSome_iff_exists.mp hbody
 have henter : Frame.enter P K args .normal = ({ (default : Frame) with fn := K, kind := .normal } : Frame).at { tmps := args ++ Array.replicate (f.ntmps - args.size) undef, defers := [] } [.code body] := by
  simp [Frame.enter, Frame.at, hfn, hb]
 have hlen : (insts c.pa x.1).length = args.size := by have := hargs.length; simpa using this
 have := h x y hxy ⟨B, c.pH.length, ρ, instBs c.pH x.2⟩ S0 cs rfl ρ w S ({ (default : Frame) with fn := K, kind := .normal } : Frame) { tmps := args ++ Array.replicate (f.ntmps - args.size) undef, defers := [] } [.code body] cs hI hg hh
  (by
   have e : (args ++ Array.replicate (f.ntmps - args.size) undef).toList = args.toList ++ List.replicate (f.ntmps - (insts c.pa x.1).length) undef := by simp [hlen]
   simp only [e]
   exact hargs.append (PRels.replicate _))
  ⟨rfl, rfl, rfl, f, body, body, [], hf, hb, rfl, rfl, .inl rfl⟩ .nil trivial
 obtain ⟨fr, w', e, h1, h2, h3, ⟨h4, h4'⟩, h5⟩ := this
 refine ⟨e, w', fr, ⟨fun pv hb => ⟨h4 pv hb, h5⟩, fun hb => ?_⟩, ?_, h2, h3⟩
 ·
  obtain ⟨v, ρ', S', rfl, q1, q2⟩ := h4' hb
  exact ⟨v, ρ', S', rfl, q1, q2, h5⟩
 ·
  rw [henter]
  refine comes_of_steps h1 ?_
  cases hb : c.bad y with
  | some pv => rw [h4 pv hb]; simp
  | none => obtain ⟨v, ρ', S', rfl, q1, q2⟩ := h4' hb; simp
theorem hcon_run {P : Program} {I : World → Prop} {g : Nat} {M : Mach P I g} {K : Nat} {c : HCon} {f : Func} (hf : M.fn K = some f) (Ks : List Nat) (n : Nat)
  {X : Cfg → Option (Option c.R)} (hX : ∀ base S0 cs0, base.n = c.pH.length → FinOk (finH c) base S0 (HPost c base S0) → OSound M base S0 cs0 (HPost c base S0) X)
  (h : ∀ x, c.F x = runB M (finH c) Ks X n (startH K f.ntmps (insts c.pa x.1) (instBs c.pH x.2))) : c.Sound P I g K :=
 hcon_sound hf fun x _ hxy base S0 cs0 hn => run_sound (finH_ok c hn S0) (hX base S0 cs0 hn (finH_ok c hn S0)) ((h x).symm.trans hxy)
def FnOk (P : Program) (K : Nat) (f : Func) : Prop := P.funcs[K]? = some f ∧ (f.name == "runtime.NumGoroutine") = false ∧ f.body.isSome = true
theorem FnOk.callable {P : Program} {K : Nat} {f : Func} (h : FnOk P K f) : Callable P K := ⟨f, h⟩
def FnsOk (P : Program) : List (Nat × Func) → Prop
 | [] => True
 | x :: l => FnOk P x.1 x.2 ∧ FnsOk P l
def ConsOk (P : Program) (I : World → Prop) (g : Nat) : List (Nat × Con) → Prop
 | [] => True
 | x :: l => (x.2.Sound P I g x.1 ∧ Callable P x.1) ∧ ConsOk P I g l
def OConsOk (P : Program) (I : World → Prop) (g : Nat) : List (Nat × OCon) → Prop
 | [] => True
 | x :: l => (x.2.Sound P I g x.1 ∧ Callable P x.1) ∧ OConsOk P I g l
def HConsOk (P : Program) (I : World → Prop) (g : Nat) : List (Nat × HCon) → Prop
 | [] => True
 | x :: l => (x.2.Sound P I g x.1 ∧ Callable P x.1) ∧ HConsOk P I g l
def pickL : List (Nat × HCon) → Nat → List HCon
 | [], _ => []
 | (a, b) :: l, K => bif Nat.beq a K then b :: pickL l K else pickL l K
theorem pickL_ok {P : Program} {I : World → Prop} {g : Nat} : ∀ {l : List (Nat × HCon)}, HConsOk P I g l → ∀ {K c}, c ∈ pickL l K → c.Sound P I g K ∧ Callable P K
 | [], _, _, _, h => by cases h
 | (a, b) :: l, hl, K, f, h => by
  simp only [pickL] at h
  cases e : Nat.beq a K with
  | true =>
   rw [e] at h
   obtain rfl := Nat.eq_of_beq_eq_true e
   rcases List.mem_cons.mp h with rfl | h
   · exact hl.1
   · exact pickL_ok hl.2 h
  | false => rw [e] at h; exact pickL_ok hl.2 h
def pick0 {α : Type} : List (Nat × α) → Nat → Option α
 | [], _ => none
 | (a, b) :: l, K => bif Nat.beq a K then some b else pick0 l K
theorem pickF_ok {P : Program} : ∀ {l : List (Nat × Func)}, FnsOk P l → ∀ {K f}, pick0 l K = some f → FnOk P K f
 | [], _, _, _, h => by cases h
 | (a, b) :: l, hl, K, f, h => by
  simp only [pick0] at h
  cases e : Nat.beq a K with
  | true =>
   rw [e] at h; cases h
   obtain rfl := Nat.eq_of_beq_eq_true e
   exact hl.1
  | false => rw [e] at h; exact pickF_ok hl.2 h
theorem pickC_ok {P : Program} {I : World → Prop} {g : Nat} : ∀ {l : List (Nat × Con)}, ConsOk P I g l → ∀ {K c}, pick0 l K = some c → c.Sound P I g K ∧ Callable P K
 | [], _, _, _, h => by cases h
 | (a, b) :: l, hl, K, f, h => by
  simp only [pick0] at h
  cases e : Nat.beq a K with
  | true =>
   rw [e] at h; cases h
   obtain rfl := Nat.eq_of_beq_eq_true e
   exact hl.1
  | false => rw [e] at h; exact pickC_ok hl.2 h
theorem pickO_ok {P : Program} {I : World → Prop} {g : Nat} : ∀ {l : List (Nat × OCon)}, OConsOk P I g l → ∀ {K c}, pick0 l K = some c → c.Sound P I g K ∧ Callable P K
 | [], _, _, _, h => by cases h
 | (a, b) :: l, hl, K, f, h => by
  simp only [pick0] at h
  cases e : Nat.beq a K with
  | true =>
   rw [e] at h; cases h
   obtain rfl := Nat.eq_of_beq_eq_true e
   exact hl.1
  | false => rw [e] at h; exact pickO_ok hl.2 h
structure Bas (P : Program) (I : World → Prop) (g : Nat) where
 keep : ∀ w w' B, g ≤ B → Below B w w' → I w → I w'
 mixed : P.follows .mixedOrders = true
 ext : Nat → Bool
 ext_ok : ∀ K, ext K = true → ∀ v w, (callFunc K #[v]).run P w = .ok (.value v) w
 gl : Nat → PV
 gl_ok : ∀ k w S, I w → (∀ b, S b → g ≤ b) → ∀ ρ H, PRel ρ H w S (gl k) (.pointer (some ⟨k, 0, none⟩))
def mach {P : Program} {I : World → Prop} {g : Nat} (B : Bas P I g)
  (fns : List (Nat × Func)) (hf : FnsOk P fns) (cons : List (Nat × Con)) (hc : ConsOk P I g cons) (ocons : List (Nat × OCon)) (ho : OConsOk P I g ocons) (hcons : List (Nat × HCon)) (hh : HConsOk P I g hcons) : Mach P I g where
 fn := pick0 fns
 fn_ok := fun _ _ h => pickF_ok hf h
 con := pick0 cons
 con_ok := fun _ _ h => pickC_ok hc h
 ocon := pick0 ocons
 ocon_ok := fun _ _ h => pickO_ok ho h
 hcon := pickL hcons
 hcon_ok := fun _ _ h => pickL_ok hh h
 keep := B.keep
 mixed := B.mixed
 ext := B.ext
 ext_ok := B.ext_ok
 gl := B.gl
 gl_ok := B.gl_ok
def TabsIn (w : World) : List (Nat × (Σ t : Ty, List t.den)) → Prop
 | [] => True
 | x :: l => (∃ arr e fz, w.heap[x.1]? = some (.cells arr e fz) ∧ ∀ i (h : i < x.2.2.length), ∃ vs, Rep w (fun _ => True) x.2.1 x.2.2[i] vs ∧ At arr (i * x.2.1.size) vs) ∧ TabsIn w l
def tabPV (l : List (Nat × (Σ t : Ty, List t.den))) (k : Nat) : PV := match pick0 l k with
 | some x => .tab x.1 x.2
 | none => .junk
def tabsBelow (g : Nat) : List (Nat × (Σ t : Ty, List t.den)) → Bool
 | [] => true
 | x :: l => decide (x.1 < g) && tabsBelow g l
theorem TabsIn.keep {g : Nat} {w w' : World} {B : Nat} (hB : g ≤ B) (hb : Below B w w') : ∀ {l : List (Nat × (Σ t : Ty, List t.den))}, tabsBelow g l = true → TabsIn w l → TabsIn w' l
 | [], _, h => h
 | x :: l, hg, h => by
  simp only [tabsBelow, Bool.and_eq_true, decide_eq_true_eq] at hg
  obtain ⟨⟨arr, e, fz, h1, h2⟩, h3⟩ := h
  refine ⟨⟨arr, e, fz, (hb.block x.1 (by omega)).trans h1, fun i hi => ?_⟩, TabsIn.keep hB hb hg.2 h3⟩
  obtain ⟨vs, k1, k2⟩ := h2 i hi
  refine ⟨vs, k1.mono ⟨hb.size, fun b _ hs => absurd trivial hs⟩ (fun _ _ h => h), k2⟩
theorem tab_rel {g : Nat} {w : World} {S : Nat → Prop} (hS : ∀ b, S b → g ≤ b) {ρ : Loc} {H : Heap} {k : Nat} : ∀ {l : List (Nat × (Σ t : Ty, List t.den))}, tabsBelow g l = true → TabsIn w l → PRel ρ H w S (tabPV l k) (.pointer (some ⟨k, 0, none⟩))
 | [], _, _ => by simp [tabPV, pick0, PRel]
 | (a, x) :: l, hg, h => by
  simp only [tabsBelow, Bool.and_eq_true, decide_eq_true_eq] at hg
  obtain ⟨⟨arr, e, fz, h1, h2⟩, h3⟩ := h
  unfold tabPV
  simp only [pick0]
  cases ek : Nat.beq a k with
  | true =>
   obtain rfl := Nat.eq_of_beq_eq_true ek
   simp only [cond_true, PRel]
   refine ⟨a, 0, arr, e, fz, rfl, fun hs => by have := hS a hs; omega, h1, fun i hi => ?_⟩
   obtain ⟨vs, k1, k2⟩ := h2 i hi
   exact ⟨vs, k1.mono (Same.refl _ _) (fun _ _ _ => trivial), by simpa using k2⟩
  | false =>
   simp only [cond_false]
   exact tab_rel hS hg.2 h3
def Wf : (t : Ty) → t.den → Prop
 | .unit, _ => True
 | .int k, n => (Lit.int k n).wf = true
 | .byt _, n => (Lit.int .u8 n).wf = true
 | .bool, _ => True
 | .str, s => s.size ≤ maxLen
 | .pair a b, x => Wf a x.1 ∧ Wf b x.2
 | .slice t, l => l.length ≤ maxLen ∧ ∀ x ∈ l, Wf t x
def Wfs : (ts : List Ty) → denL ts → Prop
 | [], _ => True
 | t :: ts, x => Wf t x.1 ∧ Wfs ts x.2
def layF (P : Program) (lay : TypeId → Ty → Bool) : List Field → Nat → Ty → Bool
 | [], _, .unit => true
 | f :: fs, off, .pair a b => f.offset == off && P.cellsOf f.type == a.size && lay f.type a && layF P lay fs (off + a.size) b
 | _, _, _ => false
def layA (lay : Ty → Bool) (sz : Nat) : Nat → Ty → Bool
 | 0, .unit => true
 | n + 1, .pair a b => a.size == sz && lay a && layA lay sz n b
 | _, _ => false
def lay (P : Program) : Nat → TypeId → Ty → Bool
 | 0, _, _ => false
 | n + 1, T, t => match P.underlying T with
  | some .bool => match t with
   | .bool => true
   | _ => false
  | some (.int k) => match t with
   | .int k' => decide (k = k')
   | .byt _ => decide (k = .u8)
   | _ => false
  | some .string => match t with
   | .str => true
   | _ => false
  | some (.slice e) => match t with
   | .slice t => lay P n e t && P.cellsOf e == t.size && decide (0 < t.size)
   | _ => false
  | some (.struct fs) => t.isAgg && P.cellsOf T == t.size && layF P (lay P n) fs.toList 0 t
  | some (.array m e) => t.isAgg && P.cellsOf T == t.size && layA (lay P n e) (P.cellsOf e) m t
  | _ => false
section
variable {H : Type} {enc : TypeId × Value → H} {P : Program} {w : World}
theorem at_cells {a : Addr} {n : Nat} {cs : List Value} (h : w.cells? 0 a n = some cs) (hn : 0 < n) : ∃ arr elem fz, a.spot = none ∧ w.heap[a.block]? = some (.cells arr elem fz) ∧ At arr a.off cs := by
 obtain ⟨_, h2, h3⟩ := World.cells?_some h
 have key : ∀ i, i < n → w.cell? (a.add i) = cs[i]? := h3
 have h0 := key 0 hn
 have hs : cs[0]? = some cs[0] := List.getElem?_eq_getElem (by omega)
 rw [hs] at h0
 have e0 : a.add 0 = a := by simp [Addr.add]
 rw [e0] at h0
 unfold World.cell? at h0
 split at h0
 ·
  rename_i arr elem fz hb
  split at h0
  · cases h0
  ·
   rename_i hsp
   have hspn : a.spot = none := by simpa using hsp
   refine ⟨arr, elem, fz, hspn, hb, fun j hj => ?_⟩
   have := key j (by omega)
   have e : (a.add j).block = a.block ∧ (a.add j).off = a.off + j ∧ (a.add j).spot = none := by
    unfold Addr.add
    split
    · rename_i hj0; subst hj0; exact ⟨rfl, rfl, hspn⟩
    · exact ⟨rfl, rfl, rfl⟩
   unfold World.cell? at this
   rw [e.1, hb] at this
   simp only [e.2.2, Option.isSome_none, Bool.false_eq_true, if_false, e.2.1] at this
   rw [this]
   exact List.getElem?_eq_getElem hj
 · cases h0
theorem choose_list {α : Type} (R : Nat → α → Prop) : ∀ (n : Nat), (∀ i, i < n → ∃ x, R i x) → ∃ l : List α, l.length = n ∧ ∀ i (h : i < l.length), R i l[i]
 | 0, _ => ⟨[], rfl, fun i h => by simp at h⟩
 | n + 1, h => by
  obtain ⟨l, h1, h2⟩ := choose_list R n (fun i hi => h i (by omega))
  obtain ⟨x, hx⟩ := h n (by omega)
  refine ⟨l ++ [x], by simp [h1], fun i hi => ?_⟩
  by_cases e : i < l.length
  · rw [List.getElem_append_left e]; exact h2 i e
  ·
   have : i = n := by simp at hi; omega
   subst this
   simp [h1, hx]
def noS : Nat → Prop := fun _ => False
theorem struct_rep {f : TypeId → List Value → Prop} {L : TypeId → Ty → Bool} (hL : ∀ T t cs, L T t = true → f T cs → ∃ x : t.den, Rep w noS t x cs ∧ Wf t x) {cs : List Value} :
  ∀ (fs : List Field) (off : Nat) (t : Ty), layF P L fs off t = true → off + t.size = cs.length → (∀ (i : Nat) (fd : Field), fs[i]? = some fd → f fd.type ((cs.drop fd.offset).take (P.cellsOf fd.type))) → ∃ x : t.den, Rep w noS t x (cs.drop off) ∧ Wf t x
 | [], off, t, h, hs, _ => by
  cases t <;> simp [layF] at h
  simp [Ty.size] at hs
  exact ⟨(), by simp [Rep]; omega, trivial⟩
 | fd :: fs, off, t, h, hs, hf => by
  cases t <;> simp [layF] at h
  rename_i a b
  obtain ⟨⟨⟨h1, h2⟩, h3⟩, h4⟩ := h
  simp [Ty.size] at hs
  obtain ⟨x1, r1, w1⟩ := hL _ _ _ h3 (hf 0 fd rfl)
  obtain ⟨x2, r2, w2⟩ := struct_rep hL fs (off + a.size) b h4 (by omega) (fun i fd' hi => hf (i + 1) fd' (by simpa using hi))
  refine ⟨(x1, x2), ⟨_, _, ?_, r1, r2⟩, w1, w2⟩
  rw [h1, h2, ← List.drop_drop, List.take_append_drop]
theorem array_rep {f : List Value → Prop} {L : Ty → Bool} {sz : Nat} (hL : ∀ t cs, L t = true → f cs → ∃ x : t.den, Rep w noS t x cs ∧ Wf t x) {cs : List Value} :
  ∀ (n off : Nat) (t : Ty), layA L sz n t = true → off * sz + t.size = cs.length → (∀ i, i < n → f ((cs.drop ((off + i) * sz)).take sz)) → ∃ x : t.den, Rep w noS t x (cs.drop (off * sz)) ∧ Wf t x
 | 0, off, t, h, hs, _ => by
  cases t <;> simp [layA] at h
  simp [Ty.size] at hs
  exact ⟨(), by simp [Rep]; omega, trivial⟩
 | n + 1, off, t, h, hs, hf => by
  cases t <;> simp [layA] at h
  rename_i a b
  obtain ⟨⟨h1, h3⟩, h4⟩ := h
  simp [Ty.size] at hs
  obtain ⟨x1, r1, w1⟩ := hL _ _ h3 (by simpa using hf 0 (by omega))
  obtain ⟨x2, r2, w2⟩ := array_rep hL (cs := cs) n (off + 1) b h4 (by rw [Nat.add_mul, Nat.one_mul]; omega) (fun i hi => by have := hf (i + 1) (by omega); rwa [show off + (i + 1) = off + 1 + i by omega] at this)
  refine ⟨(x1, x2), ⟨_, _, ?_, r1, r2⟩, w1, w2⟩
  rw [Nat.add_mul, Nat.one_mul, ← List.drop_drop, List.take_append_drop]
theorem trod_rep : ∀ (n : Nat) (T : TypeId) (t : Ty) (fuel : Nat) (cs : List Value) (y : DataW H × List MemPlace), lay P n T t = true → DataW.trod enc P w 0 (fun _ => true) true fuel T cs = some y →
  ∃ x : t.den, Rep w noS t x cs ∧ Wf t x := by
 intro n
 induction n with
 | zero => intro T t fuel cs y h; simp [lay] at h
 | succ n ih =>
  intro T t fuel cs y h hy
  simp only [lay] at h
  split at h
  ·
   rename_i hu
   split at h
   ·
    obtain ⟨b, rfl, _⟩ := DataW.trod_bool hu hy
    exact ⟨b, rfl, trivial⟩
   · cases h
  ·
   rename_i k hu
   split at h
   ·
    rename_i k'
    simp only [decide_eq_true_eq] at h
    subst h
    obtain ⟨m, rfl, _, hw⟩ := DataW.trod_int hu hy
    exact ⟨m, rfl, hw⟩
   ·
    simp only [decide_eq_true_eq] at h
    subst h
    obtain ⟨m, rfl, _, hw⟩ := DataW.trod_int hu hy
    exact ⟨m, rfl, hw⟩
   · cases h
  ·
   rename_i hu
   split at h
   ·
    obtain ⟨s, rfl, _, hw⟩ := DataW.trod_string hu hy
    exact ⟨s, rfl, hw⟩
   · cases h
  ·
   rename_i e hu
   split at h
   ·
    rename_i t
    simp only [Bool.and_eq_true, beq_iff_eq, decide_eq_true_eq] at h
    obtain ⟨⟨h1, h2⟩, h3⟩ := h
    rcases DataW.trod_slice hu hy with ⟨rfl, _⟩ | ⟨a, len, cap, elems, rest, m, _, rfl, _, _, hl, hm, hlen, hel, _⟩
    · exact ⟨[], ⟨_, rfl, none, 0, rfl, Nat.le_refl _, fun h => absurd rfl h⟩, by simp [Wf]⟩
    ·
     have each : ∀ i, i < len → ∃ x : t.den, ∃ cs', w.cells? 0 (a.add (i * t.size)) t.size = some cs' ∧ Rep w noS t x cs' ∧ Wf t x := by
      intro i hi
      have hx := hel i hi
      rw [List.getElem?_eq_getElem (by omega), Option.bind_eq_some_iff] at hx
      obtain ⟨cs', c1, c2⟩ := hx
      obtain ⟨x, r1, r2⟩ := ih e t m cs' _ h1 c2
      exact ⟨x, cs', by rw [← h2]; exact c1, r1, r2⟩
     obtain ⟨l, l1, l2⟩ := choose_list _ len each
     refine ⟨l, ⟨_, rfl, some a, cap, by rw [l1], by omega, fun hne => ?_⟩, by rw [l1]; omega, fun x hx => ?_⟩
     ·
      have hpos : 0 < l.length := List.length_pos_iff.mpr hne
      obtain ⟨cs0, c1, c2, _⟩ := l2 0 hpos
      obtain ⟨arr, elem, fz, q1, q2, q3⟩ := at_cells c1 h3
      simp only [Nat.zero_mul] at q1 q2
      have e0 : a.add 0 = a := by simp [Addr.add]
      rw [e0] at q1 q2
      refine ⟨a.block, a.off, arr, elem, fz, by cases a; simp_all, fun h => h, q2, fun i hi => ?_⟩
      obtain ⟨cs', d1, d2, _⟩ := l2 i hi
      obtain ⟨arr', elem', fz', p1, p2, p3⟩ := at_cells d1 h3
      have e1 : (a.add (i * t.size)).block = a.block := by unfold Addr.add; split <;> rfl
      have e2 : (a.add (i * t.size)).off = a.off + i * t.size := by unfold Addr.add; split <;> simp_all
      rw [e1, q2] at p2
      simp only [Option.some.injEq, Obj.cells.injEq] at p2
      obtain ⟨rfl, _, _⟩ := p2
      rw [e2] at p3
      exact ⟨cs', d2, p3⟩
     ·
      obtain ⟨i, hi, rfl⟩ := List.getElem_of_mem hx
      obtain ⟨_, _, _, hw⟩ := l2 i hi
      exact hw
   · cases h
  ·
   rename_i fs hu
   simp only [Bool.and_eq_true, beq_iff_eq] at h
   obtain ⟨⟨_, h1⟩, h2⟩ := h
   obtain ⟨xs, m, _, _, hlen, hxl, hx⟩ := DataW.trod_struct hu hy
   have := struct_rep (w := w) (P := P) (f := fun T cs => ∃ y, DataW.trod enc P w 0 (fun _ => true) true m T cs = some y) (L := lay P n) (fun T t cs hl hf => by obtain ⟨y, hy⟩ := hf; exact ih T t m cs y hl hy) (cs := cs) fs.toList 0 t h2 (by omega)
    (fun i fd hi => ⟨xs[i]'(by have := (List.getElem?_eq_some_iff.mp hi).1; simp at this; omega), by
     rw [hx i fd (by simpa using hi)]
     exact List.getElem?_eq_getElem _⟩)
   simpa using this
  ·
   rename_i m e hu
   simp only [Bool.and_eq_true, beq_iff_eq] at h
   obtain ⟨⟨_, h1⟩, h2⟩ := h
   obtain ⟨xs, fu, _, _, hlen, hxl, hx⟩ := DataW.trod_array hu hy
   have := array_rep (w := w) (f := fun cs => ∃ y, DataW.trod enc P w 0 (fun _ => true) true fu e cs = some y) (L := lay P n e) (sz := P.cellsOf e) (fun t cs hl hf => by obtain ⟨y, hy⟩ := hf; exact ih e t fu cs y hl hy) (cs := cs) m 0 t h2 (by omega)
    (fun i hi => ⟨xs[i]'(by omega), by
     rw [Nat.zero_add, hx i hi]
     exact List.getElem?_eq_getElem _⟩)
   simpa using this
  · cases h
end
def layAll (P : Program) (n : Nat) : List TypeId → List Ty → Bool
 | [], [] => true
 | T :: Ts, t :: ts => lay P n T t && layAll P n Ts ts
 | _, _ => false
def zeroCells : Ty → List Value
 | .unit => []
 | .int k => [.int k 0]
 | .byt _ => [.int .u8 0]
 | .bool => [.bool false]
 | .str => [.string ⟨#[]⟩]
 | .pair a b => zeroCells a ++ zeroCells b
 | .slice _ => [.slice none 0 0]
def zeroV (t : Ty) : Value := if t.isAgg then .agg (zeroCells t).toArray else (zeroCells t).headD undef
section
variable {H : Type} {enc : TypeId × Value → H} {P : Program} {w : World}
theorem okWide_shape {n : Nat} {T : TypeId} {t : Ty} {r : Reach} {base : Nat} {v : Value} (hl : lay P n T t = true) (h : Value.okWide P w r base T v) : (t.isAgg = true → ∃ us, v = .agg us) ∧ (t.isAgg = false → v.oneCell' = true) := by
 cases n with
 | zero => simp [lay] at hl
 | succ n =>
  simp only [lay] at hl
  unfold Value.okWide at h
  split at hl
  ·
   rename_i hu
   split at hl
   ·
    rw [hu] at h
    simp only [Cell.okWide, Cell.ok, hu] at h
    refine ⟨(fun h => by cases h), fun _ => ?_⟩
    cases v <;> first | rfl | simp at h
   · cases hl
  ·
   rename_i k hu
   split at hl
   ·
    rw [hu] at h
    simp only [Cell.okWide, Cell.ok, hu] at h
    refine ⟨(fun h => by cases h), fun _ => ?_⟩
    cases v <;> first | rfl | simp at h
   ·
    rw [hu] at h
    simp only [Cell.okWide, Cell.ok, hu] at h
    refine ⟨(fun h => by cases h), fun _ => ?_⟩
    cases v <;> first | rfl | simp at h
   · cases hl
  ·
   rename_i hu
   split at hl
   ·
    rw [hu] at h
    simp only [Cell.okWide, Cell.ok, hu] at h
    refine ⟨(fun h => by cases h), fun _ => ?_⟩
    cases v <;> first | rfl | simp at h
   · cases hl
  ·
   rename_i e hu
   split at hl
   ·
    rw [hu] at h
    simp only [Cell.okWide, Cell.ok, hu] at h
    refine ⟨(fun h => by cases h), fun _ => ?_⟩
    cases v <;> first | rfl | simp at h
   · cases hl
  ·
   rename_i fs hu
   simp only [Bool.and_eq_true] at hl
   rw [hu] at h
   obtain ⟨cs, e, _⟩ := h
   exact ⟨fun _ => ⟨cs, e⟩, fun h => by rw [hl.1.1] at h; cases h⟩
  ·
   rename_i m e hu
   simp only [Bool.and_eq_true] at hl
   rw [hu] at h
   obtain ⟨cs, e, _⟩ := h
   exact ⟨fun _ => ⟨cs, e⟩, fun h => by rw [hl.1.1] at h; cases h⟩
  · cases hl
theorem args_rep {n : Nat} {r : Reach} {base : Nat} : ∀ {Ts : List TypeId} {ts : List Ty} {vs : List Value} {ds : List (DataW H)} {p : List MemPlace}, layAll P n Ts ts = true → DataW.TrodAll enc P w 0 (fun _ => true) true Ts vs ds p →
  (∀ (j : Nat) T v, Ts[j]? = some T → vs[j]? = some v → Value.okWide P w r base T v) → ∃ x : denL ts, RepVs w noS ts x vs ∧ Wfs ts x
 | [], ts, vs, ds, p, hl, h, _ => by
  cases ts <;> simp [layAll] at hl
  cases vs with
  | nil => exact ⟨(), rfl, trivial⟩
  | cons _ _ => cases ds <;> exact h.elim
 | T :: Ts, ts, vs, ds, p, hl, h, hv => by
  cases ts with
  | nil => simp [layAll] at hl
  | cons t ts =>
   simp only [layAll, Bool.and_eq_true] at hl
   cases vs with
   | nil => exact h.elim
   | cons v vs =>
    cases ds with
    | nil => exact h.elim
    | cons d ds =>
     obtain ⟨p1, q1, ⟨fuel, hd⟩, hr, _⟩ := h
     obtain ⟨x1, r1, w1⟩ := trod_rep n T t fuel _ _ hl.1 hd
     obtain ⟨x2, r2, w2⟩ := args_rep hl.2 hr (fun j T v h1 h2 => hv (j + 1) T v (by simpa using h1) (by simpa using h2))
     obtain ⟨s1, s2⟩ := okWide_shape hl.1 (hv 0 T v rfl rfl)
     exact ⟨(x1, x2), ⟨v, vs, rfl, ⟨r1, s1, s2⟩, r2⟩, w1, w2⟩
theorem trodAll_length : ∀ {Ts : List TypeId} {vs : List Value} {ds : List (DataW H)} {p : List MemPlace}, DataW.TrodAll enc P w 0 (fun _ => true) true Ts vs ds p → ds.length = Ts.length
 | [], vs, ds, p, h => by cases vs <;> cases ds <;> first | rfl | exact h.elim
 | T :: Ts, vs, ds, p, h => by
  cases vs with
  | nil => exact h.elim
  | cons v vs => cases ds with
   | nil => exact h.elim
   | cons d ds =>
    obtain ⟨p1, q1, hd, hq, e⟩ := h
    simp [trodAll_length hq]
def readAll (P : Program) : List TypeId → Bool
 | [] => true
 | T :: Ts => P.readableRec T && decide (T < P.types.size) && readAll P Ts
theorem trodAll_below (hl : laidOutB P = true) {w' : World} (hb : Below w.heap.size w w') : ∀ {Ts : List TypeId} {vs : List Value} {ds : List (DataW H)} {p : List MemPlace}, readAll P Ts = true →
  DataW.TrodAll enc P w 0 (fun _ => true) true Ts vs ds p → DataW.TrodAll enc P w' 0 (fun b => decide (b < w.heap.size)) true Ts vs ds p
 | [], vs, ds, p, _, h => by cases vs <;> cases ds <;> exact h
 | T :: Ts, vs, ds, p, hr, h => by
  simp only [readAll, Bool.and_eq_true, decide_eq_true_eq] at hr
  cases vs with
  | nil => exact h.elim
  | cons v vs =>
   cases ds with
   | nil => exact h.elim
   | cons d ds =>
    obtain ⟨p1, q1, hd, hq, e⟩ := h
    have hlt : ∀ x ∈ p1, x.block < w.heap.size := by obtain ⟨m, hm⟩ := hd; exact DataW.trod_lt m _ _ _ hm
    exact ⟨p1, q1, Below.trod hl hr.1.1 hr.1.2 hd hb hlt, trodAll_below hl hb hr.2 hq, e⟩
end
theorem law_calls {P : Program} {I : World → Prop} {g : Nat} {K : Nat} {ts : List Ty} {F : denL ts → Option (denL [Ty.bool])} (hs : (Con.mk ts [.bool] F).Sound P I g K) {w : World} (hI : I w) {args : Array Value} {x : denL ts} (hx : RepVs w noS ts x args.toList)
  (hF : F x = some (true, ())) : Calls P K args w fun e w' => e = .returned (.bool true) ∧ Below w.heap.size w w' := by
 refine (hs x (true, ()) hF w noS args hI (fun _ h => h.elim) hx).mono fun e w' h => ?_
 obtain ⟨v, rfl, hv, hb⟩ := h
 refine ⟨?_, hb⟩
 have : v.cells.toList = [.bool true] := hv.1
 have ho := hv.2.2 rfl
 rw [cells_one ho] at this
 simp at this
 rw [this]
theorem wrap_i64 (n : Int) (h0 : -9223372036854775808 ≤ n) (h1 : n ≤ 9223372036854775807) : IntKind.wrap .i64 n = n := by
 unfold IntKind.wrap
 simp [IntKind.signed, IntKind.bits]
 split <;> omega
theorem wrap_u64 (n : Int) (h0 : 0 ≤ n) (h1 : n ≤ 18446744073709551615) : IntKind.wrap .u64 n = n := by
 simp only [IntKind.wrap, IntKind.signed, IntKind.bits]
 simp
 omega
@[simp] theorem obind_some {α β : Type} (y : α) (k : α → Option β) : obind (some y) k = k y := rfl
@[simp] theorem obind_none {α β : Type} (k : α → Option β) : obind none k = none := rfl
section mid
variable {α : Type}
@[simp] theorem getD_mid (pre : List α) (x : α) (suf : List α) (d : α) : (pre ++ x :: suf).getD pre.length d = x := by simp [List.getD]
@[simp] theorem set_mid (pre : List α) (x y : α) (suf : List α) : (pre ++ x :: suf).set pre.length y = pre ++ y :: suf := by simp
theorem nn (n : Nat) : ((0 : Int) ≤ ((n : Nat) : Int)) = True := by simp
theorem mid_lt (pre : List α) (x : α) (suf : List α) : (((pre.length : Nat) : Int) < (((pre ++ x :: suf).length : Nat) : Int)) = True := by simp; omega
theorem mid_end (pre : List α) : (((pre.length : Nat) : Int) < (((pre ++ []).length : Nat) : Int)) = False := by simp
theorem mid_next (pre : List α) (x y : α) (suf : List α) (h : (pre ++ x :: suf).length ≤ 4294967296) : IntKind.wrap .i64 (((pre.length : Nat) : Int) + 1) = (((pre ++ [y]).length : Nat) : Int) := by
 simp at h
 rw [wrap_i64 _ (by omega) (by omega)]; simp
theorem mid_next' (pre : List α) (x y : α) (suf : List α) (h : (pre ++ x :: suf).length ≤ 9223372036854775807) : IntKind.wrap .i64 (((pre.length : Nat) : Int) + 1) = (((pre ++ [y]).length : Nat) : Int) := by
 simp at h
 rw [wrap_i64 _ (by omega) (by omega)]; simp
theorem snoc_app (pre : List α) (x : α) (suf : List α) : pre ++ x :: suf = (pre ++ [x]) ++ suf := by simp
theorem toNat_len (pre : List α) : Int.toNat ((pre.length : Nat) : Int) = pre.length := by simp
end mid
theorem beq_of {α : Type} [BEq α] [LawfulBEq α] {a b : α} (h : a = b) : (a == b) = true := by subst h; exact beq_self_eq_true a
theorem toList_beq (a b : ByteArray) : (a.toList == b.toList) = decide (a = b) := by
 rw [ByteArray.toList_eq, ByteArray.toList_eq]
 by_cases h : a = b
 · simp [h]
 ·
  simp only [h, decide_false]
  refine beq_false_of_ne fun e => h ?_
  cases a; cases b; simp at e; simpa using e
theorem byt_eq {a b : ByteArray} : a = b ↔ a.data.toList = b.data.toList := by
 constructor
 · rintro rfl; rfl
 · intro e; cases a; cases b; simpa using e
theorem app_data (a b : ByteArray) : (a ++ b).data.toList = a.data.toList ++ b.data.toList := by simp
def mapI {α β : Type} (g : Int → α → β) : Int → List α → List β
 | _, [] => []
 | k, x :: l => g k x :: mapI g (k + 1) l
@[simp] theorem mapI_length {α β : Type} (g : Int → α → β) : ∀ (k : Int) (l : List α), (mapI g k l).length = l.length
 | _, [] => rfl
 | k, x :: l => by simp [mapI, mapI_length g (k + 1) l]
theorem bytesStr_data : ∀ (l : List Int), (bytesStr l).data.toList = l.map fun n => UInt8.ofNat n.toNat := by
 have key : ∀ (l : List Int) (r : ByteArray), (l.foldl (fun r n => r.push (UInt8.ofNat n.toNat)) r).data.toList = r.data.toList ++ l.map fun n => UInt8.ofNat n.toNat := by
  intro l
  induction l with
  | nil => intro r; simp
  | cons x l ih => intro r; rw [List.foldl_cons, ih]; simp
 intro l
 unfold bytesStr
 rw [key]; rfl
theorem strBytes_range (s : ByteArray) : ∀ n ∈ strBytes s, 0 ≤ n ∧ n ≤ 255 := by
 intro n hn
 obtain ⟨b, _, rfl⟩ := List.mem_map.mp hn
 have := b.toNat_lt
 omega
theorem strBytes_len (s : ByteArray) : (strBytes s).length = s.size := by
 show (s.data.toList.map _).length = s.data.size
 simp
theorem strBytes_app (a b : ByteArray) : strBytes (a ++ b) = strBytes a ++ strBytes b := by
 show (a ++ b).data.toList.map _ = _
 rw [app_data, List.map_append]
theorem toNat_inj : Function.Injective (fun b : UInt8 => (b.toNat : Int)) := by
 intro a b h
 have h2 : a.toNat = b.toNat := Int.ofNat.inj h
 exact UInt8.toNat_inj.mp h2
theorem strBytes_inj {a b : ByteArray} : strBytes a = strBytes b ↔ a = b := by
 constructor
 ·
  intro h
  rw [byt_eq]
  exact (List.map_inj_right (fun x y h => toNat_inj h)).mp h
 · rintro rfl; rfl
theorem strBytes_bytesStr {l : List Int} (h : ∀ n ∈ l, 0 ≤ n ∧ n ≤ 255) : strBytes (bytesStr l) = l := by
 show (bytesStr l).data.toList.map _ = l
 rw [bytesStr_data, List.map_map]
 have : ∀ n ∈ l, ((fun b : UInt8 => (b.toNat : Int)) ∘ fun n : Int => UInt8.ofNat n.toNat) n = id n := by
  intro n hn
  obtain ⟨h0, h1⟩ := h n hn
  simp only [Function.comp, id, UInt8.toNat_ofNat']
  omega
 rw [List.map_congr_left this, List.map_id]
theorem bytesStr_strBytes (s : ByteArray) : bytesStr (strBytes s) = s := by
 rw [← strBytes_inj, strBytes_bytesStr (strBytes_range s)]
theorem bytesStr_nil : bytesStr [] = ⟨#[]⟩ := rfl
theorem bytesStr_size (l : List Int) : (bytesStr l).size = l.length := by
 show (bytesStr l).data.size = _
 rw [← Array.length_toList, bytesStr_data]; simp
theorem byteAt_is (s : ByteArray) (i : Int) : byteAt s i = (strBytes s).getD i.toNat 0 := by
 unfold byteAt
 show (((s.data.toList.getD i.toNat 0).toNat : Nat) : Int) = (s.data.toList.map fun b => (b.toNat : Int)).getD i.toNat 0
 rw [List.getD_eq_getElem?_getD, List.getD_eq_getElem?_getD, List.getElem?_map]
 cases s.data.toList[i.toNat]? <;> rfl
theorem strBytes_nil : strBytes ⟨#[]⟩ = [] := rfl
theorem size_zero {s : ByteArray} : s.size = 0 ↔ s = ⟨#[]⟩ := by
 rw [← strBytes_len, ← strBytes_inj, strBytes_nil]; exact List.length_eq_zero_iff
theorem strBytes_extract (s : ByteArray) (a b : Nat) : strBytes (s.extract a b) = ((strBytes s).take b).drop a := by
 show (s.extract a b).data.toList.map _ = ((s.data.toList.map _).take b).drop a
 rw [ByteArray.data_extract]
 simp [Array.toList_extract, List.extract, List.drop_take, List.map_take, List.map_drop]
theorem wrap_u8 (n : Int) : IntKind.wrap .u8 n = n % 256 := by
 simp only [IntKind.wrap, IntKind.signed, IntKind.bits]; simp
theorem wrap_u64' (n : Int) : IntKind.wrap .u64 n = n % 18446744073709551616 := by
 simp only [IntKind.wrap, IntKind.signed, IntKind.bits]; simp
theorem bits_or_u64 (x y : Int) (hx : 0 ≤ x ∧ x < 18446744073709551616) (hy : 0 ≤ y ∧ y < 18446744073709551616) : bits .or .u64 x y = ((x.toNat ||| y.toNat : Nat) : Int) := by
 rw [bits_eq, bitsF, wrap_u64']
 show (((BitVec.ofInt 64 x ||| BitVec.ofInt 64 y).toNat : Nat) : Int) % 18446744073709551616 = _
 have ex : (BitVec.ofInt 64 x).toNat = x.toNat := by rw [BitVec.toNat_ofInt]; omega
 have ey : (BitVec.ofInt 64 y).toNat = y.toNat := by rw [BitVec.toNat_ofInt]; omega
 rw [BitVec.toNat_or, ex, ey]
 have : x.toNat ||| y.toNat < 2 ^ 64 := Nat.or_lt_two_pow (by omega) (by omega)
 omega
theorem bits_and_u64 (x y : Int) (hx : 0 ≤ x ∧ x < 18446744073709551616) (hy : 0 ≤ y ∧ y < 18446744073709551616) : bits .and .u64 x y = ((x.toNat &&& y.toNat : Nat) : Int) := by
 rw [bits_eq, bitsF, wrap_u64']
 show (((BitVec.ofInt 64 x &&& BitVec.ofInt 64 y).toNat : Nat) : Int) % 18446744073709551616 = _
 have ex : (BitVec.ofInt 64 x).toNat = x.toNat := by rw [BitVec.toNat_ofInt]; omega
 have ey : (BitVec.ofInt 64 y).toNat = y.toNat := by rw [BitVec.toNat_ofInt]; omega
 rw [BitVec.toNat_and, ex, ey]
 have : x.toNat &&& y.toNat ≤ x.toNat := Nat.and_le_left
 omega
theorem bits_or_u8 (x y : Int) (hx : 0 ≤ x ∧ x < 256) (hy : 0 ≤ y ∧ y < 256) : bits .or .u8 x y = ((x.toNat ||| y.toNat : Nat) : Int) := by
 rw [bits_eq, bitsF, wrap_u8]
 show (((BitVec.ofInt 8 x ||| BitVec.ofInt 8 y).toNat : Nat) : Int) % 256 = _
 have ex : (BitVec.ofInt 8 x).toNat = x.toNat := by rw [BitVec.toNat_ofInt]; omega
 have ey : (BitVec.ofInt 8 y).toNat = y.toNat := by rw [BitVec.toNat_ofInt]; omega
 rw [BitVec.toNat_or, ex, ey]
 have : x.toNat ||| y.toNat < 2 ^ 8 := Nat.or_lt_two_pow (by omega) (by omega)
 omega
theorem bits_and_u8 (x y : Int) (hx : 0 ≤ x ∧ x < 256) (hy : 0 ≤ y ∧ y < 256) : bits .and .u8 x y = ((x.toNat &&& y.toNat : Nat) : Int) := by
 rw [bits_eq, bitsF, wrap_u8]
 show (((BitVec.ofInt 8 x &&& BitVec.ofInt 8 y).toNat : Nat) : Int) % 256 = _
 have ex : (BitVec.ofInt 8 x).toNat = x.toNat := by rw [BitVec.toNat_ofInt]; omega
 have ey : (BitVec.ofInt 8 y).toNat = y.toNat := by rw [BitVec.toNat_ofInt]; omega
 rw [BitVec.toNat_and, ex, ey]
 have : x.toNat &&& y.toNat ≤ x.toNat := Nat.and_le_left
 omega
end Go.Proofs.YtjdjlijjolibkaaDoor.V
namespace Go.Proofs.YtjdjlijjolibkaaDoor.V
open Go.RowKit Go.Proofs.Tryd
set_option maxRecDepth 100000
def tabs : List (Nat × (Σ t : Ty, List t.den)) := [(0, ⟨.int .u8, [0, 1, 28, 2, 29, 14, 24, 3, 30, 22, 20, 15, 25, 17, 4, 8, 31, 27, 13, 23, 21, 19, 16, 7, 26, 12, 18, 6, 11, 5, 10, 9]⟩), (1, ⟨.int .u8, [0, 1, 56, 2, 57, 49, 28, 3, 61, 58, 42, 50, 38, 29, 17, 4, 62, 47, 59, 36, 45, 43, 51, 22, 53, 39, 33, 30, 24, 18, 12, 5, 63, 55, 48, 27, 60, 41, 37, 16, 46, 35, 44, 21, 52, 32, 23, 11, 54, 26, 40, 15, 34, 20, 31, 10, 25, 14, 19, 9, 13, 8, 7, 6]⟩)]
def Inv (w : World) : Prop := 2 ≤ w.heap.size ∧ TabsIn w tabs
def gInv : Nat := 2
theorem inv_g : ∀ w, Inv w → gInv ≤ w.heap.size := fun _ h => h.1
theorem ext162 (v : Value) (w : World) : (callFunc 162 #[v]).run prog w = .ok (.value v) w := by
 rw [run_callFunc_extern func162 (by kernel_rfl) (by kernel_rfl) (by kernel_rfl) (e := Extern.AbiNoEscape.same) (by kernel_rfl), Lib.run_noEscape]
 rfl
noncomputable def bas : Bas prog Inv gInv where
 keep := fun _ _ _ hB hb h => ⟨Nat.le_trans h.1 hb.size, h.2.keep hB hb (by decide)⟩
 mixed := by kernel_rfl
 ext := fun K => Nat.beq K 162
 ext_ok := fun K h v w => by
  obtain rfl := Nat.eq_of_beq_eq_true h
  exact ext162 v w
 gl := tabPV tabs
 gl_ok := fun k _ _ hI hS _ _ => tab_rel hS (l := tabs) (by decide) hI.2
@[reducible] def T_frame_reader : Ty := (.pair .str .unit)
abbrev D_frame_reader : Type := (ByteArray × Unit)
abbrev D_runtime_errorAddressString : Type := (ByteArray × (Int × Unit))
@[reducible] def T_ranges_Range : Ty := (.pair (.int .u64) (.pair (.int .u64) .unit))
abbrev D_ranges_Range : Type := (Int × (Int × Unit))
abbrev D_runtime_boundsError : Type := (Int × (Int × (Bool × (Int × Unit))))
abbrev D_ids_Own : Type := (Int × (ByteArray × (ByteArray × (Bool × (Bool × Unit)))))
abbrev D_4_int : Type := (Int × (Int × (Int × (Int × Unit))))
abbrev D_ids_Given : Type := (Int × (ByteArray × (ByteArray × (Bool × (Bool × (Bool × Unit))))))
abbrev D_path_Path : Type := (Int × (Bool × (Int × (Int × (ByteArray × (Bool × Unit))))))
abbrev D_2_struct_shift_int_times_uint64 : Type := (D_ranges_Range × (D_ranges_Range × Unit))
@[reducible] def T_8_uint8 : Ty := (.pair (.int .u8) (.pair (.int .u8) (.pair (.int .u8) (.pair (.int .u8) (.pair (.int .u8) (.pair (.int .u8) (.pair (.int .u8) (.pair (.int .u8) .unit))))))))
abbrev D_8_uint8 : Type := (Int × (Int × (Int × (Int × (Int × (Int × (Int × (Int × Unit))))))))
@[reducible] def T_8_uint64 : Ty := (.pair (.int .u64) (.pair (.int .u64) (.pair (.int .u64) (.pair (.int .u64) (.pair (.int .u64) (.pair (.int .u64) (.pair (.int .u64) (.pair (.int .u64) .unit))))))))
abbrev D_8_uint64 : Type := (Int × (Int × (Int × (Int × (Int × (Int × (Int × (Int × Unit))))))))
abbrev D_path_State : Type := ((List D_path_Path) × (Int × ((List ByteArray) × Unit)))
@[reducible] def T_frame_Frame : Ty := (.pair (.int .u64) (.pair (.int .u64) (.pair (.int .u64) (.pair (.int .u64) (.pair (.int .u64) (.pair (.int .u64) (.pair (.int .u64) (.pair (.int .u64) (.pair .bool (.pair .str (.pair .str (.pair .str (.pair (.slice T_ranges_Range) .unit)))))))))))))
abbrev D_frame_Frame : Type := (Int × (Int × (Int × (Int × (Int × (Int × (Int × (Int × (Bool × (ByteArray × (ByteArray × (ByteArray × ((List D_ranges_Range) × Unit)))))))))))))
abbrev D_ids_State : Type := (Int × (Int × (Int × ((List D_ids_Own) × ((List D_ids_Given) × (Int × (Int × Unit)))))))
@[reducible] def T_frame_framer : Ty := (.pair T_frame_reader (.pair T_frame_Frame .unit))
abbrev D_frame_framer : Type := (D_frame_reader × (D_frame_Frame × Unit))
abbrev D_law18_Act : Type := (Int × (Int × (D_frame_Frame × Unit)))
abbrev D_law19_Act : Type := (Int × (Int × (Int × (D_frame_Frame × Unit))))
theorem ok13 : FnOk prog 13 f13 := ⟨func13, by decide +kernel, by kernel_rfl⟩
theorem ok30 : FnOk prog 30 f30 := ⟨func30, by decide +kernel, by kernel_rfl⟩
theorem ok31 : FnOk prog 31 f31 := ⟨func31, by decide +kernel, by kernel_rfl⟩
theorem ok33 : FnOk prog 33 f33 := ⟨func33, by decide +kernel, by kernel_rfl⟩
theorem ok34 : FnOk prog 34 f34 := ⟨func34, by decide +kernel, by kernel_rfl⟩
theorem ok35 : FnOk prog 35 f35 := ⟨func35, by decide +kernel, by kernel_rfl⟩
theorem ok36 : FnOk prog 36 f36 := ⟨func36, by decide +kernel, by kernel_rfl⟩
theorem ok38 : FnOk prog 38 f38 := ⟨func38, by decide +kernel, by kernel_rfl⟩
theorem ok39 : FnOk prog 39 f39 := ⟨func39, by decide +kernel, by kernel_rfl⟩
theorem ok40 : FnOk prog 40 f40 := ⟨func40, by decide +kernel, by kernel_rfl⟩
theorem ok41 : FnOk prog 41 f41 := ⟨func41, by decide +kernel, by kernel_rfl⟩
theorem ok42 : FnOk prog 42 f42 := ⟨func42, by decide +kernel, by kernel_rfl⟩
theorem ok43 : FnOk prog 43 f43 := ⟨func43, by decide +kernel, by kernel_rfl⟩
theorem ok44 : FnOk prog 44 f44 := ⟨func44, by decide +kernel, by kernel_rfl⟩
theorem ok45 : FnOk prog 45 f45 := ⟨func45, by decide +kernel, by kernel_rfl⟩
theorem ok73 : FnOk prog 73 f73 := ⟨func73, by decide +kernel, by kernel_rfl⟩
theorem ok74 : FnOk prog 74 f74 := ⟨func74, by decide +kernel, by kernel_rfl⟩
theorem ok75 : FnOk prog 75 f75 := ⟨func75, by decide +kernel, by kernel_rfl⟩
theorem ok76 : FnOk prog 76 f76 := ⟨func76, by decide +kernel, by kernel_rfl⟩
theorem ok80 : FnOk prog 80 f80 := ⟨func80, by decide +kernel, by kernel_rfl⟩
theorem ok81 : FnOk prog 81 f81 := ⟨func81, by decide +kernel, by kernel_rfl⟩
theorem ok82 : FnOk prog 82 f82 := ⟨func82, by decide +kernel, by kernel_rfl⟩
theorem ok83 : FnOk prog 83 f83 := ⟨func83, by decide +kernel, by kernel_rfl⟩
theorem ok84 : FnOk prog 84 f84 := ⟨func84, by decide +kernel, by kernel_rfl⟩
theorem ok85 : FnOk prog 85 f85 := ⟨func85, by decide +kernel, by kernel_rfl⟩
theorem ok86 : FnOk prog 86 f86 := ⟨func86, by decide +kernel, by kernel_rfl⟩
theorem ok87 : FnOk prog 87 f87 := ⟨func87, by decide +kernel, by kernel_rfl⟩
theorem ok88 : FnOk prog 88 f88 := ⟨func88, by decide +kernel, by kernel_rfl⟩
theorem ok89 : FnOk prog 89 f89 := ⟨func89, by decide +kernel, by kernel_rfl⟩
theorem ok90 : FnOk prog 90 f90 := ⟨func90, by decide +kernel, by kernel_rfl⟩
theorem ok91 : FnOk prog 91 f91 := ⟨func91, by decide +kernel, by kernel_rfl⟩
theorem ok92 : FnOk prog 92 f92 := ⟨func92, by decide +kernel, by kernel_rfl⟩
theorem ok93 : FnOk prog 93 f93 := ⟨func93, by decide +kernel, by kernel_rfl⟩
theorem ok94 : FnOk prog 94 f94 := ⟨func94, by decide +kernel, by kernel_rfl⟩
theorem ok113 : FnOk prog 113 f113 := ⟨func113, by decide +kernel, by kernel_rfl⟩
theorem ok114 : FnOk prog 114 f114 := ⟨func114, by decide +kernel, by kernel_rfl⟩
theorem ok115 : FnOk prog 115 f115 := ⟨func115, by decide +kernel, by kernel_rfl⟩
theorem ok116 : FnOk prog 116 f116 := ⟨func116, by decide +kernel, by kernel_rfl⟩
theorem ok117 : FnOk prog 117 f117 := ⟨func117, by decide +kernel, by kernel_rfl⟩
theorem ok118 : FnOk prog 118 f118 := ⟨func118, by decide +kernel, by kernel_rfl⟩
theorem ok120 : FnOk prog 120 f120 := ⟨func120, by decide +kernel, by kernel_rfl⟩
theorem ok121 : FnOk prog 121 f121 := ⟨func121, by decide +kernel, by kernel_rfl⟩
theorem ok122 : FnOk prog 122 f122 := ⟨func122, by decide +kernel, by kernel_rfl⟩
theorem ok123 : FnOk prog 123 f123 := ⟨func123, by decide +kernel, by kernel_rfl⟩
theorem ok124 : FnOk prog 124 f124 := ⟨func124, by decide +kernel, by kernel_rfl⟩
theorem ok125 : FnOk prog 125 f125 := ⟨func125, by decide +kernel, by kernel_rfl⟩
theorem ok126 : FnOk prog 126 f126 := ⟨func126, by decide +kernel, by kernel_rfl⟩
theorem ok127 : FnOk prog 127 f127 := ⟨func127, by decide +kernel, by kernel_rfl⟩
theorem ok128 : FnOk prog 128 f128 := ⟨func128, by decide +kernel, by kernel_rfl⟩
theorem ok129 : FnOk prog 129 f129 := ⟨func129, by decide +kernel, by kernel_rfl⟩
theorem ok130 : FnOk prog 130 f130 := ⟨func130, by decide +kernel, by kernel_rfl⟩
theorem ok131 : FnOk prog 131 f131 := ⟨func131, by decide +kernel, by kernel_rfl⟩
theorem ok132 : FnOk prog 132 f132 := ⟨func132, by decide +kernel, by kernel_rfl⟩
theorem ok133 : FnOk prog 133 f133 := ⟨func133, by decide +kernel, by kernel_rfl⟩
theorem ok134 : FnOk prog 134 f134 := ⟨func134, by decide +kernel, by kernel_rfl⟩
theorem ok146 : FnOk prog 146 f146 := ⟨func146, by decide +kernel, by kernel_rfl⟩
theorem ok147 : FnOk prog 147 f147 := ⟨func147, by decide +kernel, by kernel_rfl⟩
theorem ok149 : FnOk prog 149 f149 := ⟨func149, by decide +kernel, by kernel_rfl⟩
theorem ok150 : FnOk prog 150 f150 := ⟨func150, by decide +kernel, by kernel_rfl⟩
theorem ok151 : FnOk prog 151 f151 := ⟨func151, by decide +kernel, by kernel_rfl⟩
theorem ok152 : FnOk prog 152 f152 := ⟨func152, by decide +kernel, by kernel_rfl⟩
theorem ok160 : FnOk prog 160 f160 := ⟨func160, by decide +kernel, by kernel_rfl⟩
theorem ok161 : FnOk prog 161 f161 := ⟨func161, by decide +kernel, by kernel_rfl⟩
theorem ok163 : FnOk prog 163 f163 := ⟨func163, by decide +kernel, by kernel_rfl⟩
theorem ok165 : FnOk prog 165 f165 := ⟨func165, by decide +kernel, by kernel_rfl⟩
theorem ok166 : FnOk prog 166 f166 := ⟨func166, by decide +kernel, by kernel_rfl⟩
theorem ok167 : FnOk prog 167 f167 := ⟨func167, by decide +kernel, by kernel_rfl⟩
end Go.Proofs.YtjdjlijjolibkaaDoor.V
namespace Go.Proofs.YtjdjlijjolibkaaDoor.V
open Go.RowKit
section
variable {P : Program} {I : World → Prop} {g : Nat} {M : Mach P I g} {R : Type} {fin : Fins R}
variable {base : Base} {S0 : Nat → Prop} {cs0 : List Frame} {post : World → Ending → R → Prop}
theorem nil_sound {c : Cfg} {f : Func} {body : Code} {id : Nat} {ops : Array Oper} {k : List Item} {i : Nat} {o : Oper} {T e : TypeId} {x : Operand} {yT : TypeId} {t : Ty} {l : List t.den} {cl : Bool} {r : R} (hf : M.fn c.top.K = some f) (hb : f.body = some body)
  (ht : todoAt body c.top.path [] = some (.region id ops false, k)) (hix : c.top.ix = some i) (hstart : c.top.start = none) (ho : ops[i]? = some o) (hgd : o.guard = none) (hop : o.op = .binOp .eql T x (.const (.slice none 0 0)) yT)
  (hu : P.underlying T = some (.slice e)) (hx : evalP M.gl c.top.env x = .rows t l cl)
  (h1 : l = [] → Sound M base S0 cs0 post (adv c i o.dst (.val (.bool true)) c.H ⟨[], [], []⟩) r) (h2 : Sound M base S0 cs0 post (adv c i o.dst (.val (.bool false)) c.H ⟨[], [], []⟩) r) : Sound M base S0 cs0 post c r := by
 intro ρ w S b a todo cs hI hg hh he hst hstack htr
 obtain ⟨hb1, hb2, hd, f', body', code, k', e1, e2, e3, e4⟩ := hst
 rw [hf] at e1; cases e1
 rw [hb] at e2; cases e2
 rw [ht] at e3; cases e3
 rw [hix] at e4
 obtain ⟨id', ops', draw', e5, e6⟩ := e4
 cases e5
 have hlt : i < ops.size := (Array.getElem?_eq_some_iff.1 ho).1
 rw [hstart] at e6
 obtain ⟨_, rfl⟩ := e6
 have eH : c.H0 = c.H := by simp [Cfg.H0, hstart]
 have eE : c.env0 = c.top.env := by simp [Cfg.env0, hstart]
 rw [eH] at hh he hstack
 rw [eE] at he
 have hv := evalP_rel M hg hI hh he x
 rw [hx] at hv
 simp only [PRel] at hv
 obtain ⟨⟨ad, cap, hve, _, hne⟩, _⟩ := hv
 have hS : Sound M base S0 cs0 post (adv c i o.dst (.val (.bool ad.isNone)) c.H ⟨[], [], []⟩) r := by
  cases ad with
  | none =>
   refine h1 ?_
   rcases List.eq_nil_or_concat l with h | ⟨_, _, h⟩
   · exact h
   ·
    have : l ≠ [] := by rw [h]; simp
    obtain ⟨_, _, _, _, _, e, _⟩ := hne this
    cases e
  | some _ => exact h2
 have hrun : (execOp a.eval o).run P w = .ok (.value (.bool ad.isNone)) w := by
  obtain ⟨dst, op, ty, pos, aft, gd⟩ := o
  simp only at hop
  subst hop
  have := run_equal_slice_nil (P := P) w T e ad l.length cap hu
  have hc : a.eval (.const (.slice none 0 0)) = .slice none 0 0 := rfl
  simp only [execOp, hve, hc]
  simp [eqGuard, binOp, this]
 have hwp : wpOp P ops (fun _ _ _ => False) i (fun a' w' => w' = w ∧ a' = a.put o.dst (.bool ad.isNone)) a w := by
  unfold wpOp
  simp only [ho]
  have : Region.wanted o (yielded ops a.tmps) = true := by simp [Region.wanted, hgd]
  rw [this]
  simp only [if_true]
  left
  unfold Oper.wp
  rw [hrun]
  exact ⟨rfl, rfl⟩
 rw [range'_cons hlt]
 obtain ⟨a', w', ⟨rfl, rfl⟩, hsteps⟩ := wpOp_steps hwp b (rest := List.range' (i + 1) (ops.size - (i + 1))) k cs
 refine Fin.steps hsteps ?_
 have hsn : (adv c i o.dst (.val (.bool ad.isNone)) c.H ⟨[], [], []⟩).top.start = none := hstart
 exact hS.plain hsn ρ _ S b _ _ cs hI hg hh (putP_rel he (p := .val (.bool ad.isNone)) (v := .bool ad.isNone) (by simp only [PRel]) o.dst) ⟨hb1, hb2, (put_defers' _ _ _).trans hd, f, body, .region id ops false, k, hf, hb, ht, id, ops, false, rfl, by rw [hsn]; exact ⟨rfl, rfl⟩⟩ hstack
theorem nos_split {c : Cfg} {r : R} (b j : Nat) {e : TypeId} {cs : List PV} (b' off : Nat) (hs : c.top.start = none) (ho : c.H.at? b = some (.cells e cs)) (hj : cs[j]? = some (.nos b' off))
  (h1 : Sound M base S0 cs0 post { c with H := c.H.set b (some (.cells e (cs.set j (.val (.pointer none))))) } r) (h2 : Sound M base S0 cs0 post { c with H := c.H.set b (some (.cells e (cs.set j (.ptr b' off)))) } r) : Sound M base S0 cs0 post c r := by
 intro ρ w S b0 a todo cs' hI hg hh he hst hstack htr
 have eH : c.H0 = c.H := by simp [Cfg.H0, hs]
 have eE : c.env0 = c.top.env := by simp [Cfg.env0, hs]
 rw [eH] at hh he hstack
 rw [eE] at he
 obtain ⟨blk, arr, fz, q1, q2, q3, q4⟩ := hh.block _ _ ho
 obtain ⟨v, hv1, hv2⟩ := q4.get j _ hj
 have go : ∀ p : PV, (∀ {H'}, Ext base ρ c.H w S ρ H' w S → PRel ρ H' w S p v) → Sound M base S0 cs0 post { c with H := c.H.set b (some (.cells e (cs.set j p))) } r → Fin P (bottom c.top.K c.rest) base cs0 post w (lone (b0.at a todo) cs' w) r := by
  intro p hp hS
  obtain ⟨g1, g2⟩ := hh.turn (w' := w) (o' := .cells e (cs.set j p)) ho rfl rfl (.cells (by simp)) q1 rfl (fun _ _ => rfl) ⟨rfl, rfl, rfl⟩ (fun hx => by
   refine ⟨blk, arr, fz, q1, q2, q3, ?_⟩
   have hset := (q4.mono hx.hH hx.hr hx.hw hx.hS).set j (hp hx)
   have : arr.toList.set j v = arr.toList := by
    apply List.ext_getElem?
    intro i
    by_cases e : j = i
    ·
     subst e
     rw [List.getElem?_set_self', hv1]
     rfl
    · rw [List.getElem?_set_ne e]
   rwa [this] at hset)
  have hsn : ({ c with H := c.H.set b (some (.cells e (cs.set j p))) } : Cfg).top.start = none := hs
  refine hS.plain hsn ρ w S b0 a todo cs' hI hg g1 (g2.rels he) hst (hstack.ext g2)
 simp only [PRel] at hv2
 obtain ⟨hkn, hv2⟩ := hv2
 rcases hv2 with rfl | hv2
 · exact go _ (fun _ => by simp only [PRel]) h1
 ·
  refine go _ (fun {H'} hx => ?_) h2
  have : PRel ρ c.H w S (.ptr b' off) v := by simp only [PRel]; exact ⟨⟨hkn, hv2.1⟩, hv2.2⟩
  exact hx.rel this
end
end Go.Proofs.YtjdjlijjolibkaaDoor.V
namespace Go.Proofs.YtjdjlijjolibkaaDoor.V
open Go.RowKit Go.Proofs.Tryd
set_option maxRecDepth 100000
set_option linter.unusedVariables false
noncomputable def m_math_bits_Len64 : Mach prog Inv gInv := mach bas [(150, f150)] ⟨ok150, trivial⟩ [] trivial [] trivial [] trivial
/-! ### math/bits.Len64 -/
@[reducible] def r_math_bits_Len64 : List Ty := [(.int .i64)]
def ks_math_bits_Len64 : List Nat := [150]
abbrev H_math_bits_Len64 (base : Base) (S0 : Nat → Prop) := base.n = 0 ∧ FinOk (finR r_math_bits_Len64) base S0 (Post r_math_bits_Len64 S0)
abbrev J_math_bits_Len64 (base : Base) (S0 : Nat → Prop) (cs0 : List Go.Frame) (p : CPat) (J : denC p → Option (denL r_math_bits_Len64)) := JSound m_math_bits_Len64 base S0 cs0 (Post r_math_bits_Len64 S0) p J
abbrev O_math_bits_Len64 (base : Base) (S0 : Nat → Prop) (cs0 : List Go.Frame) (X : Cfg → Option (Option (denL r_math_bits_Len64))) := OSound m_math_bits_Len64 base S0 cs0 (Post r_math_bits_Len64 S0) X
@[reducible] noncomputable def p_math_bits_Len64_1 : CPat := ⟨⟨150, [1, 1, 1], none, [.int .u64, .any, .int .i64], 22⟩, [], [], 0⟩
@[reducible] noncomputable def u_math_bits_Len64_1 (k : Int → Int → Option (Int × Unit)) : denC p_math_bits_Len64_1 → Option (Int × Unit) := fun x => k x.1.1 x.1.2.2.1
noncomputable def b_math_bits_Len64_1 (i10 : Int) (i11 : Int) : Option (Int × Unit) :=
 let b12 : Bool := (decide (i10 ≥ (256 : Int)))
 bif b12 then
  let n13 : Int := (Int.fdiv i10 (256 : Int))
  let n14 : Int := (Go.IntKind.wrap Go.IntKind.i64 (i11 + (8 : Int)))
  let n23 : Int := (Go.IntKind.wrap Go.IntKind.u8 n13)
  bif (decide (((0 : Int) ≤ n23) ∧ (n23 < (256 : Int)))) then
   let n24 : Int := (byteAt (ByteArray.mk (List.toArray (List.append (List.append ((0 : UInt8) :: ((1 : UInt8) :: ((2 : UInt8) :: ((2 : UInt8) :: ((3 : UInt8) :: ((3 : UInt8) :: ((3 : UInt8) :: ((3 : UInt8) :: ((4 : UInt8) :: ((4 : UInt8) :: ((4 : UInt8) :: ((4 : UInt8) :: ((4 : UInt8) :: ((4 : UInt8) :: ((4 : UInt8) :: ((4 : UInt8) :: ((5 : UInt8) :: ((5 : UInt8) :: ((5 : UInt8) :: ((5 : UInt8) :: ((5 : UInt8) :: ((5 : UInt8) :: ((5 : UInt8) :: ((5 : UInt8) :: ((5 : UInt8) :: ((5 : UInt8) :: ((5 : UInt8) :: ((5 : UInt8) :: ((5 : UInt8) :: ((5 : UInt8) :: ((5 : UInt8) :: ((5 : UInt8) :: ((6 : UInt8) :: ((6 : UInt8) :: ((6 : UInt8) :: ((6 : UInt8) :: ((6 : UInt8) :: ((6 : UInt8) :: ((6 : UInt8) :: ((6 : UInt8) :: ((6 : UInt8) :: ((6 : UInt8) :: ((6 : UInt8) :: ((6 : UInt8) :: ((6 : UInt8) :: ((6 : UInt8) :: ((6 : UInt8) :: ((6 : UInt8) :: ((6 : UInt8) :: ((6 : UInt8) :: ((6 : UInt8) :: ((6 : UInt8) :: ((6 : UInt8) :: ((6 : UInt8) :: ((6 : UInt8) :: ((6 : UInt8) :: ((6 : UInt8) :: ((6 : UInt8) :: ((6 : UInt8) :: ((6 : UInt8) :: ((6 : UInt8) :: ((6 : UInt8) :: ((6 : UInt8) :: ((6 : UInt8) :: ([] : List UInt8))))))))))))))))))))))))))))))))))))))))))))))))))))))))))))))))) ((7 : UInt8) :: ((7 : UInt8) :: ((7 : UInt8) :: ((7 : UInt8) :: ((7 : UInt8) :: ((7 : UInt8) :: ((7 : UInt8) :: ((7 : UInt8) :: ((7 : UInt8) :: ((7 : UInt8) :: ((7 : UInt8) :: ((7 : UInt8) :: ((7 : UInt8) :: ((7 : UInt8) :: ((7 : UInt8) :: ((7 : UInt8) :: ((7 : UInt8) :: ((7 : UInt8) :: ((7 : UInt8) :: ((7 : UInt8) :: ((7 : UInt8) :: ((7 : UInt8) :: ((7 : UInt8) :: ((7 : UInt8) :: ((7 : UInt8) :: ((7 : UInt8) :: ((7 : UInt8) :: ((7 : UInt8) :: ((7 : UInt8) :: ((7 : UInt8) :: ((7 : UInt8) :: ((7 : UInt8) :: ((7 : UInt8) :: ((7 : UInt8) :: ((7 : UInt8) :: ((7 : UInt8) :: ((7 : UInt8) :: ((7 : UInt8) :: ((7 : UInt8) :: ((7 : UInt8) :: ((7 : UInt8) :: ((7 : UInt8) :: ((7 : UInt8) :: ((7 : UInt8) :: ((7 : UInt8) :: ((7 : UInt8) :: ((7 : UInt8) :: ((7 : UInt8) :: ((7 : UInt8) :: ((7 : UInt8) :: ((7 : UInt8) :: ((7 : UInt8) :: ((7 : UInt8) :: ((7 : UInt8) :: ((7 : UInt8) :: ((7 : UInt8) :: ((7 : UInt8) :: ((7 : UInt8) :: ((7 : UInt8) :: ((7 : UInt8) :: ((7 : UInt8) :: ((7 : UInt8) :: ((7 : UInt8) :: ((7 : UInt8) :: ([] : List UInt8)))))))))))))))))))))))))))))))))))))))))))))))))))))))))))))))))) (List.append ((8 : UInt8) :: ((8 : UInt8) :: ((8 : UInt8) :: ((8 : UInt8) :: ((8 : UInt8) :: ((8 : UInt8) :: ((8 : UInt8) :: ((8 : UInt8) :: ((8 : UInt8) :: ((8 : UInt8) :: ((8 : UInt8) :: ((8 : UInt8) :: ((8 : UInt8) :: ((8 : UInt8) :: ((8 : UInt8) :: ((8 : UInt8) :: ((8 : UInt8) :: ((8 : UInt8) :: ((8 : UInt8) :: ((8 : UInt8) :: ((8 : UInt8) :: ((8 : UInt8) :: ((8 : UInt8) :: ((8 : UInt8) :: ((8 : UInt8) :: ((8 : UInt8) :: ((8 : UInt8) :: ((8 : UInt8) :: ((8 : UInt8) :: ((8 : UInt8) :: ((8 : UInt8) :: ((8 : UInt8) :: ((8 : UInt8) :: ((8 : UInt8) :: ((8 : UInt8) :: ((8 : UInt8) :: ((8 : UInt8) :: ((8 : UInt8) :: ((8 : UInt8) :: ((8 : UInt8) :: ((8 : UInt8) :: ((8 : UInt8) :: ((8 : UInt8) :: ((8 : UInt8) :: ((8 : UInt8) :: ((8 : UInt8) :: ((8 : UInt8) :: ((8 : UInt8) :: ((8 : UInt8) :: ((8 : UInt8) :: ((8 : UInt8) :: ((8 : UInt8) :: ((8 : UInt8) :: ((8 : UInt8) :: ((8 : UInt8) :: ((8 : UInt8) :: ((8 : UInt8) :: ((8 : UInt8) :: ((8 : UInt8) :: ((8 : UInt8) :: ((8 : UInt8) :: ((8 : UInt8) :: ((8 : UInt8) :: ((8 : UInt8) :: ([] : List UInt8))))))))))))))))))))))))))))))))))))))))))))))))))))))))))))))))) ((8 : UInt8) :: ((8 : UInt8) :: ((8 : UInt8) :: ((8 : UInt8) :: ((8 : UInt8) :: ((8 : UInt8) :: ((8 : UInt8) :: ((8 : UInt8) :: ((8 : UInt8) :: ((8 : UInt8) :: ((8 : UInt8) :: ((8 : UInt8) :: ((8 : UInt8) :: ((8 : UInt8) :: ((8 : UInt8) :: ((8 : UInt8) :: ((8 : UInt8) :: ((8 : UInt8) :: ((8 : UInt8) :: ((8 : UInt8) :: ((8 : UInt8) :: ((8 : UInt8) :: ((8 : UInt8) :: ((8 : UInt8) :: ((8 : UInt8) :: ((8 : UInt8) :: ((8 : UInt8) :: ((8 : UInt8) :: ((8 : UInt8) :: ((8 : UInt8) :: ((8 : UInt8) :: ((8 : UInt8) :: ((8 : UInt8) :: ((8 : UInt8) :: ((8 : UInt8) :: ((8 : UInt8) :: ((8 : UInt8) :: ((8 : UInt8) :: ((8 : UInt8) :: ((8 : UInt8) :: ((8 : UInt8) :: ((8 : UInt8) :: ((8 : UInt8) :: ((8 : UInt8) :: ((8 : UInt8) :: ((8 : UInt8) :: ((8 : UInt8) :: ((8 : UInt8) :: ((8 : UInt8) :: ((8 : UInt8) :: ((8 : UInt8) :: ((8 : UInt8) :: ((8 : UInt8) :: ((8 : UInt8) :: ((8 : UInt8) :: ((8 : UInt8) :: ((8 : UInt8) :: ((8 : UInt8) :: ((8 : UInt8) :: ((8 : UInt8) :: ((8 : UInt8) :: ((8 : UInt8) :: ((8 : UInt8) :: ((8 : UInt8) :: ([] : List UInt8))))))))))))))))))))))))))))))))))))))))))))))))))))))))))))))))))))) n23)
   let n25 : Int := (Go.IntKind.wrap Go.IntKind.i64 n24)
   let n26 : Int := (Go.IntKind.wrap Go.IntKind.i64 (n14 + n25))
   some (n26, ())
  else none
 else
  let n19 : Int := (Go.IntKind.wrap Go.IntKind.u8 i10)
  bif (decide (((0 : Int) ≤ n19) ∧ (n19 < (256 : Int)))) then
   let n20 : Int := (byteAt (ByteArray.mk (List.toArray (List.append (List.append ((0 : UInt8) :: ((1 : UInt8) :: ((2 : UInt8) :: ((2 : UInt8) :: ((3 : UInt8) :: ((3 : UInt8) :: ((3 : UInt8) :: ((3 : UInt8) :: ((4 : UInt8) :: ((4 : UInt8) :: ((4 : UInt8) :: ((4 : UInt8) :: ((4 : UInt8) :: ((4 : UInt8) :: ((4 : UInt8) :: ((4 : UInt8) :: ((5 : UInt8) :: ((5 : UInt8) :: ((5 : UInt8) :: ((5 : UInt8) :: ((5 : UInt8) :: ((5 : UInt8) :: ((5 : UInt8) :: ((5 : UInt8) :: ((5 : UInt8) :: ((5 : UInt8) :: ((5 : UInt8) :: ((5 : UInt8) :: ((5 : UInt8) :: ((5 : UInt8) :: ((5 : UInt8) :: ((5 : UInt8) :: ((6 : UInt8) :: ((6 : UInt8) :: ((6 : UInt8) :: ((6 : UInt8) :: ((6 : UInt8) :: ((6 : UInt8) :: ((6 : UInt8) :: ((6 : UInt8) :: ((6 : UInt8) :: ((6 : UInt8) :: ((6 : UInt8) :: ((6 : UInt8) :: ((6 : UInt8) :: ((6 : UInt8) :: ((6 : UInt8) :: ((6 : UInt8) :: ((6 : UInt8) :: ((6 : UInt8) :: ((6 : UInt8) :: ((6 : UInt8) :: ((6 : UInt8) :: ((6 : UInt8) :: ((6 : UInt8) :: ((6 : UInt8) :: ((6 : UInt8) :: ((6 : UInt8) :: ((6 : UInt8) :: ((6 : UInt8) :: ((6 : UInt8) :: ((6 : UInt8) :: ((6 : UInt8) :: ((6 : UInt8) :: ([] : List UInt8))))))))))))))))))))))))))))))))))))))))))))))))))))))))))))))))) ((7 : UInt8) :: ((7 : UInt8) :: ((7 : UInt8) :: ((7 : UInt8) :: ((7 : UInt8) :: ((7 : UInt8) :: ((7 : UInt8) :: ((7 : UInt8) :: ((7 : UInt8) :: ((7 : UInt8) :: ((7 : UInt8) :: ((7 : UInt8) :: ((7 : UInt8) :: ((7 : UInt8) :: ((7 : UInt8) :: ((7 : UInt8) :: ((7 : UInt8) :: ((7 : UInt8) :: ((7 : UInt8) :: ((7 : UInt8) :: ((7 : UInt8) :: ((7 : UInt8) :: ((7 : UInt8) :: ((7 : UInt8) :: ((7 : UInt8) :: ((7 : UInt8) :: ((7 : UInt8) :: ((7 : UInt8) :: ((7 : UInt8) :: ((7 : UInt8) :: ((7 : UInt8) :: ((7 : UInt8) :: ((7 : UInt8) :: ((7 : UInt8) :: ((7 : UInt8) :: ((7 : UInt8) :: ((7 : UInt8) :: ((7 : UInt8) :: ((7 : UInt8) :: ((7 : UInt8) :: ((7 : UInt8) :: ((7 : UInt8) :: ((7 : UInt8) :: ((7 : UInt8) :: ((7 : UInt8) :: ((7 : UInt8) :: ((7 : UInt8) :: ((7 : UInt8) :: ((7 : UInt8) :: ((7 : UInt8) :: ((7 : UInt8) :: ((7 : UInt8) :: ((7 : UInt8) :: ((7 : UInt8) :: ((7 : UInt8) :: ((7 : UInt8) :: ((7 : UInt8) :: ((7 : UInt8) :: ((7 : UInt8) :: ((7 : UInt8) :: ((7 : UInt8) :: ((7 : UInt8) :: ((7 : UInt8) :: ((7 : UInt8) :: ([] : List UInt8)))))))))))))))))))))))))))))))))))))))))))))))))))))))))))))))))) (List.append ((8 : UInt8) :: ((8 : UInt8) :: ((8 : UInt8) :: ((8 : UInt8) :: ((8 : UInt8) :: ((8 : UInt8) :: ((8 : UInt8) :: ((8 : UInt8) :: ((8 : UInt8) :: ((8 : UInt8) :: ((8 : UInt8) :: ((8 : UInt8) :: ((8 : UInt8) :: ((8 : UInt8) :: ((8 : UInt8) :: ((8 : UInt8) :: ((8 : UInt8) :: ((8 : UInt8) :: ((8 : UInt8) :: ((8 : UInt8) :: ((8 : UInt8) :: ((8 : UInt8) :: ((8 : UInt8) :: ((8 : UInt8) :: ((8 : UInt8) :: ((8 : UInt8) :: ((8 : UInt8) :: ((8 : UInt8) :: ((8 : UInt8) :: ((8 : UInt8) :: ((8 : UInt8) :: ((8 : UInt8) :: ((8 : UInt8) :: ((8 : UInt8) :: ((8 : UInt8) :: ((8 : UInt8) :: ((8 : UInt8) :: ((8 : UInt8) :: ((8 : UInt8) :: ((8 : UInt8) :: ((8 : UInt8) :: ((8 : UInt8) :: ((8 : UInt8) :: ((8 : UInt8) :: ((8 : UInt8) :: ((8 : UInt8) :: ((8 : UInt8) :: ((8 : UInt8) :: ((8 : UInt8) :: ((8 : UInt8) :: ((8 : UInt8) :: ((8 : UInt8) :: ((8 : UInt8) :: ((8 : UInt8) :: ((8 : UInt8) :: ((8 : UInt8) :: ((8 : UInt8) :: ((8 : UInt8) :: ((8 : UInt8) :: ((8 : UInt8) :: ((8 : UInt8) :: ((8 : UInt8) :: ((8 : UInt8) :: ((8 : UInt8) :: ([] : List UInt8))))))))))))))))))))))))))))))))))))))))))))))))))))))))))))))))) ((8 : UInt8) :: ((8 : UInt8) :: ((8 : UInt8) :: ((8 : UInt8) :: ((8 : UInt8) :: ((8 : UInt8) :: ((8 : UInt8) :: ((8 : UInt8) :: ((8 : UInt8) :: ((8 : UInt8) :: ((8 : UInt8) :: ((8 : UInt8) :: ((8 : UInt8) :: ((8 : UInt8) :: ((8 : UInt8) :: ((8 : UInt8) :: ((8 : UInt8) :: ((8 : UInt8) :: ((8 : UInt8) :: ((8 : UInt8) :: ((8 : UInt8) :: ((8 : UInt8) :: ((8 : UInt8) :: ((8 : UInt8) :: ((8 : UInt8) :: ((8 : UInt8) :: ((8 : UInt8) :: ((8 : UInt8) :: ((8 : UInt8) :: ((8 : UInt8) :: ((8 : UInt8) :: ((8 : UInt8) :: ((8 : UInt8) :: ((8 : UInt8) :: ((8 : UInt8) :: ((8 : UInt8) :: ((8 : UInt8) :: ((8 : UInt8) :: ((8 : UInt8) :: ((8 : UInt8) :: ((8 : UInt8) :: ((8 : UInt8) :: ((8 : UInt8) :: ((8 : UInt8) :: ((8 : UInt8) :: ((8 : UInt8) :: ((8 : UInt8) :: ((8 : UInt8) :: ((8 : UInt8) :: ((8 : UInt8) :: ((8 : UInt8) :: ((8 : UInt8) :: ((8 : UInt8) :: ((8 : UInt8) :: ((8 : UInt8) :: ((8 : UInt8) :: ((8 : UInt8) :: ((8 : UInt8) :: ((8 : UInt8) :: ((8 : UInt8) :: ((8 : UInt8) :: ((8 : UInt8) :: ((8 : UInt8) :: ((8 : UInt8) :: ([] : List UInt8))))))))))))))))))))))))))))))))))))))))))))))))))))))))))))))))))))) n19)
   let n21 : Int := (Go.IntKind.wrap Go.IntKind.i64 n20)
   let n22 : Int := (Go.IntKind.wrap Go.IntKind.i64 (i11 + n21))
   some (n22, ())
  else none
theorem ex_math_bits_Len64_1 : ∃ f, f = @b_math_bits_Len64_1 := ⟨_, rfl⟩
noncomputable def math_bits_Len64_1 := Classical.choose ex_math_bits_Len64_1
theorem math_bits_Len64_1_eq : @math_bits_Len64_1 = @b_math_bits_Len64_1 := Classical.choose_spec ex_math_bits_Len64_1
theorem s_math_bits_Len64_1 {base S0 cs0} (hfin : H_math_bits_Len64 base S0) : J_math_bits_Len64 base S0 cs0 p_math_bits_Len64_1 (u_math_bits_Len64_1 (math_bits_Len64_1)) :=
 JSound.join hfin.2 (OSound.nowhere) ks_math_bits_Len64 100000 (by rw [math_bits_Len64_1_eq]; intro x; kernel_rfl)
noncomputable def x_math_bits_Len64_1 : Cfg → Option (Option (Int × Unit)) := cut p_math_bits_Len64_1 (u_math_bits_Len64_1 (math_bits_Len64_1)) (nowhere)
theorem o_math_bits_Len64_1 {base S0 cs0} (hfin : H_math_bits_Len64 base S0) : O_math_bits_Len64 base S0 cs0 (x_math_bits_Len64_1) := OSound.cut (OSound.nowhere) (Nat.le_of_eq hfin.1) (s_math_bits_Len64_1 hfin)
@[reducible] noncomputable def p_math_bits_Len64_0 : CPat := ⟨⟨150, [1, 1], none, [.int .u64, .any, .int .i64], 22⟩, [], [], 0⟩
@[reducible] noncomputable def u_math_bits_Len64_0 (k : Int → Int → Option (Int × Unit)) : denC p_math_bits_Len64_0 → Option (Int × Unit) := fun x => k x.1.1 x.1.2.2.1
noncomputable def b_math_bits_Len64_0 (i4 : Int) (i5 : Int) : Option (Int × Unit) :=
 let b6 : Bool := (decide (i4 ≥ (65536 : Int)))
 bif b6 then
  let n7 : Int := (Int.fdiv i4 (65536 : Int))
  let n8 : Int := (Go.IntKind.wrap Go.IntKind.i64 (i5 + (16 : Int)))
  math_bits_Len64_1 n7 n8
 else
  math_bits_Len64_1 i4 i5
theorem ex_math_bits_Len64_0 : ∃ f, f = @b_math_bits_Len64_0 := ⟨_, rfl⟩
noncomputable def math_bits_Len64_0 := Classical.choose ex_math_bits_Len64_0
theorem math_bits_Len64_0_eq : @math_bits_Len64_0 = @b_math_bits_Len64_0 := Classical.choose_spec ex_math_bits_Len64_0
theorem s_math_bits_Len64_0 {base S0 cs0} (hfin : H_math_bits_Len64 base S0) : J_math_bits_Len64 base S0 cs0 p_math_bits_Len64_0 (u_math_bits_Len64_0 (math_bits_Len64_0)) :=
 JSound.join hfin.2 (o_math_bits_Len64_1 hfin) ks_math_bits_Len64 100000 (by rw [math_bits_Len64_0_eq]; intro x; kernel_rfl)
noncomputable def x_math_bits_Len64_0 : Cfg → Option (Option (Int × Unit)) := cut p_math_bits_Len64_0 (u_math_bits_Len64_0 (math_bits_Len64_0)) (x_math_bits_Len64_1)
theorem o_math_bits_Len64_0 {base S0 cs0} (hfin : H_math_bits_Len64 base S0) : O_math_bits_Len64 base S0 cs0 (x_math_bits_Len64_0) := OSound.cut (o_math_bits_Len64_1 hfin) (Nat.le_of_eq hfin.1) (s_math_bits_Len64_0 hfin)
noncomputable def b_math_bits_Len64 (a0 : Int) : Option (Int × Unit) :=
 let b1 : Bool := (decide (a0 ≥ (4294967296 : Int)))
 bif b1 then
  let n2 : Int := (Int.fdiv a0 (4294967296 : Int))
  math_bits_Len64_0 n2 (32 : Int)
 else
  math_bits_Len64_0 a0 (0 : Int)
theorem ex_math_bits_Len64 : ∃ f, f = @b_math_bits_Len64 := ⟨_, rfl⟩
noncomputable def math_bits_Len64 := Classical.choose ex_math_bits_Len64
theorem math_bits_Len64_eq : @math_bits_Len64 = @b_math_bits_Len64 := Classical.choose_spec ex_math_bits_Len64
noncomputable def cb_math_bits_Len64 : Con := ⟨[(.int .u64)], r_math_bits_Len64, fun x => b_math_bits_Len64 x.1⟩
noncomputable def c_math_bits_Len64 : Con := ⟨[(.int .u64)], r_math_bits_Len64, fun x => math_bits_Len64 x.1⟩
theorem cb_math_bits_Len64_ok : cb_math_bits_Len64.Sound prog Inv gInv 150 :=
 con_run (M := m_math_bits_Len64) inv_g (f := f150) rfl ks_math_bits_Len64 100000 (X := x_math_bits_Len64_0) (fun base S0 cs0 hn hf => have hfin : H_math_bits_Len64 base S0 := ⟨hn, hf⟩; o_math_bits_Len64_0 hfin) (by intro x; kernel_rfl)
theorem c_math_bits_Len64_ok : c_math_bits_Len64.Sound prog Inv gInv 150 := by
 have e : c_math_bits_Len64 = cb_math_bits_Len64 := by unfold c_math_bits_Len64 cb_math_bits_Len64; rw [math_bits_Len64_eq]
 rw [e]; exact cb_math_bits_Len64_ok
noncomputable def m_varint_Size : Mach prog Inv gInv := mach bas [(124, f124)] ⟨ok124, trivial⟩ [(150, c_math_bits_Len64)] ⟨⟨c_math_bits_Len64_ok, FnOk.callable ok150⟩, trivial⟩ [] trivial [] trivial
/-! ### domino/varint.Size -/
@[reducible] def r_varint_Size : List Ty := [(.int .i64)]
def ks_varint_Size : List Nat := [124]
noncomputable def b_varint_Size (a0 : Int) : Option (Int × Unit) :=
 obind (math_bits_Len64 a0) fun y1 =>
 let b2 : Bool := (decide (y1.1 ≤ (6 : Int)))
 bif b2 then
  some ((1 : Int), ())
 else
  obind (math_bits_Len64 a0) fun y3 =>
  let b4 : Bool := (decide (y3.1 ≤ (14 : Int)))
  bif b4 then
   some ((2 : Int), ())
  else
   obind (math_bits_Len64 a0) fun y5 =>
   let b6 : Bool := (decide (y5.1 ≤ (30 : Int)))
   bif b6 then
    some ((4 : Int), ())
   else
    obind (math_bits_Len64 a0) fun y7 =>
    let b8 : Bool := (decide (y7.1 ≤ (62 : Int)))
    bif b8 then
     some ((8 : Int), ())
    else
     some ((0 : Int), ())
theorem ex_varint_Size : ∃ f, f = @b_varint_Size := ⟨_, rfl⟩
noncomputable def varint_Size := Classical.choose ex_varint_Size
theorem varint_Size_eq : @varint_Size = @b_varint_Size := Classical.choose_spec ex_varint_Size
noncomputable def cb_varint_Size : Con := ⟨[(.int .u64)], r_varint_Size, fun x => b_varint_Size x.1⟩
noncomputable def c_varint_Size : Con := ⟨[(.int .u64)], r_varint_Size, fun x => varint_Size x.1⟩
theorem cb_varint_Size_ok : cb_varint_Size.Sound prog Inv gInv 124 :=
 con_run (M := m_varint_Size) inv_g (f := f124) rfl ks_varint_Size 100000 (X := nowhere) (fun base S0 cs0 hn hf => OSound.nowhere) (by intro x; kernel_rfl)
theorem c_varint_Size_ok : c_varint_Size.Sound prog Inv gInv 124 := by
 have e : c_varint_Size = cb_varint_Size := by unfold c_varint_Size cb_varint_Size; rw [varint_Size_eq]
 rw [e]; exact cb_varint_Size_ok
noncomputable def m_math_bits_RotateLeft64 : Mach prog Inv gInv := mach bas [(165, f165)] ⟨ok165, trivial⟩ [] trivial [] trivial [] trivial
/-! ### math/bits.RotateLeft64 -/
@[reducible] def r_math_bits_RotateLeft64 : List Ty := [(.int .u64)]
def ks_math_bits_RotateLeft64 : List Nat := [165]
noncomputable def b_math_bits_RotateLeft64 (a0 : Int) (a1 : Int) : Option (Int × Unit) :=
 let n2 : Int := (Go.IntKind.wrap Go.IntKind.u64 a1)
 let n3 : Int := (bits Go.BinOp.and Go.IntKind.u64 n2 (63 : Int))
 bif (decide ((0 : Int) ≤ n3)) then
  let n4 : Int := (Go.IntKind.wrap Go.IntKind.u64 (a0 * ((2 : Int) ^ (Min.min (Int.toNat n3) 64))))
  let n5 : Int := (Go.IntKind.wrap Go.IntKind.u64 ((64 : Int) - n3))
  bif (decide ((0 : Int) ≤ n5)) then
   let n6 : Int := (Int.fdiv a0 ((2 : Int) ^ (Min.min (Int.toNat n5) 64)))
   let n7 : Int := (bits Go.BinOp.or Go.IntKind.u64 n4 n6)
   some (n7, ())
  else none
 else none
theorem ex_math_bits_RotateLeft64 : ∃ f, f = @b_math_bits_RotateLeft64 := ⟨_, rfl⟩
noncomputable def math_bits_RotateLeft64 := Classical.choose ex_math_bits_RotateLeft64
theorem math_bits_RotateLeft64_eq : @math_bits_RotateLeft64 = @b_math_bits_RotateLeft64 := Classical.choose_spec ex_math_bits_RotateLeft64
noncomputable def cb_math_bits_RotateLeft64 : Con := ⟨[(.int .u64), (.int .i64)], r_math_bits_RotateLeft64, fun x => b_math_bits_RotateLeft64 x.1 x.2.1⟩
noncomputable def c_math_bits_RotateLeft64 : Con := ⟨[(.int .u64), (.int .i64)], r_math_bits_RotateLeft64, fun x => math_bits_RotateLeft64 x.1 x.2.1⟩
theorem cb_math_bits_RotateLeft64_ok : cb_math_bits_RotateLeft64.Sound prog Inv gInv 165 :=
 con_run (M := m_math_bits_RotateLeft64) inv_g (f := f165) rfl ks_math_bits_RotateLeft64 100000 (X := nowhere) (fun base S0 cs0 hn hf => OSound.nowhere) (by intro x; kernel_rfl)
theorem c_math_bits_RotateLeft64_ok : c_math_bits_RotateLeft64.Sound prog Inv gInv 165 := by
 have e : c_math_bits_RotateLeft64 = cb_math_bits_RotateLeft64 := by unfold c_math_bits_RotateLeft64 cb_math_bits_RotateLeft64; rw [math_bits_RotateLeft64_eq]
 rw [e]; exact cb_math_bits_RotateLeft64_ok
noncomputable def m_varint_split : Mach prog Inv gInv := mach bas [(160, f160)] ⟨ok160, trivial⟩ [(165, c_math_bits_RotateLeft64)] ⟨⟨c_math_bits_RotateLeft64_ok, FnOk.callable ok165⟩, trivial⟩ [] trivial [] trivial
/-! ### domino/varint.split -/
@[reducible] def r_varint_split : List Ty := [T_8_uint8]
def ks_varint_split : List Nat := [160]
noncomputable def b_varint_split (a0 : Int) : Option (D_8_uint8 × Unit) :=
 obind (math_bits_RotateLeft64 a0 (8 : Int)) fun y1 =>
 let n2 : Int := (Go.IntKind.wrap Go.IntKind.u8 y1.1)
 obind (math_bits_RotateLeft64 a0 (16 : Int)) fun y3 =>
 let n4 : Int := (Go.IntKind.wrap Go.IntKind.u8 y3.1)
 obind (math_bits_RotateLeft64 a0 (24 : Int)) fun y5 =>
 let n6 : Int := (Go.IntKind.wrap Go.IntKind.u8 y5.1)
 obind (math_bits_RotateLeft64 a0 (32 : Int)) fun y7 =>
 let n8 : Int := (Go.IntKind.wrap Go.IntKind.u8 y7.1)
 obind (math_bits_RotateLeft64 a0 (40 : Int)) fun y9 =>
 let n10 : Int := (Go.IntKind.wrap Go.IntKind.u8 y9.1)
 obind (math_bits_RotateLeft64 a0 (48 : Int)) fun y11 =>
 let n12 : Int := (Go.IntKind.wrap Go.IntKind.u8 y11.1)
 obind (math_bits_RotateLeft64 a0 (56 : Int)) fun y13 =>
 let n14 : Int := (Go.IntKind.wrap Go.IntKind.u8 y13.1)
 obind (math_bits_RotateLeft64 a0 (64 : Int)) fun y15 =>
 let n16 : Int := (Go.IntKind.wrap Go.IntKind.u8 y15.1)
 some ((n2, (n4, (n6, (n8, (n10, (n12, (n14, (n16, ())))))))), ())
theorem ex_varint_split : ∃ f, f = @b_varint_split := ⟨_, rfl⟩
noncomputable def varint_split := Classical.choose ex_varint_split
theorem varint_split_eq : @varint_split = @b_varint_split := Classical.choose_spec ex_varint_split
noncomputable def cb_varint_split : Con := ⟨[(.int .u64)], r_varint_split, fun x => b_varint_split x.1⟩
noncomputable def c_varint_split : Con := ⟨[(.int .u64)], r_varint_split, fun x => varint_split x.1⟩
theorem cb_varint_split_ok : cb_varint_split.Sound prog Inv gInv 160 :=
 con_run (M := m_varint_split) inv_g (f := f160) rfl ks_varint_split 100000 (X := nowhere) (fun base S0 cs0 hn hf => OSound.nowhere) (by intro x; kernel_rfl)
theorem c_varint_split_ok : c_varint_split.Sound prog Inv gInv 160 := by
 have e : c_varint_split = cb_varint_split := by unfold c_varint_split cb_varint_split; rw [varint_split_eq]
 rw [e]; exact cb_varint_split_ok
noncomputable def m_math_bits_TrailingZeros32 : Mach prog Inv gInv := mach bas [(166, f166)] ⟨ok166, trivial⟩ [] trivial [] trivial [] trivial
/-! ### math/bits.TrailingZeros32 -/
@[reducible] def r_math_bits_TrailingZeros32 : List Ty := [(.int .i64)]
def ks_math_bits_TrailingZeros32 : List Nat := [166]
noncomputable def b_math_bits_TrailingZeros32 (a0 : Int) : Option (Int × Unit) :=
 let b1 : Bool := (a0 == (0 : Int))
 bif b1 then
  some ((32 : Int), ())
 else
  let n2 : Int := (Go.IntKind.wrap Go.IntKind.u32 ((0 : Int) - a0))
  let n3 : Int := (bits Go.BinOp.and Go.IntKind.u32 a0 n2)
  let n4 : Int := (Go.IntKind.wrap Go.IntKind.u32 (n3 * (125613361 : Int)))
  let n5 : Int := (Int.fdiv n4 (134217728 : Int))
  bif (decide (((0 : Int) ≤ n5) ∧ (n5 < (32 : Int)))) then
   let x6 : Int := (List.getD ((0 : Int) :: ((1 : Int) :: ((28 : Int) :: ((2 : Int) :: ((29 : Int) :: ((14 : Int) :: ((24 : Int) :: ((3 : Int) :: ((30 : Int) :: ((22 : Int) :: ((20 : Int) :: ((15 : Int) :: ((25 : Int) :: ((17 : Int) :: ((4 : Int) :: ((8 : Int) :: ((31 : Int) :: ((27 : Int) :: ((13 : Int) :: ((23 : Int) :: ((21 : Int) :: ((19 : Int) :: ((16 : Int) :: ((7 : Int) :: ((26 : Int) :: ((12 : Int) :: ((18 : Int) :: ((6 : Int) :: ((11 : Int) :: ((5 : Int) :: ((10 : Int) :: ((9 : Int) :: ([] : List Int))))))))))))))))))))))))))))))))) (Int.toNat n5) (0 : Int))
   let n7 : Int := (Go.IntKind.wrap Go.IntKind.i64 x6)
   some (n7, ())
  else none
theorem ex_math_bits_TrailingZeros32 : ∃ f, f = @b_math_bits_TrailingZeros32 := ⟨_, rfl⟩
noncomputable def math_bits_TrailingZeros32 := Classical.choose ex_math_bits_TrailingZeros32
theorem math_bits_TrailingZeros32_eq : @math_bits_TrailingZeros32 = @b_math_bits_TrailingZeros32 := Classical.choose_spec ex_math_bits_TrailingZeros32
noncomputable def cb_math_bits_TrailingZeros32 : Con := ⟨[(.int .u32)], r_math_bits_TrailingZeros32, fun x => b_math_bits_TrailingZeros32 x.1⟩
noncomputable def c_math_bits_TrailingZeros32 : Con := ⟨[(.int .u32)], r_math_bits_TrailingZeros32, fun x => math_bits_TrailingZeros32 x.1⟩
theorem cb_math_bits_TrailingZeros32_ok : cb_math_bits_TrailingZeros32.Sound prog Inv gInv 166 :=
 con_run (M := m_math_bits_TrailingZeros32) inv_g (f := f166) rfl ks_math_bits_TrailingZeros32 100000 (X := nowhere) (fun base S0 cs0 hn hf => OSound.nowhere) (by intro x; kernel_rfl)
theorem c_math_bits_TrailingZeros32_ok : c_math_bits_TrailingZeros32.Sound prog Inv gInv 166 := by
 have e : c_math_bits_TrailingZeros32 = cb_math_bits_TrailingZeros32 := by unfold c_math_bits_TrailingZeros32 cb_math_bits_TrailingZeros32; rw [math_bits_TrailingZeros32_eq]
 rw [e]; exact cb_math_bits_TrailingZeros32_ok
noncomputable def m_math_bits_TrailingZeros64 : Mach prog Inv gInv := mach bas [(167, f167)] ⟨ok167, trivial⟩ [] trivial [] trivial [] trivial
/-! ### math/bits.TrailingZeros64 -/
@[reducible] def r_math_bits_TrailingZeros64 : List Ty := [(.int .i64)]
def ks_math_bits_TrailingZeros64 : List Nat := [167]
noncomputable def b_math_bits_TrailingZeros64 (a0 : Int) : Option (Int × Unit) :=
 let b1 : Bool := (a0 == (0 : Int))
 bif b1 then
  some ((64 : Int), ())
 else
  let n2 : Int := (Go.IntKind.wrap Go.IntKind.u64 ((0 : Int) - a0))
  let n3 : Int := (bits Go.BinOp.and Go.IntKind.u64 a0 n2)
  let n4 : Int := (Go.IntKind.wrap Go.IntKind.u64 (n3 * (285870213051353865 : Int)))
  let n5 : Int := (Int.fdiv n4 (288230376151711744 : Int))
  bif (decide (((0 : Int) ≤ n5) ∧ (n5 < (64 : Int)))) then
   let x6 : Int := (List.getD ((0 : Int) :: ((1 : Int) :: ((56 : Int) :: ((2 : Int) :: ((57 : Int) :: ((49 : Int) :: ((28 : Int) :: ((3 : Int) :: ((61 : Int) :: ((58 : Int) :: ((42 : Int) :: ((50 : Int) :: ((38 : Int) :: ((29 : Int) :: ((17 : Int) :: ((4 : Int) :: ((62 : Int) :: ((47 : Int) :: ((59 : Int) :: ((36 : Int) :: ((45 : Int) :: ((43 : Int) :: ((51 : Int) :: ((22 : Int) :: ((53 : Int) :: ((39 : Int) :: ((33 : Int) :: ((30 : Int) :: ((24 : Int) :: ((18 : Int) :: ((12 : Int) :: ((5 : Int) :: ((63 : Int) :: ((55 : Int) :: ((48 : Int) :: ((27 : Int) :: ((60 : Int) :: ((41 : Int) :: ((37 : Int) :: ((16 : Int) :: ((46 : Int) :: ((35 : Int) :: ((44 : Int) :: ((21 : Int) :: ((52 : Int) :: ((32 : Int) :: ((23 : Int) :: ((11 : Int) :: ((54 : Int) :: ((26 : Int) :: ((40 : Int) :: ((15 : Int) :: ((34 : Int) :: ((20 : Int) :: ((31 : Int) :: ((10 : Int) :: ((25 : Int) :: ((14 : Int) :: ((19 : Int) :: ((9 : Int) :: ((13 : Int) :: ((8 : Int) :: ((7 : Int) :: ((6 : Int) :: ([] : List Int))))))))))))))))))))))))))))))))))))))))))))))))))))))))))))))))) (Int.toNat n5) (0 : Int))
   let n7 : Int := (Go.IntKind.wrap Go.IntKind.i64 x6)
   some (n7, ())
  else none
theorem ex_math_bits_TrailingZeros64 : ∃ f, f = @b_math_bits_TrailingZeros64 := ⟨_, rfl⟩
noncomputable def math_bits_TrailingZeros64 := Classical.choose ex_math_bits_TrailingZeros64
theorem math_bits_TrailingZeros64_eq : @math_bits_TrailingZeros64 = @b_math_bits_TrailingZeros64 := Classical.choose_spec ex_math_bits_TrailingZeros64
noncomputable def cb_math_bits_TrailingZeros64 : Con := ⟨[(.int .u64)], r_math_bits_TrailingZeros64, fun x => b_math_bits_TrailingZeros64 x.1⟩
noncomputable def c_math_bits_TrailingZeros64 : Con := ⟨[(.int .u64)], r_math_bits_TrailingZeros64, fun x => math_bits_TrailingZeros64 x.1⟩
theorem cb_math_bits_TrailingZeros64_ok : cb_math_bits_TrailingZeros64.Sound prog Inv gInv 167 :=
 con_run (M := m_math_bits_TrailingZeros64) inv_g (f := f167) rfl ks_math_bits_TrailingZeros64 100000 (X := nowhere) (fun base S0 cs0 hn hf => OSound.nowhere) (by intro x; kernel_rfl)
theorem c_math_bits_TrailingZeros64_ok : c_math_bits_TrailingZeros64.Sound prog Inv gInv 167 := by
 have e : c_math_bits_TrailingZeros64 = cb_math_bits_TrailingZeros64 := by unfold c_math_bits_TrailingZeros64 cb_math_bits_TrailingZeros64; rw [math_bits_TrailingZeros64_eq]
 rw [e]; exact cb_math_bits_TrailingZeros64_ok
noncomputable def m_math_bits_TrailingZeros : Mach prog Inv gInv := mach bas [(161, f161)] ⟨ok161, trivial⟩ [(166, c_math_bits_TrailingZeros32), (167, c_math_bits_TrailingZeros64)] ⟨⟨c_math_bits_TrailingZeros32_ok, FnOk.callable ok166⟩, ⟨c_math_bits_TrailingZeros64_ok, FnOk.callable ok167⟩, trivial⟩ [] trivial [] trivial
/-! ### math/bits.TrailingZeros -/
@[reducible] def r_math_bits_TrailingZeros : List Ty := [(.int .i64)]
def ks_math_bits_TrailingZeros : List Nat := [161]
noncomputable def b_math_bits_TrailingZeros (a0 : Int) : Option (Int × Unit) :=
 obind (math_bits_TrailingZeros64 a0) fun y1 =>
 some y1
theorem ex_math_bits_TrailingZeros : ∃ f, f = @b_math_bits_TrailingZeros := ⟨_, rfl⟩
noncomputable def math_bits_TrailingZeros := Classical.choose ex_math_bits_TrailingZeros
theorem math_bits_TrailingZeros_eq : @math_bits_TrailingZeros = @b_math_bits_TrailingZeros := Classical.choose_spec ex_math_bits_TrailingZeros
noncomputable def cb_math_bits_TrailingZeros : Con := ⟨[(.int .u64)], r_math_bits_TrailingZeros, fun x => b_math_bits_TrailingZeros x.1⟩
noncomputable def c_math_bits_TrailingZeros : Con := ⟨[(.int .u64)], r_math_bits_TrailingZeros, fun x => math_bits_TrailingZeros x.1⟩
theorem cb_math_bits_TrailingZeros_ok : cb_math_bits_TrailingZeros.Sound prog Inv gInv 161 :=
 con_run (M := m_math_bits_TrailingZeros) inv_g (f := f161) rfl ks_math_bits_TrailingZeros 100000 (X := nowhere) (fun base S0 cs0 hn hf => OSound.nowhere) (by intro x; kernel_rfl)
theorem c_math_bits_TrailingZeros_ok : c_math_bits_TrailingZeros.Sound prog Inv gInv 161 := by
 have e : c_math_bits_TrailingZeros = cb_math_bits_TrailingZeros := by unfold c_math_bits_TrailingZeros cb_math_bits_TrailingZeros; rw [math_bits_TrailingZeros_eq]
 rw [e]; exact cb_math_bits_TrailingZeros_ok
noncomputable def m_varint_Put : Mach prog Inv gInv := mach bas [(146, f146)] ⟨ok146, trivial⟩ [(124, c_varint_Size), (160, c_varint_split), (161, c_math_bits_TrailingZeros)] ⟨⟨c_varint_Size_ok, FnOk.callable ok124⟩, ⟨c_varint_split_ok, FnOk.callable ok160⟩, ⟨c_math_bits_TrailingZeros_ok, FnOk.callable ok161⟩, trivial⟩ [] trivial [] trivial
/-! ### domino/varint.Put -/
@[reducible] def r_varint_Put : List Ty := [.str, (.int .i64)]
def ks_varint_Put : List Nat := [146]
noncomputable def b_varint_Put (a0 : Int) : Option (ByteArray × Int × Unit) :=
 let s1 : ByteArray := (ByteArray.mk (List.toArray ([] : List UInt8)))
 obind (varint_Size a0) fun y2 =>
 let b3 : Bool := (y2.1 == (0 : Int))
 bif b3 then
  let s4 : ByteArray := (ByteArray.mk (List.toArray ([] : List UInt8)))
  some (s4, ((1 : Int), ()))
 else
  obind (varint_split a0) fun y5 =>
  let n6 : Int := (Go.IntKind.wrap Go.IntKind.i64 ((8 : Int) - y2.1))
  bif (decide (((List.length (y5.1.1 :: (y5.1.2.1 :: (y5.1.2.2.1 :: (y5.1.2.2.2.1 :: (y5.1.2.2.2.2.1 :: (y5.1.2.2.2.2.2.1 :: (y5.1.2.2.2.2.2.2.1 :: (y5.1.2.2.2.2.2.2.2.1 :: ([] : List Int)))))))))) = 8) ∧ (((0 : Int) ≤ n6) ∧ (n6 < (8 : Int))))) then
   let i7 : Nat := (Int.toNat n6)
   let n8 : Int := (List.getD (y5.1.1 :: (y5.1.2.1 :: (y5.1.2.2.1 :: (y5.1.2.2.2.1 :: (y5.1.2.2.2.2.1 :: (y5.1.2.2.2.2.2.1 :: (y5.1.2.2.2.2.2.2.1 :: (y5.1.2.2.2.2.2.2.2.1 :: ([] : List Int))))))))) i7 (0 : Int))
   let n9 : Int := (Go.IntKind.wrap Go.IntKind.u64 y2.1)
   obind (math_bits_TrailingZeros n9) fun y10 =>
   let n11 : Int := (Go.IntKind.wrap Go.IntKind.u8 y10.1)
   let n12 : Int := (Go.IntKind.wrap Go.IntKind.u8 (n11 * (64 : Int)))
   let n13 : Int := (bits Go.BinOp.or Go.IntKind.u8 n8 n12)
   bif (decide (((List.length (y5.1.1 :: (y5.1.2.1 :: (y5.1.2.2.1 :: (y5.1.2.2.2.1 :: (y5.1.2.2.2.2.1 :: (y5.1.2.2.2.2.2.1 :: (y5.1.2.2.2.2.2.2.1 :: (y5.1.2.2.2.2.2.2.2.1 :: ([] : List Int)))))))))) = 8) ∧ (((0 : Int) ≤ n6) ∧ (n6 < (8 : Int))))) then
    let i14 : Nat := (Int.toNat n6)
    let l15 : (List Int) := (List.set (y5.1.1 :: (y5.1.2.1 :: (y5.1.2.2.1 :: (y5.1.2.2.2.1 :: (y5.1.2.2.2.2.1 :: (y5.1.2.2.2.2.2.1 :: (y5.1.2.2.2.2.2.2.1 :: (y5.1.2.2.2.2.2.2.2.1 :: ([] : List Int))))))))) i14 n13)
    bif (decide (((List.length l15) = 8) ∧ (((0 : Int) ≤ n6) ∧ ((n6 ≤ (8 : Int)) ∧ (((8 : Int) ≤ (8 : Int)) ∧ (n6 < (8 : Int))))))) then
     let o16 : Nat := (Int.toNat n6)
     let k17 : Nat := (8 - (Int.toNat n6))
     let s18 : ByteArray := (bytesStr (List.take k17 (List.drop o16 l15)))
     some (s18, ((0 : Int), ()))
    else none
   else none
  else none
theorem ex_varint_Put : ∃ f, f = @b_varint_Put := ⟨_, rfl⟩
noncomputable def varint_Put := Classical.choose ex_varint_Put
theorem varint_Put_eq : @varint_Put = @b_varint_Put := Classical.choose_spec ex_varint_Put
noncomputable def cb_varint_Put : Con := ⟨[(.int .u64)], r_varint_Put, fun x => b_varint_Put x.1⟩
noncomputable def c_varint_Put : Con := ⟨[(.int .u64)], r_varint_Put, fun x => varint_Put x.1⟩
theorem cb_varint_Put_ok : cb_varint_Put.Sound prog Inv gInv 146 :=
 con_run (M := m_varint_Put) inv_g (f := f146) rfl ks_varint_Put 100000 (X := nowhere) (fun base S0 cs0 hn hf => OSound.nowhere) (by intro x; kernel_rfl)
theorem c_varint_Put_ok : c_varint_Put.Sound prog Inv gInv 146 := by
 have e : c_varint_Put = cb_varint_Put := by unfold c_varint_Put cb_varint_Put; rw [varint_Put_eq]
 rw [e]; exact cb_varint_Put_ok
noncomputable def m_strings_Builder_copyCheck_h0 : Mach prog Inv gInv := mach bas [(147, f147)] ⟨ok147, trivial⟩ [] trivial [] trivial [] trivial
@[reducible] noncomputable def pa_strings_Builder_copyCheck_h0 : List Pat := [.ptr 0 0]
@[reducible] noncomputable def pH_strings_Builder_copyCheck_h0 : List HPat := [.cells 130 [.nilPtr, .nilSlice]]
/-! ### (*strings.Builder).copyCheck -/
abbrev R_strings_Builder_copyCheck_h0 : Type := Unit
@[reducible] noncomputable def qa_strings_Builder_copyCheck_h0 : List Pat := []
@[reducible] noncomputable def qH_strings_Builder_copyCheck_h0 : List HPat := [.cells 130 [.ptr 0 0, .nilSlice]]
def ks_strings_Builder_copyCheck_h0 : List Nat := [147]
noncomputable def b_strings_Builder_copyCheck_h0 : Option R_strings_Builder_copyCheck_h0 :=
 some ()
theorem ex_strings_Builder_copyCheck_h0 : ∃ f, f = @b_strings_Builder_copyCheck_h0 := ⟨_, rfl⟩
noncomputable def strings_Builder_copyCheck_h0 := Classical.choose ex_strings_Builder_copyCheck_h0
theorem strings_Builder_copyCheck_h0_eq : @strings_Builder_copyCheck_h0 = @b_strings_Builder_copyCheck_h0 := Classical.choose_spec ex_strings_Builder_copyCheck_h0
noncomputable def hb_strings_Builder_copyCheck_h0 : HCon := HCon.mk0 pa_strings_Builder_copyCheck_h0 pH_strings_Builder_copyCheck_h0 qa_strings_Builder_copyCheck_h0 qH_strings_Builder_copyCheck_h0 R_strings_Builder_copyCheck_h0 (fun x => b_strings_Builder_copyCheck_h0) (fun r => ((), (((), ((), ())), ()))) (fun y => (())) (fun _ => rfl)
noncomputable def h_strings_Builder_copyCheck_h0 : HCon := HCon.mk0 pa_strings_Builder_copyCheck_h0 pH_strings_Builder_copyCheck_h0 qa_strings_Builder_copyCheck_h0 qH_strings_Builder_copyCheck_h0 R_strings_Builder_copyCheck_h0 (fun x => strings_Builder_copyCheck_h0) (fun r => ((), (((), ((), ())), ()))) (fun y => (())) (fun _ => rfl)
theorem hb_strings_Builder_copyCheck_h0_ok : hb_strings_Builder_copyCheck_h0.Sound prog Inv gInv 147 :=
 hcon_run (M := m_strings_Builder_copyCheck_h0) (f := f147) rfl ks_strings_Builder_copyCheck_h0 100000 (X := nowhere) (fun base S0 cs0 hn hf => OSound.nowhere) (by intro x; kernel_rfl)
theorem h_strings_Builder_copyCheck_h0_ok : h_strings_Builder_copyCheck_h0.Sound prog Inv gInv 147 := by
 have e : h_strings_Builder_copyCheck_h0 = hb_strings_Builder_copyCheck_h0 := by unfold h_strings_Builder_copyCheck_h0 hb_strings_Builder_copyCheck_h0; rw [strings_Builder_copyCheck_h0_eq]
 rw [e]; exact hb_strings_Builder_copyCheck_h0_ok
noncomputable def m_strings_Builder_copyCheck_h1 : Mach prog Inv gInv := mach bas [(147, f147)] ⟨ok147, trivial⟩ [] trivial [] trivial [] trivial
@[reducible] noncomputable def pa_strings_Builder_copyCheck_h1 : List Pat := [.ptr 0 0]
@[reducible] noncomputable def pH_strings_Builder_copyCheck_h1 : List HPat := [.cells 130 [.nos 0 0, .all 1], .row (.byt 5)]
/-! ### (*strings.Builder).copyCheck -/
abbrev R_strings_Builder_copyCheck_h1 : Type := (List Int) × Unit
@[reducible] noncomputable def qa_strings_Builder_copyCheck_h1 : List Pat := []
@[reducible] noncomputable def qH_strings_Builder_copyCheck_h1 : List HPat := [.cells 130 [.ptr 0 0, .all 1], .row (.byt 5)]
def ks_strings_Builder_copyCheck_h1 : List Nat := [147]
noncomputable def b_strings_Builder_copyCheck_h1 (l0 : (List Int)) : Option R_strings_Builder_copyCheck_h1 :=
 some (l0, ())
theorem ex_strings_Builder_copyCheck_h1 : ∃ f, f = @b_strings_Builder_copyCheck_h1 := ⟨_, rfl⟩
noncomputable def strings_Builder_copyCheck_h1 := Classical.choose ex_strings_Builder_copyCheck_h1
theorem strings_Builder_copyCheck_h1_eq : @strings_Builder_copyCheck_h1 = @b_strings_Builder_copyCheck_h1 := Classical.choose_spec ex_strings_Builder_copyCheck_h1
noncomputable def hb_strings_Builder_copyCheck_h1 : HCon := HCon.mk0 pa_strings_Builder_copyCheck_h1 pH_strings_Builder_copyCheck_h1 qa_strings_Builder_copyCheck_h1 qH_strings_Builder_copyCheck_h1 R_strings_Builder_copyCheck_h1 (fun x => b_strings_Builder_copyCheck_h1 x.2.2.1) (fun r => ((), (((), ((), ())), (r.1, ())))) (fun y => (y.2.2.1, ())) (fun _ => rfl)
noncomputable def h_strings_Builder_copyCheck_h1 : HCon := HCon.mk0 pa_strings_Builder_copyCheck_h1 pH_strings_Builder_copyCheck_h1 qa_strings_Builder_copyCheck_h1 qH_strings_Builder_copyCheck_h1 R_strings_Builder_copyCheck_h1 (fun x => strings_Builder_copyCheck_h1 x.2.2.1) (fun r => ((), (((), ((), ())), (r.1, ())))) (fun y => (y.2.2.1, ())) (fun _ => rfl)
theorem hb_strings_Builder_copyCheck_h1_ok : hb_strings_Builder_copyCheck_h1.Sound prog Inv gInv 147 :=
 hcon_sound (M := m_strings_Builder_copyCheck_h1) (f := f147) rfl fun x r hxy base S0 cs0 hn => nos_split 0 0 0 0 rfl rfl rfl (run_sound (finH_ok hb_strings_Builder_copyCheck_h1 hn S0) OSound.nowhere (Ks := ks_strings_Builder_copyCheck_h1) (n := 1000) (by refine Eq.trans (Eq.symm ?_) hxy; kernel_rfl)) (run_sound (finH_ok hb_strings_Builder_copyCheck_h1 hn S0) OSound.nowhere (Ks := ks_strings_Builder_copyCheck_h1) (n := 1000) (by refine Eq.trans (Eq.symm ?_) hxy; kernel_rfl))
theorem h_strings_Builder_copyCheck_h1_ok : h_strings_Builder_copyCheck_h1.Sound prog Inv gInv 147 := by
 have e : h_strings_Builder_copyCheck_h1 = hb_strings_Builder_copyCheck_h1 := by unfold h_strings_Builder_copyCheck_h1 hb_strings_Builder_copyCheck_h1; rw [strings_Builder_copyCheck_h1_eq]
 rw [e]; exact hb_strings_Builder_copyCheck_h1_ok
noncomputable def m_varint_Puts : Mach prog Inv gInv := mach bas [(114, f114), (76, f76), (115, f115), (147, f147)] ⟨ok114, ok76, ok115, ok147, trivial⟩ [(146, c_varint_Put)] ⟨⟨c_varint_Put_ok, FnOk.callable ok146⟩, trivial⟩ [] trivial [(147, h_strings_Builder_copyCheck_h0), (147, h_strings_Builder_copyCheck_h1)] ⟨⟨h_strings_Builder_copyCheck_h0_ok, FnOk.callable ok147⟩, ⟨h_strings_Builder_copyCheck_h1_ok, FnOk.callable ok147⟩, trivial⟩
/-! ### domino/varint.Puts -/
@[reducible] def r_varint_Puts : List Ty := [.str, (.int .i64)]
def ks_varint_Puts : List Nat := [114, 76, 115, 147]
abbrev H_varint_Puts (base : Base) (S0 : Nat → Prop) := base.n = 0 ∧ FinOk (finR r_varint_Puts) base S0 (Post r_varint_Puts S0)
abbrev J_varint_Puts (base : Base) (S0 : Nat → Prop) (cs0 : List Go.Frame) (p : CPat) (J : denC p → Option (denL r_varint_Puts)) := JSound m_varint_Puts base S0 cs0 (Post r_varint_Puts S0) p J
abbrev O_varint_Puts (base : Base) (S0 : Nat → Prop) (cs0 : List Go.Frame) (X : Cfg → Option (Option (denL r_varint_Puts))) := OSound m_varint_Puts base S0 cs0 (Post r_varint_Puts S0) X
@[reducible] noncomputable def p_varint_Puts_0 : CPat := ⟨⟨114, [1, 1, 0, 1, 0], none, [.any, .any, .any, .any, .ptr 0 0, .any, .any, .any, .any, .rows (.int .u64) false, .int .i64, .int .i64], 15⟩, [], [.cells 130 [.nos 0 0, .all 1], .row (.byt 5)], 0⟩
@[reducible] noncomputable def u_varint_Puts_0 (k : (List Int) → Int → Int → (List Int) → Option (ByteArray × Int × Unit)) : denC p_varint_Puts_0 → Option (ByteArray × Int × Unit) := fun x => k x.1.2.2.2.2.2.2.2.2.2.1 x.1.2.2.2.2.2.2.2.2.2.2.1 x.1.2.2.2.2.2.2.2.2.2.2.2.1 x.2.2.2.1
noncomputable def t_varint_Puts_0 (k0 : (List Int) → Int → Int → (List Int) → Option (ByteArray × Int × Unit)) (l15 : (List Int)) (i16 : Int) (i17 : Int) (l18 : (List Int)) : Option (ByteArray × Int × Unit) :=
 let b19 : Bool := (decide (i17 < i16))
 bif b19 then
  bif (decide (((0 : Int) ≤ i17) ∧ (i17 < (((List.length l15) : Nat) : Int)))) then
   let x20 : Int := (List.getD l15 (Int.toNat i17) (0 : Int))
   obind (varint_Put x20) fun y21 =>
   let b22 : Bool := (y21.2.1 != (0 : Int))
   bif b22 then
    let s26 : ByteArray := (ByteArray.mk (List.toArray ([] : List UInt8)))
    some (s26, y21.2)
   else
    obind (strings_Builder_copyCheck_h1 l18) fun y27 =>
    bif (decide (((List.length y27.1) + (List.length (strBytes y21.1))) ≤ 4294967296)) then
     let l28 : (List Int) := (y27.1 ++ (strBytes y21.1))
     let n29 : Int := (((ByteArray.size y21.1) : Nat) : Int)
     let n30 : Int := (Go.IntKind.wrap Go.IntKind.i64 (i17 + (1 : Int)))
     k0 l15 i16 n30 l28
    else none
  else none
 else
  let s23 : ByteArray := (ByteArray.mk (List.toArray ([] : List UInt8)))
  let n24 : Int := (((List.length l18) : Nat) : Int)
  bif (decide ((n24 = (((List.length l18) : Nat) : Int)) ∧ (n24 ≤ (4294967296 : Int)))) then
   let s25 : ByteArray := (bytesStr l18)
   some (s25, ((0 : Int), ()))
  else none
noncomputable def varint_Puts_0 : Nat → (List Int) → Int → Int → (List Int) → Option (ByteArray × Int × Unit)
 | 0 => fun _ _ _ _ => none
 | m + 1 => t_varint_Puts_0 (varint_Puts_0 m)
noncomputable def b_varint_Puts_0' (l15 : (List Int)) (i16 : Int) (i17 : Int) (l18 : (List Int)) : Option (ByteArray × Int × Unit) := varint_Puts_0 (Int.toNat (i16 - i17) + 2) l15 i16 i17 l18
theorem ex_varint_Puts_0' : ∃ f, f = @b_varint_Puts_0' := ⟨_, rfl⟩
noncomputable def varint_Puts_0' := Classical.choose ex_varint_Puts_0'
theorem varint_Puts_0'_eq : @varint_Puts_0' = @b_varint_Puts_0' := Classical.choose_spec ex_varint_Puts_0'
theorem s_varint_Puts_0 {base S0 cs0} (hfin : H_varint_Puts base S0) : ∀ m, J_varint_Puts base S0 cs0 p_varint_Puts_0 (u_varint_Puts_0 (varint_Puts_0 m)) :=
 JSound.loop' hfin.2 ks_varint_Puts 100000 u_varint_Puts_0 (fun k0 => cut p_varint_Puts_0 (u_varint_Puts_0 k0) (nowhere)) (fun k0 h0 => OSound.cut (OSound.nowhere) (Nat.le_of_eq hfin.1) h0) (varint_Puts_0) (by intro x; rfl) (by intro m x; kernel_rfl)
theorem s_varint_Puts_0' {base S0 cs0} (hfin : H_varint_Puts base S0) : J_varint_Puts base S0 cs0 p_varint_Puts_0 (u_varint_Puts_0 (varint_Puts_0')) := by
 rw [varint_Puts_0'_eq]; exact fun x r hx => s_varint_Puts_0 hfin _ x r hx
noncomputable def x_varint_Puts_0 : Cfg → Option (Option (ByteArray × Int × Unit)) := cut p_varint_Puts_0 (u_varint_Puts_0 (varint_Puts_0')) (nowhere)
theorem o_varint_Puts_0 {base S0 cs0} (hfin : H_varint_Puts base S0) : O_varint_Puts base S0 cs0 (x_varint_Puts_0) := OSound.cut (OSound.nowhere) (Nat.le_of_eq hfin.1) (s_varint_Puts_0' hfin)
noncomputable def b_varint_Puts (a0 : (List Int)) : Option (ByteArray × Int × Unit) :=
 let s1 : ByteArray := (ByteArray.mk (List.toArray ([] : List UInt8)))
 let n2 : Int := (((List.length a0) : Nat) : Int)
 varint_Puts_0' a0 n2 (0 : Int) ([] : List Int)
theorem ex_varint_Puts : ∃ f, f = @b_varint_Puts := ⟨_, rfl⟩
noncomputable def varint_Puts := Classical.choose ex_varint_Puts
theorem varint_Puts_eq : @varint_Puts = @b_varint_Puts := Classical.choose_spec ex_varint_Puts
noncomputable def cb_varint_Puts : Con := ⟨[(.slice (.int .u64))], r_varint_Puts, fun x => b_varint_Puts x.1⟩
noncomputable def c_varint_Puts : Con := ⟨[(.slice (.int .u64))], r_varint_Puts, fun x => varint_Puts x.1⟩
theorem cb_varint_Puts_ok : cb_varint_Puts.Sound prog Inv gInv 114 :=
 con_run (M := m_varint_Puts) inv_g (f := f114) rfl ks_varint_Puts 100000 (X := x_varint_Puts_0) (fun base S0 cs0 hn hf => have hfin : H_varint_Puts base S0 := ⟨hn, hf⟩; o_varint_Puts_0 hfin) (by intro x; kernel_rfl)
theorem c_varint_Puts_ok : c_varint_Puts.Sound prog Inv gInv 114 := by
 have e : c_varint_Puts = cb_varint_Puts := by unfold c_varint_Puts cb_varint_Puts; rw [varint_Puts_eq]
 rw [e]; exact cb_varint_Puts_ok
end Go.Proofs.YtjdjlijjolibkaaDoor.V
namespace Go.Proofs.YtjdjlijjolibkaaDoor.V
open Go.RowKit
def tlen (x : Nat) : Int := if x = 0 then 0 else if x < 2 then 1 else if x < 4 then 2 else if x < 8 then 3 else if x < 16 then 4 else if x < 32 then 5 else if x < 64 then 6 else if x < 128 then 7 else 8
set_option maxRecDepth 100000 in
theorem len1_small : ∀ (x : _root_.Fin 256) (j : _root_.Fin 8), b_math_bits_Len64_1 (((x.val : Nat) : Int)) (((8 * j.val : Nat) : Int)) = some (((8 * j.val : Nat) : Int) + tlen x.val, ()) := by decide +kernel
theorem len1_is (a : Int) (j : Nat) (h0 : 0 ≤ a) (h1 : a < 65536) (hj : j < 7) :
  math_bits_Len64_1 a (((8 * j : Nat) : Int)) = some (if 256 ≤ a then ((8 * j : Nat) : Int) + 8 + tlen (a / 256).toNat else ((8 * j : Nat) : Int) + tlen a.toNat, ()) := by
 rw [math_bits_Len64_1_eq]
 by_cases h : 256 ≤ a
 ·
  have e1 : b_math_bits_Len64_1 a ((8 * j : Nat) : Int) = b_math_bits_Len64_1 (a / 256) (((8 * (j + 1) : Nat) : Int)) := by
   have hf : Int.fdiv a 256 = a / 256 := Int.fdiv_eq_ediv_of_nonneg a (by omega)
   have hw : IntKind.wrap .i64 (((8 * j : Nat) : Int) + 8) = ((8 * (j + 1) : Nat) : Int) := by rw [wrap_i64 _ (by omega) (by omega)]; omega
   have hge : ¬ (a / 256 ≥ 256) := by omega
   unfold b_math_bits_Len64_1
   simp only [ge_iff_le, h, decide_true, cond_true, hf, hw]
   simp only [ge_iff_le] at hge
   simp only [hge, decide_false, cond_false]
  rw [e1, if_pos h]
  have := len1_small ⟨(a / 256).toNat, by omega⟩ ⟨j + 1, by omega⟩
  simp only at this
  rw [show (((a / 256).toNat : Nat) : Int) = a / 256 by omega] at this
  rw [this]
  congr 2
 ·
  rw [if_neg h]
  have := len1_small ⟨a.toNat, by omega⟩ ⟨j, by omega⟩
  simp only at this
  rw [show ((a.toNat : Nat) : Int) = a by omega] at this
  exact this
def len16 (a : Int) : Int := if 256 ≤ a then 8 + tlen (a / 256).toNat else tlen a.toNat
def len32 (a : Int) : Int := if 65536 ≤ a then 16 + len16 (a / 65536) else len16 a
def len64 (a : Int) : Int := if 4294967296 ≤ a then 32 + len32 (a / 4294967296) else len32 a
theorem len0_is (a : Int) (j : Nat) (h0 : 0 ≤ a) (h1 : a < 4294967296) (hj : j < 5) : math_bits_Len64_0 a (((8 * j : Nat) : Int)) = some (((8 * j : Nat) : Int) + len32 a, ()) := by
 rw [math_bits_Len64_0_eq, b_math_bits_Len64_0]
 unfold len32 len16
 by_cases h : 65536 ≤ a
 ·
  have hf : Int.fdiv a 65536 = a / 65536 := Int.fdiv_eq_ediv_of_nonneg a (by omega)
  have hw : IntKind.wrap .i64 (((8 * j : Nat) : Int) + 16) = ((8 * (j + 2) : Nat) : Int) := by rw [wrap_i64 _ (by omega) (by omega)]; omega
  simp only [ge_iff_le, h, decide_true, cond_true, hf, hw, if_true]
  rw [len1_is _ _ (by omega) (by omega) (by omega)]
  congr 2
  split <;> omega
 ·
  simp only [ge_iff_le, h, decide_false, cond_false, if_false]
  rw [len1_is _ _ h0 (by omega) (by omega)]
  congr 2
  split <;> omega
theorem len_is (a : Int) (h0 : 0 ≤ a) (h1 : a < 18446744073709551616) : math_bits_Len64 a = some (len64 a, ()) := by
 rw [math_bits_Len64_eq, b_math_bits_Len64]
 unfold len64
 by_cases h : 4294967296 ≤ a
 ·
  have hf : Int.fdiv a 4294967296 = a / 4294967296 := Int.fdiv_eq_ediv_of_nonneg a (by omega)
  simp only [ge_iff_le, h, decide_true, cond_true, hf, if_true]
  have := len0_is (a / 4294967296) 4 (by omega) (by omega) (by omega)
  exact this
 ·
  simp only [ge_iff_le, h, decide_false, cond_false, if_false]
  have := len0_is a 0 h0 (by omega) (by omega)
  simpa using this
theorem tlen_le (x : Nat) : (0 ≤ tlen x ∧ tlen x ≤ 8) ∧ (tlen x ≤ 6 ↔ x < 64) ∧ (0 < x → 1 ≤ tlen x) := by unfold tlen; omega
theorem len16_le (a : Int) (h0 : 0 ≤ a) (h1 : a < 65536) : (0 ≤ len16 a ∧ len16 a ≤ 16) ∧ (len16 a ≤ 6 ↔ a < 64) ∧ (len16 a ≤ 14 ↔ a < 16384) ∧ (0 < a → 1 ≤ len16 a) := by
 unfold len16
 have h2 := tlen_le (a / 256).toNat
 have h3 := tlen_le a.toNat
 by_cases h : 256 ≤ a
 · rw [if_pos h]; omega
 · rw [if_neg h]; omega
theorem len32_le (a : Int) (h0 : 0 ≤ a) (h1 : a < 4294967296) : (0 ≤ len32 a ∧ len32 a ≤ 32) ∧ (len32 a ≤ 6 ↔ a < 64) ∧ (len32 a ≤ 14 ↔ a < 16384) ∧ (len32 a ≤ 30 ↔ a < 1073741824) ∧ (0 < a → 1 ≤ len32 a) := by
 unfold len32
 by_cases h : 65536 ≤ a
 ·
  rw [if_pos h]
  have h2 := len16_le (a / 65536) (by omega) (by omega)
  omega
 ·
  rw [if_neg h]
  have h2 := len16_le a (by omega) (by omega)
  omega
theorem len64_le (a : Int) (h0 : 0 ≤ a) (h1 : a < 18446744073709551616) : (len64 a ≤ 6 ↔ a < 64) ∧ (len64 a ≤ 14 ↔ a < 16384) ∧ (len64 a ≤ 30 ↔ a < 1073741824) ∧ (len64 a ≤ 62 ↔ a < 4611686018427387904) := by
 unfold len64
 by_cases h : 4294967296 ≤ a
 ·
  rw [if_pos h]
  have h2 := len32_le (a / 4294967296) (by omega) (by omega)
  omega
 ·
  rw [if_neg h]
  have h2 := len32_le a (by omega) (by omega)
  omega
def vsize (n : Int) : Int := if n < 64 then 1 else if n < 16384 then 2 else if n < 1073741824 then 4 else if n < 4611686018427387904 then 8 else 0
theorem vsize_is (n : Int) (h0 : 0 ≤ n) (h1 : n < 18446744073709551616) : varint_Size n = some (vsize n, ()) := by
 rw [varint_Size_eq, b_varint_Size]
 obtain ⟨a, b, c, d⟩ := len64_le n h0 h1
 simp only [len_is n h0 h1, obind_some, a, b, c, d, vsize]
 by_cases e1 : n < 64
 · simp only [e1, decide_true, cond_true, if_true]
 ·
  by_cases e2 : n < 16384
  · simp only [e1, e2, decide_true, cond_true, if_true, decide_false, cond_false, if_false]
  ·
   by_cases e3 : n < 1073741824
   · simp only [e1, e2, e3, decide_true, cond_true, if_true, decide_false, cond_false, if_false]
   ·
    by_cases e4 : n < 4611686018427387904
    · simp only [e1, e2, e3, e4, decide_true, cond_true, if_true, decide_false, cond_false, if_false]
    · simp only [e1, e2, e3, e4, decide_false, cond_false, if_false]
theorem rot_low (n : Int) (h0 : 0 ≤ n) (h1 : n < 18446744073709551616) (k : Nat) (hk : 1 ≤ k ∧ k ≤ 7) :
  ∃ r, math_bits_RotateLeft64 n ((8 * k : Nat) : Int) = some (r, ()) ∧ IntKind.wrap .u8 r = n / 2 ^ (64 - 8 * k) % 256 := by
 rw [math_bits_RotateLeft64_eq, b_math_bits_RotateLeft64]
 have w1 : IntKind.wrap .u64 ((8 * k : Nat) : Int) = ((8 * k : Nat) : Int) := wrap_u64 _ (by omega) (by omega)
 have w2 : bits .and .u64 ((8 * k : Nat) : Int) 63 = ((8 * k : Nat) : Int) := by
  rw [bits_and_u64 _ _ (by omega) (by omega)]
  have : ∀ k : _root_.Fin 8, ((8 * k.val : Nat) : Int).toNat &&& Int.toNat 63 = 8 * k.val := by decide
  rw [this ⟨k, by omega⟩]
 have w3 : IntKind.wrap .u64 (64 - ((8 * k : Nat) : Int)) = ((64 - 8 * k : Nat) : Int) := by rw [wrap_u64 _ (by omega) (by omega)]; omega
 simp only [w1, w2, w3, Int.toNat_natCast]
 have g1 : (0 : Int) ≤ ((8 * k : Nat) : Int) := by omega
 have g2 : (0 : Int) ≤ ((64 - 8 * k : Nat) : Int) := by omega
 simp only [g1, g2, decide_true, cond_true]
 refine ⟨_, rfl, ?_⟩
 have m1 : min (8 * k) 64 = 8 * k := by omega
 have m2 : min (64 - 8 * k) 64 = 64 - 8 * k := by omega
 rw [m1, m2, wrap_u8]
 have hp : (0 : Int) < 2 ^ (64 - 8 * k) := Int.pow_pos (by omega)
 have hf : Int.fdiv n (2 ^ (64 - 8 * k)) = n / 2 ^ (64 - 8 * k) := Int.fdiv_eq_ediv_of_nonneg n (Int.le_of_lt hp)
 rw [hf, wrap_u64']
 have hd : 0 ≤ n / 2 ^ (64 - 8 * k) := Int.ediv_nonneg h0 (Int.le_of_lt hp)
 have hd2 : n / 2 ^ (64 - 8 * k) ≤ n := Int.ediv_le_self _ h0
 rw [bits_or_u64 _ _ (by omega) (by omega)]
 have low : (n * 2 ^ (8 * k) % 18446744073709551616).toNat % 256 = 0 := by
  have hm : (n * 2 ^ (8 * k)) % 256 = 0 := by
   obtain ⟨j, rfl⟩ : ∃ j, k = j + 1 := ⟨k - 1, by omega⟩
   have : (2 : Int) ^ (8 * (j + 1)) = 256 * 2 ^ (8 * j) := by rw [Nat.mul_add, Int.pow_add, Int.mul_comm]; rfl
   rw [this, Int.mul_left_comm, Int.mul_emod_right]
  omega
 generalize (n * 2 ^ (8 * k) % 18446744073709551616).toNat = x at low
 have or_mod : (x ||| (n / 2 ^ (64 - 8 * k)).toNat) % 2 ^ 8 = (x % 2 ^ 8) ||| ((n / 2 ^ (64 - 8 * k)).toNat % 2 ^ 8) := Nat.or_mod_two_pow
 rw [show (2 : Nat) ^ 8 = 256 from rfl, low, Nat.zero_or] at or_mod
 omega
theorem rot_64 (n : Int) (h0 : 0 ≤ n) (h1 : n < 18446744073709551616) : ∃ r, math_bits_RotateLeft64 n 64 = some (r, ()) ∧ IntKind.wrap .u8 r = n % 256 := by
 rw [math_bits_RotateLeft64_eq, b_math_bits_RotateLeft64]
 have w1 : IntKind.wrap .u64 (64 : Int) = 64 := wrap_u64 _ (by omega) (by omega)
 have w2 : bits .and .u64 64 63 = 0 := by rw [bits_and_u64 _ _ (by omega) (by omega)]; decide
 have w3 : IntKind.wrap .u64 (64 - (0 : Int)) = 64 := wrap_u64 _ (by omega) (by omega)
 simp only [w1, w2, w3]
 refine ⟨_, rfl, ?_⟩
 rw [wrap_u8]
 have e1 : IntKind.wrap .u64 (n * 2 ^ min (Int.toNat 0) 64) = n := by
  rw [show min (Int.toNat 0) 64 = 0 from rfl, wrap_u64']; omega
 have e2 : Int.fdiv n (2 ^ min (Int.toNat 64) 64) = 0 := by
  rw [show min (Int.toNat 64) 64 = 64 from rfl, Int.fdiv_eq_ediv_of_nonneg n (by decide)]
  exact Int.ediv_eq_zero_of_lt h0 (by omega)
 rw [e1, e2, bits_or_u64 _ _ (by omega) (by omega)]
 simp
 omega
theorem split_is (n : Int) (h0 : 0 ≤ n) (h1 : n < 18446744073709551616) : varint_split n =
  some ((n / 72057594037927936 % 256, n / 281474976710656 % 256, n / 1099511627776 % 256, n / 4294967296 % 256, n / 16777216 % 256, n / 65536 % 256, n / 256 % 256, n % 256, ()), ()) := by
 rw [varint_split_eq, b_varint_split]
 obtain ⟨r1, e1, w1⟩ := rot_low n h0 h1 1 (by omega)
 obtain ⟨r2, e2, w2⟩ := rot_low n h0 h1 2 (by omega)
 obtain ⟨r3, e3, w3⟩ := rot_low n h0 h1 3 (by omega)
 obtain ⟨r4, e4, w4⟩ := rot_low n h0 h1 4 (by omega)
 obtain ⟨r5, e5, w5⟩ := rot_low n h0 h1 5 (by omega)
 obtain ⟨r6, e6, w6⟩ := rot_low n h0 h1 6 (by omega)
 obtain ⟨r7, e7, w7⟩ := rot_low n h0 h1 7 (by omega)
 obtain ⟨r8, e8, w8⟩ := rot_64 n h0 h1
 simp only [show ((8 * 1 : Nat) : Int) = 8 from rfl] at e1
 simp only [show ((8 * 2 : Nat) : Int) = 16 from rfl] at e2
 simp only [show ((8 * 3 : Nat) : Int) = 24 from rfl] at e3
 simp only [show ((8 * 4 : Nat) : Int) = 32 from rfl] at e4
 simp only [show ((8 * 5 : Nat) : Int) = 40 from rfl] at e5
 simp only [show ((8 * 6 : Nat) : Int) = 48 from rfl] at e6
 simp only [show ((8 * 7 : Nat) : Int) = 56 from rfl] at e7
 simp only [e1, e2, e3, e4, e5, e6, e7, e8, obind_some, w1, w2, w3, w4, w5, w6, w7, w8]
 rfl
theorem tz_is : math_bits_TrailingZeros 1 = some (0, ()) ∧ math_bits_TrailingZeros 2 = some (1, ()) ∧ math_bits_TrailingZeros 4 = some (2, ()) ∧ math_bits_TrailingZeros 8 = some (3, ()) := by
 simp only [math_bits_TrailingZeros_eq, b_math_bits_TrailingZeros, math_bits_TrailingZeros64_eq, b_math_bits_TrailingZeros64, bits_eq]
 decide +kernel
def vb (n : Int) : List Int :=
 if n < 64 then [n] else if n < 16384 then [64 + n / 256, n % 256] else if n < 1073741824 then [128 + n / 16777216, n / 65536 % 256, n / 256 % 256, n % 256]
 else [192 + n / 72057594037927936, n / 281474976710656 % 256, n / 1099511627776 % 256, n / 4294967296 % 256, n / 16777216 % 256, n / 65536 % 256, n / 256 % 256, n % 256]
theorem vb_range (n : Int) (h0 : 0 ≤ n) (h1 : n < 4611686018427387904) : ∀ x ∈ vb n, 0 ≤ x ∧ x ≤ 255 := by
 unfold vb
 intro x hx
 split at hx
 · simp at hx; omega
 ·
  split at hx
  · simp at hx; omega
  ·
   split at hx
   · simp at hx; omega
   · simp at hx; omega
theorem or_top : ∀ (a : _root_.Fin 64) (t : _root_.Fin 4), a.val ||| t.val * 64 = t.val * 64 + a.val := by decide +kernel
theorem or_topI (a t : Int) (h0 : 0 ≤ a ∧ a < 64) (h1 : 0 ≤ t ∧ t < 4) : bits .or .u8 a (t * 64) = t * 64 + a := by
 rw [bits_or_u8 _ _ (by omega) (by omega)]
 have := or_top ⟨a.toNat, by omega⟩ ⟨t.toNat, by omega⟩
 simp only at this
 rw [show (t * 64).toNat = t.toNat * 64 by omega, this]
 omega
theorem vput_is (n : Int) (h0 : 0 ≤ n) (h1 : n < 18446744073709551616) : varint_Put n = some (if n < 4611686018427387904 then (bytesStr (vb n), 0, ()) else (⟨#[]⟩, 1, ())) := by
 rw [varint_Put_eq, b_varint_Put, vsize_is n h0 h1, split_is n h0 h1]
 simp only [obind_some]
 obtain ⟨t1, t2, t4, t8⟩ := tz_is
 unfold vsize vb
 by_cases e4 : n < 4611686018427387904
 ·
  rw [if_pos e4]
  by_cases e1 : n < 64
  ·
   rw [if_pos e1, if_pos e1]
   have k0 : n % 256 = n := by omega
   have k1 := or_topI n 0 (by omega) (by omega)
   simp only [Int.zero_mul, Int.zero_add] at k1
   simp [t1, wrap_i64, wrap_u64', wrap_u8, k0, k1, e4]
  ·
   by_cases e2 : n < 16384
   ·
    rw [if_neg e1, if_pos e2, if_neg e1, if_pos e2]
    have k0 : n / 256 % 256 = n / 256 := by omega
    have k1 := or_topI (n / 256) 1 (by omega) (by omega)
    simp only [Int.one_mul] at k1
    simp [t2, wrap_i64, wrap_u64', wrap_u8, k0, k1, e4]
   ·
    by_cases e3 : n < 1073741824
    ·
     rw [if_neg e1, if_neg e2, if_pos e3, if_neg e1, if_neg e2, if_pos e3]
     have k0 : n / 16777216 % 256 = n / 16777216 := by omega
     have k1 := or_topI (n / 16777216) 2 (by omega) (by omega)
     simp only [Int.reduceMul] at k1
     simp [t4, wrap_i64, wrap_u64', wrap_u8, k0, k1, e4]
    ·
     rw [if_neg e1, if_neg e2, if_neg e3, if_pos e4, if_neg e1, if_neg e2, if_neg e3]
     have k0 : n / 72057594037927936 % 256 = n / 72057594037927936 := by omega
     have k1 := or_topI (n / 72057594037927936) 3 (by omega) (by omega)
     simp only [Int.reduceMul] at k1
     simp [t8, wrap_i64, wrap_u64', wrap_u8, k0, k1]
 ·
  rw [if_neg e4, if_neg (by omega), if_neg (by omega), if_neg (by omega), if_neg e4]
  rfl
def vbs (l : List Int) : List Int := l.flatMap vb
theorem vb_len (n : Int) : 1 ≤ (vb n).length ∧ (vb n).length ≤ 8 := by
 unfold vb; split <;> (try split) <;> (try split) <;> simp
theorem vbs_len : ∀ (l : List Int), (vbs l).length ≤ 8 * l.length
 | [] => by simp [vbs]
 | x :: l => by
  have := vb_len x
  have := vbs_len l
  simp only [vbs, List.flatMap_cons, List.length_append, List.length_cons] at *
  omega
theorem vbs_range (l : List Int) (h : ∀ n ∈ l, 0 ≤ n ∧ n < 4611686018427387904) : ∀ x ∈ vbs l, 0 ≤ x ∧ x ≤ 255 := by
 intro x hx
 obtain ⟨n, hn, hx⟩ := List.mem_flatMap.mp hx
 exact vb_range n (h n hn).1 (h n hn).2 x hx
theorem puts_loop : ∀ (suf pre acc : List Int) (m : Nat), suf.length < m → (pre ++ suf).length ≤ 4294967296 → acc.length + 8 * suf.length ≤ 4294967296 → (∀ n ∈ suf, 0 ≤ n ∧ n < 4611686018427387904) →
  varint_Puts_0 m (pre ++ suf) (((pre ++ suf).length : Nat) : Int) ((pre.length : Nat) : Int) acc = some (bytesStr (acc ++ vbs suf), 0, ()) := by
 intro suf
 induction suf with
 | nil =>
  intro pre acc m hm _ ha _
  obtain ⟨m, rfl⟩ : ∃ k, m = k + 1 := ⟨m - 1, by omega⟩
  have : ((acc.length : Nat) : Int) ≤ 4294967296 := by simp at ha; omega
  simp only [varint_Puts_0, t_varint_Puts_0, List.append_nil, Int.lt_irrefl, decide_false, cond_false, this, and_self, decide_true, cond_true, vbs, List.flatMap_nil]
 | cons x suf ih =>
  intro pre acc m hm hl ha hr
  obtain ⟨m, rfl⟩ : ∃ k, m = k + 1 := ⟨m - 1, by omega⟩
  obtain ⟨x0, x1⟩ := hr x (by simp)
  simp only [varint_Puts_0, t_varint_Puts_0, mid_lt, nn, and_true, decide_true, cond_true, toNat_len, getD_mid, vput_is x x0 (by omega), obind_some, x1, if_true, bne_self_eq_false, cond_false,
   strings_Builder_copyCheck_h1_eq, b_strings_Builder_copyCheck_h1, strBytes_bytesStr (vb_range x x0 x1)]
  have hv := vb_len x
  have : acc.length + (vb x).length ≤ 4294967296 := by simp at ha; omega
  simp only [this, decide_true, cond_true]
  rw [mid_next pre x x suf hl, snoc_app, ih (pre ++ [x]) (acc ++ vb x) m (by simp at hm; omega) (by simpa using hl) (by simp at ha ⊢; omega) (fun n hn => hr n (by simp [hn]))]
  simp [vbs, List.append_assoc]
theorem puts_is (l : List Int) (hl : l.length ≤ 100000) (hr : ∀ n ∈ l, 0 ≤ n ∧ n < 4611686018427387904) : varint_Puts l = some (bytesStr (vbs l), 0, ()) := by
 rw [varint_Puts_eq, b_varint_Puts, varint_Puts_0'_eq, b_varint_Puts_0']
 exact puts_loop l [] [] _ (by simp) (by simp; omega) (by simp; omega) hr
end Go.Proofs.YtjdjlijjolibkaaDoor.V
namespace Go.Proofs.YtjdjlijjolibkaaDoor.V
instance q_frame_reader : DecidableEq D_frame_reader := @instDecidableEqProd _ _ inferInstance (inferInstance)
instance q_runtime_errorAddressString : DecidableEq D_runtime_errorAddressString := @instDecidableEqProd _ _ inferInstance (@instDecidableEqProd _ _ inferInstance (inferInstance))
instance q_ranges_Range : DecidableEq D_ranges_Range := @instDecidableEqProd _ _ inferInstance (@instDecidableEqProd _ _ inferInstance (inferInstance))
instance q_runtime_boundsError : DecidableEq D_runtime_boundsError := @instDecidableEqProd _ _ inferInstance (@instDecidableEqProd _ _ inferInstance (@instDecidableEqProd _ _ inferInstance (@instDecidableEqProd _ _ inferInstance (inferInstance))))
instance q_ids_Own : DecidableEq D_ids_Own := @instDecidableEqProd _ _ inferInstance (@instDecidableEqProd _ _ inferInstance (@instDecidableEqProd _ _ inferInstance (@instDecidableEqProd _ _ inferInstance (@instDecidableEqProd _ _ inferInstance (inferInstance)))))
instance q_4_int : DecidableEq D_4_int := @instDecidableEqProd _ _ inferInstance (@instDecidableEqProd _ _ inferInstance (@instDecidableEqProd _ _ inferInstance (@instDecidableEqProd _ _ inferInstance (inferInstance))))
instance q_ids_Given : DecidableEq D_ids_Given := @instDecidableEqProd _ _ inferInstance (@instDecidableEqProd _ _ inferInstance (@instDecidableEqProd _ _ inferInstance (@instDecidableEqProd _ _ inferInstance (@instDecidableEqProd _ _ inferInstance (@instDecidableEqProd _ _ inferInstance (inferInstance))))))
instance q_path_Path : DecidableEq D_path_Path := @instDecidableEqProd _ _ inferInstance (@instDecidableEqProd _ _ inferInstance (@instDecidableEqProd _ _ inferInstance (@instDecidableEqProd _ _ inferInstance (@instDecidableEqProd _ _ inferInstance (@instDecidableEqProd _ _ inferInstance (inferInstance))))))
instance q_2_struct_shift_int_times_uint64 : DecidableEq D_2_struct_shift_int_times_uint64 := @instDecidableEqProd _ _ inferInstance (@instDecidableEqProd _ _ inferInstance (inferInstance))
instance q_8_uint8 : DecidableEq D_8_uint8 := @instDecidableEqProd _ _ inferInstance (@instDecidableEqProd _ _ inferInstance (@instDecidableEqProd _ _ inferInstance (@instDecidableEqProd _ _ inferInstance (@instDecidableEqProd _ _ inferInstance (@instDecidableEqProd _ _ inferInstance (@instDecidableEqProd _ _ inferInstance (@instDecidableEqProd _ _ inferInstance (inferInstance))))))))
instance q_8_uint64 : DecidableEq D_8_uint64 := @instDecidableEqProd _ _ inferInstance (@instDecidableEqProd _ _ inferInstance (@instDecidableEqProd _ _ inferInstance (@instDecidableEqProd _ _ inferInstance (@instDecidableEqProd _ _ inferInstance (@instDecidableEqProd _ _ inferInstance (@instDecidableEqProd _ _ inferInstance (@instDecidableEqProd _ _ inferInstance (inferInstance))))))))
instance q_path_State : DecidableEq D_path_State := @instDecidableEqProd _ _ inferInstance (@instDecidableEqProd _ _ inferInstance (@instDecidableEqProd _ _ inferInstance (inferInstance)))
instance q_frame_Frame : DecidableEq D_frame_Frame := @instDecidableEqProd _ _ inferInstance (@instDecidableEqProd _ _ inferInstance (@instDecidableEqProd _ _ inferInstance (@instDecidableEqProd _ _ inferInstance (@instDecidableEqProd _ _ inferInstance (@instDecidableEqProd _ _ inferInstance (@instDecidableEqProd _ _ inferInstance (@instDecidableEqProd _ _ inferInstance (@instDecidableEqProd _ _ inferInstance (@instDecidableEqProd _ _ inferInstance (@instDecidableEqProd _ _ inferInstance (@instDecidableEqProd _ _ inferInstance (@instDecidableEqProd _ _ inferInstance (inferInstance)))))))))))))
instance q_ids_State : DecidableEq D_ids_State := @instDecidableEqProd _ _ inferInstance (@instDecidableEqProd _ _ inferInstance (@instDecidableEqProd _ _ inferInstance (@instDecidableEqProd _ _ inferInstance (@instDecidableEqProd _ _ inferInstance (@instDecidableEqProd _ _ inferInstance (@instDecidableEqProd _ _ inferInstance (inferInstance)))))))
instance q_frame_framer : DecidableEq D_frame_framer := @instDecidableEqProd _ _ inferInstance (@instDecidableEqProd _ _ inferInstance (inferInstance))
instance q_law18_Act : DecidableEq D_law18_Act := @instDecidableEqProd _ _ inferInstance (@instDecidableEqProd _ _ inferInstance (@instDecidableEqProd _ _ inferInstance (inferInstance)))
instance q_law19_Act : DecidableEq D_law19_Act := @instDecidableEqProd _ _ inferInstance (@instDecidableEqProd _ _ inferInstance (@instDecidableEqProd _ _ inferInstance (@instDecidableEqProd _ _ inferInstance (inferInstance))))
end Go.Proofs.YtjdjlijjolibkaaDoor.V
namespace Go.Proofs.YtjdjlijjolibkaaDoor.V
open Go.RowKit Go.Proofs.Tryd
set_option maxRecDepth 100000
set_option linter.unusedVariables false
noncomputable def m_slices_Equal_ranges_Range : Mach prog Inv gInv := mach bas [(89, f89)] ⟨ok89, trivial⟩ [] trivial [] trivial [] trivial
/-! ### slices.Equal[domino/ranges.Set,domino/ranges.Range] -/
@[reducible] def r_slices_Equal_ranges_Range : List Ty := [.bool]
def ks_slices_Equal_ranges_Range : List Nat := [89]
abbrev H_slices_Equal_ranges_Range (base : Base) (S0 : Nat → Prop) := base.n = 0 ∧ FinOk (finR r_slices_Equal_ranges_Range) base S0 (Post r_slices_Equal_ranges_Range S0)
abbrev J_slices_Equal_ranges_Range (base : Base) (S0 : Nat → Prop) (cs0 : List Go.Frame) (p : CPat) (J : denC p → Option (denL r_slices_Equal_ranges_Range)) := JSound m_slices_Equal_ranges_Range base S0 cs0 (Post r_slices_Equal_ranges_Range S0) p J
abbrev O_slices_Equal_ranges_Range (base : Base) (S0 : Nat → Prop) (cs0 : List Go.Frame) (X : Cfg → Option (Option (denL r_slices_Equal_ranges_Range))) := OSound m_slices_Equal_ranges_Range base S0 cs0 (Post r_slices_Equal_ranges_Range S0) X
@[reducible] noncomputable def p_slices_Equal_ranges_Range_0 : CPat := ⟨⟨89, [1, 1, 0, 1, 0], none, [.rows T_ranges_Range false, .rows T_ranges_Range false, .any, .any, .any, .any, .any, .any, .any, .any, .any, .any, .int .i64, .int .i64], 12⟩, [], [], 0⟩
@[reducible] noncomputable def u_slices_Equal_ranges_Range_0 (k : (List D_ranges_Range) → (List D_ranges_Range) → Int → Int → Option (Bool × Unit)) : denC p_slices_Equal_ranges_Range_0 → Option (Bool × Unit) := fun x => k x.1.1 x.1.2.1 x.1.2.2.2.2.2.2.2.2.2.2.2.2.1 x.1.2.2.2.2.2.2.2.2.2.2.2.2.2.1
noncomputable def t_slices_Equal_ranges_Range_0 (k0 : (List D_ranges_Range) → (List D_ranges_Range) → Int → Int → Option (Bool × Unit)) (l13 : (List D_ranges_Range)) (l14 : (List D_ranges_Range)) (i15 : Int) (i16 : Int) : Option (Bool × Unit) :=
 let b17 : Bool := (decide (i16 < i15))
 bif b17 then
  bif (decide (((0 : Int) ≤ i16) ∧ (i16 < (((List.length l13) : Nat) : Int)))) then
   let x18 : D_ranges_Range := (List.getD l13 (Int.toNat i16) (Ty.dflt T_ranges_Range))
   bif (decide (((0 : Int) ≤ i16) ∧ (i16 < (((List.length l14) : Nat) : Int)))) then
    let x19 : D_ranges_Range := (List.getD l14 (Int.toNat i16) (Ty.dflt T_ranges_Range))
    let b20 : Bool := (!((x18.1 == x19.1) && ((x18.2.1 == x19.2.1) && true)))
    bif b20 then
     some (false, ())
    else
     let n21 : Int := (Go.IntKind.wrap Go.IntKind.i64 (i16 + (1 : Int)))
     k0 l13 l14 i15 n21
   else none
  else none
 else
  some (true, ())
noncomputable def slices_Equal_ranges_Range_0 : Nat → (List D_ranges_Range) → (List D_ranges_Range) → Int → Int → Option (Bool × Unit)
 | 0 => fun _ _ _ _ => none
 | m + 1 => t_slices_Equal_ranges_Range_0 (slices_Equal_ranges_Range_0 m)
noncomputable def b_slices_Equal_ranges_Range_0' (l13 : (List D_ranges_Range)) (l14 : (List D_ranges_Range)) (i15 : Int) (i16 : Int) : Option (Bool × Unit) := slices_Equal_ranges_Range_0 (Int.toNat (i15 - i16) + 2) l13 l14 i15 i16
theorem ex_slices_Equal_ranges_Range_0' : ∃ f, f = @b_slices_Equal_ranges_Range_0' := ⟨_, rfl⟩
noncomputable def slices_Equal_ranges_Range_0' := Classical.choose ex_slices_Equal_ranges_Range_0'
theorem slices_Equal_ranges_Range_0'_eq : @slices_Equal_ranges_Range_0' = @b_slices_Equal_ranges_Range_0' := Classical.choose_spec ex_slices_Equal_ranges_Range_0'
theorem s_slices_Equal_ranges_Range_0 {base S0 cs0} (hfin : H_slices_Equal_ranges_Range base S0) : ∀ m, J_slices_Equal_ranges_Range base S0 cs0 p_slices_Equal_ranges_Range_0 (u_slices_Equal_ranges_Range_0 (slices_Equal_ranges_Range_0 m)) :=
 JSound.loop' hfin.2 ks_slices_Equal_ranges_Range 100000 u_slices_Equal_ranges_Range_0 (fun k0 => cut p_slices_Equal_ranges_Range_0 (u_slices_Equal_ranges_Range_0 k0) (nowhere)) (fun k0 h0 => OSound.cut (OSound.nowhere) (Nat.le_of_eq hfin.1) h0) (slices_Equal_ranges_Range_0) (by intro x; rfl) (by intro m x; kernel_rfl)
theorem s_slices_Equal_ranges_Range_0' {base S0 cs0} (hfin : H_slices_Equal_ranges_Range base S0) : J_slices_Equal_ranges_Range base S0 cs0 p_slices_Equal_ranges_Range_0 (u_slices_Equal_ranges_Range_0 (slices_Equal_ranges_Range_0')) := by
 rw [slices_Equal_ranges_Range_0'_eq]; exact fun x r hx => s_slices_Equal_ranges_Range_0 hfin _ x r hx
noncomputable def x_slices_Equal_ranges_Range_0 : Cfg → Option (Option (Bool × Unit)) := cut p_slices_Equal_ranges_Range_0 (u_slices_Equal_ranges_Range_0 (slices_Equal_ranges_Range_0')) (nowhere)
theorem o_slices_Equal_ranges_Range_0 {base S0 cs0} (hfin : H_slices_Equal_ranges_Range base S0) : O_slices_Equal_ranges_Range base S0 cs0 (x_slices_Equal_ranges_Range_0) := OSound.cut (OSound.nowhere) (Nat.le_of_eq hfin.1) (s_slices_Equal_ranges_Range_0' hfin)
noncomputable def b_slices_Equal_ranges_Range (a0 : (List D_ranges_Range)) (a1 : (List D_ranges_Range)) : Option (Bool × Unit) :=
 let n2 : Int := (((List.length a0) : Nat) : Int)
 let n3 : Int := (((List.length a1) : Nat) : Int)
 let b4 : Bool := (n2 != n3)
 bif b4 then
  some (false, ())
 else
  let n5 : Int := (((List.length a0) : Nat) : Int)
  slices_Equal_ranges_Range_0' a0 a1 n5 (0 : Int)
theorem ex_slices_Equal_ranges_Range : ∃ f, f = @b_slices_Equal_ranges_Range := ⟨_, rfl⟩
noncomputable def slices_Equal_ranges_Range := Classical.choose ex_slices_Equal_ranges_Range
theorem slices_Equal_ranges_Range_eq : @slices_Equal_ranges_Range = @b_slices_Equal_ranges_Range := Classical.choose_spec ex_slices_Equal_ranges_Range
noncomputable def cb_slices_Equal_ranges_Range : Con := ⟨[(.slice T_ranges_Range), (.slice T_ranges_Range)], r_slices_Equal_ranges_Range, fun x => b_slices_Equal_ranges_Range x.1 x.2.1⟩
noncomputable def c_slices_Equal_ranges_Range : Con := ⟨[(.slice T_ranges_Range), (.slice T_ranges_Range)], r_slices_Equal_ranges_Range, fun x => slices_Equal_ranges_Range x.1 x.2.1⟩
theorem cb_slices_Equal_ranges_Range_ok : cb_slices_Equal_ranges_Range.Sound prog Inv gInv 89 :=
 con_run (M := m_slices_Equal_ranges_Range) inv_g (f := f89) rfl ks_slices_Equal_ranges_Range 100000 (X := x_slices_Equal_ranges_Range_0) (fun base S0 cs0 hn hf => have hfin : H_slices_Equal_ranges_Range base S0 := ⟨hn, hf⟩; o_slices_Equal_ranges_Range_0 hfin) (by intro x; kernel_rfl)
theorem c_slices_Equal_ranges_Range_ok : c_slices_Equal_ranges_Range.Sound prog Inv gInv 89 := by
 have e : c_slices_Equal_ranges_Range = cb_slices_Equal_ranges_Range := by unfold c_slices_Equal_ranges_Range cb_slices_Equal_ranges_Range; rw [slices_Equal_ranges_Range_eq]
 rw [e]; exact cb_slices_Equal_ranges_Range_ok
noncomputable def m_frame_Same_l1 : Mach prog Inv gInv := mach bas [(90, f90)] ⟨ok90, trivial⟩ [] trivial [] trivial [] trivial
/-! ### domino/frame.Same$1 -/
@[reducible] def r_frame_Same_l1 : List Ty := [T_8_uint64]
def ks_frame_Same_l1 : List Nat := [90]
noncomputable def b_frame_Same_l1 (a0 : D_frame_Frame) : Option (D_8_uint64 × Unit) :=
 some ((a0.1, (a0.2.1, (a0.2.2.1, (a0.2.2.2.1, (a0.2.2.2.2.1, (a0.2.2.2.2.2.1, (a0.2.2.2.2.2.2.1, (a0.2.2.2.2.2.2.2.1, ())))))))), ())
theorem ex_frame_Same_l1 : ∃ f, f = @b_frame_Same_l1 := ⟨_, rfl⟩
noncomputable def frame_Same_l1 := Classical.choose ex_frame_Same_l1
theorem frame_Same_l1_eq : @frame_Same_l1 = @b_frame_Same_l1 := Classical.choose_spec ex_frame_Same_l1
noncomputable def cb_frame_Same_l1 : Con := ⟨[T_frame_Frame], r_frame_Same_l1, fun x => b_frame_Same_l1 x.1⟩
noncomputable def c_frame_Same_l1 : Con := ⟨[T_frame_Frame], r_frame_Same_l1, fun x => frame_Same_l1 x.1⟩
theorem cb_frame_Same_l1_ok : cb_frame_Same_l1.Sound prog Inv gInv 90 :=
 con_run (M := m_frame_Same_l1) inv_g (f := f90) rfl ks_frame_Same_l1 100000 (X := nowhere) (fun base S0 cs0 hn hf => OSound.nowhere) (by intro x; kernel_rfl)
theorem c_frame_Same_l1_ok : c_frame_Same_l1.Sound prog Inv gInv 90 := by
 have e : c_frame_Same_l1 = cb_frame_Same_l1 := by unfold c_frame_Same_l1 cb_frame_Same_l1; rw [frame_Same_l1_eq]
 rw [e]; exact cb_frame_Same_l1_ok
noncomputable def m_frame_Same : Mach prog Inv gInv := mach bas [(39, f39)] ⟨ok39, trivial⟩ [(89, c_slices_Equal_ranges_Range), (90, c_frame_Same_l1)] ⟨⟨c_slices_Equal_ranges_Range_ok, FnOk.callable ok89⟩, ⟨c_frame_Same_l1_ok, FnOk.callable ok90⟩, trivial⟩ [] trivial [] trivial
/-! ### domino/frame.Same -/
@[reducible] def r_frame_Same : List Ty := [.bool]
def ks_frame_Same : List Nat := [39]
noncomputable def b_frame_Same (a0 : D_frame_Frame) (a1 : D_frame_Frame) : Option (Bool × Unit) :=
 obind (slices_Equal_ranges_Range a0.2.2.2.2.2.2.2.2.2.2.2.2.1 a1.2.2.2.2.2.2.2.2.2.2.2.2.1) fun y2 =>
 let b3 : Bool := (!y2.1)
 bif b3 then
  some (false, ())
 else
  obind (frame_Same_l1 a0) fun y4 =>
  obind (frame_Same_l1 a1) fun y5 =>
  let b6 : Bool := ((y4.1.1 == y5.1.1) && ((y4.1.2.1 == y5.1.2.1) && ((y4.1.2.2.1 == y5.1.2.2.1) && ((y4.1.2.2.2.1 == y5.1.2.2.2.1) && ((y4.1.2.2.2.2.1 == y5.1.2.2.2.2.1) && ((y4.1.2.2.2.2.2.1 == y5.1.2.2.2.2.2.1) && ((y4.1.2.2.2.2.2.2.1 == y5.1.2.2.2.2.2.2.1) && ((y4.1.2.2.2.2.2.2.2.1 == y5.1.2.2.2.2.2.2.2.1) && true))))))))
  bif b6 then
   let b7 : Bool := (a0.2.2.2.2.2.2.2.2.1 == a1.2.2.2.2.2.2.2.2.1)
   bif b7 then
    let b8 : Bool := ((ByteArray.toList a0.2.2.2.2.2.2.2.2.2.1) == (ByteArray.toList a1.2.2.2.2.2.2.2.2.2.1))
    bif b8 then
     let b9 : Bool := ((ByteArray.toList a0.2.2.2.2.2.2.2.2.2.2.1) == (ByteArray.toList a1.2.2.2.2.2.2.2.2.2.2.1))
     bif b9 then
      let b10 : Bool := ((ByteArray.toList a0.2.2.2.2.2.2.2.2.2.2.2.1) == (ByteArray.toList a1.2.2.2.2.2.2.2.2.2.2.2.1))
      some (b10, ())
     else
      some (false, ())
    else
     some (false, ())
   else
    some (false, ())
  else
   some (false, ())
theorem ex_frame_Same : ∃ f, f = @b_frame_Same := ⟨_, rfl⟩
noncomputable def frame_Same := Classical.choose ex_frame_Same
theorem frame_Same_eq : @frame_Same = @b_frame_Same := Classical.choose_spec ex_frame_Same
noncomputable def cb_frame_Same : Con := ⟨[T_frame_Frame, T_frame_Frame], r_frame_Same, fun x => b_frame_Same x.1 x.2.1⟩
noncomputable def c_frame_Same : Con := ⟨[T_frame_Frame, T_frame_Frame], r_frame_Same, fun x => frame_Same x.1 x.2.1⟩
theorem cb_frame_Same_ok : cb_frame_Same.Sound prog Inv gInv 39 :=
 con_run (M := m_frame_Same) inv_g (f := f39) rfl ks_frame_Same 100000 (X := nowhere) (fun base S0 cs0 hn hf => OSound.nowhere) (by intro x; kernel_rfl)
theorem c_frame_Same_ok : c_frame_Same.Sound prog Inv gInv 39 := by
 have e : c_frame_Same = cb_frame_Same := by unfold c_frame_Same cb_frame_Same; rw [frame_Same_eq]
 rw [e]; exact cb_frame_Same_ok
noncomputable def m_frame_Frame_only : Mach prog Inv gInv := mach bas [(80, f80)] ⟨ok80, trivial⟩ [] trivial [] trivial [] trivial
/-! ### (domino/frame.Frame).only -/
@[reducible] def r_frame_Frame_only : List Ty := [T_frame_Frame, .bool]
def ks_frame_Frame_only : List Nat := [80]
abbrev H_frame_Frame_only (base : Base) (S0 : Nat → Prop) := base.n = 0 ∧ FinOk (finR r_frame_Frame_only) base S0 (Post r_frame_Frame_only S0)
abbrev J_frame_Frame_only (base : Base) (S0 : Nat → Prop) (cs0 : List Go.Frame) (p : CPat) (J : denC p → Option (denL r_frame_Frame_only)) := JSound m_frame_Frame_only base S0 cs0 (Post r_frame_Frame_only S0) p J
abbrev O_frame_Frame_only (base : Base) (S0 : Nat → Prop) (cs0 : List Go.Frame) (X : Cfg → Option (Option (denL r_frame_Frame_only))) := OSound m_frame_Frame_only base S0 cs0 (Post r_frame_Frame_only S0) X
@[reducible] noncomputable def p_frame_Frame_only_3 : CPat := ⟨⟨80, [1, 1, 0, 1, 0, 1, 1, 1, 1, 1, 1, 1, 1, 1, 1, 1, 1, 1, 1, 1, 1, 1, 1, 1, 1, 1], none, [.any, .ptr 0 0, .ptr 1 0, .any, .ptr 2 0, .any, .any, .any, .any, .int .u64, .any, .any, .any, .any, .any, .any, .any, .any, .any, .any, .any, .any, .any, .any, .any, .any, .any, .any, .any, .any, .any, .any, .any, .any, .any, .any, .any, .any, .any, .any, .any, .any, .any, .any, .any, .any, .any, .any, .any, .any, .any, .any, .any, .any, .any, .any, .any, .any, .any, .any, .any, .any, .any, .any, .any, .any, .any, .any, .any, .any, .any, .any, .any, .any, .any, .any, .any, .any, .any, .any, .any, .any, .any, .any, .any, .any, .any, .any, .any, .any, .any, .any, .any, .any, .any, .any, .any, .any, .any, .any, .any, .any, .bool], 25⟩, [], [.dat 34 T_frame_Frame, .dat 34 T_frame_Frame, .dat 34 T_frame_Frame], 0⟩
@[reducible] noncomputable def u_frame_Frame_only_3 (k : Int → Bool → D_frame_Frame → D_frame_Frame → D_frame_Frame → Option (D_frame_Frame × Bool × Unit)) : denC p_frame_Frame_only_3 → Option (D_frame_Frame × Bool × Unit) := fun x => k x.1.2.2.2.2.2.2.2.2.2.1 x.1.2.2.2.2.2.2.2.2.2.2.2.2.2.2.2.2.2.2.2.2.2.2.2.2.2.2.2.2.2.2.2.2.2.2.2.2.2.2.2.2.2.2.2.2.2.2.2.2.2.2.2.2.2.2.2.2.2.2.2.2.2.2.2.2.2.2.2.2.2.2.2.2.2.2.2.2.2.2.2.2.2.2.2.2.2.2.2.2.2.2.2.2.2.2.2.2.2.2.2.2.2.2.1 x.2.2.1 x.2.2.2.1 x.2.2.2.2.1
noncomputable def b_frame_Frame_only_3 (i39 : Int) (b40 : Bool) (d41 : D_frame_Frame) (d42 : D_frame_Frame) (d43 : D_frame_Frame) : Option (D_frame_Frame × Bool × Unit) :=
 bif b40 then
  some ((d43.1, (d43.2.1, (d43.2.2.1, (d43.2.2.2.1, (d43.2.2.2.2.1, (d43.2.2.2.2.2.1, (d43.2.2.2.2.2.2.1, (d43.2.2.2.2.2.2.2.1, (d43.2.2.2.2.2.2.2.2.1, (d43.2.2.2.2.2.2.2.2.2.1, (d43.2.2.2.2.2.2.2.2.2.2.1, (d41.2.2.2.2.2.2.2.2.2.2.2.1, d43.2.2.2.2.2.2.2.2.2.2.2.2)))))))))))), (true, ()))
 else
  let b44 : Bool := (i39 == (28 : Int))
  bif b44 then
   some ((d43.1, (d43.2.1, (d43.2.2.1, (d43.2.2.2.1, (d41.2.2.2.2.1, (d43.2.2.2.2.2.1, (d43.2.2.2.2.2.2.1, (d41.2.2.2.2.2.2.2.1, (d43.2.2.2.2.2.2.2.2.1, (d41.2.2.2.2.2.2.2.2.2.1, d43.2.2.2.2.2.2.2.2.2.2)))))))))), (true, ()))
  else
   let b45 : Bool := (i39 == (29 : Int))
   bif b45 then
    some ((d43.1, (d43.2.1, (d43.2.2.1, (d43.2.2.2.1, (d41.2.2.2.2.1, (d43.2.2.2.2.2.1, (d43.2.2.2.2.2.2.1, (d43.2.2.2.2.2.2.2.1, (d43.2.2.2.2.2.2.2.2.1, (d41.2.2.2.2.2.2.2.2.2.1, d43.2.2.2.2.2.2.2.2.2.2)))))))))), (true, ()))
   else
    let s46 : ByteArray := (ByteArray.mk (List.toArray ([] : List UInt8)))
    some (((0 : Int), ((0 : Int), ((0 : Int), ((0 : Int), ((0 : Int), ((0 : Int), ((0 : Int), ((0 : Int), (false, (s46, (s46, (s46, (([] : List D_ranges_Range), ()))))))))))))), (false, ()))
theorem ex_frame_Frame_only_3 : ∃ f, f = @b_frame_Frame_only_3 := ⟨_, rfl⟩
noncomputable def frame_Frame_only_3 := Classical.choose ex_frame_Frame_only_3
theorem frame_Frame_only_3_eq : @frame_Frame_only_3 = @b_frame_Frame_only_3 := Classical.choose_spec ex_frame_Frame_only_3
theorem s_frame_Frame_only_3 {base S0 cs0} (hfin : H_frame_Frame_only base S0) : J_frame_Frame_only base S0 cs0 p_frame_Frame_only_3 (u_frame_Frame_only_3 (frame_Frame_only_3)) :=
 JSound.join hfin.2 (OSound.nowhere) ks_frame_Frame_only 100000 (by rw [frame_Frame_only_3_eq]; intro x; kernel_rfl)
noncomputable def x_frame_Frame_only_3 : Cfg → Option (Option (D_frame_Frame × Bool × Unit)) := cut p_frame_Frame_only_3 (u_frame_Frame_only_3 (frame_Frame_only_3)) (nowhere)
theorem o_frame_Frame_only_3 {base S0 cs0} (hfin : H_frame_Frame_only base S0) : O_frame_Frame_only base S0 cs0 (x_frame_Frame_only_3) := OSound.cut (OSound.nowhere) (Nat.le_of_eq hfin.1) (s_frame_Frame_only_3 hfin)
@[reducible] noncomputable def p_frame_Frame_only_2 : CPat := ⟨⟨80, [1, 1, 0, 1, 0, 1, 1, 1, 1, 1, 1, 1, 1, 1, 1, 1, 1, 1, 1, 1], none, [.any, .ptr 0 0, .ptr 1 0, .any, .ptr 2 0, .any, .any, .any, .any, .int .u64, .any, .any, .any, .any, .any, .any, .any, .any, .any, .any, .any, .any, .any, .any, .any, .any, .any, .any, .any, .any, .any, .any, .any, .any, .any, .any, .any, .any, .any, .any, .any, .any, .any, .any, .any, .any, .any, .any, .any, .any, .any, .any, .any, .any, .any, .any, .any, .any, .any, .any, .any, .any, .any, .any, .any, .any, .any, .any, .any, .any, .any, .any, .any, .any, .bool], 53⟩, [], [.dat 34 T_frame_Frame, .dat 34 T_frame_Frame, .dat 34 T_frame_Frame], 0⟩
@[reducible] noncomputable def u_frame_Frame_only_2 (k : Int → Bool → D_frame_Frame → D_frame_Frame → D_frame_Frame → Option (D_frame_Frame × Bool × Unit)) : denC p_frame_Frame_only_2 → Option (D_frame_Frame × Bool × Unit) := fun x => k x.1.2.2.2.2.2.2.2.2.2.1 x.1.2.2.2.2.2.2.2.2.2.2.2.2.2.2.2.2.2.2.2.2.2.2.2.2.2.2.2.2.2.2.2.2.2.2.2.2.2.2.2.2.2.2.2.2.2.2.2.2.2.2.2.2.2.2.2.2.2.2.2.2.2.2.2.2.2.2.2.2.2.2.2.2.2.2.1 x.2.2.1 x.2.2.2.1 x.2.2.2.2.1
noncomputable def b_frame_Frame_only_2 (i30 : Int) (b31 : Bool) (d32 : D_frame_Frame) (d33 : D_frame_Frame) (d34 : D_frame_Frame) : Option (D_frame_Frame × Bool × Unit) :=
 bif b31 then
  some ((d34.1, (d32.2.1, (d34.2.2.1, (d32.2.2.2.1, d34.2.2.2.2)))), (true, ()))
 else
  let b35 : Bool := (i30 == (24 : Int))
  bif b35 then
   some ((d34.1, (d34.2.1, (d34.2.2.1, (d34.2.2.2.1, (d34.2.2.2.2.1, (d32.2.2.2.2.2.1, (d32.2.2.2.2.2.2.1, (d34.2.2.2.2.2.2.2.1, (d34.2.2.2.2.2.2.2.2.1, (d34.2.2.2.2.2.2.2.2.2.1, (d32.2.2.2.2.2.2.2.2.2.2.1, (d32.2.2.2.2.2.2.2.2.2.2.2.1, d34.2.2.2.2.2.2.2.2.2.2.2.2)))))))))))), (true, ()))
  else
   let b36 : Bool := (i30 == (25 : Int))
   bif b36 then
    some ((d34.1, (d34.2.1, (d34.2.2.1, (d34.2.2.2.1, (d34.2.2.2.2.1, (d32.2.2.2.2.2.1, d34.2.2.2.2.2.2)))))), (true, ()))
   else
    let b37 : Bool := (i30 == (26 : Int))
    bif b37 then
     frame_Frame_only_3 i30 true d32 d33 d34
    else
     let b38 : Bool := (i30 == (27 : Int))
     frame_Frame_only_3 i30 b38 d32 d33 d34
theorem ex_frame_Frame_only_2 : ∃ f, f = @b_frame_Frame_only_2 := ⟨_, rfl⟩
noncomputable def frame_Frame_only_2 := Classical.choose ex_frame_Frame_only_2
theorem frame_Frame_only_2_eq : @frame_Frame_only_2 = @b_frame_Frame_only_2 := Classical.choose_spec ex_frame_Frame_only_2
theorem s_frame_Frame_only_2 {base S0 cs0} (hfin : H_frame_Frame_only base S0) : J_frame_Frame_only base S0 cs0 p_frame_Frame_only_2 (u_frame_Frame_only_2 (frame_Frame_only_2)) :=
 JSound.join hfin.2 (o_frame_Frame_only_3 hfin) ks_frame_Frame_only 100000 (by rw [frame_Frame_only_2_eq]; intro x; kernel_rfl)
noncomputable def x_frame_Frame_only_2 : Cfg → Option (Option (D_frame_Frame × Bool × Unit)) := cut p_frame_Frame_only_2 (u_frame_Frame_only_2 (frame_Frame_only_2)) (x_frame_Frame_only_3)
theorem o_frame_Frame_only_2 {base S0 cs0} (hfin : H_frame_Frame_only base S0) : O_frame_Frame_only base S0 cs0 (x_frame_Frame_only_2) := OSound.cut (o_frame_Frame_only_3 hfin) (Nat.le_of_eq hfin.1) (s_frame_Frame_only_2 hfin)
@[reducible] noncomputable def p_frame_Frame_only_1 : CPat := ⟨⟨80, [1, 1, 0, 1, 0, 1, 1, 1, 1, 1, 1, 1, 1, 1, 1, 1, 1, 1], none, [.any, .ptr 0 0, .ptr 1 0, .any, .ptr 2 0, .any, .any, .any, .any, .int .u64, .any, .any, .any, .any, .any, .any, .any, .any, .any, .any, .any, .any, .any, .any, .any, .any, .any, .any, .any, .any, .any, .any, .any, .any, .any, .any, .any, .any, .any, .any, .any, .any, .any, .any, .any, .any, .any, .any, .any, .any, .any, .any, .any, .any, .any, .any, .any, .any, .any, .any, .any, .any, .any, .any, .bool], 63⟩, [], [.dat 34 T_frame_Frame, .dat 34 T_frame_Frame, .dat 34 T_frame_Frame], 0⟩
@[reducible] noncomputable def u_frame_Frame_only_1 (k : Int → Bool → D_frame_Frame → D_frame_Frame → D_frame_Frame → Option (D_frame_Frame × Bool × Unit)) : denC p_frame_Frame_only_1 → Option (D_frame_Frame × Bool × Unit) := fun x => k x.1.2.2.2.2.2.2.2.2.2.1 x.1.2.2.2.2.2.2.2.2.2.2.2.2.2.2.2.2.2.2.2.2.2.2.2.2.2.2.2.2.2.2.2.2.2.2.2.2.2.2.2.2.2.2.2.2.2.2.2.2.2.2.2.2.2.2.2.2.2.2.2.2.2.2.2.2.1 x.2.2.1 x.2.2.2.1 x.2.2.2.2.1
noncomputable def b_frame_Frame_only_1 (i23 : Int) (b24 : Bool) (d25 : D_frame_Frame) (d26 : D_frame_Frame) (d27 : D_frame_Frame) : Option (D_frame_Frame × Bool × Unit) :=
 bif b24 then
  some ((d27.1, (d27.2.1, (d27.2.2.1, (d25.2.2.2.1, d27.2.2.2.2)))), (true, ()))
 else
  let b28 : Bool := (i23 == (17 : Int))
  bif b28 then
   frame_Frame_only_2 i23 true d25 d26 d27
  else
   let b29 : Bool := (i23 == (21 : Int))
   frame_Frame_only_2 i23 b29 d25 d26 d27
theorem ex_frame_Frame_only_1 : ∃ f, f = @b_frame_Frame_only_1 := ⟨_, rfl⟩
noncomputable def frame_Frame_only_1 := Classical.choose ex_frame_Frame_only_1
theorem frame_Frame_only_1_eq : @frame_Frame_only_1 = @b_frame_Frame_only_1 := Classical.choose_spec ex_frame_Frame_only_1
theorem s_frame_Frame_only_1 {base S0 cs0} (hfin : H_frame_Frame_only base S0) : J_frame_Frame_only base S0 cs0 p_frame_Frame_only_1 (u_frame_Frame_only_1 (frame_Frame_only_1)) :=
 JSound.join hfin.2 (o_frame_Frame_only_2 hfin) ks_frame_Frame_only 100000 (by rw [frame_Frame_only_1_eq]; intro x; kernel_rfl)
noncomputable def x_frame_Frame_only_1 : Cfg → Option (Option (D_frame_Frame × Bool × Unit)) := cut p_frame_Frame_only_1 (u_frame_Frame_only_1 (frame_Frame_only_1)) (x_frame_Frame_only_2)
theorem o_frame_Frame_only_1 {base S0 cs0} (hfin : H_frame_Frame_only base S0) : O_frame_Frame_only base S0 cs0 (x_frame_Frame_only_1) := OSound.cut (o_frame_Frame_only_2 hfin) (Nat.le_of_eq hfin.1) (s_frame_Frame_only_1 hfin)
@[reducible] noncomputable def p_frame_Frame_only_0 : CPat := ⟨⟨80, [1, 1, 0, 1, 0, 1], none, [.any, .ptr 0 0, .ptr 1 0, .any, .ptr 2 0, .any, .any, .any, .any, .int .u64, .any, .bool], 116⟩, [], [.dat 34 T_frame_Frame, .dat 34 T_frame_Frame, .dat 34 T_frame_Frame], 0⟩
@[reducible] noncomputable def u_frame_Frame_only_0 (k : Int → Bool → D_frame_Frame → D_frame_Frame → D_frame_Frame → Option (D_frame_Frame × Bool × Unit)) : denC p_frame_Frame_only_0 → Option (D_frame_Frame × Bool × Unit) := fun x => k x.1.2.2.2.2.2.2.2.2.2.1 x.1.2.2.2.2.2.2.2.2.2.2.2.1 x.2.2.1 x.2.2.2.1 x.2.2.2.2.1
noncomputable def b_frame_Frame_only_0 (i7 : Int) (b8 : Bool) (d9 : D_frame_Frame) (d10 : D_frame_Frame) (d11 : D_frame_Frame) : Option (D_frame_Frame × Bool × Unit) :=
 bif b8 then
  some (d11, (true, ()))
 else
  let b12 : Bool := (i7 == (2 : Int))
  bif b12 then
   some ((d11.1, (d11.2.1, (d11.2.2.1, (d11.2.2.2.1, (d11.2.2.2.2.1, (d11.2.2.2.2.2.1, (d11.2.2.2.2.2.2.1, (d9.2.2.2.2.2.2.2.1, (d11.2.2.2.2.2.2.2.2.1, (d11.2.2.2.2.2.2.2.2.2.1, (d11.2.2.2.2.2.2.2.2.2.2.1, (d11.2.2.2.2.2.2.2.2.2.2.2.1, d9.2.2.2.2.2.2.2.2.2.2.2.2)))))))))))), (true, ()))
  else
   let b13 : Bool := (i7 == (4 : Int))
   bif b13 then
    some ((d11.1, (d9.2.1, (d11.2.2.1, (d9.2.2.2.1, (d9.2.2.2.2.1, d11.2.2.2.2.2))))), (true, ()))
   else
    let b14 : Bool := (i7 == (5 : Int))
    bif b14 then
     some ((d11.1, (d9.2.1, (d11.2.2.1, (d11.2.2.2.1, (d9.2.2.2.2.1, d11.2.2.2.2.2))))), (true, ()))
    else
     let b15 : Bool := (i7 == (6 : Int))
     bif b15 then
      some ((d11.1, (d11.2.1, (d9.2.2.1, (d11.2.2.2.1, (d11.2.2.2.2.1, (d11.2.2.2.2.2.1, (d11.2.2.2.2.2.2.1, (d11.2.2.2.2.2.2.2.1, (d11.2.2.2.2.2.2.2.2.1, (d9.2.2.2.2.2.2.2.2.2.1, d11.2.2.2.2.2.2.2.2.2.2)))))))))), (true, ()))
     else
      let b16 : Bool := (i7 == (8 : Int))
      bif b16 then
       some ((d11.1, (d9.2.1, (d9.2.2.1, (d11.2.2.2.1, (d11.2.2.2.2.1, (d11.2.2.2.2.2.1, (d11.2.2.2.2.2.2.1, (d11.2.2.2.2.2.2.2.1, (d9.2.2.2.2.2.2.2.2.1, (d9.2.2.2.2.2.2.2.2.2.1, d11.2.2.2.2.2.2.2.2.2.2)))))))))), (true, ()))
      else
       let b17 : Bool := (i7 == (16 : Int))
       bif b17 then
        frame_Frame_only_1 i7 true d9 d10 d11
       else
        let b18 : Bool := (i7 == (18 : Int))
        bif b18 then
         frame_Frame_only_1 i7 true d9 d10 d11
        else
         let b19 : Bool := (i7 == (19 : Int))
         bif b19 then
          frame_Frame_only_1 i7 true d9 d10 d11
         else
          let b20 : Bool := (i7 == (20 : Int))
          bif b20 then
           frame_Frame_only_1 i7 true d9 d10 d11
          else
           let b21 : Bool := (i7 == (22 : Int))
           bif b21 then
            frame_Frame_only_1 i7 true d9 d10 d11
           else
            let b22 : Bool := (i7 == (23 : Int))
            frame_Frame_only_1 i7 b22 d9 d10 d11
theorem ex_frame_Frame_only_0 : ∃ f, f = @b_frame_Frame_only_0 := ⟨_, rfl⟩
noncomputable def frame_Frame_only_0 := Classical.choose ex_frame_Frame_only_0
theorem frame_Frame_only_0_eq : @frame_Frame_only_0 = @b_frame_Frame_only_0 := Classical.choose_spec ex_frame_Frame_only_0
theorem s_frame_Frame_only_0 {base S0 cs0} (hfin : H_frame_Frame_only base S0) : J_frame_Frame_only base S0 cs0 p_frame_Frame_only_0 (u_frame_Frame_only_0 (frame_Frame_only_0)) :=
 JSound.join hfin.2 (o_frame_Frame_only_1 hfin) ks_frame_Frame_only 100000 (by rw [frame_Frame_only_0_eq]; intro x; kernel_rfl)
noncomputable def x_frame_Frame_only_0 : Cfg → Option (Option (D_frame_Frame × Bool × Unit)) := cut p_frame_Frame_only_0 (u_frame_Frame_only_0 (frame_Frame_only_0)) (x_frame_Frame_only_1)
theorem o_frame_Frame_only_0 {base S0 cs0} (hfin : H_frame_Frame_only base S0) : O_frame_Frame_only base S0 cs0 (x_frame_Frame_only_0) := OSound.cut (o_frame_Frame_only_1 hfin) (Nat.le_of_eq hfin.1) (s_frame_Frame_only_0 hfin)
noncomputable def b_frame_Frame_only (a0 : D_frame_Frame) : Option (D_frame_Frame × Bool × Unit) :=
 let s1 : ByteArray := (ByteArray.mk (List.toArray ([] : List UInt8)))
 let s2 : ByteArray := (ByteArray.mk (List.toArray ([] : List UInt8)))
 let s3 : ByteArray := (ByteArray.mk (List.toArray ([] : List UInt8)))
 let b4 : Bool := (a0.1 == (0 : Int))
 bif b4 then
  frame_Frame_only_0 a0.1 true a0 ((0 : Int), ((0 : Int), ((0 : Int), ((0 : Int), ((0 : Int), ((0 : Int), ((0 : Int), ((0 : Int), (false, (s1, (s1, (s1, (([] : List D_ranges_Range), ()))))))))))))) (a0.1, ((0 : Int), ((0 : Int), ((0 : Int), ((0 : Int), ((0 : Int), ((0 : Int), ((0 : Int), (false, (s2, (s2, (s2, (([] : List D_ranges_Range), ())))))))))))))
 else
  let b5 : Bool := (a0.1 == (1 : Int))
  bif b5 then
   frame_Frame_only_0 a0.1 true a0 ((0 : Int), ((0 : Int), ((0 : Int), ((0 : Int), ((0 : Int), ((0 : Int), ((0 : Int), ((0 : Int), (false, (s1, (s1, (s1, (([] : List D_ranges_Range), ()))))))))))))) (a0.1, ((0 : Int), ((0 : Int), ((0 : Int), ((0 : Int), ((0 : Int), ((0 : Int), ((0 : Int), (false, (s2, (s2, (s2, (([] : List D_ranges_Range), ())))))))))))))
  else
   let b6 : Bool := (a0.1 == (30 : Int))
   frame_Frame_only_0 a0.1 b6 a0 ((0 : Int), ((0 : Int), ((0 : Int), ((0 : Int), ((0 : Int), ((0 : Int), ((0 : Int), ((0 : Int), (false, (s1, (s1, (s1, (([] : List D_ranges_Range), ()))))))))))))) (a0.1, ((0 : Int), ((0 : Int), ((0 : Int), ((0 : Int), ((0 : Int), ((0 : Int), ((0 : Int), (false, (s2, (s2, (s2, (([] : List D_ranges_Range), ())))))))))))))
theorem ex_frame_Frame_only : ∃ f, f = @b_frame_Frame_only := ⟨_, rfl⟩
noncomputable def frame_Frame_only := Classical.choose ex_frame_Frame_only
theorem frame_Frame_only_eq : @frame_Frame_only = @b_frame_Frame_only := Classical.choose_spec ex_frame_Frame_only
noncomputable def cb_frame_Frame_only : Con := ⟨[T_frame_Frame], r_frame_Frame_only, fun x => b_frame_Frame_only x.1⟩
noncomputable def c_frame_Frame_only : Con := ⟨[T_frame_Frame], r_frame_Frame_only, fun x => frame_Frame_only x.1⟩
theorem cb_frame_Frame_only_ok : cb_frame_Frame_only.Sound prog Inv gInv 80 :=
 con_run (M := m_frame_Frame_only) inv_g (f := f80) rfl ks_frame_Frame_only 100000 (X := x_frame_Frame_only_0) (fun base S0 cs0 hn hf => have hfin : H_frame_Frame_only base S0 := ⟨hn, hf⟩; o_frame_Frame_only_0 hfin) (by intro x; kernel_rfl)
theorem c_frame_Frame_only_ok : c_frame_Frame_only.Sound prog Inv gInv 80 := by
 have e : c_frame_Frame_only = cb_frame_Frame_only := by unfold c_frame_Frame_only cb_frame_Frame_only; rw [frame_Frame_only_eq]
 rw [e]; exact cb_frame_Frame_only_ok
noncomputable def m_slices_Max_uint64 : Mach prog Inv gInv := mach bas [(81, f81)] ⟨ok81, trivial⟩ [] trivial [] trivial [] trivial
/-! ### slices.Max[[]uint64,uint64] -/
@[reducible] def r_slices_Max_uint64 : List Ty := [(.int .u64)]
def ks_slices_Max_uint64 : List Nat := [81]
abbrev H_slices_Max_uint64 (base : Base) (S0 : Nat → Prop) := base.n = 0 ∧ FinOk (finR r_slices_Max_uint64) base S0 (Post r_slices_Max_uint64 S0)
abbrev J_slices_Max_uint64 (base : Base) (S0 : Nat → Prop) (cs0 : List Go.Frame) (p : CPat) (J : denC p → Option (denL r_slices_Max_uint64)) := JSound m_slices_Max_uint64 base S0 cs0 (Post r_slices_Max_uint64 S0) p J
abbrev O_slices_Max_uint64 (base : Base) (S0 : Nat → Prop) (cs0 : List Go.Frame) (X : Cfg → Option (Option (denL r_slices_Max_uint64))) := OSound m_slices_Max_uint64 base S0 cs0 (Post r_slices_Max_uint64 S0) X
@[reducible] noncomputable def p_slices_Max_uint64_0 : CPat := ⟨⟨81, [1, 1, 1, 0, 1, 0], none, [.rows (.int .u64) false, .any, .any, .int .u64, .int .i64], 20⟩, [], [], 0⟩
@[reducible] noncomputable def u_slices_Max_uint64_0 (k : (List Int) → Int → Int → Option (Int × Unit)) : denC p_slices_Max_uint64_0 → Option (Int × Unit) := fun x => k x.1.1 x.1.2.2.2.1 x.1.2.2.2.2.1
noncomputable def t_slices_Max_uint64_0 (k0 : (List Int) → Int → Int → Option (Int × Unit)) (l11 : (List Int)) (i12 : Int) (i13 : Int) : Option (Int × Unit) :=
 let n14 : Int := (((List.length l11) : Nat) : Int)
 let b15 : Bool := (decide (i13 < n14))
 bif b15 then
  bif (decide (((0 : Int) ≤ i13) ∧ (i13 < (((List.length l11) : Nat) : Int)))) then
   let x16 : Int := (List.getD l11 (Int.toNat i13) (0 : Int))
   let n17 : Int := (if (x16 > i12) then x16 else i12)
   let n18 : Int := (Go.IntKind.wrap Go.IntKind.i64 (i13 + (1 : Int)))
   k0 l11 n17 n18
  else none
 else
  some (i12, ())
noncomputable def slices_Max_uint64_0 : Nat → (List Int) → Int → Int → Option (Int × Unit)
 | 0 => fun _ _ _ => none
 | m + 1 => t_slices_Max_uint64_0 (slices_Max_uint64_0 m)
noncomputable def b_slices_Max_uint64_0' (l11 : (List Int)) (i12 : Int) (i13 : Int) : Option (Int × Unit) := slices_Max_uint64_0 (Int.toNat ((((List.length l11) : Nat) : Int) - i13) + 2) l11 i12 i13
theorem ex_slices_Max_uint64_0' : ∃ f, f = @b_slices_Max_uint64_0' := ⟨_, rfl⟩
noncomputable def slices_Max_uint64_0' := Classical.choose ex_slices_Max_uint64_0'
theorem slices_Max_uint64_0'_eq : @slices_Max_uint64_0' = @b_slices_Max_uint64_0' := Classical.choose_spec ex_slices_Max_uint64_0'
theorem s_slices_Max_uint64_0 {base S0 cs0} (hfin : H_slices_Max_uint64 base S0) : ∀ m, J_slices_Max_uint64 base S0 cs0 p_slices_Max_uint64_0 (u_slices_Max_uint64_0 (slices_Max_uint64_0 m)) :=
 JSound.loop' hfin.2 ks_slices_Max_uint64 100000 u_slices_Max_uint64_0 (fun k0 => cut p_slices_Max_uint64_0 (u_slices_Max_uint64_0 k0) (nowhere)) (fun k0 h0 => OSound.cut (OSound.nowhere) (Nat.le_of_eq hfin.1) h0) (slices_Max_uint64_0) (by intro x; rfl) (by intro m x; kernel_rfl)
theorem s_slices_Max_uint64_0' {base S0 cs0} (hfin : H_slices_Max_uint64 base S0) : J_slices_Max_uint64 base S0 cs0 p_slices_Max_uint64_0 (u_slices_Max_uint64_0 (slices_Max_uint64_0')) := by
 rw [slices_Max_uint64_0'_eq]; exact fun x r hx => s_slices_Max_uint64_0 hfin _ x r hx
noncomputable def x_slices_Max_uint64_0 : Cfg → Option (Option (Int × Unit)) := cut p_slices_Max_uint64_0 (u_slices_Max_uint64_0 (slices_Max_uint64_0')) (nowhere)
theorem o_slices_Max_uint64_0 {base S0 cs0} (hfin : H_slices_Max_uint64 base S0) : O_slices_Max_uint64 base S0 cs0 (x_slices_Max_uint64_0) := OSound.cut (OSound.nowhere) (Nat.le_of_eq hfin.1) (s_slices_Max_uint64_0' hfin)
noncomputable def b_slices_Max_uint64 (a0 : (List Int)) : Option (Int × Unit) :=
 let n1 : Int := (((List.length a0) : Nat) : Int)
 let b2 : Bool := (decide (n1 < (1 : Int)))
 bif b2 then
  let s3 : ByteArray := (ByteArray.mk (List.toArray ((115 : UInt8) :: ((108 : UInt8) :: ((105 : UInt8) :: ((99 : UInt8) :: ((101 : UInt8) :: ((115 : UInt8) :: ((46 : UInt8) :: ((77 : UInt8) :: ((97 : UInt8) :: ((120 : UInt8) :: ((58 : UInt8) :: ((32 : UInt8) :: ((101 : UInt8) :: ((109 : UInt8) :: ((112 : UInt8) :: ((116 : UInt8) :: ((121 : UInt8) :: ((32 : UInt8) :: ((108 : UInt8) :: ((105 : UInt8) :: ((115 : UInt8) :: ((116 : UInt8) :: ([] : List UInt8)))))))))))))))))))))))))
  none
 else
  bif (decide (((0 : Int) ≤ (0 : Int)) ∧ ((0 : Int) < (((List.length a0) : Nat) : Int)))) then
   let x4 : Int := (List.getD a0 0 (0 : Int))
   slices_Max_uint64_0' a0 x4 (1 : Int)
  else none
theorem ex_slices_Max_uint64 : ∃ f, f = @b_slices_Max_uint64 := ⟨_, rfl⟩
noncomputable def slices_Max_uint64 := Classical.choose ex_slices_Max_uint64
theorem slices_Max_uint64_eq : @slices_Max_uint64 = @b_slices_Max_uint64 := Classical.choose_spec ex_slices_Max_uint64
noncomputable def cb_slices_Max_uint64 : Con := ⟨[(.slice (.int .u64))], r_slices_Max_uint64, fun x => b_slices_Max_uint64 x.1⟩
noncomputable def c_slices_Max_uint64 : Con := ⟨[(.slice (.int .u64))], r_slices_Max_uint64, fun x => slices_Max_uint64 x.1⟩
theorem cb_slices_Max_uint64_ok : cb_slices_Max_uint64.Sound prog Inv gInv 81 :=
 con_run (M := m_slices_Max_uint64) inv_g (f := f81) rfl ks_slices_Max_uint64 100000 (X := x_slices_Max_uint64_0) (fun base S0 cs0 hn hf => have hfin : H_slices_Max_uint64 base S0 := ⟨hn, hf⟩; o_slices_Max_uint64_0 hfin) (by intro x; kernel_rfl)
theorem c_slices_Max_uint64_ok : c_slices_Max_uint64.Sound prog Inv gInv 81 := by
 have e : c_slices_Max_uint64 = cb_slices_Max_uint64 := by unfold c_slices_Max_uint64 cb_slices_Max_uint64; rw [slices_Max_uint64_eq]
 rw [e]; exact cb_slices_Max_uint64_ok
noncomputable def m_ranges_Range_empty : Mach prog Inv gInv := mach bas [(120, f120)] ⟨ok120, trivial⟩ [] trivial [] trivial [] trivial
/-! ### (domino/ranges.Range).empty -/
@[reducible] def r_ranges_Range_empty : List Ty := [.bool]
def ks_ranges_Range_empty : List Nat := [120]
noncomputable def b_ranges_Range_empty (a0 : D_ranges_Range) : Option (Bool × Unit) :=
 let b1 : Bool := (decide (a0.2.1 < a0.1))
 some (b1, ())
theorem ex_ranges_Range_empty : ∃ f, f = @b_ranges_Range_empty := ⟨_, rfl⟩
noncomputable def ranges_Range_empty := Classical.choose ex_ranges_Range_empty
theorem ranges_Range_empty_eq : @ranges_Range_empty = @b_ranges_Range_empty := Classical.choose_spec ex_ranges_Range_empty
noncomputable def cb_ranges_Range_empty : Con := ⟨[T_ranges_Range], r_ranges_Range_empty, fun x => b_ranges_Range_empty x.1⟩
noncomputable def c_ranges_Range_empty : Con := ⟨[T_ranges_Range], r_ranges_Range_empty, fun x => ranges_Range_empty x.1⟩
theorem cb_ranges_Range_empty_ok : cb_ranges_Range_empty.Sound prog Inv gInv 120 :=
 con_run (M := m_ranges_Range_empty) inv_g (f := f120) rfl ks_ranges_Range_empty 100000 (X := nowhere) (fun base S0 cs0 hn hf => OSound.nowhere) (by intro x; kernel_rfl)
theorem c_ranges_Range_empty_ok : c_ranges_Range_empty.Sound prog Inv gInv 120 := by
 have e : c_ranges_Range_empty = cb_ranges_Range_empty := by unfold c_ranges_Range_empty cb_ranges_Range_empty; rw [ranges_Range_empty_eq]
 rw [e]; exact cb_ranges_Range_empty_ok
noncomputable def m_ranges_May : Mach prog Inv gInv := mach bas [(82, f82)] ⟨ok82, trivial⟩ [(120, c_ranges_Range_empty)] ⟨⟨c_ranges_Range_empty_ok, FnOk.callable ok120⟩, trivial⟩ [] trivial [] trivial
/-! ### domino/ranges.May -/
@[reducible] def r_ranges_May : List Ty := [.bool]
def ks_ranges_May : List Nat := [82]
abbrev H_ranges_May (base : Base) (S0 : Nat → Prop) := base.n = 0 ∧ FinOk (finR r_ranges_May) base S0 (Post r_ranges_May S0)
abbrev J_ranges_May (base : Base) (S0 : Nat → Prop) (cs0 : List Go.Frame) (p : CPat) (J : denC p → Option (denL r_ranges_May)) := JSound m_ranges_May base S0 cs0 (Post r_ranges_May S0) p J
abbrev O_ranges_May (base : Base) (S0 : Nat → Prop) (cs0 : List Go.Frame) (X : Cfg → Option (Option (denL r_ranges_May))) := OSound m_ranges_May base S0 cs0 (Post r_ranges_May S0) X
@[reducible] noncomputable def p_ranges_May_0 : CPat := ⟨⟨82, [1, 1, 0, 1, 0], none, [.any, .any, .any, .int .u64, .any, .any, .rows T_ranges_Range false, .int .i64, .int .i64], 20⟩, [], [], 0⟩
@[reducible] noncomputable def u_ranges_May_0 (k : Int → (List D_ranges_Range) → Int → Int → Option (Bool × Unit)) : denC p_ranges_May_0 → Option (Bool × Unit) := fun x => k x.1.2.2.2.1 x.1.2.2.2.2.2.2.1 x.1.2.2.2.2.2.2.2.1 x.1.2.2.2.2.2.2.2.2.1
noncomputable def t_ranges_May_0 (k0 : Int → (List D_ranges_Range) → Int → Int → Option (Bool × Unit)) (i10 : Int) (l11 : (List D_ranges_Range)) (i12 : Int) (i13 : Int) : Option (Bool × Unit) :=
 let b14 : Bool := (decide (i13 < i12))
 bif b14 then
  bif (decide (((0 : Int) ≤ i13) ∧ (i13 < (((List.length l11) : Nat) : Int)))) then
   let x15 : D_ranges_Range := (List.getD l11 (Int.toNat i13) (Ty.dflt T_ranges_Range))
   obind (ranges_Range_empty x15) fun y16 =>
   bif y16.1 then
    some (false, ())
   else
    let b17 : Bool := (decide (x15.2.1 ≥ (9223372036854775808 : Int)))
    bif b17 then
     some (false, ())
    else
     let b18 : Bool := (decide (x15.1 < i10))
     bif b18 then
      some (false, ())
     else
      let n19 : Int := (Go.IntKind.wrap Go.IntKind.u64 (x15.2.1 + (2 : Int)))
      let n20 : Int := (Go.IntKind.wrap Go.IntKind.i64 (i13 + (1 : Int)))
      k0 n19 l11 i12 n20
  else none
 else
  some (true, ())
noncomputable def ranges_May_0 : Nat → Int → (List D_ranges_Range) → Int → Int → Option (Bool × Unit)
 | 0 => fun _ _ _ _ => none
 | m + 1 => t_ranges_May_0 (ranges_May_0 m)
noncomputable def b_ranges_May_0' (i10 : Int) (l11 : (List D_ranges_Range)) (i12 : Int) (i13 : Int) : Option (Bool × Unit) := ranges_May_0 (Int.toNat (i12 - i13) + 2) i10 l11 i12 i13
theorem ex_ranges_May_0' : ∃ f, f = @b_ranges_May_0' := ⟨_, rfl⟩
noncomputable def ranges_May_0' := Classical.choose ex_ranges_May_0'
theorem ranges_May_0'_eq : @ranges_May_0' = @b_ranges_May_0' := Classical.choose_spec ex_ranges_May_0'
theorem s_ranges_May_0 {base S0 cs0} (hfin : H_ranges_May base S0) : ∀ m, J_ranges_May base S0 cs0 p_ranges_May_0 (u_ranges_May_0 (ranges_May_0 m)) :=
 JSound.loop' hfin.2 ks_ranges_May 100000 u_ranges_May_0 (fun k0 => cut p_ranges_May_0 (u_ranges_May_0 k0) (nowhere)) (fun k0 h0 => OSound.cut (OSound.nowhere) (Nat.le_of_eq hfin.1) h0) (ranges_May_0) (by intro x; rfl) (by intro m x; kernel_rfl)
theorem s_ranges_May_0' {base S0 cs0} (hfin : H_ranges_May base S0) : J_ranges_May base S0 cs0 p_ranges_May_0 (u_ranges_May_0 (ranges_May_0')) := by
 rw [ranges_May_0'_eq]; exact fun x r hx => s_ranges_May_0 hfin _ x r hx
noncomputable def x_ranges_May_0 : Cfg → Option (Option (Bool × Unit)) := cut p_ranges_May_0 (u_ranges_May_0 (ranges_May_0')) (nowhere)
theorem o_ranges_May_0 {base S0 cs0} (hfin : H_ranges_May base S0) : O_ranges_May base S0 cs0 (x_ranges_May_0) := OSound.cut (OSound.nowhere) (Nat.le_of_eq hfin.1) (s_ranges_May_0' hfin)
noncomputable def b_ranges_May (a0 : (List D_ranges_Range)) : Option (Bool × Unit) :=
 let n1 : Int := (((List.length a0) : Nat) : Int)
 ranges_May_0' (0 : Int) a0 n1 (0 : Int)
theorem ex_ranges_May : ∃ f, f = @b_ranges_May := ⟨_, rfl⟩
noncomputable def ranges_May := Classical.choose ex_ranges_May
theorem ranges_May_eq : @ranges_May = @b_ranges_May := Classical.choose_spec ex_ranges_May
noncomputable def cb_ranges_May : Con := ⟨[(.slice T_ranges_Range)], r_ranges_May, fun x => b_ranges_May x.1⟩
noncomputable def c_ranges_May : Con := ⟨[(.slice T_ranges_Range)], r_ranges_May, fun x => ranges_May x.1⟩
theorem cb_ranges_May_ok : cb_ranges_May.Sound prog Inv gInv 82 :=
 con_run (M := m_ranges_May) inv_g (f := f82) rfl ks_ranges_May 100000 (X := x_ranges_May_0) (fun base S0 cs0 hn hf => have hfin : H_ranges_May base S0 := ⟨hn, hf⟩; o_ranges_May_0 hfin) (by intro x; kernel_rfl)
theorem c_ranges_May_ok : c_ranges_May.Sound prog Inv gInv 82 := by
 have e : c_ranges_May = cb_ranges_May := by unfold c_ranges_May cb_ranges_May; rw [ranges_May_eq]
 rw [e]; exact cb_ranges_May_ok
noncomputable def m_frame_May : Mach prog Inv gInv := mach bas [(34, f34)] ⟨ok34, trivial⟩ [(39, c_frame_Same), (80, c_frame_Frame_only), (81, c_slices_Max_uint64), (82, c_ranges_May)] ⟨⟨c_frame_Same_ok, FnOk.callable ok39⟩, ⟨c_frame_Frame_only_ok, FnOk.callable ok80⟩, ⟨c_slices_Max_uint64_ok, FnOk.callable ok81⟩, ⟨c_ranges_May_ok, FnOk.callable ok82⟩, trivial⟩ [] trivial [] trivial
/-! ### domino/frame.May -/
@[reducible] def r_frame_May : List Ty := [.bool]
def ks_frame_May : List Nat := [34]
abbrev H_frame_May (base : Base) (S0 : Nat → Prop) := base.n = 0 ∧ FinOk (finR r_frame_May) base S0 (Post r_frame_May S0)
abbrev J_frame_May (base : Base) (S0 : Nat → Prop) (cs0 : List Go.Frame) (p : CPat) (J : denC p → Option (denL r_frame_May)) := JSound m_frame_May base S0 cs0 (Post r_frame_May S0) p J
abbrev O_frame_May (base : Base) (S0 : Nat → Prop) (cs0 : List Go.Frame) (X : Cfg → Option (Option (denL r_frame_May))) := OSound m_frame_May base S0 cs0 (Post r_frame_May S0) X
@[reducible] noncomputable def p_frame_May_2 : CPat := ⟨⟨34, [1, 1, 1, 0, 1, 1, 0, 1, 1, 1, 1, 1, 1, 1, 1, 1], none, [.any, .ptr 0 0, .any, .any, .any, .any, .any, .any, .any, .any, .any, .any, .any, .any, .any, .any, .any, .any, .any, .any, .any, .any, .any, .any, .any, .any, .any, .any, .any, .any, .any, .any, .any, .any, .any, .any, .any, .any, .any, .any, .any, .any, .any, .any, .any, .any, .any, .any, .any, .any, .any, .any, .any, .any, .any, .any, .any, .any, .any, .any, .any, .any, .any, .any, .any, .any, .any, .any, .any, .any, .any, .any, .any, .any, .any, .any, .any, .any, .any, .any, .any, .any, .any, .any, .any, .any, .any, .any, .any, .any, .any, .any, .any, .any, .any, .any, .any, .any, .any, .any, .any, .any, .any, .any, .any, .any, .any, .any, .any, .bool], 7⟩, [], [.dat 34 T_frame_Frame], 0⟩
@[reducible] noncomputable def u_frame_May_2 (k : Bool → D_frame_Frame → Option (Bool × Unit)) : denC p_frame_May_2 → Option (Bool × Unit) := fun x => k x.1.2.2.2.2.2.2.2.2.2.2.2.2.2.2.2.2.2.2.2.2.2.2.2.2.2.2.2.2.2.2.2.2.2.2.2.2.2.2.2.2.2.2.2.2.2.2.2.2.2.2.2.2.2.2.2.2.2.2.2.2.2.2.2.2.2.2.2.2.2.2.2.2.2.2.2.2.2.2.2.2.2.2.2.2.2.2.2.2.2.2.2.2.2.2.2.2.2.2.2.2.2.2.2.2.2.2.2.2.2.1 x.2.2.1
noncomputable def b_frame_May_2 (b44 : Bool) (d45 : D_frame_Frame) : Option (Bool × Unit) :=
 bif b44 then
  let b46 : Bool := (decide (d45.2.2.2.1 ≤ (1152921504606846976 : Int)))
  some (b46, ())
 else
  some (true, ())
theorem ex_frame_May_2 : ∃ f, f = @b_frame_May_2 := ⟨_, rfl⟩
noncomputable def frame_May_2 := Classical.choose ex_frame_May_2
theorem frame_May_2_eq : @frame_May_2 = @b_frame_May_2 := Classical.choose_spec ex_frame_May_2
theorem s_frame_May_2 {base S0 cs0} (hfin : H_frame_May base S0) : J_frame_May base S0 cs0 p_frame_May_2 (u_frame_May_2 (frame_May_2)) :=
 JSound.join hfin.2 (OSound.nowhere) ks_frame_May 100000 (by rw [frame_May_2_eq]; intro x; kernel_rfl)
noncomputable def x_frame_May_2 : Cfg → Option (Option (Bool × Unit)) := cut p_frame_May_2 (u_frame_May_2 (frame_May_2)) (nowhere)
theorem o_frame_May_2 {base S0 cs0} (hfin : H_frame_May base S0) : O_frame_May base S0 cs0 (x_frame_May_2) := OSound.cut (OSound.nowhere) (Nat.le_of_eq hfin.1) (s_frame_May_2 hfin)
@[reducible] noncomputable def p_frame_May_1 : CPat := ⟨⟨34, [1, 1, 1, 0, 1, 1, 0, 1, 1, 1, 1, 1, 1, 1], none, [.any, .ptr 0 0, .any, .any, .any, .any, .any, .any, .any, .any, .any, .any, .any, .any, .any, .any, .any, .any, .any, .any, .any, .any, .any, .any, .any, .any, .any, .any, .any, .any, .any, .any, .any, .any, .any, .any, .any, .any, .any, .any, .any, .any, .any, .any, .any, .any, .any, .any, .int .u64, .any, .any, .any, .any, .any, .any, .any, .any, .any, .any, .any, .any, .any, .any, .any, .any, .any, .any, .any, .any, .any, .any, .any, .any, .any, .any, .any, .any, .any, .any, .any, .any, .any, .any, .any, .any, .any, .any, .any, .any, .any, .any, .any, .any, .any, .any, .any, .any, .any, .any, .any, .any, .any, .bool], 14⟩, [], [.dat 34 T_frame_Frame], 0⟩
@[reducible] noncomputable def u_frame_May_1 (k : Int → Bool → D_frame_Frame → Option (Bool × Unit)) : denC p_frame_May_1 → Option (Bool × Unit) := fun x => k x.1.2.2.2.2.2.2.2.2.2.2.2.2.2.2.2.2.2.2.2.2.2.2.2.2.2.2.2.2.2.2.2.2.2.2.2.2.2.2.2.2.2.2.2.2.2.2.2.2.1 x.1.2.2.2.2.2.2.2.2.2.2.2.2.2.2.2.2.2.2.2.2.2.2.2.2.2.2.2.2.2.2.2.2.2.2.2.2.2.2.2.2.2.2.2.2.2.2.2.2.2.2.2.2.2.2.2.2.2.2.2.2.2.2.2.2.2.2.2.2.2.2.2.2.2.2.2.2.2.2.2.2.2.2.2.2.2.2.2.2.2.2.2.2.2.2.2.2.2.2.2.2.2.2.1 x.2.2.1
noncomputable def b_frame_May_1 (i35 : Int) (b36 : Bool) (d37 : D_frame_Frame) : Option (Bool × Unit) :=
 bif b36 then
  let n38 : Int := (((ByteArray.size d37.2.2.2.2.2.2.2.2.2.2.2.1) : Nat) : Int)
  let b39 : Bool := (n38 == (8 : Int))
  some (b39, ())
 else
  let b40 : Bool := (i35 == (18 : Int))
  bif b40 then
   frame_May_2 true d37
  else
   let b41 : Bool := (i35 == (19 : Int))
   bif b41 then
    frame_May_2 true d37
   else
    let b42 : Bool := (i35 == (22 : Int))
    bif b42 then
     frame_May_2 true d37
    else
     let b43 : Bool := (i35 == (23 : Int))
     frame_May_2 b43 d37
theorem ex_frame_May_1 : ∃ f, f = @b_frame_May_1 := ⟨_, rfl⟩
noncomputable def frame_May_1 := Classical.choose ex_frame_May_1
theorem frame_May_1_eq : @frame_May_1 = @b_frame_May_1 := Classical.choose_spec ex_frame_May_1
theorem s_frame_May_1 {base S0 cs0} (hfin : H_frame_May base S0) : J_frame_May base S0 cs0 p_frame_May_1 (u_frame_May_1 (frame_May_1)) :=
 JSound.join hfin.2 (o_frame_May_2 hfin) ks_frame_May 100000 (by rw [frame_May_1_eq]; intro x; kernel_rfl)
noncomputable def x_frame_May_1 : Cfg → Option (Option (Bool × Unit)) := cut p_frame_May_1 (u_frame_May_1 (frame_May_1)) (x_frame_May_2)
theorem o_frame_May_1 {base S0 cs0} (hfin : H_frame_May base S0) : O_frame_May base S0 cs0 (x_frame_May_1) := OSound.cut (o_frame_May_2 hfin) (Nat.le_of_eq hfin.1) (s_frame_May_1 hfin)
@[reducible] noncomputable def p_frame_May_0 : CPat := ⟨⟨34, [1, 1, 1, 0, 1, 1, 0, 1, 1, 1], none, [.any, .ptr 0 0, .any, .any, .any, .any, .any, .any, .any, .any, .any, .any, .any, .any, .any, .any, .any, .any, .any, .any, .any, .any, .any, .any, .any, .any, .any, .any, .any, .any, .any, .any, .any, .any, .any, .any, .any, .any, .any, .any, .any, .any, .any, .any, .any, .any, .any, .any, .int .u64, .any, .any, .any, .any, .any, .any, .any, .any, .any, .any, .any, .any, .any, .any, .any, .any, .any, .any, .any, .any, .any, .any, .any, .bool], 44⟩, [], [.dat 34 T_frame_Frame], 0⟩
@[reducible] noncomputable def u_frame_May_0 (k : Int → Bool → D_frame_Frame → Option (Bool × Unit)) : denC p_frame_May_0 → Option (Bool × Unit) := fun x => k x.1.2.2.2.2.2.2.2.2.2.2.2.2.2.2.2.2.2.2.2.2.2.2.2.2.2.2.2.2.2.2.2.2.2.2.2.2.2.2.2.2.2.2.2.2.2.2.2.2.1 x.1.2.2.2.2.2.2.2.2.2.2.2.2.2.2.2.2.2.2.2.2.2.2.2.2.2.2.2.2.2.2.2.2.2.2.2.2.2.2.2.2.2.2.2.2.2.2.2.2.2.2.2.2.2.2.2.2.2.2.2.2.2.2.2.2.2.2.2.2.2.2.2.2.1 x.2.2.1
noncomputable def b_frame_May_0 (i20 : Int) (b21 : Bool) (d22 : D_frame_Frame) : Option (Bool × Unit) :=
 bif b21 then
  let n23 : Int := (((ByteArray.size d22.2.2.2.2.2.2.2.2.2.1) : Nat) : Int)
  let n24 : Int := (Go.IntKind.wrap Go.IntKind.u64 n23)
  let n25 : Int := (Go.IntKind.wrap Go.IntKind.u64 (d22.2.2.1 + n24))
  let b26 : Bool := (decide (n25 ≤ (4611686018427387903 : Int)))
  some (b26, ())
 else
  let b27 : Bool := (i20 == (24 : Int))
  bif b27 then
   let b28 : Bool := (decide (d22.2.2.2.2.2.2.1 ≤ d22.2.2.2.2.2.1))
   bif b28 then
    let n29 : Int := (((ByteArray.size d22.2.2.2.2.2.2.2.2.2.2.1) : Nat) : Int)
    let b30 : Bool := (n29 == (8 : Int))
    bif b30 then
     let n31 : Int := (((ByteArray.size d22.2.2.2.2.2.2.2.2.2.2.2.1) : Nat) : Int)
     let b32 : Bool := (n31 == (16 : Int))
     some (b32, ())
    else
     some (false, ())
   else
    some (false, ())
  else
   let b33 : Bool := (i20 == (26 : Int))
   bif b33 then
    frame_May_1 i20 true d22
   else
    let b34 : Bool := (i20 == (27 : Int))
    frame_May_1 i20 b34 d22
theorem ex_frame_May_0 : ∃ f, f = @b_frame_May_0 := ⟨_, rfl⟩
noncomputable def frame_May_0 := Classical.choose ex_frame_May_0
theorem frame_May_0_eq : @frame_May_0 = @b_frame_May_0 := Classical.choose_spec ex_frame_May_0
theorem s_frame_May_0 {base S0 cs0} (hfin : H_frame_May base S0) : J_frame_May base S0 cs0 p_frame_May_0 (u_frame_May_0 (frame_May_0)) :=
 JSound.join hfin.2 (o_frame_May_1 hfin) ks_frame_May 100000 (by rw [frame_May_0_eq]; intro x; kernel_rfl)
noncomputable def x_frame_May_0 : Cfg → Option (Option (Bool × Unit)) := cut p_frame_May_0 (u_frame_May_0 (frame_May_0)) (x_frame_May_1)
theorem o_frame_May_0 {base S0 cs0} (hfin : H_frame_May base S0) : O_frame_May base S0 cs0 (x_frame_May_0) := OSound.cut (o_frame_May_1 hfin) (Nat.le_of_eq hfin.1) (s_frame_May_0 hfin)
noncomputable def b_frame_May (a0 : D_frame_Frame) : Option (Bool × Unit) :=
 obind (frame_Frame_only a0) fun y1 =>
 let s2 : ByteArray := (ByteArray.mk (List.toArray ([] : List UInt8)))
 let b3 : Bool := (!y1.2.1)
 bif b3 then
  some (false, ())
 else
  obind (frame_Same a0 y1.1) fun y4 =>
  let b5 : Bool := (!y4.1)
  bif b5 then
   some (false, ())
  else
   obind (slices_Max_uint64 (a0.2.1 :: (a0.2.2.1 :: (a0.2.2.2.1 :: (a0.2.2.2.2.1 :: (a0.2.2.2.2.2.1 :: (a0.2.2.2.2.2.2.1 :: (a0.2.2.2.2.2.2.2.1 :: ([] : List Int))))))))) fun y6 =>
   let b7 : Bool := (decide (y6.1 > (4611686018427387903 : Int)))
   bif b7 then
    some (false, ())
   else
    let n8 : Int := (((ByteArray.size a0.2.2.2.2.2.2.2.2.2.1) : Nat) : Int)
    let b9 : Bool := (decide (n8 > (1200 : Int)))
    bif b9 then
     some (false, ())
    else
     let n10 : Int := (((List.length a0.2.2.2.2.2.2.2.2.2.2.2.2.1) : Nat) : Int)
     let b11 : Bool := (a0.1 == (2 : Int))
     bif b11 then
      obind (ranges_May a0.2.2.2.2.2.2.2.2.2.2.2.2.1) fun y12 =>
      bif y12.1 then
       let b13 : Bool := (decide (n10 > (0 : Int)))
       bif b13 then
        let b14 : Bool := (decide (n10 ≤ (32 : Int)))
        bif b14 then
         let n15 : Int := (Go.IntKind.wrap Go.IntKind.i64 (n10 - (1 : Int)))
         bif (decide (((0 : Int) ≤ n15) ∧ (n15 < (((List.length a0.2.2.2.2.2.2.2.2.2.2.2.2.1) : Nat) : Int)))) then
          let x16 : D_ranges_Range := (List.getD a0.2.2.2.2.2.2.2.2.2.2.2.2.1 (Int.toNat n15) (Ty.dflt T_ranges_Range))
          let b17 : Bool := (decide (x16.2.1 ≤ (4611686018427387903 : Int)))
          some (b17, ())
         else none
        else
         some (false, ())
       else
        some (false, ())
      else
       some (false, ())
     else
      let b18 : Bool := (a0.1 == (6 : Int))
      bif b18 then
       frame_May_0 a0.1 true a0
      else
       let b19 : Bool := (a0.1 == (8 : Int))
       frame_May_0 a0.1 b19 a0
theorem ex_frame_May : ∃ f, f = @b_frame_May := ⟨_, rfl⟩
noncomputable def frame_May := Classical.choose ex_frame_May
theorem frame_May_eq : @frame_May = @b_frame_May := Classical.choose_spec ex_frame_May
noncomputable def cb_frame_May : Con := ⟨[T_frame_Frame], r_frame_May, fun x => b_frame_May x.1⟩
noncomputable def c_frame_May : Con := ⟨[T_frame_Frame], r_frame_May, fun x => frame_May x.1⟩
theorem cb_frame_May_ok : cb_frame_May.Sound prog Inv gInv 34 :=
 con_run (M := m_frame_May) inv_g (f := f34) rfl ks_frame_May 100000 (X := x_frame_May_0) (fun base S0 cs0 hn hf => have hfin : H_frame_May base S0 := ⟨hn, hf⟩; o_frame_May_0 hfin) (by intro x; kernel_rfl)
theorem c_frame_May_ok : c_frame_May.Sound prog Inv gInv 34 := by
 have e : c_frame_May = cb_frame_May := by unfold c_frame_May cb_frame_May; rw [frame_May_eq]
 rw [e]; exact cb_frame_May_ok
end Go.Proofs.YtjdjlijjolibkaaDoor.V
namespace Go.Proofs.YtjdjlijjolibkaaDoor.V
open Go.RowKit
theorem equal_loop : ∀ (s1 s2 p1 p2 : List D_ranges_Range) (m : Nat), s1.length < m → p1.length = p2.length → s1.length = s2.length → (p1 ++ s1).length ≤ 9223372036854775807 →
  slices_Equal_ranges_Range_0 m (p1 ++ s1) (p2 ++ s2) (((p1 ++ s1).length : Nat) : Int) ((p1.length : Nat) : Int) = some (decide (s1 = s2), ()) := by
 intro s1
 induction s1 with
 | nil =>
  intro s2 p1 p2 m hm _ h2 _
  obtain ⟨m, rfl⟩ : ∃ k, m = k + 1 := ⟨m - 1, by omega⟩
  obtain rfl : s2 = [] := List.eq_nil_of_length_eq_zero (by simpa using h2.symm)
  simp only [slices_Equal_ranges_Range_0, t_slices_Equal_ranges_Range_0, mid_end, decide_false, cond_false, decide_true]
 | cons x s1 ih =>
  intro s2 p1 p2 m hm h1 h2 hl
  obtain ⟨m, rfl⟩ : ∃ k, m = k + 1 := ⟨m - 1, by omega⟩
  obtain ⟨y, s2, rfl⟩ : ∃ y t, s2 = y :: t := by
   cases s2 with
   | nil => simp at h2
   | cons y t => exact ⟨y, t, rfl⟩
  have e : ((p1.length : Nat) : Int) = ((p2.length : Nat) : Int) := by rw [h1]
  have g2 : ((p1.length : Nat) : Int) < (((p2 ++ y :: s2).length : Nat) : Int) := by rw [h1]; simp; omega
  have g3 : (p2 ++ y :: s2).getD p1.length (Ty.dflt T_ranges_Range) = y := by rw [h1, getD_mid]
  simp only [slices_Equal_ranges_Range_0, t_slices_Equal_ranges_Range_0, mid_lt, nn, and_true, decide_true, cond_true, toNat_len, getD_mid, g2, g3]
  obtain ⟨a, b, ⟨⟩⟩ := x
  obtain ⟨c, d, ⟨⟩⟩ := y
  by_cases hx : a = c ∧ b = d
  ·
   obtain ⟨rfl, rfl⟩ := hx
   simp only [beq_self_eq_true, Bool.and_self, Bool.not_true, cond_false]
   rw [mid_next' p1 (a, b, ()) (a, b, ()) s1 hl, snoc_app p1, snoc_app p2, ih s2 (p1 ++ [(a, b, ())]) (p2 ++ [(a, b, ())]) m (by simp at hm; omega) (by simp [h1]) (by simpa using h2) (by simpa using hl)]
   simp
  ·
   have : ((a == c) && ((b == d) && true)) = false := by
    simp only [Bool.and_true, Bool.and_eq_false_iff, beq_eq_false_iff_ne]
    by_cases e : a = c
    · exact .inr fun e2 => hx ⟨e, e2⟩
    · exact .inl e
   simp only [this, Bool.not_false, cond_true]
   rw [decide_eq_false]
   intro e
   simp only [List.cons.injEq, Prod.mk.injEq, and_true] at e
   exact hx e.1
theorem equal_is (a b : List D_ranges_Range) (ha : a.length ≤ 9223372036854775807) : slices_Equal_ranges_Range a b = some (decide (a = b), ()) := by
 rw [slices_Equal_ranges_Range_eq, b_slices_Equal_ranges_Range]
 by_cases h : a.length = b.length
 ·
  have : (((a.length : Nat) : Int) != ((b.length : Nat) : Int)) = false := by rw [h]; simp
  simp only [this, cond_false]
  rw [slices_Equal_ranges_Range_0'_eq, b_slices_Equal_ranges_Range_0']
  exact equal_loop a b [] [] _ (by simp) rfl h (by simp; omega)
 ·
  have : (((a.length : Nat) : Int) != ((b.length : Nat) : Int)) = true := by simp; omega
  simp only [this, cond_true]
  rw [decide_eq_false (fun e => h (by rw [e]))]
theorem three (a b c : Bool) : (bif a then bif b then (some (c, ()) : Option (Bool × Unit)) else some (false, ()) else some (false, ())) = some (a && b && c, ()) := by
 cases a <;> cases b <;> rfl
theorem same_is (f g : D_frame_Frame) (hf : f.2.2.2.2.2.2.2.2.2.2.2.2.1.length ≤ 9223372036854775807) : frame_Same f g = some (decide (f = g), ()) := by
 rw [frame_Same_eq, b_frame_Same, equal_is _ _ hf]
 simp only [obind_some, frame_Same_l1_eq, b_frame_Same_l1, toList_beq]
 obtain ⟨a1, a2, a3, a4, a5, a6, a7, a8, a9, a10, a11, a12, a13, ⟨⟩⟩ := f
 obtain ⟨b1, b2, b3, b4, b5, b6, b7, b8, b9, b10, b11, b12, b13, ⟨⟩⟩ := g
 simp only [Prod.mk.injEq, and_true]
 have e : ∀ x y : Int, (x == y) = decide (x = y) := fun x y => by by_cases h : x = y <;> simp [h]
 have e2 : ∀ x y : Bool, (x == y) = decide (x = y) := fun x y => by cases x <;> cases y <;> rfl
 simp only [e, e2, Bool.and_true]
 by_cases h13 : a13 = b13
 ·
  simp only [h13, decide_true, Bool.not_true, cond_false, and_true]
  by_cases h1 : a1 = b1 ∧ a2 = b2 ∧ a3 = b3 ∧ a4 = b4 ∧ a5 = b5 ∧ a6 = b6 ∧ a7 = b7 ∧ a8 = b8
  ·
   obtain ⟨rfl, rfl, rfl, rfl, rfl, rfl, rfl, rfl⟩ := h1
   simp only [decide_true, Bool.and_self, cond_true, true_and]
   by_cases h9 : a9 = b9
   ·
    by_cases h10 : a10 = b10
    ·
     by_cases h11 : a11 = b11
     · simp only [h9, h10, h11, decide_true, cond_true, true_and]
     · simp only [h9, h10, h11, decide_true, decide_false, cond_true, cond_false, true_and, false_and]
    · simp only [h9, h10, decide_true, decide_false, cond_true, cond_false, true_and, false_and]
   · simp only [h9, decide_false, cond_false, false_and]
  ·
   have : (decide (a1 = b1) && (decide (a2 = b2) && (decide (a3 = b3) && (decide (a4 = b4) && (decide (a5 = b5) && (decide (a6 = b6) && (decide (a7 = b7) && decide (a8 = b8)))))))) = false := by
    rw [Bool.eq_false_iff]
    intro h
    simp only [Bool.and_eq_true, decide_eq_true_eq] at h
    exact h1 h
   simp only [this, cond_false]
   rw [eq_comm]
   simp only [Option.some.injEq, Prod.mk.injEq, decide_eq_false_iff_not, and_true]
   exact fun h => h1 ⟨h.1, h.2.1, h.2.2.1, h.2.2.2.1, h.2.2.2.2.1, h.2.2.2.2.2.1, h.2.2.2.2.2.2.1, h.2.2.2.2.2.2.2.1⟩
 · simp only [h13, decide_false, Bool.not_false, cond_true, and_false]
/-! which parts a kind has -/
def kindB (k : Int) : Bool := [0, 1, 2, 4, 5, 6, 8, 16, 17, 18, 19, 20, 21, 22, 23, 24, 25, 26, 27, 28, 29, 30].contains k
def hasId (k : Int) : Bool := [4, 5, 8, 17, 21].contains k
def hasOff (k : Int) : Bool := [6, 8].contains k
def hasMax (k : Int) : Bool := [4, 16, 17, 18, 19, 20, 21, 22, 23].contains k
def hasCode (k : Int) : Bool := [4, 5, 28, 29].contains k
def hasSeq (k : Int) : Bool := [24, 25].contains k
def hasPrior (k : Int) : Bool := [24].contains k
def hasDelay (k : Int) : Bool := [2, 28].contains k
def hasFin (k : Int) : Bool := [8].contains k
def hasData (k : Int) : Bool := [6, 8, 28, 29].contains k
def hasCid (k : Int) : Bool := [24].contains k
def hasToken (k : Int) : Bool := [24, 26, 27].contains k
def hasSet (k : Int) : Bool := [2].contains k
def onlyF (f : D_frame_Frame) : D_frame_Frame :=
 let k := f.1
 (k, bif hasId k then f.2.1 else 0, bif hasOff k then f.2.2.1 else 0, bif hasMax k then f.2.2.2.1 else 0, bif hasCode k then f.2.2.2.2.1 else 0, bif hasSeq k then f.2.2.2.2.2.1 else 0,
  bif hasPrior k then f.2.2.2.2.2.2.1 else 0, bif hasDelay k then f.2.2.2.2.2.2.2.1 else 0, bif hasFin k then f.2.2.2.2.2.2.2.2.1 else false, bif hasData k then f.2.2.2.2.2.2.2.2.2.1 else ⟨#[]⟩,
  bif hasCid k then f.2.2.2.2.2.2.2.2.2.2.1 else ⟨#[]⟩, bif hasToken k then f.2.2.2.2.2.2.2.2.2.2.2.1 else ⟨#[]⟩, bif hasSet k then f.2.2.2.2.2.2.2.2.2.2.2.2.1 else [], ())
theorem kinds {k : Int} (h : kindB k = true) : k = 0 ∨ k = 1 ∨ k = 2 ∨ k = 4 ∨ k = 5 ∨ k = 6 ∨ k = 8 ∨ k = 16 ∨ k = 17 ∨ k = 18 ∨ k = 19 ∨ k = 20 ∨ k = 21 ∨ k = 22 ∨ k = 23 ∨ k = 24 ∨ k = 25 ∨ k = 26 ∨ k = 27 ∨ k = 28 ∨ k = 29 ∨ k = 30 := by
 simpa [kindB] using h
theorem nokind {k : Int} (h : kindB k = false) : k ≠ 0 ∧ k ≠ 1 ∧ k ≠ 2 ∧ k ≠ 4 ∧ k ≠ 5 ∧ k ≠ 6 ∧ k ≠ 8 ∧ k ≠ 16 ∧ k ≠ 17 ∧ k ≠ 18 ∧ k ≠ 19 ∧ k ≠ 20 ∧ k ≠ 21 ∧ k ≠ 22 ∧ k ≠ 23 ∧ k ≠ 24 ∧ k ≠ 25 ∧ k ≠ 26 ∧ k ≠ 27 ∧ k ≠ 28 ∧ k ≠ 29 ∧ k ≠ 30 := by
 simpa [kindB] using h
theorem only_is (f : D_frame_Frame) : frame_Frame_only f = some (bif kindB f.1 then onlyF f else (0, 0, 0, 0, 0, 0, 0, 0, false, ⟨#[]⟩, ⟨#[]⟩, ⟨#[]⟩, [], ()), kindB f.1, ()) := by
 obtain ⟨k, a2, a3, a4, a5, a6, a7, a8, a9, a10, a11, a12, a13, ⟨⟩⟩ := f
 simp only [frame_Frame_only_eq, b_frame_Frame_only, frame_Frame_only_0_eq, b_frame_Frame_only_0, frame_Frame_only_1_eq, b_frame_Frame_only_1, frame_Frame_only_2_eq, b_frame_Frame_only_2, frame_Frame_only_3_eq, b_frame_Frame_only_3]
 cases h : kindB k with
 | true =>
  rcases kinds h with rfl | rfl | rfl | rfl | rfl | rfl | rfl | rfl | rfl | rfl | rfl | rfl | rfl | rfl | rfl | rfl | rfl | rfl | rfl | rfl | rfl | rfl <;> rfl
 | false =>
  obtain ⟨h0, h1, h2, h4, h5, h6, h8, h16, h17, h18, h19, h20, h21, h22, h23, h24, h25, h26, h27, h28, h29, h30⟩ := nokind h
  simp only [beq_false_of_ne h0, beq_false_of_ne h1, beq_false_of_ne h2, beq_false_of_ne h4, beq_false_of_ne h5, beq_false_of_ne h6, beq_false_of_ne h8, beq_false_of_ne h16, beq_false_of_ne h17, beq_false_of_ne h18, beq_false_of_ne h19,
   beq_false_of_ne h20, beq_false_of_ne h21, beq_false_of_ne h22, beq_false_of_ne h23, beq_false_of_ne h24, beq_false_of_ne h25, beq_false_of_ne h26, beq_false_of_ne h27, beq_false_of_ne h28, beq_false_of_ne h29, beq_false_of_ne h30, cond_false]
def mayR : Int → List D_ranges_Range → Bool
 | _, [] => true
 | e, r :: l => decide (r.1 ≤ r.2.1) && decide (r.2.1 < 9223372036854775808) && decide (e ≤ r.1) && mayR (r.2.1 + 2) l
theorem mayR_loop : ∀ (suf pre : List D_ranges_Range) (e : Int) (m : Nat), suf.length < m → (pre ++ suf).length ≤ 9223372036854775807 → (∀ r ∈ suf, 0 ≤ r.2.1) →
  ranges_May_0 m e (pre ++ suf) (((pre ++ suf).length : Nat) : Int) ((pre.length : Nat) : Int) = some (mayR e suf, ()) := by
 intro suf
 induction suf with
 | nil =>
  intro pre e m hm _ _
  obtain ⟨m, rfl⟩ : ∃ k, m = k + 1 := ⟨m - 1, by omega⟩
  simp only [ranges_May_0, t_ranges_May_0, mid_end, decide_false, cond_false, mayR]
 | cons x suf ih =>
  intro pre e m hm hl hr
  obtain ⟨m, rfl⟩ : ∃ k, m = k + 1 := ⟨m - 1, by omega⟩
  have h0 := hr x (by simp)
  simp only [ranges_May_0, t_ranges_May_0, mid_lt, nn, and_true, decide_true, cond_true, toNat_len, getD_mid, ranges_Range_empty_eq, b_ranges_Range_empty, obind_some, mayR]
  by_cases h1 : x.2.1 < x.1
  ·
   have : ¬ x.1 ≤ x.2.1 := by omega
   simp only [h1, this, decide_true, cond_true, decide_false, Bool.false_and]
  ·
   have h1' : x.1 ≤ x.2.1 := by omega
   simp only [h1, h1', decide_false, cond_false, decide_true, Bool.true_and]
   by_cases h2 : x.2.1 < 9223372036854775808
   ·
    have : ¬ x.2.1 ≥ 9223372036854775808 := by omega
    simp only [h2, this, decide_false, cond_false, decide_true, Bool.true_and]
    by_cases h3 : x.1 < e
    ·
     have : ¬ e ≤ x.1 := by omega
     simp only [h3, this, decide_true, cond_true, decide_false, Bool.false_and]
    ·
     have h3' : e ≤ x.1 := by omega
     simp only [h3, h3', decide_false, cond_false, decide_true, Bool.true_and]
     rw [wrap_u64 _ (by omega) (by omega), mid_next' pre x x suf hl, snoc_app, ih (pre ++ [x]) _ m (by simp at hm; omega) (by simpa using hl) (fun r h => hr r (by simp [h]))]
   ·
    have : x.2.1 ≥ 9223372036854775808 := by omega
    simp only [h2, this, decide_true, cond_true, decide_false, Bool.false_and]
theorem mayR_is (l : List D_ranges_Range) (hl : l.length ≤ 9223372036854775807) (hr : ∀ r ∈ l, 0 ≤ r.2.1) : ranges_May l = some (mayR 0 l, ()) := by
 rw [ranges_May_eq, b_ranges_May, ranges_May_0'_eq, b_ranges_May_0']
 exact mayR_loop l [] 0 _ (by simp) (by simp; omega) hr
theorem max_loop : ∀ (suf pre : List Int) (x : Int) (m : Nat), suf.length < m → (pre ++ suf).length ≤ 4294967296 →
  slices_Max_uint64_0 m (pre ++ suf) x ((pre.length : Nat) : Int) = some (suf.foldl (fun a b => if b > a then b else a) x, ()) := by
 intro suf
 induction suf with
 | nil =>
  intro pre x m hm _
  obtain ⟨m, rfl⟩ : ∃ k, m = k + 1 := ⟨m - 1, by omega⟩
  simp only [slices_Max_uint64_0, t_slices_Max_uint64_0, mid_end, decide_false, cond_false, List.foldl_nil]
 | cons y suf ih =>
  intro pre x m hm hl
  obtain ⟨m, rfl⟩ : ∃ k, m = k + 1 := ⟨m - 1, by omega⟩
  simp only [slices_Max_uint64_0, t_slices_Max_uint64_0, mid_lt, nn, and_true, decide_true, cond_true, toNat_len, getD_mid, List.foldl_cons]
  rw [mid_next pre y y suf hl, snoc_app, ih (pre ++ [y]) _ m (by simp at hm; omega) (by simpa using hl)]
theorem foldmax (b : Int) : ∀ (l : List Int) (x : Int), l.foldl (fun a b => if b > a then b else a) x ≤ b ↔ x ≤ b ∧ ∀ y ∈ l, y ≤ b
 | [], x => by simp
 | y :: l, x => by
  rw [List.foldl_cons, foldmax b l]
  simp only [List.mem_cons, forall_eq_or_imp]
  constructor
  · rintro ⟨h1, h2⟩; refine ⟨?_, ?_, h2⟩ <;> split at h1 <;> omega
  · rintro ⟨h1, h2, h3⟩; refine ⟨?_, h3⟩; split <;> omega
theorem max_is (x : Int) (l : List Int) (hl : l.length ≤ 1000) : ∃ y, slices_Max_uint64 (x :: l) = some (y, ()) ∧ ∀ b, y ≤ b ↔ x ≤ b ∧ ∀ z ∈ l, z ≤ b := by
 refine ⟨_, ?_, fun b => foldmax b l x⟩
 rw [slices_Max_uint64_eq, b_slices_Max_uint64]
 have h1 : ¬ ((((x :: l).length : Nat) : Int) < 1) := by simp; omega
 have h2 : (0 : Int) < (((x :: l).length : Nat) : Int) := by simp
 simp only [h1, h2, decide_false, cond_false, Int.le_refl, and_true, decide_true, cond_true, List.getD_cons_zero]
 rw [slices_Max_uint64_0'_eq, b_slices_Max_uint64_0']
 exact max_loop l [x] x _ (by simp) (by simp; omega)
def lastHi (l : List D_ranges_Range) : Int := (l.getD (l.length - 1) (Ty.dflt T_ranges_Range)).2.1
def extraF (f : D_frame_Frame) : Bool :=
 let k := f.1
 bif k == 2 then mayR 0 f.2.2.2.2.2.2.2.2.2.2.2.2.1 && decide (0 < f.2.2.2.2.2.2.2.2.2.2.2.2.1.length) && decide (f.2.2.2.2.2.2.2.2.2.2.2.2.1.length ≤ 32) && decide (lastHi f.2.2.2.2.2.2.2.2.2.2.2.2.1 ≤ 4611686018427387903)
 else bif k == 6 || k == 8 then decide (f.2.2.1 + ((f.2.2.2.2.2.2.2.2.2.1.size : Nat) : Int) ≤ 4611686018427387903)
 else bif k == 24 then decide (f.2.2.2.2.2.2.1 ≤ f.2.2.2.2.2.1) && (((f.2.2.2.2.2.2.2.2.2.2.1.size : Nat) : Int) == 8) && (((f.2.2.2.2.2.2.2.2.2.2.2.1.size : Nat) : Int) == 16)
 else bif k == 26 || k == 27 then (((f.2.2.2.2.2.2.2.2.2.2.2.1.size : Nat) : Int) == 8)
 else bif k == 18 || k == 19 || k == 22 || k == 23 then decide (f.2.2.2.1 ≤ 1152921504606846976)
 else true
def numsOk (f : D_frame_Frame) : Bool := decide (f.2.1 ≤ 4611686018427387903 ∧ f.2.2.1 ≤ 4611686018427387903 ∧ f.2.2.2.1 ≤ 4611686018427387903 ∧ f.2.2.2.2.1 ≤ 4611686018427387903 ∧ f.2.2.2.2.2.1 ≤ 4611686018427387903 ∧ f.2.2.2.2.2.2.1 ≤ 4611686018427387903 ∧ f.2.2.2.2.2.2.2.1 ≤ 4611686018427387903)
def mayFr (f : D_frame_Frame) : Bool := kindB f.1 && decide (f = onlyF f) && numsOk f && decide (f.2.2.2.2.2.2.2.2.2.1.size ≤ 1200) && extraF f
structure FrOk (f : D_frame_Frame) : Prop where
 kind : 0 ≤ f.1 ∧ f.1 < 18446744073709551616
 id : 0 ≤ f.2.1 ∧ f.2.1 < 18446744073709551616
 off : 0 ≤ f.2.2.1 ∧ f.2.2.1 < 18446744073709551616
 max : 0 ≤ f.2.2.2.1 ∧ f.2.2.2.1 < 18446744073709551616
 code : 0 ≤ f.2.2.2.2.1 ∧ f.2.2.2.2.1 < 18446744073709551616
 seq : 0 ≤ f.2.2.2.2.2.1 ∧ f.2.2.2.2.2.1 < 18446744073709551616
 prior : 0 ≤ f.2.2.2.2.2.2.1 ∧ f.2.2.2.2.2.2.1 < 18446744073709551616
 delay : 0 ≤ f.2.2.2.2.2.2.2.1 ∧ f.2.2.2.2.2.2.2.1 < 18446744073709551616
 set : ∀ r ∈ f.2.2.2.2.2.2.2.2.2.2.2.2.1, (0 ≤ r.1 ∧ r.1 < 18446744073709551616) ∧ (0 ≤ r.2.1 ∧ r.2.1 < 18446744073709551616)
 few : f.2.2.2.2.2.2.2.2.2.2.2.2.1.length ≤ 9223372036854775807
theorem beq_dec (x y : Int) : (x == y) = decide (x = y) := by by_cases h : x = y <;> simp [h]
theorem some_b {a b : Bool} (h : a = b) : (some (a, ()) : Option (Bool × Unit)) = some (b, ()) := by rw [h]
theorem may_is_fr (f : D_frame_Frame) (h : FrOk f) : frame_May f = some (mayFr f, ()) := by
 rw [frame_May_eq, b_frame_May, only_is]
 simp only [obind_some, mayFr]
 cases hk : kindB f.1 with
 | false => simp only [Bool.not_false, cond_true, Bool.false_and]
 | true =>
  simp only [Bool.not_true, cond_false, cond_true, Bool.true_and, same_is f _ h.few, obind_some]
  by_cases ho : f = onlyF f
  ·
   simp only [← ho, decide_true, Bool.not_true, cond_false, Bool.true_and]
   obtain ⟨y, ey, hy⟩ := max_is f.2.1 [f.2.2.1, f.2.2.2.1, f.2.2.2.2.1, f.2.2.2.2.2.1, f.2.2.2.2.2.2.1, f.2.2.2.2.2.2.2.1] (by simp)
   simp only [ey, obind_some]
   have hn : numsOk f = decide (y ≤ 4611686018427387903) := by
    unfold numsOk
    rw [decide_eq_decide, hy]
    simp
   rw [hn]
   by_cases h1 : y ≤ 4611686018427387903
   ·
    have : ¬ y > 4611686018427387903 := by omega
    simp only [h1, this, decide_true, decide_false, cond_false, Bool.true_and]
    by_cases h2 : f.2.2.2.2.2.2.2.2.2.1.size ≤ 1200
    ·
     have : ¬ ((f.2.2.2.2.2.2.2.2.2.1.size : Nat) : Int) > 1200 := by omega
     simp only [h2, this, decide_true, decide_false, cond_false, Bool.true_and]
     have hoff := (hy 4611686018427387903).mp h1
     have ho1 : f.2.2.1 ≤ 4611686018427387903 := hoff.2 _ (by simp)
     have w1 : IntKind.wrap .u64 ((f.2.2.2.2.2.2.2.2.2.1.size : Nat) : Int) = ((f.2.2.2.2.2.2.2.2.2.1.size : Nat) : Int) := wrap_u64 _ (by omega) (by omega)
     have w2 : IntKind.wrap .u64 (f.2.2.1 + ((f.2.2.2.2.2.2.2.2.2.1.size : Nat) : Int)) = f.2.2.1 + ((f.2.2.2.2.2.2.2.2.2.1.size : Nat) : Int) := wrap_u64 _ (by have := h.off; omega) (by omega)
     simp only [frame_May_0_eq, b_frame_May_0, frame_May_1_eq, b_frame_May_1, frame_May_2_eq, b_frame_May_2, w1, w2, extraF]
     by_cases e2 : f.1 = 2
     ·
      simp only [e2, beq_self_eq_true, cond_true]
      rw [mayR_is _ h.few (fun r hr => (h.set r hr).2.1)]
      simp only [obind_some]
      cases mayR 0 f.2.2.2.2.2.2.2.2.2.2.2.2.1 with
      | false => simp only [cond_false, Bool.false_and]
      | true =>
       simp only [cond_true, Bool.true_and]
       have hfew := h.few
       unfold lastHi
       generalize f.2.2.2.2.2.2.2.2.2.2.2.2.1 = l at *
       by_cases l0 : 0 < l.length
       ·
        by_cases l1 : l.length ≤ 32
        ·
         have c0 : ((l.length : Nat) : Int) > 0 := by omega
         have c1 : ((l.length : Nat) : Int) ≤ 32 := by omega
         have c2 : IntKind.wrap .i64 (((l.length : Nat) : Int) - 1) = ((l.length - 1 : Nat) : Int) := by rw [wrap_i64 _ (by omega) (by omega)]; omega
         have c3 : (0 : Int) ≤ ((l.length - 1 : Nat) : Int) ∧ ((l.length - 1 : Nat) : Int) < ((l.length : Nat) : Int) := by omega
         simp only [c0, c1, c2, c3, and_self, l0, l1, decide_true, cond_true, Bool.true_and, Int.toNat_natCast]
        ·
         have c0 : ((l.length : Nat) : Int) > 0 := by omega
         have c1 : ¬ ((l.length : Nat) : Int) ≤ 32 := by omega
         simp only [c0, c1, l0, l1, decide_true, decide_false, cond_true, cond_false, Bool.true_and, Bool.false_and]
       ·
        have c0 : ¬ ((l.length : Nat) : Int) > 0 := by omega
        simp only [c0, l0, decide_false, cond_false, Bool.false_and]
     ·
      have b2 := beq_false_of_ne e2
      simp only [b2, cond_false]
      rcases kinds hk with e | e | e | e | e | e | e | e | e | e | e | e | e | e | e | e | e | e | e | e | e | e <;> rw [e] <;> (try rfl)
      exact three _ _ _
    ·
     have : ((f.2.2.2.2.2.2.2.2.2.1.size : Nat) : Int) > 1200 := by omega
     simp only [h2, this, decide_true, decide_false, cond_true, Bool.false_and]
   ·
    have : y > 4611686018427387903 := by omega
    simp only [h1, this, decide_true, decide_false, cond_true, Bool.false_and]
  · simp only [ho, decide_false, Bool.not_false, cond_true, Bool.false_and]
end Go.Proofs.YtjdjlijjolibkaaDoor.V
namespace Go.Proofs.YtjdjlijjolibkaaDoor.V
open Go.RowKit Go.Proofs.Tryd
set_option maxRecDepth 100000
set_option linter.unusedVariables false
noncomputable def m_slices_Clone_ranges_Range : Mach prog Inv gInv := mach bas [(116, f116)] ⟨ok116, trivial⟩ [] trivial [] trivial [] trivial
/-! ### slices.Clone: a row of the caller's own -/
@[reducible] def t_slices_Clone_ranges_Range : Ty := T_ranges_Range
def slices_Clone_ranges_Range (l : List t_slices_Clone_ranges_Range.den) : Option (List t_slices_Clone_ranges_Range.den) := bif decide (l.length ≤ 4294967296) then some l else none
noncomputable def c_slices_Clone_ranges_Range : OCon := ⟨[.slice t_slices_Clone_ranges_Range], t_slices_Clone_ranges_Range, fun x => slices_Clone_ranges_Range x.1⟩
@[reducible] noncomputable def p_slices_Clone_ranges_Range : CPat := ⟨⟨116, [1, 0, 0], some 1, [.rows t_slices_Clone_ranges_Range false, .any, .nilSlice, .rows t_slices_Clone_ranges_Range false], 4⟩, [], [], 0⟩
def j_slices_Clone_ranges_Range (a b : List t_slices_Clone_ranges_Range.den) : Option (List t_slices_Clone_ranges_Range.den) := match b with
 | [] => match a with
  | [] => some []
  | _ :: _ => none
 | _ :: _ => slices_Clone_ranges_Range a
theorem y_slices_Clone_ranges_Range (x : denC p_slices_Clone_ranges_Range) : runB m_slices_Clone_ranges_Range (finO t_slices_Clone_ranges_Range) [116] nowhere 1000 (adv (instC p_slices_Clone_ranges_Range x) 1 (some 4) (.val (.bool true)) (instC p_slices_Clone_ranges_Range x).H ⟨[], [], []⟩) = some [] := by kernel_rfl
theorem n_slices_Clone_ranges_Range (x : denC p_slices_Clone_ranges_Range) : runB m_slices_Clone_ranges_Range (finO t_slices_Clone_ranges_Range) [116] nowhere 1000 (adv (instC p_slices_Clone_ranges_Range x) 1 (some 4) (.val (.bool false)) (instC p_slices_Clone_ranges_Range x).H ⟨[], [], []⟩) = bif decide (0 + x.1.1.length ≤ 4294967296) then some x.1.1 else none := by kernel_rfl
theorem s_slices_Clone_ranges_Range {base S0 cs0} (hfin : FinOk (finO t_slices_Clone_ranges_Range) base S0 (OPost t_slices_Clone_ranges_Range base S0)) : JSound m_slices_Clone_ranges_Range base S0 cs0 (OPost t_slices_Clone_ranges_Range base S0) p_slices_Clone_ranges_Range (fun x => j_slices_Clone_ranges_Range x.1.1 x.1.2.2.2.1) := by
 intro x r h
 change j_slices_Clone_ranges_Range x.1.1 x.1.2.2.2.1 = some r at h
 have yes : x.1.2.2.2.1 = [] → j_slices_Clone_ranges_Range x.1.1 x.1.2.2.2.1 = some r → runB m_slices_Clone_ranges_Range (finO t_slices_Clone_ranges_Range) [116] nowhere 1000 (adv (instC p_slices_Clone_ranges_Range x) 1 (some 4) (.val (.bool true)) (instC p_slices_Clone_ranges_Range x).H ⟨[], [], []⟩) = some r := by
  intro hb hj
  rw [hb] at hj
  have e := y_slices_Clone_ranges_Range x
  rw [e]
  generalize x.1.1 = a at hj
  cases a with
  | nil => exact hj
  | cons _ _ => cases hj
 have no : runB m_slices_Clone_ranges_Range (finO t_slices_Clone_ranges_Range) [116] nowhere 1000 (adv (instC p_slices_Clone_ranges_Range x) 1 (some 4) (.val (.bool false)) (instC p_slices_Clone_ranges_Range x).H ⟨[], [], []⟩) = some r := by
  have e := n_slices_Clone_ranges_Range x
  rw [e, Nat.zero_add]
  show slices_Clone_ranges_Range x.1.1 = some r
  generalize x.1.1 = a at *
  generalize x.1.2.2.2.1 = b at *
  cases b with
  | nil => cases a with
   | nil => rw [← h]; rfl
   | cons _ _ => cases h
  | cons _ _ => exact h
 exact nil_sound (M := m_slices_Clone_ranges_Range) (f := f116) (T := 32) (e := 127) (x := .tmp 3) (t := t_slices_Clone_ranges_Range) (l := x.1.2.2.2.1) (cl := false) rfl rfl rfl rfl rfl rfl rfl rfl underlying32 rfl
  (fun hb => run_sound hfin OSound.nowhere (yes hb h)) (run_sound hfin OSound.nowhere no)
theorem c_slices_Clone_ranges_Range_ok : c_slices_Clone_ranges_Range.Sound prog Inv gInv 116 := by
 refine ocon_sound (M := m_slices_Clone_ranges_Range) inv_g (f := f116) rfl fun x y h base S0 cs0 hn => ?_
 have hfin := finO_ok t_slices_Clone_ranges_Range base S0
 refine run_sound hfin (X := cut p_slices_Clone_ranges_Range (fun x => j_slices_Clone_ranges_Range x.1.1 x.1.2.2.2.1) nowhere) (OSound.cut OSound.nowhere (Nat.le_of_eq hn) (s_slices_Clone_ranges_Range hfin)) (Ks := [116]) (n := 1000) ?_
 have e : runB m_slices_Clone_ranges_Range (finO t_slices_Clone_ranges_Range) [116] (cut p_slices_Clone_ranges_Range (fun x => j_slices_Clone_ranges_Range x.1.1 x.1.2.2.2.1) nowhere) 1000 (startP 116 f116.ntmps (pvsOf c_slices_Clone_ranges_Range.params x)) = j_slices_Clone_ranges_Range x.1 x.1 := by kernel_rfl
 refine e.trans (Eq.trans ?_ h)
 show j_slices_Clone_ranges_Range x.1 x.1 = slices_Clone_ranges_Range x.1
 generalize x.1 = l
 cases l with
 | nil => rfl
 | cons _ _ => rfl
noncomputable def m_strings_Builder_copyCheck_h2 : Mach prog Inv gInv := mach bas [(147, f147)] ⟨ok147, trivial⟩ [] trivial [] trivial [] trivial
@[reducible] noncomputable def pa_strings_Builder_copyCheck_h2 : List Pat := [.ptr 0 0]
@[reducible] noncomputable def pH_strings_Builder_copyCheck_h2 : List HPat := [.cells 132 [.nilPtr, .nilSlice]]
/-! ### (*strings.Builder).copyCheck -/
abbrev R_strings_Builder_copyCheck_h2 : Type := Unit
@[reducible] noncomputable def qa_strings_Builder_copyCheck_h2 : List Pat := []
@[reducible] noncomputable def qH_strings_Builder_copyCheck_h2 : List HPat := [.cells 132 [.ptr 0 0, .nilSlice]]
def ks_strings_Builder_copyCheck_h2 : List Nat := [147]
noncomputable def b_strings_Builder_copyCheck_h2 : Option R_strings_Builder_copyCheck_h2 :=
 some ()
theorem ex_strings_Builder_copyCheck_h2 : ∃ f, f = @b_strings_Builder_copyCheck_h2 := ⟨_, rfl⟩
noncomputable def strings_Builder_copyCheck_h2 := Classical.choose ex_strings_Builder_copyCheck_h2
theorem strings_Builder_copyCheck_h2_eq : @strings_Builder_copyCheck_h2 = @b_strings_Builder_copyCheck_h2 := Classical.choose_spec ex_strings_Builder_copyCheck_h2
noncomputable def hb_strings_Builder_copyCheck_h2 : HCon := HCon.mk0 pa_strings_Builder_copyCheck_h2 pH_strings_Builder_copyCheck_h2 qa_strings_Builder_copyCheck_h2 qH_strings_Builder_copyCheck_h2 R_strings_Builder_copyCheck_h2 (fun x => b_strings_Builder_copyCheck_h2) (fun r => ((), (((), ((), ())), ()))) (fun y => (())) (fun _ => rfl)
noncomputable def h_strings_Builder_copyCheck_h2 : HCon := HCon.mk0 pa_strings_Builder_copyCheck_h2 pH_strings_Builder_copyCheck_h2 qa_strings_Builder_copyCheck_h2 qH_strings_Builder_copyCheck_h2 R_strings_Builder_copyCheck_h2 (fun x => strings_Builder_copyCheck_h2) (fun r => ((), (((), ((), ())), ()))) (fun y => (())) (fun _ => rfl)
theorem hb_strings_Builder_copyCheck_h2_ok : hb_strings_Builder_copyCheck_h2.Sound prog Inv gInv 147 :=
 hcon_run (M := m_strings_Builder_copyCheck_h2) (f := f147) rfl ks_strings_Builder_copyCheck_h2 100000 (X := nowhere) (fun base S0 cs0 hn hf => OSound.nowhere) (by intro x; kernel_rfl)
theorem h_strings_Builder_copyCheck_h2_ok : h_strings_Builder_copyCheck_h2.Sound prog Inv gInv 147 := by
 have e : h_strings_Builder_copyCheck_h2 = hb_strings_Builder_copyCheck_h2 := by unfold h_strings_Builder_copyCheck_h2 hb_strings_Builder_copyCheck_h2; rw [strings_Builder_copyCheck_h2_eq]
 rw [e]; exact hb_strings_Builder_copyCheck_h2_ok
noncomputable def m_frame_writer_numbers_h0 : Mach prog Inv gInv := mach bas [(74, f74), (115, f115), (147, f147)] ⟨ok74, ok115, ok147, trivial⟩ [(114, c_varint_Puts)] ⟨⟨c_varint_Puts_ok, FnOk.callable ok114⟩, trivial⟩ [] trivial [(147, h_strings_Builder_copyCheck_h0), (147, h_strings_Builder_copyCheck_h1), (147, h_strings_Builder_copyCheck_h2)] ⟨⟨h_strings_Builder_copyCheck_h0_ok, FnOk.callable ok147⟩, ⟨h_strings_Builder_copyCheck_h1_ok, FnOk.callable ok147⟩, ⟨h_strings_Builder_copyCheck_h2_ok, FnOk.callable ok147⟩, trivial⟩
@[reducible] noncomputable def pa_frame_writer_numbers_h0 : List Pat := [.ptr 0 0, .all 1]
@[reducible] noncomputable def pH_frame_writer_numbers_h0 : List HPat := [.cells 132 [.nilPtr, .nilSlice], .row (.int .u64)]
/-! ### (*domino/frame.writer).numbers -/
abbrev R_frame_writer_numbers_h0 : Type := (List Int) × (List Int) × Unit
@[reducible] noncomputable def qa_frame_writer_numbers_h0 : List Pat := []
@[reducible] noncomputable def qH_frame_writer_numbers_h0 : List HPat := [.cells 132 [.ptr 0 0, .all 2], .fro (.int .u64), .row (.byt 5)]
def ks_frame_writer_numbers_h0 : List Nat := [74, 115, 147]
noncomputable def b_frame_writer_numbers_h0 (l0 : (List Int)) : Option R_frame_writer_numbers_h0 :=
 obind (varint_Puts l0) fun y1 =>
 obind strings_Builder_copyCheck_h2 fun y2 =>
 bif (decide ((List.length (strBytes y1.1)) ≤ 4294967296)) then
  let l3 : (List Int) := (strBytes y1.1)
  let n4 : Int := (((ByteArray.size y1.1) : Nat) : Int)
  some (l0, (l3, ()))
 else none
theorem ex_frame_writer_numbers_h0 : ∃ f, f = @b_frame_writer_numbers_h0 := ⟨_, rfl⟩
noncomputable def frame_writer_numbers_h0 := Classical.choose ex_frame_writer_numbers_h0
theorem frame_writer_numbers_h0_eq : @frame_writer_numbers_h0 = @b_frame_writer_numbers_h0 := Classical.choose_spec ex_frame_writer_numbers_h0
noncomputable def hb_frame_writer_numbers_h0 : HCon := HCon.mk0 pa_frame_writer_numbers_h0 pH_frame_writer_numbers_h0 qa_frame_writer_numbers_h0 qH_frame_writer_numbers_h0 R_frame_writer_numbers_h0 (fun x => b_frame_writer_numbers_h0 x.2.2.1) (fun r => ((), (((), ((), ())), (r.1, (r.2.1, ()))))) (fun y => (y.2.2.1, y.2.2.2.1, ())) (fun _ => rfl)
noncomputable def h_frame_writer_numbers_h0 : HCon := HCon.mk0 pa_frame_writer_numbers_h0 pH_frame_writer_numbers_h0 qa_frame_writer_numbers_h0 qH_frame_writer_numbers_h0 R_frame_writer_numbers_h0 (fun x => frame_writer_numbers_h0 x.2.2.1) (fun r => ((), (((), ((), ())), (r.1, (r.2.1, ()))))) (fun y => (y.2.2.1, y.2.2.2.1, ())) (fun _ => rfl)
theorem hb_frame_writer_numbers_h0_ok : hb_frame_writer_numbers_h0.Sound prog Inv gInv 74 :=
 hcon_run (M := m_frame_writer_numbers_h0) (f := f74) rfl ks_frame_writer_numbers_h0 100000 (X := nowhere) (fun base S0 cs0 hn hf => OSound.nowhere) (by intro x; kernel_rfl)
theorem h_frame_writer_numbers_h0_ok : h_frame_writer_numbers_h0.Sound prog Inv gInv 74 := by
 have e : h_frame_writer_numbers_h0 = hb_frame_writer_numbers_h0 := by unfold h_frame_writer_numbers_h0 hb_frame_writer_numbers_h0; rw [frame_writer_numbers_h0_eq]
 rw [e]; exact hb_frame_writer_numbers_h0_ok
noncomputable def m_strings_Builder_copyCheck_h3 : Mach prog Inv gInv := mach bas [(147, f147)] ⟨ok147, trivial⟩ [] trivial [] trivial [] trivial
@[reducible] noncomputable def pa_strings_Builder_copyCheck_h3 : List Pat := [.ptr 0 0]
@[reducible] noncomputable def pH_strings_Builder_copyCheck_h3 : List HPat := [.cells 132 [.ptr 0 0, .all 1], .row (.byt 5)]
/-! ### (*strings.Builder).copyCheck -/
abbrev R_strings_Builder_copyCheck_h3 : Type := (List Int) × Unit
@[reducible] noncomputable def qa_strings_Builder_copyCheck_h3 : List Pat := []
@[reducible] noncomputable def qH_strings_Builder_copyCheck_h3 : List HPat := [.cells 132 [.ptr 0 0, .all 1], .row (.byt 5)]
def ks_strings_Builder_copyCheck_h3 : List Nat := [147]
noncomputable def b_strings_Builder_copyCheck_h3 (l0 : (List Int)) : Option R_strings_Builder_copyCheck_h3 :=
 some (l0, ())
theorem ex_strings_Builder_copyCheck_h3 : ∃ f, f = @b_strings_Builder_copyCheck_h3 := ⟨_, rfl⟩
noncomputable def strings_Builder_copyCheck_h3 := Classical.choose ex_strings_Builder_copyCheck_h3
theorem strings_Builder_copyCheck_h3_eq : @strings_Builder_copyCheck_h3 = @b_strings_Builder_copyCheck_h3 := Classical.choose_spec ex_strings_Builder_copyCheck_h3
noncomputable def hb_strings_Builder_copyCheck_h3 : HCon := HCon.mk0 pa_strings_Builder_copyCheck_h3 pH_strings_Builder_copyCheck_h3 qa_strings_Builder_copyCheck_h3 qH_strings_Builder_copyCheck_h3 R_strings_Builder_copyCheck_h3 (fun x => b_strings_Builder_copyCheck_h3 x.2.2.1) (fun r => ((), (((), ((), ())), (r.1, ())))) (fun y => (y.2.2.1, ())) (fun _ => rfl)
noncomputable def h_strings_Builder_copyCheck_h3 : HCon := HCon.mk0 pa_strings_Builder_copyCheck_h3 pH_strings_Builder_copyCheck_h3 qa_strings_Builder_copyCheck_h3 qH_strings_Builder_copyCheck_h3 R_strings_Builder_copyCheck_h3 (fun x => strings_Builder_copyCheck_h3 x.2.2.1) (fun r => ((), (((), ((), ())), (r.1, ())))) (fun y => (y.2.2.1, ())) (fun _ => rfl)
theorem hb_strings_Builder_copyCheck_h3_ok : hb_strings_Builder_copyCheck_h3.Sound prog Inv gInv 147 :=
 hcon_run (M := m_strings_Builder_copyCheck_h3) (f := f147) rfl ks_strings_Builder_copyCheck_h3 100000 (X := nowhere) (fun base S0 cs0 hn hf => OSound.nowhere) (by intro x; kernel_rfl)
theorem h_strings_Builder_copyCheck_h3_ok : h_strings_Builder_copyCheck_h3.Sound prog Inv gInv 147 := by
 have e : h_strings_Builder_copyCheck_h3 = hb_strings_Builder_copyCheck_h3 := by unfold h_strings_Builder_copyCheck_h3 hb_strings_Builder_copyCheck_h3; rw [strings_Builder_copyCheck_h3_eq]
 rw [e]; exact hb_strings_Builder_copyCheck_h3_ok
noncomputable def m_frame_writer_numbers_h1 : Mach prog Inv gInv := mach bas [(74, f74), (115, f115), (147, f147)] ⟨ok74, ok115, ok147, trivial⟩ [(114, c_varint_Puts)] ⟨⟨c_varint_Puts_ok, FnOk.callable ok114⟩, trivial⟩ [] trivial [(147, h_strings_Builder_copyCheck_h0), (147, h_strings_Builder_copyCheck_h1), (147, h_strings_Builder_copyCheck_h2), (147, h_strings_Builder_copyCheck_h3)] ⟨⟨h_strings_Builder_copyCheck_h0_ok, FnOk.callable ok147⟩, ⟨h_strings_Builder_copyCheck_h1_ok, FnOk.callable ok147⟩, ⟨h_strings_Builder_copyCheck_h2_ok, FnOk.callable ok147⟩, ⟨h_strings_Builder_copyCheck_h3_ok, FnOk.callable ok147⟩, trivial⟩
@[reducible] noncomputable def pa_frame_writer_numbers_h1 : List Pat := [.ptr 0 0, .all 1]
@[reducible] noncomputable def pH_frame_writer_numbers_h1 : List HPat := [.cells 132 [.ptr 0 0, .all 2], .row (.int .u64), .row (.byt 5)]
/-! ### (*domino/frame.writer).numbers -/
abbrev R_frame_writer_numbers_h1 : Type := (List Int) × (List Int) × Unit
@[reducible] noncomputable def qa_frame_writer_numbers_h1 : List Pat := []
@[reducible] noncomputable def qH_frame_writer_numbers_h1 : List HPat := [.cells 132 [.ptr 0 0, .all 3], .fro (.int .u64), .dead, .row (.byt 5)]
def ks_frame_writer_numbers_h1 : List Nat := [74, 115, 147]
noncomputable def b_frame_writer_numbers_h1 (l0 : (List Int)) (l1 : (List Int)) : Option R_frame_writer_numbers_h1 :=
 obind (varint_Puts l0) fun y2 =>
 obind (strings_Builder_copyCheck_h3 l1) fun y3 =>
 bif (decide (((List.length y3.1) + (List.length (strBytes y2.1))) ≤ 4294967296)) then
  let l4 : (List Int) := (y3.1 ++ (strBytes y2.1))
  let n5 : Int := (((ByteArray.size y2.1) : Nat) : Int)
  some (l0, (l4, ()))
 else none
theorem ex_frame_writer_numbers_h1 : ∃ f, f = @b_frame_writer_numbers_h1 := ⟨_, rfl⟩
noncomputable def frame_writer_numbers_h1 := Classical.choose ex_frame_writer_numbers_h1
theorem frame_writer_numbers_h1_eq : @frame_writer_numbers_h1 = @b_frame_writer_numbers_h1 := Classical.choose_spec ex_frame_writer_numbers_h1
noncomputable def hb_frame_writer_numbers_h1 : HCon := HCon.mk0 pa_frame_writer_numbers_h1 pH_frame_writer_numbers_h1 qa_frame_writer_numbers_h1 qH_frame_writer_numbers_h1 R_frame_writer_numbers_h1 (fun x => b_frame_writer_numbers_h1 x.2.2.1 x.2.2.2.1) (fun r => ((), (((), ((), ())), (r.1, ((), (r.2.1, ())))))) (fun y => (y.2.2.1, y.2.2.2.2.1, ())) (fun _ => rfl)
noncomputable def h_frame_writer_numbers_h1 : HCon := HCon.mk0 pa_frame_writer_numbers_h1 pH_frame_writer_numbers_h1 qa_frame_writer_numbers_h1 qH_frame_writer_numbers_h1 R_frame_writer_numbers_h1 (fun x => frame_writer_numbers_h1 x.2.2.1 x.2.2.2.1) (fun r => ((), (((), ((), ())), (r.1, ((), (r.2.1, ())))))) (fun y => (y.2.2.1, y.2.2.2.2.1, ())) (fun _ => rfl)
theorem hb_frame_writer_numbers_h1_ok : hb_frame_writer_numbers_h1.Sound prog Inv gInv 74 :=
 hcon_run (M := m_frame_writer_numbers_h1) (f := f74) rfl ks_frame_writer_numbers_h1 100000 (X := nowhere) (fun base S0 cs0 hn hf => OSound.nowhere) (by intro x; kernel_rfl)
theorem h_frame_writer_numbers_h1_ok : h_frame_writer_numbers_h1.Sound prog Inv gInv 74 := by
 have e : h_frame_writer_numbers_h1 = hb_frame_writer_numbers_h1 := by unfold h_frame_writer_numbers_h1 hb_frame_writer_numbers_h1; rw [frame_writer_numbers_h1_eq]
 rw [e]; exact hb_frame_writer_numbers_h1_ok
noncomputable def m_frame_writer_long_h0 : Mach prog Inv gInv := mach bas [(113, f113), (74, f74), (115, f115), (147, f147)] ⟨ok113, ok74, ok115, ok147, trivial⟩ [(114, c_varint_Puts)] ⟨⟨c_varint_Puts_ok, FnOk.callable ok114⟩, trivial⟩ [] trivial [(147, h_strings_Builder_copyCheck_h0), (147, h_strings_Builder_copyCheck_h1), (147, h_strings_Builder_copyCheck_h2), (74, h_frame_writer_numbers_h0), (147, h_strings_Builder_copyCheck_h3), (74, h_frame_writer_numbers_h1)] ⟨⟨h_strings_Builder_copyCheck_h0_ok, FnOk.callable ok147⟩, ⟨h_strings_Builder_copyCheck_h1_ok, FnOk.callable ok147⟩, ⟨h_strings_Builder_copyCheck_h2_ok, FnOk.callable ok147⟩, ⟨h_frame_writer_numbers_h0_ok, FnOk.callable ok74⟩, ⟨h_strings_Builder_copyCheck_h3_ok, FnOk.callable ok147⟩, ⟨h_frame_writer_numbers_h1_ok, FnOk.callable ok74⟩, trivial⟩
@[reducible] noncomputable def pa_frame_writer_long_h0 : List Pat := [.ptr 0 0, .str]
@[reducible] noncomputable def pH_frame_writer_long_h0 : List HPat := [.cells 132 [.ptr 0 0, .all 1], .row (.byt 5)]
/-! ### (*domino/frame.writer).long -/
abbrev R_frame_writer_long_h0 : Type := (List Int) × Unit
@[reducible] noncomputable def qa_frame_writer_long_h0 : List Pat := []
@[reducible] noncomputable def qH_frame_writer_long_h0 : List HPat := [.cells 132 [.ptr 0 0, .all 2], .dead, .row (.byt 5)]
def ks_frame_writer_long_h0 : List Nat := [113, 74, 115, 147]
noncomputable def b_frame_writer_long_h0 (s0 : ByteArray) (l1 : (List Int)) : Option R_frame_writer_long_h0 :=
 let n2 : Int := (((ByteArray.size s0) : Nat) : Int)
 let n3 : Int := (Go.IntKind.wrap Go.IntKind.u64 n2)
 obind (frame_writer_numbers_h1 (n3 :: ([] : List Int)) l1) fun y4 =>
 obind (strings_Builder_copyCheck_h3 y4.2.1) fun y5 =>
 bif (decide (((List.length y5.1) + (List.length (strBytes s0))) ≤ 4294967296)) then
  let l6 : (List Int) := (y5.1 ++ (strBytes s0))
  let n7 : Int := (((ByteArray.size s0) : Nat) : Int)
  some (l6, ())
 else none
theorem ex_frame_writer_long_h0 : ∃ f, f = @b_frame_writer_long_h0 := ⟨_, rfl⟩
noncomputable def frame_writer_long_h0 := Classical.choose ex_frame_writer_long_h0
theorem frame_writer_long_h0_eq : @frame_writer_long_h0 = @b_frame_writer_long_h0 := Classical.choose_spec ex_frame_writer_long_h0
noncomputable def hb_frame_writer_long_h0 : HCon := HCon.mk0 pa_frame_writer_long_h0 pH_frame_writer_long_h0 qa_frame_writer_long_h0 qH_frame_writer_long_h0 R_frame_writer_long_h0 (fun x => b_frame_writer_long_h0 x.1.2.1 x.2.2.1) (fun r => ((), (((), ((), ())), ((), (r.1, ()))))) (fun y => (y.2.2.2.1, ())) (fun _ => rfl)
noncomputable def h_frame_writer_long_h0 : HCon := HCon.mk0 pa_frame_writer_long_h0 pH_frame_writer_long_h0 qa_frame_writer_long_h0 qH_frame_writer_long_h0 R_frame_writer_long_h0 (fun x => frame_writer_long_h0 x.1.2.1 x.2.2.1) (fun r => ((), (((), ((), ())), ((), (r.1, ()))))) (fun y => (y.2.2.2.1, ())) (fun _ => rfl)
theorem hb_frame_writer_long_h0_ok : hb_frame_writer_long_h0.Sound prog Inv gInv 113 :=
 hcon_run (M := m_frame_writer_long_h0) (f := f113) rfl ks_frame_writer_long_h0 100000 (X := nowhere) (fun base S0 cs0 hn hf => OSound.nowhere) (by intro x; kernel_rfl)
theorem h_frame_writer_long_h0_ok : h_frame_writer_long_h0.Sound prog Inv gInv 113 := by
 have e : h_frame_writer_long_h0 = hb_frame_writer_long_h0 := by unfold h_frame_writer_long_h0 hb_frame_writer_long_h0; rw [frame_writer_long_h0_eq]
 rw [e]; exact hb_frame_writer_long_h0_ok
noncomputable def m_frame_writer_stream_h0 : Mach prog Inv gInv := mach bas [(73, f73), (74, f74), (113, f113), (115, f115), (147, f147)] ⟨ok73, ok74, ok113, ok115, ok147, trivial⟩ [(114, c_varint_Puts)] ⟨⟨c_varint_Puts_ok, FnOk.callable ok114⟩, trivial⟩ [] trivial [(147, h_strings_Builder_copyCheck_h0), (147, h_strings_Builder_copyCheck_h1), (147, h_strings_Builder_copyCheck_h2), (74, h_frame_writer_numbers_h0), (147, h_strings_Builder_copyCheck_h3), (74, h_frame_writer_numbers_h1), (113, h_frame_writer_long_h0)] ⟨⟨h_strings_Builder_copyCheck_h0_ok, FnOk.callable ok147⟩, ⟨h_strings_Builder_copyCheck_h1_ok, FnOk.callable ok147⟩, ⟨h_strings_Builder_copyCheck_h2_ok, FnOk.callable ok147⟩, ⟨h_frame_writer_numbers_h0_ok, FnOk.callable ok74⟩, ⟨h_strings_Builder_copyCheck_h3_ok, FnOk.callable ok147⟩, ⟨h_frame_writer_numbers_h1_ok, FnOk.callable ok74⟩, ⟨h_frame_writer_long_h0_ok, FnOk.callable ok113⟩, trivial⟩
@[reducible] noncomputable def pa_frame_writer_stream_h0 : List Pat := [.ptr 0 0, .dat T_frame_Frame]
@[reducible] noncomputable def pH_frame_writer_stream_h0 : List HPat := [.cells 132 [.nilPtr, .nilSlice]]
/-! ### (*domino/frame.writer).stream -/
abbrev R_frame_writer_stream_h0 : Type := (List Int) × Unit
@[reducible] noncomputable def qa_frame_writer_stream_h0 : List Pat := []
@[reducible] noncomputable def qH_frame_writer_stream_h0 : List HPat := [.cells 132 [.ptr 0 0, .all 1], .row (.byt 5)]
noncomputable def g_frame_writer_stream_h0 : HCon := HCon.mk0 pa_frame_writer_stream_h0 pH_frame_writer_stream_h0 qa_frame_writer_stream_h0 qH_frame_writer_stream_h0 R_frame_writer_stream_h0 (fun _ => none) (fun r => ((), (((), ((), ())), (r.1, ())))) (fun y => (y.2.2.1, ())) (fun _ => rfl)
def ks_frame_writer_stream_h0 : List Nat := [73, 74, 113, 115, 147]
abbrev H_frame_writer_stream_h0 (base : Base) (S0 : Nat → Prop) := base.n = 1 ∧ FinOk (finH g_frame_writer_stream_h0) base S0 (HPost g_frame_writer_stream_h0 base S0)
abbrev J_frame_writer_stream_h0 (base : Base) (S0 : Nat → Prop) (cs0 : List Go.Frame) (p : CPat) (J : denC p → Option R_frame_writer_stream_h0) := JSound m_frame_writer_stream_h0 base S0 cs0 (HPost g_frame_writer_stream_h0 base S0) p J
abbrev O_frame_writer_stream_h0 (base : Base) (S0 : Nat → Prop) (cs0 : List Go.Frame) (X : Cfg → Option (Option R_frame_writer_stream_h0)) := OSound m_frame_writer_stream_h0 base S0 cs0 (HPost g_frame_writer_stream_h0 base S0) X
@[reducible] noncomputable def p_frame_writer_stream_h0_2 : CPat := ⟨⟨73, [1, 1, 1, 1, 1, 1], none, [.ptr 0 0, .any, .any, .ptr 1 0], 28⟩, [], [.cells 132 [.ptr 0 0, .all 2], .dat 34 T_frame_Frame, .row (.byt 5)], 1⟩
@[reducible] noncomputable def u_frame_writer_stream_h0_2 (k : D_frame_Frame → (List Int) → Option R_frame_writer_stream_h0) : denC p_frame_writer_stream_h0_2 → Option R_frame_writer_stream_h0 := fun x => k x.2.2.2.1 x.2.2.2.2.1
noncomputable def b_frame_writer_stream_h0_2 (d14 : D_frame_Frame) (l15 : (List Int)) : Option R_frame_writer_stream_h0 :=
 obind (frame_writer_long_h0 d14.2.2.2.2.2.2.2.2.2.1 l15) fun y16 =>
 some (y16.1, ())
theorem ex_frame_writer_stream_h0_2 : ∃ f, f = @b_frame_writer_stream_h0_2 := ⟨_, rfl⟩
noncomputable def frame_writer_stream_h0_2 := Classical.choose ex_frame_writer_stream_h0_2
theorem frame_writer_stream_h0_2_eq : @frame_writer_stream_h0_2 = @b_frame_writer_stream_h0_2 := Classical.choose_spec ex_frame_writer_stream_h0_2
theorem s_frame_writer_stream_h0_2 {base S0 cs0} (hfin : H_frame_writer_stream_h0 base S0) : J_frame_writer_stream_h0 base S0 cs0 p_frame_writer_stream_h0_2 (u_frame_writer_stream_h0_2 (frame_writer_stream_h0_2)) :=
 JSound.join hfin.2 (OSound.nowhere) ks_frame_writer_stream_h0 100000 (by rw [frame_writer_stream_h0_2_eq]; intro x; kernel_rfl)
noncomputable def x_frame_writer_stream_h0_2 : Cfg → Option (Option R_frame_writer_stream_h0) := cut p_frame_writer_stream_h0_2 (u_frame_writer_stream_h0_2 (frame_writer_stream_h0_2)) (nowhere)
theorem o_frame_writer_stream_h0_2 {base S0 cs0} (hfin : H_frame_writer_stream_h0 base S0) : O_frame_writer_stream_h0 base S0 cs0 (x_frame_writer_stream_h0_2) := OSound.cut (OSound.nowhere) (Nat.le_of_eq hfin.1) (s_frame_writer_stream_h0_2 hfin)
@[reducible] noncomputable def p_frame_writer_stream_h0_1 : CPat := ⟨⟨73, [1, 1, 1, 1], none, [.ptr 0 0, .any, .any, .ptr 1 0, .int .u64], 27⟩, [], [.cells 132 [.nilPtr, .nilSlice], .dat 34 T_frame_Frame], 1⟩
@[reducible] noncomputable def u_frame_writer_stream_h0_1 (k : Int → D_frame_Frame → Option R_frame_writer_stream_h0) : denC p_frame_writer_stream_h0_1 → Option R_frame_writer_stream_h0 := fun x => k x.1.2.2.2.2.1 x.2.2.2.1
noncomputable def b_frame_writer_stream_h0_1 (i8 : Int) (d9 : D_frame_Frame) : Option R_frame_writer_stream_h0 :=
 obind (frame_writer_numbers_h0 (i8 :: (d9.2.1 :: ([] : List Int)))) fun y10 =>
 let b11 : Bool := (d9.2.2.1 != (0 : Int))
 bif b11 then
  obind (frame_writer_numbers_h1 (d9.2.2.1 :: ([] : List Int)) y10.2.1) fun y12 =>
  frame_writer_stream_h0_2 d9 y12.2.1
 else
  frame_writer_stream_h0_2 d9 y10.2.1
theorem ex_frame_writer_stream_h0_1 : ∃ f, f = @b_frame_writer_stream_h0_1 := ⟨_, rfl⟩
noncomputable def frame_writer_stream_h0_1 := Classical.choose ex_frame_writer_stream_h0_1
theorem frame_writer_stream_h0_1_eq : @frame_writer_stream_h0_1 = @b_frame_writer_stream_h0_1 := Classical.choose_spec ex_frame_writer_stream_h0_1
theorem s_frame_writer_stream_h0_1 {base S0 cs0} (hfin : H_frame_writer_stream_h0 base S0) : J_frame_writer_stream_h0 base S0 cs0 p_frame_writer_stream_h0_1 (u_frame_writer_stream_h0_1 (frame_writer_stream_h0_1)) :=
 JSound.join hfin.2 (o_frame_writer_stream_h0_2 hfin) ks_frame_writer_stream_h0 100000 (by rw [frame_writer_stream_h0_1_eq]; intro x; kernel_rfl)
noncomputable def x_frame_writer_stream_h0_1 : Cfg → Option (Option R_frame_writer_stream_h0) := cut p_frame_writer_stream_h0_1 (u_frame_writer_stream_h0_1 (frame_writer_stream_h0_1)) (x_frame_writer_stream_h0_2)
theorem o_frame_writer_stream_h0_1 {base S0 cs0} (hfin : H_frame_writer_stream_h0 base S0) : O_frame_writer_stream_h0 base S0 cs0 (x_frame_writer_stream_h0_1) := OSound.cut (o_frame_writer_stream_h0_2 hfin) (Nat.le_of_eq hfin.1) (s_frame_writer_stream_h0_1 hfin)
@[reducible] noncomputable def p_frame_writer_stream_h0_0 : CPat := ⟨⟨73, [1, 1, 1], none, [.ptr 0 0, .any, .any, .ptr 1 0, .int .u64], 27⟩, [], [.cells 132 [.nilPtr, .nilSlice], .dat 34 T_frame_Frame], 1⟩
@[reducible] noncomputable def u_frame_writer_stream_h0_0 (k : Int → D_frame_Frame → Option R_frame_writer_stream_h0) : denC p_frame_writer_stream_h0_0 → Option R_frame_writer_stream_h0 := fun x => k x.1.2.2.2.2.1 x.2.2.2.1
noncomputable def b_frame_writer_stream_h0_0 (i3 : Int) (d4 : D_frame_Frame) : Option R_frame_writer_stream_h0 :=
 bif d4.2.2.2.2.2.2.2.2.1 then
  let n5 : Int := (bits Go.BinOp.or Go.IntKind.u64 i3 (1 : Int))
  frame_writer_stream_h0_1 n5 d4
 else
  frame_writer_stream_h0_1 i3 d4
theorem ex_frame_writer_stream_h0_0 : ∃ f, f = @b_frame_writer_stream_h0_0 := ⟨_, rfl⟩
noncomputable def frame_writer_stream_h0_0 := Classical.choose ex_frame_writer_stream_h0_0
theorem frame_writer_stream_h0_0_eq : @frame_writer_stream_h0_0 = @b_frame_writer_stream_h0_0 := Classical.choose_spec ex_frame_writer_stream_h0_0
theorem s_frame_writer_stream_h0_0 {base S0 cs0} (hfin : H_frame_writer_stream_h0 base S0) : J_frame_writer_stream_h0 base S0 cs0 p_frame_writer_stream_h0_0 (u_frame_writer_stream_h0_0 (frame_writer_stream_h0_0)) :=
 JSound.join hfin.2 (o_frame_writer_stream_h0_1 hfin) ks_frame_writer_stream_h0 100000 (by rw [frame_writer_stream_h0_0_eq]; intro x; kernel_rfl)
noncomputable def x_frame_writer_stream_h0_0 : Cfg → Option (Option R_frame_writer_stream_h0) := cut p_frame_writer_stream_h0_0 (u_frame_writer_stream_h0_0 (frame_writer_stream_h0_0)) (x_frame_writer_stream_h0_1)
theorem o_frame_writer_stream_h0_0 {base S0 cs0} (hfin : H_frame_writer_stream_h0 base S0) : O_frame_writer_stream_h0 base S0 cs0 (x_frame_writer_stream_h0_0) := OSound.cut (o_frame_writer_stream_h0_1 hfin) (Nat.le_of_eq hfin.1) (s_frame_writer_stream_h0_0 hfin)
noncomputable def b_frame_writer_stream_h0 (d0 : D_frame_Frame) : Option R_frame_writer_stream_h0 :=
 let b1 : Bool := (d0.2.2.1 != (0 : Int))
 bif b1 then
  let n2 : Int := (bits Go.BinOp.or Go.IntKind.u64 (10 : Int) (4 : Int))
  frame_writer_stream_h0_0 n2 d0
 else
  frame_writer_stream_h0_0 (10 : Int) d0
theorem ex_frame_writer_stream_h0 : ∃ f, f = @b_frame_writer_stream_h0 := ⟨_, rfl⟩
noncomputable def frame_writer_stream_h0 := Classical.choose ex_frame_writer_stream_h0
theorem frame_writer_stream_h0_eq : @frame_writer_stream_h0 = @b_frame_writer_stream_h0 := Classical.choose_spec ex_frame_writer_stream_h0
noncomputable def hb_frame_writer_stream_h0 : HCon := HCon.mk0 pa_frame_writer_stream_h0 pH_frame_writer_stream_h0 qa_frame_writer_stream_h0 qH_frame_writer_stream_h0 R_frame_writer_stream_h0 (fun x => b_frame_writer_stream_h0 x.1.2.1) (fun r => ((), (((), ((), ())), (r.1, ())))) (fun y => (y.2.2.1, ())) (fun _ => rfl)
noncomputable def h_frame_writer_stream_h0 : HCon := HCon.mk0 pa_frame_writer_stream_h0 pH_frame_writer_stream_h0 qa_frame_writer_stream_h0 qH_frame_writer_stream_h0 R_frame_writer_stream_h0 (fun x => frame_writer_stream_h0 x.1.2.1) (fun r => ((), (((), ((), ())), (r.1, ())))) (fun y => (y.2.2.1, ())) (fun _ => rfl)
theorem hb_frame_writer_stream_h0_ok : hb_frame_writer_stream_h0.Sound prog Inv gInv 73 :=
 hcon_run (M := m_frame_writer_stream_h0) (f := f73) rfl ks_frame_writer_stream_h0 100000 (X := x_frame_writer_stream_h0_0) (fun base S0 cs0 hn hf => have hfin : H_frame_writer_stream_h0 base S0 := ⟨hn, hf⟩; o_frame_writer_stream_h0_0 hfin) (by intro x; kernel_rfl)
theorem h_frame_writer_stream_h0_ok : h_frame_writer_stream_h0.Sound prog Inv gInv 73 := by
 have e : h_frame_writer_stream_h0 = hb_frame_writer_stream_h0 := by unfold h_frame_writer_stream_h0 hb_frame_writer_stream_h0; rw [frame_writer_stream_h0_eq]
 rw [e]; exact hb_frame_writer_stream_h0_ok
end Go.Proofs.YtjdjlijjolibkaaDoor.V
