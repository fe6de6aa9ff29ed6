/- The pure machine, part m: an operation of a region as memory has it; a region in whatever order. -/
import Derived.Test.YtecjkkofoafhaaaVl
namespace Go.Proofs.Ytecjkkofoafhaaa.V
open Go.RowKit

section
variable {P : Program} {I : World → Prop} {g : Nat} {M : Mach P I g} {ops : Array Oper}
variable {base : Nat} {S0 : Nat → Prop} {ρ : Loc} {H : Heap} {w : World} {S : Nat → Prop}

theorem evalP_rel {env : List PV} {a : Act} (he : PRels ρ H w S env a.tmps.toList) (x : Operand) : PRel ρ H w S (evalP env x) (a.eval x) := by
  cases x with
  | tmp t =>
    simp only [evalP, Act.eval]
    cases h : env[t]? with
    | none => simp only [List.getD, h, Option.getD_none, PRel]
    | some p =>
      obtain ⟨v, h1, h2⟩ := he.get t p h
      have : a.tmps[t]? = some v := by simpa using h1
      simp only [List.getD, h, Option.getD_some, Array.getD_eq_getD_getElem?, this]
      exact h2
  | const v => rfl
  | global _ => simp only [evalP, PRel]
  | func f => exact ⟨_, _, rfl, rfl, rfl⟩

theorem putP_rel {env : List PV} {a : Act} {p : PV} {v : Value} (he : PRels ρ H w S env a.tmps.toList) (hp : PRel ρ H w S p v) (dst : Option Tmp) : PRels ρ H w S (putP env dst p) (a.put dst v).tmps.toList := by
  cases dst with
  | none => exact he
  | some d =>
    simp only [putP, Act.put]
    have : (a.tmps.setIfInBounds d v).toList = a.tmps.toList.set d v := by simp
    rw [this]
    exact he.set d hp

theorem put_defers' (a : Act) (dst : Option Tmp) (v : Value) : (a.put dst v).defers = a.defers := by cases dst <;> rfl

theorem wanted_conc {env : List PV} {a : Act} {o : Oper} {b : Bool} (he : PRels ρ H w S env a.tmps.toList) (hw : Wanted ops o env b) : Region.wanted o (yielded ops a.tmps) = b := by
  unfold Wanted at hw
  unfold Region.wanted
  split at hw
  · rename_i hg; rw [hg]; exact hw.symm
  · rename_i j want hg
    rw [hg]
    simp only
    unfold yielded
    split at hw
    · rename_i hd; rw [hd, hw]; rfl
    · rename_i d hd
      rw [hd]
      have get : ∀ x, env.getD d .junk = .val x → a.tmps[d]? = some x := by
        intro x hx
        cases h : env[d]? with
        | none => rw [List.getD, h] at hx; cases hx
        | some p =>
          rw [List.getD, h] at hx
          simp only [Option.getD_some] at hx
          subst hx
          obtain ⟨v, h1, h2⟩ := he.get d _ h
          simp only [PRel] at h2
          subst h2
          simpa using h1
      split at hw
      · rename_i x hx
        have := get _ hx
        simp only [Option.bind_some, this]
        rw [hw]
        cases x <;> cases want <;> rfl
      · rename_i x hx
        have := get _ hx
        simp only [Option.bind_some, this, hw]
        rfl
      · exact hw.elim

theorem call_run {o : Oper} {env : List PV} {a : Act} {K : Nat} {args : List PV} (he : PRels ρ H w S env a.tmps.toList) (hc : callParts o (evalP env) = some (K, args)) (hk : Callable P K) :
    ∃ vs, (execOp a.eval o).run P w = .ok (.enter K vs) w ∧ PRels ρ H w S args vs.toList := by
  obtain ⟨dst, op, ty, pos, aft, gd⟩ := o
  unfold callParts at hc
  split at hc
  · rename_i c hop
    simp only at hop
    subst hop
    split at hc
    · rename_i f hcl
      split at hc
      · rename_i K' first captured hf
        cases hc
        have hfr := evalP_rel he f
        rw [hf] at hfr
        simp only [PRel] at hfr
        obtain ⟨fa, ca, hfv, h1, h2⟩ := hfr
        obtain ⟨fn, k1, k2, k3⟩ := hk
        refine ⟨(fa ++ c.args.map a.eval) ++ ca, ?_, ?_⟩
        · simp only [execOp, resolve, hcl, hfv, Deferred.ofValue, Sem.run_bind, Sem.run_pure, Result.andThen_ok, invoke, callFunc, run_program, k1, k2]
          have : fn.body.isNone = false := by cases hb : fn.body <;> simp_all
          simp [this]
        · simp only [Array.toList_append, Array.toList_map]
          exact (h1.append (PRels.map (fun x => evalP_rel he x) c.args.toList)).append h2
      · cases hc
    · cases hc
  · cases hc

theorem HRel.lt (hh : HRel base S0 ρ H w S) : ∀ b, S b → b < w.heap.size := by
  intro b hs
  rcases (hh.own b).mp hs with h0 | ⟨c, o, n, h1, _, h3⟩
  · have := hh.outer _ h0; have := hh.base_le; omega
  · exact (hh.from_ c o b n h1 h3).2

/-- One operation, as memory has it. -/
theorem opstep_wp (hg : g ≤ base) (hI : I w) (hh : HRel base S0 ρ H w S) {env env' : List PV} {H' : Heap} {a : Act} {i : Nat} {ft : Ft} {Q : Exit → Act → World → Prop} {K : Act → World → Prop}
    (he : PRels ρ H w S env a.tmps.toList) (hs : OpStep M ops i env H env' H' ft)
    (hK : ∀ ρ' w' S' a', I w' → HRel base S0 ρ' H' w' S' → Ext base ρ H w S ρ' H' w' S' → PRels ρ' H' w' S' env' a'.tmps.toList → a'.defers = a.defers → K a' w') : wpOp P ops Q i K a w := by
  obtain ⟨o, e, ho, ha, rfl, rfl⟩ := hs
  unfold wpOp
  simp only [ho]
  cases ha with
  | skip hw =>
    have := wanted_conc he hw
    rw [this]
    simp only [Bool.false_eq_true, if_false]
    have hx : (keepE nothing).heap H = H := by simp [keepE, Eff.heap, setAll]
    rw [hx] at hK
    exact hK ρ w S _ hI hh Ext.refl (putP_rel he (by simp only [keepE, nothing, PRel, undef]) o.dst) (put_defers' _ _ _)
  | op hw hr =>
    have := wanted_conc he hw
    rw [this]
    simp only [if_true]
    have hap := OpR.eff_apply hr H
    obtain ⟨ρ', w', S', v, hrun, h1, h2, h3⟩ := op_did hh (fun x => evalP_rel he x) hap
    left
    unfold Oper.wp
    have hI' := M.keep _ _ base hg h2.below hI
    have fin := hK ρ' w' S' (a.put o.dst v) hI' h1 h2 (putP_rel (h2.rels he) h3 o.dst) (put_defers' _ _ _)
    rcases hrun with hrun | ⟨hrun, rfl⟩
    · rw [hrun]; exact fin
    · rw [hrun]; exact fin
  | @call Kf args c x y hw hc hk hd hF =>
    have := wanted_conc he hw
    rw [this]
    simp only [if_true]
    left
    obtain ⟨hsound, hcall⟩ := M.con_ok _ _ hk
    obtain ⟨vs, hrun, hargs⟩ := call_run he hc hcall
    unfold Oper.wp
    rw [hrun]
    show Calls P Kf vs w _
    obtain ⟨S1, f1, f2⟩ := frzH_rel (idsOf c.params args) hh
    have hrep := decArgs_rel f1 (fun b hb => hb) hd (f2.rels hargs)
    refine (hsound x y hF w S1 vs hI f1.lt hrep).mono ?_
    rintro e w' ⟨v, rfl, hres, hbel⟩
    show K (a.put o.dst v) w'
    have hl : HRel base S0 ρ (frzH H (idsOf c.params args)) w' S1 := f1.later hbel.size hbel.block
    have hx2 : Ext base ρ (frzH H (idsOf c.params args)) w S1 ρ (frzH H (idsOf c.params args)) w' S1 := Ext.later f1.base_le hbel
    have hx := f2.trans hx2
    have hheap : (Eff.heap ⟨fun _ => resPV c.results y, frzEdits H (idsOf c.params args), none⟩ H) = frzH H (idsOf c.params args) := by
      simp [Eff.heap, frzEdits_heap]
    rw [hheap] at hK
    exact hK ρ w' S1 _ (M.keep _ _ base hg hx.below hI) hl hx (putP_rel (hx.rels he) (resPV_rel hres) o.dst) (put_defers' _ _ _)

/-! #### a region in whatever order -/
inductive OpTrace (M : Mach P I g) (ops : Array Oper) : List (Nat × Ft) → List PV → Heap → List PV → Heap → Prop where
  | nil {env H} : OpTrace M ops [] env H env H
  | cons {i ft l env H env1 H1 env' H'} : OpStep M ops i env H env1 H1 ft → OpTrace M ops l env1 H1 env' H' → OpTrace M ops ((i, ft) :: l) env H env' H'

theorem OpTrace.snoc {l : List (Nat × Ft)} {env H env1 H1 env2 H2 i ft} (h : OpTrace M ops l env H env1 H1) (k : OpStep M ops i env1 H1 env2 H2 ft) : OpTrace M ops (l ++ [(i, ft)]) env H env2 H2 := by
  induction h with
  | nil => exact .cons k .nil
  | cons h1 _ ih => exact .cons h1 (ih k)

/-- (i, f) may go ahead of (j, g). -/
def Free (ops : Array Oper) (x y : Nat × Ft) : Prop := ∃ ox oy, ops[x.1]? = some ox ∧ ops[y.1]? = some oy ∧ ox.apart ops oy = true ∧ x.2.apart y.2 = true

theorem OpTrace.front {y : Nat × Ft} {l2 : List (Nat × Ft)} : ∀ {l1 : List (Nat × Ft)} {env H env' H'}, (∀ x ∈ l1, Free ops x y) → OpTrace M ops (l1 ++ y :: l2) env H env' H' → OpTrace M ops (y :: (l1 ++ l2)) env H env' H'
  | [], _, _, _, _, _, h => h
  | (ix, fx) :: l1, env, H, env', H', hf, h => by
    obtain ⟨iy, fy⟩ := y
    rw [List.cons_append] at h
    cases h with
    | cons h1 h2 =>
      have ih := OpTrace.front (fun z hz => hf z (by simp [hz])) h2
      cases ih with
      | cons k1 k2 =>
        obtain ⟨ox, oy, e1, e2, a1, a2⟩ := hf (ix, fx) (by simp)
        obtain ⟨env1', H1', s1, s2⟩ := OpStep.swap e1 e2 h1 k1 a1 a2
        exact .cons s1 (.cons s2 k2)

/-- Every edge leads back. -/
def edgesLt (ops : Array Oper) : Bool :=
  (List.range ops.size).all fun i => match ops[i]? with
    | some o => o.after.toList.all fun e => !Region.binds .any e || decide (e.on < i)
    | none => true

/-- j waits for i, through others perhaps. -/
def depB (ops : Array Oper) : Nat → Nat → Nat → Bool
  | 0, _, _ => false
  | n + 1, j, i => match ops[j]? with
    | none => false
    | some o => o.after.toList.any (fun e => Region.binds .any e && e.on == i) || o.after.toList.any (fun e => Region.binds .any e && depB ops n e.on i)

def freeB (ops : Array Oper) (x y : Nat × Ft) : Bool :=
  match ops[x.1]?, ops[y.1]? with
  | some ox, some oy => ox.apart ops oy && x.2.apart y.2
  | _, _ => false

def fineB (ops : Array Oper) : List (Nat × Ft) → Bool
  | [] => true
  | x :: l => l.all (fun y => freeB ops x y || depB ops 4 y.1 x.1) && fineB ops l

theorem freeB_free {x y : Nat × Ft} (h : freeB ops x y = true) : Free ops x y := by
  unfold freeB at h
  split at h
  · rename_i ox oy h1 h2
    simp only [Bool.and_eq_true] at h
    exact ⟨ox, oy, h1, h2, h.1, h.2⟩
  · cases h

theorem fineB_pair : ∀ {l : List (Nat × Ft)}, fineB ops l = true → ∀ {l1 : List (Nat × Ft)} {x y l2}, l = l1 ++ y :: l2 → x ∈ l1 → Free ops x y ∨ depB ops 4 y.1 x.1 = true
  | [], _, l1, x, y, l2, e, _ => by simp at e
  | z :: l, h, l1, x, y, l2, e, hx => by
    simp only [fineB, Bool.and_eq_true] at h
    cases l1 with
    | nil => cases hx
    | cons z' l1 =>
      simp only [List.cons_append, List.cons.injEq] at e
      obtain ⟨rfl, e⟩ := e
      rcases List.mem_cons.mp hx with rfl | hx
      · have := List.all_eq_true.mp h.1 y (by rw [e]; simp)
        simp only [Bool.or_eq_true] at this
        exact this.imp freeB_free id
      · exact fineB_pair h.2 e hx

theorem fineB_drop : ∀ {l1 : List (Nat × Ft)} {y l2}, fineB ops (l1 ++ y :: l2) = true → fineB ops (l1 ++ l2) = true
  | [], y, l2, h => by simp only [List.nil_append, fineB, Bool.and_eq_true] at h; exact h.2
  | x :: l1, y, l2, h => by
    simp only [List.cons_append, fineB, Bool.and_eq_true] at h ⊢
    refine ⟨?_, fineB_drop h.2⟩
    rw [List.all_eq_true] at h ⊢
    intro z hz
    exact h.1 z (by rcases List.mem_append.mp hz with hz | hz <;> simp [hz])

/-- What is listed holds all that it waits for. -/
def Down (ops : Array Oper) (listed : Array Bool) : Prop :=
  ∀ c o, ops[c]? = some o → listed.getD c false = true → ∀ e ∈ o.after, Region.binds .any e = true → listed.getD e.on false = true

theorem dep_listed {listed : Array Bool} (hd : Down ops listed) : ∀ (n j i : Nat), depB ops n j i = true → (∀ o, ops[j]? = some o → ∀ e ∈ o.after, Region.binds .any e = true → listed.getD e.on false = true) → listed.getD i false = true
  | 0, _, _, h, _ => by simp [depB] at h
  | n + 1, j, i, h, hj => by
    simp only [depB] at h
    split at h
    · cases h
    · rename_i o ho
      simp only [Bool.or_eq_true, List.any_eq_true, Bool.and_eq_true, beq_iff_eq, Array.mem_toList_iff] at h
      rcases h with ⟨e, he, hb, rfl⟩ | ⟨e, he, hb, hd'⟩
      · exact hj o ho e he hb
      · exact dep_listed hd n e.on i hd' (fun o' ho' => hd e.on o' ho' (hj o ho e he hb))

theorem trace_any (hel : edgesLt ops = true) (hg : g ≤ base) {Q : Exit → Act → World → Prop} {envF : List PV} {HF : Heap} : ∀ (fuel : Nat) (l : List (Nat × Ft)) (listed : Array Bool) (ρ : Loc) (env : List PV) (H : Heap) (w : World) (S : Nat → Prop) (a : Act),
    l.length ≤ fuel → listed.size = ops.size → (∀ i, i ∈ l.map (·.1) ↔ listed.getD i true = false) → (l.map (·.1)).Pairwise (· < ·) → Down ops listed → fineB ops l = true →
    I w → HRel base S0 ρ H w S → PRels ρ H w S env a.tmps.toList → OpTrace M ops l env H envF HF →
    (∀ ρ' w' S' a', I w' → HRel base S0 ρ' HF w' S' → Ext base ρ H w S ρ' HF w' S' → PRels ρ' HF w' S' envF a'.tmps.toList → a'.defers = a.defers → Q .normal a' w') →
    wpAny P .any ops Q fuel listed a w := by
  have isNil : ∀ (l : List (Nat × Ft)) (listed : Array Bool), listed.size = ops.size → (∀ i, i ∈ l.map (·.1) ↔ listed.getD i true = false) → (l.map (·.1)).Pairwise (· < ·) → Region.ready .any ops listed = [] → l = [] := by
    intro l listed hsz hml hsort hr
    cases l with
    | nil => rfl
    | cons x l =>
      exfalso
      have hx : listed.getD x.1 true = false := (hml x.1).mp (by simp)
      have hlt : x.1 < ops.size := by
        rcases Nat.lt_or_ge x.1 ops.size with h | h
        · exact h
        · rw [Array.getD_eq_getD_getElem?, Array.getElem?_eq_none (by omega)] at hx; cases hx
      have : x.1 ∈ Region.ready .any ops listed := by
        rw [mem_ready]
        refine ⟨hx, ops[x.1], by simp [hlt], fun e he hb => ?_⟩
        have h1 := List.all_eq_true.mp hel x.1 (by simpa using hlt)
        simp only [hlt, Array.getElem?_eq_getElem, List.all_eq_true, Array.mem_toList_iff, Bool.or_eq_true, Bool.not_eq_true', decide_eq_true_eq] at h1
        have h2 := (h1 e he).resolve_left (by simp [hb])
        -- it is none of l
        have h3 : ¬ listed.getD e.on true = false := by
          intro h
          have hm := (hml e.on).mpr h
          simp only [List.map_cons, List.mem_cons] at hm
          simp only [List.map_cons, List.pairwise_cons] at hsort
          rcases hm with hm | hm
          · omega
          · have := hsort.1 _ hm; omega
        have hlt2 : e.on < listed.size := by omega
        simp only [Array.getD_eq_getD_getElem?, Array.getElem?_eq_getElem hlt2, Option.getD_some] at h3 ⊢
        simpa using h3
      rw [hr] at this
      cases this
  intro fuel
  induction fuel with
  | zero =>
    intro l listed ρ env H w S a hl hsz hml hsort hdown hfine hI hh he ht hQ
    have : l = [] := List.length_eq_zero_iff.mp (by omega)
    subst this
    cases ht
    refine ⟨?_, hQ ρ w S a hI hh Ext.refl he rfl⟩
    cases hr : Region.ready .any ops listed with
    | nil => rfl
    | cons x xs =>
      have : x ∈ Region.ready .any ops listed := by rw [hr]; simp
      rw [mem_ready] at this
      have := (hml x).mpr this.1
      simp at this
  | succ fuel ih =>
    intro l listed ρ env H w S a hl hsz hml hsort hdown hfine hI hh he ht hQ
    refine ⟨fun hr => ?_, fun i hi => ?_⟩
    · have := isNil l listed hsz hml hsort hr
      subst this
      cases ht
      exact hQ ρ w S a hI hh Ext.refl he rfl
    · have hi' := hi
      rw [mem_ready] at hi'
      obtain ⟨hi0, o, ho, hedge⟩ := hi'
      obtain ⟨y, hy, rfl⟩ := List.mem_map.mp ((hml i).mpr hi0)
      obtain ⟨l1, l2, rfl⟩ := List.append_of_mem hy
      have hfree : ∀ x ∈ l1, Free ops x y := by
        intro x hx
        rcases fineB_pair hfine rfl hx with h | h
        · exact h
        · exfalso
          have := dep_listed hdown 4 y.1 x.1 h (fun o' ho' => by rw [ho] at ho'; cases ho'; exact hedge)
          have h0 := (hml x.1).mp (by simp; exact .inl ⟨x.2, hx⟩)
          have hlt : x.1 < listed.size := by
            rcases Nat.lt_or_ge x.1 listed.size with h | h
            · exact h
            · rw [Array.getD_eq_getD_getElem?, Array.getElem?_eq_none h] at h0; cases h0
          simp only [Array.getD_eq_getD_getElem?, Array.getElem?_eq_getElem hlt, Option.getD_some] at this h0
          rw [this] at h0; cases h0
      obtain ⟨iy, fy⟩ := y
      have hfr := ht.front hfree
      cases hfr with
      | cons k1 k2 =>
        refine opstep_wp hg hI hh he k1 (fun ρ' w' S' a' hI' hh' hx' he' hd' => ?_)
        have hlt : iy < listed.size := by
          rcases Nat.lt_or_ge iy listed.size with h | h
          · exact h
          · rw [Array.getD_eq_getD_getElem?, Array.getElem?_eq_none h] at hi0; cases hi0
        refine ih (l1 ++ l2) _ ρ' _ _ w' S' a' (by simp at hl ⊢; omega) (by simpa using hsz) ?_ ?_ ?_ (fineB_drop hfine) hI' hh' he' k2 (fun ρ2 w2 S2 a2 q1 q2 q3 q4 q5 => hQ ρ2 w2 S2 a2 q1 q2 (hx'.trans q3) q4 (q5.trans hd'))
        · intro c
          simp only [List.map_append, List.map_cons, List.mem_append, List.mem_cons] at hml ⊢
          have hc := hml c
          by_cases e : c = iy
          · subst e
            have hnd : (l1.map (·.1) ++ c :: l2.map (·.1)).Pairwise (· < ·) := by simpa using hsort
            rw [List.pairwise_append] at hnd
            have n1 : c ∉ l1.map (·.1) := fun hm => by have := hnd.2.2 c hm c (by simp); omega
            have n2 : c ∉ l2.map (·.1) := fun hm => by have := (List.pairwise_cons.mp hnd.2.1).1 c hm; omega
            simp only [n1, n2, or_self, false_iff]
            simp [hlt]
          · rw [getD_set_ne true (Ne.symm e)]
            rw [← hc]
            simp [e]
        · have hnd : (l1.map (·.1) ++ iy :: l2.map (·.1)).Pairwise (· < ·) := by simpa using hsort
          rw [List.map_append]
          rw [List.pairwise_append] at hnd ⊢
          exact ⟨hnd.1, (List.pairwise_cons.mp hnd.2.1).2, fun p hp q hq => hnd.2.2 p hp q (by simp [hq])⟩
        · intro c oc hoc hlc e he2 hb
          by_cases ec : iy = c
          · subst ec
            rw [ho] at hoc; cases hoc
            exact getD_set_true (hedge e he2 hb)
          · rw [getD_set_ne false ec] at hlc
            exact getD_set_true (hdown c oc hoc hlc e he2 hb)

end
end Go.Proofs.Ytecjkkofoafhaaa.V
