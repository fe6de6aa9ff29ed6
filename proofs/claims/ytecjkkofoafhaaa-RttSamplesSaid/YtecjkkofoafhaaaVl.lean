/- The pure machine, part l: two operations that have nothing to do with one another may change places. -/
import Derived.Test.YtecjkkofoafhaaaVk
namespace Go.Proofs.Ytecjkkofoafhaaa.V
open Go.RowKit

section
variable {P : Program} {I : World → Prop} {g : Nat} {M : Mach P I g} {ops : Array Oper}

/-! #### heaps -/
theorem setAll_length : ∀ (es : List (Nat × Option AO)) (H : Heap), (setAll H es).length = H.length
  | [], _ => rfl
  | (k, o) :: es, H => by rw [setAll, setAll_length es]; simp

theorem at_set_ne {H : Heap} {k b : Nat} {o : Option AO} (h : b ≠ k) : Heap.at? (H.set k o) b = H.at? b := at_set_other (fun e => h e.symm)

theorem setAll_at : ∀ (es : List (Nat × Option AO)) (H : Heap) (b : Nat), b ∉ es.map (·.1) → (setAll H es).at? b = H.at? b
  | [], _, _, _ => rfl
  | (k, o) :: es, H, b, h => by
    simp only [List.map_cons, List.mem_cons, not_or] at h
    rw [setAll, setAll_at es _ b h.2, at_set_ne h.1]

theorem setAll_set : ∀ (es : List (Nat × Option AO)) (H : Heap) (k : Nat) (o : Option AO), k ∉ es.map (·.1) → setAll (H.set k o) es = (setAll H es).set k o
  | [], _, _, _, _ => rfl
  | (j, u) :: es, H, k, o, h => by
    simp only [List.map_cons, List.mem_cons, not_or] at h
    rw [setAll, setAll, List.set_comm _ _ (h.1), setAll_set es _ k o h.2]

theorem setAll_comm : ∀ (es fs : List (Nat × Option AO)) (H : Heap), (∀ k ∈ es.map (·.1), k ∉ fs.map (·.1)) → setAll (setAll H es) fs = setAll (setAll H fs) es
  | [], _, _, _ => rfl
  | (k, o) :: es, fs, H, h => by
    rw [setAll, setAll, setAll_comm es fs _ (fun j hj => h j (by simp at hj ⊢; exact .inr hj)), setAll_set fs _ k o (h k (by simp))]

theorem setAll_append : ∀ (es : List (Nat × Option AO)) (H : Heap) (x : Option AO), H.length ∉ es.map (·.1) → setAll (H ++ [x]) es = setAll H es ++ [x]
  | [], _, _, _ => rfl
  | (k, o) :: es, H, x, h => by
    simp only [List.map_cons, List.mem_cons, not_or] at h
    have e : (H ++ [x]).set k o = H.set k o ++ [x] := by
      rcases Nat.lt_or_ge k H.length with hk | hk
      · rw [List.set_append_left _ _ hk]
      · rw [List.set_eq_of_length_le (by simp; omega), List.set_eq_of_length_le hk]
    rw [setAll, setAll, e, setAll_append es _ x (by rw [List.length_set]; exact h.2)]

/-! #### what an action hangs on -/
theorem Wanted.congr {o : Oper} {env env' : List PV} {b : Bool} (h : ∀ t ∈ o.looksAt ops, env'.getD t .junk = env.getD t .junk) (hw : Wanted ops o env b) : Wanted ops o env' b := by
  unfold Wanted at hw ⊢
  split at hw
  · exact hw
  · rename_i j want hg
    cases hd : (ops[j]?).bind (·.dst) with
    | none => rw [hd] at hw; exact hw
    | some d =>
      rw [hd] at hw
      simp only at hw ⊢
      rw [h d (by simp [Oper.looksAt, hg, hd])]
      exact hw

theorem evalP_congr {o : Oper} {env env' : List PV} (h : ∀ t ∈ o.looksAt ops, env'.getD t .junk = env.getD t .junk) : ∀ x ∈ o.op.operands, evalP env' x = evalP env x := by
  intro x hx
  cases x with
  | tmp t => exact h t (by simp only [Oper.looksAt, List.mem_append, List.mem_filterMap]; exact .inl ⟨.tmp t, by simpa using hx, rfl⟩)
  | _ => rfl

theorem callParts_congr {o : Oper} {ev ev' : Operand → PV} (h : ∀ x ∈ o.op.operands, ev' x = ev x) : callParts o ev' = callParts o ev := by
  obtain ⟨dst, op, ty, pos, aft, gd⟩ := o
  unfold callParts
  cases op with
  | call c =>
    simp only
    cases hc : c.callee with
    | value f =>
      simp only
      rw [h f (by simp [Op.operands, Call.operands, hc])]
      have : c.args.toList.map ev' = c.args.toList.map ev := List.map_congr_left fun x hx => h x (by simp [Op.operands, Call.operands, hc]; right; simpa using hx)
      rw [this]
    | _ => rfl
  | _ => rfl

theorem frz_congr {H H' : Heap} {p : PV} (h : ∀ b ∈ ids p, H'.at? b = H.at? b) : frz H' p = frz H p := by
  cases p with
  | all b => simp only [frz]; rw [h b (by simp [ids])]
  | sl b off len => simp only [frz]; rw [h b (by simp [ids])]
  | _ => rfl

theorem decArgs_congr {H H' : Heap} : ∀ {ts : List Ty} {ps : List PV}, (∀ b ∈ idsOf ts ps, H'.at? b = H.at? b) → decArgs ts ps H' = decArgs ts ps H
  | [], [], _ => rfl
  | t :: ts, p :: ps, h => by
    have h2 := decArgs_congr (H := H) (H' := H') (ts := ts) (ps := ps) (fun b hb => h b (by simp only [idsOf, List.zip_cons_cons, List.flatMap_cons, List.mem_append]; exact .inr hb))
    simp only [decArgs, h2]
    cases hc : argCells t p with
    | none => rfl
    | some cs =>
      have : cs.map (frz H') = cs.map (frz H) := List.map_congr_left fun q hq => frz_congr fun b hb => h b (by
        simp only [idsOf, List.zip_cons_cons, List.flatMap_cons, List.mem_append, List.mem_flatMap]
        exact .inl ⟨q, by rw [hc]; exact hq, hb⟩)
      simp only [this]
  | [], _ :: _, _ => rfl
  | _ :: _, [], _ => rfl

theorem frzEdits_congr : ∀ (bs : List Nat) (H H' : Heap), (∀ b ∈ bs, H'.at? b = H.at? b) → frzEdits H' bs = frzEdits H bs
  | [], _, _, _ => rfl
  | b :: bs, H, H', h => by
    have hb := h b (by simp)
    cases ho : H.at? b with
    | none => simp only [frzEdits, hb, ho]; exact frzEdits_congr bs H H' (fun c hc => h c (by simp [hc]))
    | some o => cases o with
      | row t l =>
        simp only [frzEdits, hb, ho]
        rw [frzEdits_congr bs (H.set b (some (.fro t l))) (H'.set b (some (.fro t l))) (fun c hc => ?_)]
        by_cases e : c = b
        · subst e; rw [at_set_same (at_lt (hb.trans ho)), at_set_same (at_lt ho)]
        · rw [at_set_ne e, at_set_ne e]; exact h c (by simp [hc])
      | cells cs => simp only [frzEdits, hb, ho]; exact frzEdits_congr bs H H' (fun c hc => h c (by simp [hc]))
      | fro t l => simp only [frzEdits, hb, ho]; exact frzEdits_congr bs H H' (fun c hc => h c (by simp [hc]))

theorem frzEdits_mem : ∀ (bs : List Nat) (H : Heap) (k : Nat), k ∈ (frzEdits H bs).map (·.1) → k ∈ bs
  | [], _, _, h => h
  | b :: bs, H, k, h => by
    cases ho : H.at? b with
    | none => simp only [frzEdits, ho] at h; exact List.mem_cons_of_mem _ (frzEdits_mem bs _ k h)
    | some o => cases o with
      | row t l =>
        simp only [frzEdits, ho, List.map_cons, List.mem_cons] at h
        rcases h with rfl | h
        · exact List.mem_cons_self
        · exact List.mem_cons_of_mem _ (frzEdits_mem bs _ k h)
      | cells cs => simp only [frzEdits, ho] at h; exact List.mem_cons_of_mem _ (frzEdits_mem bs _ k h)
      | fro t l => simp only [frzEdits, ho] at h; exact List.mem_cons_of_mem _ (frzEdits_mem bs _ k h)

/-- An action's writes are in its footprint, and a new block is told by it. -/
theorem OpAct.facts {o : Oper} {env : List PV} {H : Heap} {e : Eff} {ft : Ft} (h : OpAct M ops o env H e ft) :
    (∀ k ∈ e.edits.map (·.1), k ∈ ft.writes) ∧ (ft.new = e.app.map fun _ => H.length) ∧ (e.app = none → ∀ n n', e.val n = e.val n') := by
  cases h with
  | skip _ => exact ⟨fun k hk => by simp [keepE] at hk, rfl, fun _ _ _ => rfl⟩
  | op _ hr =>
    refine ⟨fun k hk => hk, rfl, fun ha n n' => ?_⟩
    generalize opP P o (evalP env) H = r at hr
    cases r <;> simp only [OpR.eff, Option.some.injEq, Prod.mk.injEq] at hr <;> first | (obtain ⟨_, rfl⟩ := hr; first | rfl | cases ha) | cases hr
  | call _ _ _ _ _ => exact ⟨fun k hk => frzEdits_mem _ _ k hk, rfl, fun _ _ _ => rfl⟩

theorem OpAct.local {o : Oper} {env env' : List PV} {H H' : Heap} {e : Eff} {ft : Ft} (h : OpAct M ops o env H e ft) (he : ∀ t ∈ o.looksAt ops, env'.getD t .junk = env.getD t .junk)
    (hr : ∀ b ∈ ft.reads, H'.at? b = H.at? b) (hl : H'.length = H.length ∨ ft.new = none) :
    OpAct M ops o env' H' e ft := by
  cases h with
  | skip hw => exact .skip (hw.congr he)
  | op hw hr' =>
    have hev := evalP_congr he
    have hop := opP_congr (P := P) hev hr
    have hrd : readsOf o (evalP env') = readsOf o (evalP env) := by
      obtain ⟨dst, op, ty, pos, aft, gd⟩ := o
      cases op with
      | load T a => simp only [readsOf]; rw [hev a (by simp [Op.operands])]
      | store T a x => simp only [readsOf]; rw [hev a (by simp [Op.operands])]
      | slice T x lo hi mx => simp only [readsOf]; rw [hev x (by simp [Op.operands])]
      | indexAddr T x ix => simp only [readsOf]; rw [hev x (by simp [Op.operands])]
      | convert s d x => simp only [readsOf]; rw [hev x (by simp [Op.operands])]
      | call c =>
        simp only [readsOf]
        have : ∀ x ∈ c.args.toList, ids' (evalP env' x) = ids' (evalP env x) := fun x hx => by
          rw [hev x (by simp [Op.operands, Call.operands]; exact .inr (by simpa using hx))]
        simp only [List.flatMap_def]
        rw [List.map_congr_left this]
      | _ => rfl
    have hft : e.ft (readsOf o (evalP env)) H = e.ft (readsOf o (evalP env')) H' := by
      rw [hrd]
      simp only [Eff.ft, Ft.mk.injEq, true_and]
      rcases hl with hl | hl
      · rw [hl]
      · simp only [Eff.ft, Option.map_eq_none_iff] at hl; rw [hl]; rfl
    rw [hft]
    exact .op (hw.congr he) (by rw [hop]; exact hr')
  | call hw hc hk hd hF =>
    have hev := evalP_congr he
    rw [← frzEdits_congr _ _ _ hr]
    exact .call (hw.congr he) (by rw [callParts_congr hev]; exact hc) hk (by rw [decArgs_congr hr]; exact hd) hF

/-- Two footprints that have nothing to do with one another. -/
def Ft.apart (a b : Ft) : Bool :=
  a.writes.all (fun k => !b.reads.contains k && !b.writes.contains k) && b.writes.all (fun k => !a.reads.contains k) &&
  (match a.new with
   | some n => b.new.isNone && !b.reads.contains n && !b.writes.contains n
   | none => true) &&
  (match b.new with
   | some n => !a.reads.contains n && !a.writes.contains n
   | none => true)

theorem Ft.apart_spec {a b : Ft} (h : a.apart b = true) : (∀ k ∈ a.writes, k ∉ b.reads ∧ k ∉ b.writes) ∧ (∀ k ∈ b.writes, k ∉ a.reads) ∧ (∀ n, a.new = some n → b.new = none ∧ n ∉ b.reads ∧ n ∉ b.writes) ∧
    (∀ n, b.new = some n → n ∉ a.reads ∧ n ∉ a.writes) := by
  simp only [Ft.apart, Bool.and_eq_true, List.all_eq_true, Bool.not_eq_true', List.contains_eq_mem, decide_eq_false_iff_not] at h
  refine ⟨fun k hk => h.1.1.1 k hk, fun k hk => h.1.1.2 k hk, fun n hn => ?_, fun n hn => ?_⟩
  · have := h.1.2
    rw [hn] at this
    simp only [Bool.and_eq_true, Bool.not_eq_true', Option.isNone_iff_eq_none, decide_eq_false_iff_not] at this
    exact ⟨this.1.1, this.1.2, this.2⟩
  · have := h.2
    rw [hn] at this
    simp only [Bool.and_eq_true, Bool.not_eq_true', decide_eq_false_iff_not] at this
    exact this

theorem putP_getD {env : List PV} {dst : Option Tmp} {p : PV} {t : Tmp} (h : ∀ d, dst = some d → d ≠ t) : (putP env dst p).getD t .junk = env.getD t .junk := by
  cases dst with
  | none => rfl
  | some d => simp [putP, List.getD, List.getElem?_set_ne (h d rfl)]

theorem putP_comm {env : List PV} {x y : Option Tmp} (p q : PV) (h : ∀ d, x = some d → y ≠ some d) : putP (putP env x p) y q = putP (putP env y q) x p := by
  cases x with
  | none => rfl
  | some d => cases y with
    | none => rfl
    | some e =>
      have hne : d ≠ e := fun he => h d rfl (he ▸ rfl)
      simp only [putP]
      rw [List.set_comm _ _ hne]

/-- One operation of the region. -/
def OpStep (M : Mach P I g) (ops : Array Oper) (i : Nat) (env : List PV) (H : Heap) (env' : List PV) (H' : Heap) (ft : Ft) : Prop :=
  ∃ o e, ops[i]? = some o ∧ OpAct M ops o env H e ft ∧ env' = putP env o.dst (e.val H.length) ∧ H' = e.heap H

theorem at_append_ne {H : Heap} {x : Option AO} {b : Nat} (h : b ≠ H.length) : Heap.at? (H ++ [x]) b = H.at? b := by
  rcases Nat.lt_or_ge b H.length with hb | hb
  · exact at_append_old hb
  · have h1 : Heap.at? (H ++ [x]) b = none := by simp [Heap.at?, List.getD, List.getElem?_eq_none (show (H ++ [x]).length ≤ b by simp; omega)]
    have h2 : H.at? b = none := by simp [Heap.at?, List.getD, List.getElem?_eq_none hb]
    rw [h1, h2]

/-- They change places. -/
theorem OpStep.swap {i j : Nat} {oi oj : Oper} {env env1 env2 : List PV} {H H1 H2 : Heap} {fi fj : Ft} (hi : ops[i]? = some oi) (hj : ops[j]? = some oj)
    (h1 : OpStep M ops i env H env1 H1 fi) (h2 : OpStep M ops j env1 H1 env2 H2 fj) (hap : oi.apart ops oj = true) (hft : fi.apart fj = true) :
    ∃ env1' H1', OpStep M ops j env H env1' H1' fj ∧ OpStep M ops i env1' H1' env2 H2 fi := by
  obtain ⟨o1, e1, g1, a1, rfl, rfl⟩ := h1
  obtain ⟨o2, e2, g2, a2, rfl, rfl⟩ := h2
  rw [hi] at g1; cases g1
  rw [hj] at g2; cases g2
  obtain ⟨s1, s2, s3⟩ := Oper.apart_spec hap
  obtain ⟨t1, t2, t3, t4⟩ := Ft.apart_spec hft
  obtain ⟨w1, n1, v1⟩ := a1.facts
  obtain ⟨w2, n2, v2⟩ := a2.facts
  -- j first
  have at1 : ∀ b ∈ fj.reads, H.at? b = (e1.heap H).at? b := by
    intro b hb
    unfold Eff.heap
    cases ha : e1.app with
    | none => simp only [Option.map_none, Option.toList_none, List.append_nil]; exact (setAll_at _ _ _ (fun hm => (t1 b (w1 b hm)).1 hb)).symm
    | some x =>
      simp only [Option.map_some, Option.toList_some]
      rw [ha] at n1
      rw [at_append_ne (by rw [setAll_length]; intro e; exact (t3 _ n1).2.1 (e ▸ hb)), setAll_at _ _ _ (fun hm => (t1 b (w1 b hm)).1 hb)]
  have len1 : e1.app = none → (e1.heap H).length = H.length := fun ha => by simp [Eff.heap, ha, setAll_length]
  have newj : e1.app ≠ none → fj.new = none := by
    intro ha
    cases hx : e1.app with
    | none => exact absurd hx ha
    | some x => rw [hx] at n1; exact (t3 _ n1).1
  have lenj : H.length = (e1.heap H).length ∨ fj.new = none := by
    cases ha : e1.app with
    | none => exact .inl (len1 ha).symm
    | some x => exact .inr (newj (by rw [ha]; simp))
  have envj : ∀ t ∈ oj.looksAt ops, env.getD t .junk = (putP env oi.dst (e1.val H.length)).getD t .junk := fun t ht => (putP_getD (fun d hd e => s1 d hd (e ▸ ht))).symm
  have b2 : OpAct M ops oj env H e2 fj := a2.local envj at1 lenj
  -- then i
  have hlenE1 : e2.app ≠ none → (e1.heap H).length = H.length := by
    intro ha
    cases hx : e1.app with
    | none => exact len1 hx
    | some x =>
      rw [hx] at n1
      have := (t3 _ n1).1
      rw [n2] at this
      exact absurd (Option.map_eq_none_iff.mp this) ha
  have at2 : ∀ b ∈ fi.reads, (e2.heap H).at? b = H.at? b := by
    intro b hb
    unfold Eff.heap
    have hne : b ∉ e2.edits.map (·.1) := fun hm => t2 b (w2 b hm) hb
    cases ha : e2.app with
    | none => simp only [Option.map_none, Option.toList_none, List.append_nil]; exact setAll_at _ _ _ hne
    | some x =>
      simp only [Option.map_some, Option.toList_some]
      have hl := hlenE1 (by rw [ha]; simp)
      rw [ha] at n2
      rw [at_append_ne (by rw [setAll_length]; intro e; subst e; exact (t4 _ n2).1 (by rw [hl]; exact hb)), setAll_at _ _ _ hne]
  have envi : ∀ t ∈ oi.looksAt ops, (putP env oj.dst (e2.val H.length)).getD t .junk = env.getD t .junk := fun t ht => putP_getD (fun d hd e => s3 d hd (e ▸ ht))
  have leni : (e2.heap H).length = H.length ∨ fi.new = none := by
    cases ha : e2.app with
    | none => exact .inl (by simp [Eff.heap, ha, setAll_length])
    | some x =>
      right
      rw [n1]
      cases hx : e1.app with
      | none => rfl
      | some y =>
        rw [hx] at n1
        have := (t3 _ n1).1
        rw [n2, ha] at this
        cases this
  have b1 : OpAct M ops oi (putP env oj.dst (e2.val H.length)) (e2.heap H) e1 fi := a1.local envi at2 leni
  refine ⟨_, _, ⟨oj, e2, hj, b2, rfl, rfl⟩, ⟨oi, e1, hi, b1, ?_, ?_⟩⟩
  · have hv2 : e2.val (e1.heap H).length = e2.val H.length := by
      cases ha : e2.app with
      | none => exact v2 ha _ _
      | some x => rw [hlenE1 (by rw [ha]; simp)]
    have hv1 : e1.val (e2.heap H).length = e1.val H.length := by
      cases ha : e1.app with
      | none => exact v1 ha _ _
      | some x =>
        rcases leni with h | h
        · rw [h]
        · rw [n1, ha] at h; cases h
    rw [hv2, hv1]
    exact putP_comm _ _ s2
  · have disj : ∀ k ∈ e1.edits.map (·.1), k ∉ e2.edits.map (·.1) := fun k hk hm => (t1 k (w1 k hk)).2 (w2 k hm)
    unfold Eff.heap
    cases ha : e1.app with
    | none => cases hb : e2.app with
      | none =>
        simp only [Option.map_none, Option.toList_none, List.append_nil]
        exact setAll_comm _ _ _ disj
      | some y =>
        simp only [Option.map_none, Option.toList_none, List.append_nil, Option.map_some, Option.toList_some]
        rw [hb] at n2
        have hn := (t4 _ n2).2
        rw [hlenE1 (by rw [hb]; simp)] at hn
        rw [setAll_append _ _ _ (by rw [setAll_length]; exact fun hm => hn (w1 _ hm)), setAll_comm _ _ _ disj]
    | some x => cases hb : e2.app with
      | none =>
        simp only [Option.map_none, Option.toList_none, List.append_nil, Option.map_some, Option.toList_some]
        rw [ha] at n1
        have hn := (t3 _ n1).2.2
        rw [setAll_append _ _ _ (by rw [setAll_length]; exact fun hm => hn (w2 _ hm)), setAll_comm _ _ _ disj]
      | some y =>
        rw [ha] at n1
        have := (t3 _ n1).1
        rw [n2, hb] at this
        cases this

end
end Go.Proofs.Ytecjkkofoafhaaa.V
