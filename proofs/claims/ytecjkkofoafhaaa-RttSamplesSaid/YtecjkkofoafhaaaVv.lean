/- The pure machine, part v: whole states that are like a pattern; places where a function of Lean tells what it comes to. -/
import Derived.Test.YtecjkkofoafhaaaVu
namespace Go.Proofs.Ytecjkkofoafhaaa.V
open Go.RowKit
universe u

structure FPat where
  K : Nat
  path : List Nat
  ix : Option Nat
  env : List Pat

structure CPat where
  top : FPat
  rest : List FPat
  H : List HPat

@[reducible] def denFs : List FPat → Type
  | [] => Unit
  | f :: fs => denPs f.env × denFs fs

@[reducible] def denC (c : CPat) : Type := denPs c.top.env × denFs c.rest × denBs c.H

def instF (f : FPat) (x : denPs f.env) : Fr := ⟨f.K, f.path, f.ix, insts f.env x, none, []⟩

def instFs : (fs : List FPat) → denFs fs → List Fr
  | [], _ => []
  | f :: fs, x => instF f x.1 :: instFs fs x.2

def instC (c : CPat) (x : denC c) : Cfg := ⟨instF c.top x.1, instFs c.rest x.2.1, instBs c.H x.2.2⟩

def eqNats : List Nat → List Nat → Bool
  | [], [] => true
  | a :: l, b :: m => Nat.beq a b && eqNats l m
  | _, _ => false

def eqIx : Option Nat → Option Nat → Bool
  | none, none => true
  | some a, some b => Nat.beq a b
  | _, _ => false

theorem eqNats_ok : ∀ {l m : List Nat}, eqNats l m = true → l = m
  | [], [], _ => rfl
  | a :: l, b :: m, h => by
    simp only [eqNats, Bool.and_eq_true] at h
    rw [Nat.eq_of_beq_eq_true h.1, eqNats_ok h.2]
  | [], _ :: _, h => by cases h
  | _ :: _, [], h => by cases h

theorem eqIx_ok : ∀ {l m : Option Nat}, eqIx l m = true → l = m
  | none, none, _ => rfl
  | some a, some b, h => by rw [Nat.eq_of_beq_eq_true h]
  | none, some _, h => by cases h
  | some _, none, h => by cases h

def isNoneB {α : Type u} : Option α → Bool
  | none => true
  | some _ => false

def atF (f : FPat) (fr : Fr) : Bool := Nat.beq fr.K f.K && eqNats fr.path f.path && eqIx fr.ix f.ix && isNoneB fr.start

def atFs : List FPat → List Fr → Bool
  | [], [] => true
  | f :: fs, fr :: frs => atF f fr && atFs fs frs
  | _, _ => false

section
variable {β : Type u} (H : Heap)

def pmFs : (fs : List FPat) → List Fr → Sig → (denFs fs → Sig → Option β) → Option β
  | [], _, s, k => k () s
  | f :: fs, frs, s, k => match frs with
    | fr :: frs => pms H f.env fr.env s fun x s => pmFs fs frs s fun y s => k (x, y) s
    | [] => none

def pmBs : (ps : List HPat) → Nat → Sig → (denBs ps → Sig → Option β) → Option β
  | [], _, s, k => k () s
  | p :: ps, c, s, k => match s.at c with
    | none => none
    | some none => match p, k with
      | .row _, k => pmBs ps (c + 1) s fun y s => k ([], y) s
      | .dead, k => pmBs ps (c + 1) s fun y s => k ((), y) s
      | _, _ => none
    | some (some b) => match p, k with
      | .dead, k => pmBs ps (c + 1) s fun y s => k ((), y) s
      | .cells qs, k => match H.at? b with
        | some (.cells cs) => pms H qs cs s fun x s => pmBs ps (c + 1) s fun y s => k (x, y) s
        | _ => none
      | .dat t, k => match H.at? b with
        | some (.cells cs) => match dec t cs with
          | some (x, []) => pmBs ps (c + 1) s fun y s => k (x, y) s
          | _ => none
        | _ => none
      | .row t, k => match H.at? b with
        | some (.row _ l) => match (castL l : Option (List t.den)) with
          | some l => pmBs ps (c + 1) s fun y s => k (l, y) s
          | none => none
        | _ => none
      | .fro t, k => match rowAt t H b with
        | some l => pmBs ps (c + 1) s fun y s => k (l, y) s
        | none => none
end

def memN : Nat → List Nat → Bool
  | _, [] => false
  | a, b :: l => Nat.beq a b || memN a l

def reals : List (Option (Option Nat)) → List Nat
  | [] => []
  | some (some b) :: l => b :: reals l
  | _ :: l => reals l

def distinct : List Nat → Bool
  | [] => true
  | a :: l => !memN a l && distinct l

def apartN (Z l : List Nat) : Bool := match Z with
  | [] => true
  | a :: Z => !memN a l && apartN Z l

def Sig.fine (s : Sig) : Bool := distinct (reals s.σ) && apartN s.Z (reals s.σ)

/-- What the holes hold, if the state is like the pattern. -/
def pmC {β : Type u} (p : CPat) (c : Cfg) (k : denC p → Option β) : Option β :=
  bif atF p.top c.top && atFs p.rest c.rest then
    pms c.H p.top.env c.top.env ⟨List.replicate p.H.length none, []⟩ fun x s => pmFs c.H p.rest c.rest s fun y s => pmBs c.H p.H 0 s fun z s => bif s.fine then k (x, y, z) else none
  else none

theorem memN_ok : ∀ {a : Nat} {l : List Nat}, memN a l = true ↔ a ∈ l
  | a, [] => by simp [memN]
  | a, b :: l => by
    simp only [memN, Bool.or_eq_true, List.mem_cons, memN_ok (l := l)]
    refine or_congr ⟨Nat.eq_of_beq_eq_true, fun h => by subst h; exact Nat.beq_refl a⟩ Iff.rfl

theorem mem_reals : ∀ {l : List (Option (Option Nat))} {c b : Nat}, l.getD c none = some (some b) → b ∈ reals l
  | [], c, b, h => by simp at h
  | x :: l, 0, b, h => by
    simp at h; subst h; simp [reals]
  | x :: l, c + 1, b, h => by
    have := mem_reals (l := l) (c := c) (b := b) (by simpa using h)
    cases x with
    | none => exact this
    | some x => cases x with
      | none => exact this
      | some x => exact List.mem_cons_of_mem _ this

theorem distinct_ok : ∀ {l : List (Option (Option Nat))}, distinct (reals l) = true → ∀ {c c' b : Nat}, l.getD c none = some (some b) → l.getD c' none = some (some b) → c = c'
  | [], _, c, c', b, h, _ => by simp at h
  | x :: l, hd, c, c', b, h, h' => by
    have hd' : distinct (reals l) = true := by
      cases x with
      | none => exact hd
      | some x => cases x with
        | none => exact hd
        | some x => simp only [reals, distinct, Bool.and_eq_true] at hd; exact hd.2
    have hx : x = some (some b) → b ∉ reals l := by
      rintro rfl hm
      simp only [reals, distinct, Bool.and_eq_true, Bool.not_eq_true'] at hd
      rw [memN_ok.mpr hm] at hd
      exact absurd hd.1 (by simp)
    cases c with
    | zero => cases c' with
      | zero => rfl
      | succ c' => exact absurd (mem_reals (l := l) (c := c') (by simpa using h')) (hx (by simpa using h))
    | succ c => cases c' with
      | zero => exact absurd (mem_reals (l := l) (c := c) (by simpa using h)) (hx (by simpa using h'))
      | succ c' => rw [distinct_ok hd' (c := c) (c' := c') (b := b) (by simpa using h) (by simpa using h')]

theorem apartN_ok : ∀ {Z l : List Nat}, apartN Z l = true → ∀ b ∈ Z, b ∉ l
  | [], _, _, b, hb => by cases hb
  | a :: Z, l, h, b, hb => by
    simp only [apartN, Bool.and_eq_true, Bool.not_eq_true'] at h
    rcases List.mem_cons.mp hb with rfl | hb
    · intro hm; rw [memN_ok.mpr hm] at h; exact absurd h.1 (by simp)
    · exact apartN_ok h.2 b hb

theorem instBs_length : ∀ (ps : List HPat) (x : denBs ps), (instBs ps x).length = ps.length
  | [], _ => rfl
  | p :: ps, x => by simp [instBs, instBs_length ps]

theorem isNoneB_ok {α : Type u} {o : Option α} (h : isNoneB o = true) : o = none := by cases o with | none => rfl | some _ => cases h

section
variable {P : Program} {I : World → Prop} {g : Nat} {M : Mach P I g} {R : Type} {fin : List PV → Heap → Option R}
variable {base : Nat} {S0 : Nat → Prop} {cs0 : List Frame} {post : World → Value → R → Prop}
variable {ρ : Loc} {H : Heap} {w : World} {S : Nat → Prop} {β : Type u}

/-- How a block of the pattern's state goes with the state. -/
def BTakes (ρ : Loc) (H : Heap) (w : World) (S : Nat → Prop) (sF : Sig) (c : Nat) (o' : Option AO) : Prop :=
  ∀ o'', o' = some o'' →
    (sF.at c = some none ∧ ∃ t, o'' = .row t []) ∨
    ∃ b o, sF.at c = some (some b) ∧ H.at? b = some o ∧ Kin o o'' ∧ (o''.mutable = true → o.mutable = true) ∧
      ∀ (H' : Heap) (ρ' : Loc) (S' : Nat → Prop), Good sF H ρ w S H' ρ' S' → (o''.mutable = false → ∀ blk n, ρ b = some (blk, n) → ¬ S' blk) → BlockRel ρ' H' w S' c o''

theorem pmBs_ok (hh : HRel base S0 ρ H w S) : ∀ (ps : List HPat) (c : Nat) (s : Sig) (k : denBs ps → Sig → Option β) (y : β), pmBs H ps c s k = some y →
    ∃ x s', k x s' = some y ∧ s.le s' ∧ ∀ sF, s'.le sF → ∀ i (hi : i < ps.length), (∃ z, sF.at (c + i) = some z) ∧ BTakes ρ H w S sF (c + i) ((instBs ps x).getD i none)
  | [], c, s, k, y, h => ⟨(), s, h, s.le_refl, fun _ _ i hi => by simp at hi⟩
  | p :: ps, c, s, k, y, h => by
    have next : ∀ {x : denB p} {s1 : Sig}, s.le s1 → (∃ z, s.at c = some z) → (∀ sF, s1.le sF → BTakes ρ H w S sF c (instB p x)) → pmBs H ps (c + 1) s1 (fun y s => k (x, y) s) = some y →
        ∃ x s', k x s' = some y ∧ s.le s' ∧ ∀ sF, s'.le sF → ∀ i (hi : i < (p :: ps).length), (∃ z, sF.at (c + i) = some z) ∧ BTakes ρ H w S sF (c + i) ((instBs (p :: ps) x).getD i none) := by
      intro x s1 hle hz hb hk
      obtain ⟨x2, s2, k2, l2, t2⟩ := pmBs_ok hh ps (c + 1) s1 _ y hk
      refine ⟨(x, x2), s2, k2, Sig.le_trans hle l2, fun sF hF i hi => ?_⟩
      cases i with
      | zero =>
        obtain ⟨z, hz⟩ := hz
        exact ⟨⟨z, (Sig.le_trans hle (Sig.le_trans l2 hF)).1 _ _ hz⟩, by simpa [instBs] using hb sF (Sig.le_trans l2 hF)⟩
      | succ i =>
        have := t2 sF hF i (by simpa using hi)
        have e : c + (i + 1) = c + 1 + i := by omega
        rw [e]
        simpa [instBs] using this
    simp only [pmBs] at h
    split at h
    · cases h
    · rename_i hc
      cases p with
      | row t =>
        refine next (x := []) s.le_refl ⟨_, hc⟩ (fun sF hF o'' e => ?_) h
        simp only [instB, Option.some.injEq] at e
        subst e
        exact .inl ⟨hF.1 _ _ hc, t, rfl⟩
      | dead => exact next (x := ()) s.le_refl ⟨_, hc⟩ (fun sF hF o'' e => by simp [instB] at e) h
      | _ => cases h
    · rename_i b hc
      cases p with
      | dead => exact next (x := ()) s.le_refl ⟨_, hc⟩ (fun sF hF o'' e => by simp [instB] at e) h
      | cells qs =>
        simp only at h
        split at h
        · rename_i cs hb
          obtain ⟨x1, s1, h3, l1, t1⟩ := pms_ok hh _ _ _ _ _ h
          refine next (x := x1) l1 ⟨_, hc⟩ (fun sF hF o'' e => ?_) h3
          simp only [instB, Option.some.injEq] at e
          subst e
          obtain ⟨blk, arr, elem, fz, q1, q2, q3, q4⟩ := hh.block _ _ hb
          have hlen : (insts qs x1).length = cs.length := by
            have : Good s1 H ρ w S [] ρ S → True := fun _ => trivial
            have key : ∀ (qs : List Pat) (vs : List PV) (s : Sig) (k : denPs qs → Sig → Option β) (y : β), pms H qs vs s k = some y → qs.length = vs.length := by
              intro qs
              induction qs with
              | nil => intro vs s k y h; cases vs with | nil => rfl | cons _ _ => simp [pms] at h
              | cons q qs ih =>
                intro vs s k y h
                cases vs with
                | nil => simp [pms] at h
                | cons v vs =>
                  simp only [pms] at h
                  obtain ⟨x1, s1, h3, _⟩ := pm_ok hh _ _ _ _ _ h
                  simp [ih _ _ _ _ h3]
            have il : ∀ (qs : List Pat) (x : denPs qs), (insts qs x).length = qs.length := by
              intro qs
              induction qs with
              | nil => intro x; rfl
              | cons q qs ih => intro x; simp [insts, ih]
            rw [il, key _ _ _ _ _ h]
          refine .inr ⟨b, _, (Sig.le_trans l1 hF).1 _ _ hc, hb, ⟨rfl, rfl, rfl, fun cs' e => ?_⟩, fun _ => rfl, fun H' ρ' S' g _ => ?_⟩
          · cases e; exact ⟨cs, rfl, hlen.symm⟩
          · refine ⟨blk, arr, elem, fz, ((g.real c b ((Sig.le_trans l1 hF).1 _ _ hc)).2.1).trans q1, q2, q3, t1.le hF H' ρ' S' g _ q4⟩
        · cases h
      | dat t =>
        simp only at h
        split at h
        · rename_i cs hb
          split at h
          · rename_i x hd
            refine next (x := x) s.le_refl ⟨_, hc⟩ (fun sF hF o'' e => ?_) h
            simp only [instB, Option.some.injEq] at e
            subst e
            obtain ⟨blk, arr, elem, fz, q1, q2, q3, q4⟩ := hh.block _ _ hb
            obtain ⟨v1, v2, e, h2, h3⟩ := dec_rep hd q4
            simp only [PRels] at h3
            subst h3
            simp only [List.append_nil] at e
            have hlen : (cellsP t x).length = cs.length := by rw [cellsP_length, q4.length, e, h2.length]
            refine .inr ⟨b, _, hF.1 _ _ hc, hb, ⟨rfl, rfl, rfl, fun cs' e => ?_⟩, fun _ => rfl, fun H' ρ' S' g _ => ?_⟩
            · cases e; exact ⟨cs, rfl, hlen.symm⟩
            · exact ⟨blk, arr, elem, fz, ((g.real c b (hF.1 _ _ hc)).2.1).trans q1, q2, q3, Rep.cellsP (e ▸ good_same g h2)⟩
          · cases h
        · cases h
      | row t =>
        simp only at h
        split at h
        · rename_i t' l' hb
          split at h
          · rename_i l hl
            obtain ⟨e, rfl⟩ := castL_ok hl
            subst e
            refine next (x := l') s.le_refl ⟨_, hc⟩ (fun sF hF o'' e => ?_) h
            simp only [instB, Option.some.injEq] at e
            subst e
            refine .inr ⟨b, _, hF.1 _ _ hc, hb, ⟨rfl, rfl, rfl, fun cs' e => by cases e⟩, fun _ => rfl, fun H' ρ' S' g _ => ?_⟩
            rcases hh.block _ _ hb with ⟨blk, arr, elem, fz, q1, q2, q3, q4⟩ | ⟨q1, q2⟩
            · refine .inl ⟨blk, arr, elem, fz, ((g.real c b (hF.1 _ _ hc)).2.1).trans q1, q2, q3, fun i hi => ?_⟩
              obtain ⟨vs, r1, r2⟩ := q4 i hi
              exact ⟨vs, good_same g r1, r2⟩
            · exact .inr ⟨((g.real c b (hF.1 _ _ hc)).2.1).trans q1, q2⟩
          · cases h
        · cases h
      | fro t =>
        simp only at h
        split at h
        · rename_i l hl
          obtain ⟨o, hb, ho⟩ := rowAt_ok hl
          refine next (x := l) s.le_refl ⟨_, hc⟩ (fun sF hF o'' e => ?_) h
          simp only [instB, Option.some.injEq] at e
          subst e
          obtain ⟨f1, f2, f3⟩ := row_facts ho
          refine .inr ⟨b, o, hF.1 _ _ hc, hb, ⟨f1.symm, f3.symm, f2.symm, fun cs' e => by cases e⟩, (fun e => by cases e), fun H' ρ' S' g hn => ?_⟩
          have hg := (g.real c b (hF.1 _ _ hc)).2.1
          have hB := hh.block _ _ hb
          rcases ho with rfl | rfl
          · rcases hB with ⟨blk, arr, elem, fz, q1, q2, q3, q4⟩ | ⟨q1, q2⟩
            · refine .inl ⟨blk, arr, elem, fz, hg.trans q1, q2, hn rfl _ _ q1, fun i hi => ?_⟩
              obtain ⟨vs, r1, r2⟩ := q4 i hi
              exact ⟨vs, good_same g r1, r2⟩
            · exact .inr ⟨hg.trans q1, q2⟩
          · rcases hB with ⟨blk, arr, elem, fz, q1, q2, q3, q4⟩ | ⟨q1, q2⟩
            · refine .inl ⟨blk, arr, elem, fz, hg.trans q1, q2, hn rfl _ _ q1, fun i hi => ?_⟩
              obtain ⟨vs, r1, r2⟩ := q4 i hi
              exact ⟨vs, good_same g r1, r2⟩
            · exact .inr ⟨hg.trans q1, q2⟩
        · cases h

theorem Waits.turn {H' : Heap} {ρ' : Loc} {S' : Nat → Prop} {fr fr' : Fr} {conc : Frame} (hK : fr'.K = fr.K) (hp : fr'.path = fr.path) (hi : fr'.ix = fr.ix) (hs : fr'.start = none)
    (he : ∀ us, PRels ρ H w S fr.env us → PRels ρ' H' w S' fr'.env us) (k : Waits M ρ H w S fr conc) : Waits M ρ' H' w S' fr' conc := by
  obtain ⟨b, a, ops, id, kk, i, o, f, body, h1, h2, h3, h4, h5, h6, h7, h8, h9, h10, h11⟩ := k.is
  exact ⟨b, a, ops, id, kk, i, o, f, body, h1, hK ▸ h2, h3, h4, hK ▸ h5, h6, hp ▸ h7, hi ▸ h8, h9, he _ h10, hs⟩

theorem atF_ok {f : FPat} {fr : Fr} (h : atF f fr = true) (x : denPs f.env) : (instF f x).K = fr.K ∧ (instF f x).path = fr.path ∧ (instF f x).ix = fr.ix ∧ fr.start = none := by
  simp only [atF, Bool.and_eq_true] at h
  obtain ⟨⟨⟨h1, h2⟩, h3⟩, h4⟩ := h
  exact ⟨(Nat.eq_of_beq_eq_true h1).symm, (eqNats_ok h2).symm, (eqIx_ok h3).symm, isNoneB_ok h4⟩

theorem pmFs_ok (hh : HRel base S0 ρ H w S) : ∀ (fs : List FPat) (frs : List Fr) (s : Sig) (k : denFs fs → Sig → Option β) (y : β), atFs fs frs = true → pmFs H fs frs s k = some y →
    ∃ x s', k x s' = some y ∧ s.le s' ∧ ∀ sF, s'.le sF → ∀ H' ρ' S', Good sF H ρ w S H' ρ' S' → ∀ cs, Stack M cs0 ρ H w S frs cs → Stack M cs0 ρ' H' w S' (instFs fs x) cs
  | [], frs, s, k, y, ha, h => by
    cases frs with
    | nil => exact ⟨(), s, h, s.le_refl, fun _ _ _ _ _ _ cs hs => by cases hs; exact .nil⟩
    | cons _ _ => cases ha
  | f :: fs, frs, s, k, y, ha, h => by
    cases frs with
    | nil => cases ha
    | cons fr frs =>
      simp only [atFs, Bool.and_eq_true] at ha
      simp only [pmFs] at h
      obtain ⟨x1, s1, h3, l1, t1⟩ := pms_ok hh _ _ _ _ _ h
      obtain ⟨x2, s2, h4, l2, t2⟩ := pmFs_ok hh fs frs s1 _ y ha.2 h3
      refine ⟨(x1, x2), s2, h4, Sig.le_trans l1 l2, fun sF hF H' ρ' S' g cs hs => ?_⟩
      cases hs with
      | cons w1 r1 =>
        obtain ⟨e1, e2, e3, e4⟩ := atF_ok ha.1 x1
        exact .cons (w1.turn e1 e2 e3 rfl (t1.le (Sig.le_trans l2 hF) H' ρ' S' g)) (t2 sF hF H' ρ' S' g _ r1)

theorem bottom_eq : ∀ (fs : List FPat) (frs : List Fr) (x : denFs fs) (K : Nat), atFs fs frs = true → bottom K (instFs fs x) = bottom K frs
  | [], [], _, _, _ => rfl
  | f :: fs, fr :: frs, x, K, h => by
    simp only [atFs, Bool.and_eq_true] at h
    obtain ⟨e1, _⟩ := atF_ok h.1 x.1
    simp only [instFs, bottom]
    rw [e1]
    exact bottom_eq fs frs x.2 _ h.2
  | [], _ :: _, _, _, h => by cases h
  | _ :: _, [], _, _, h => by cases h

/-- Does what the pattern's state comes to, what the state comes to? -/
theorem pmC_ok {p : CPat} {c : Cfg} {k : denC p → Option β} {y : β} {r : R} (h : pmC p c k = some y) (hS : ∀ x, k x = some y → Sound M base S0 cs0 post (instC p x) r) : Sound M base S0 cs0 post c r := by
  unfold pmC at h
  obtain ⟨ha, h⟩ := bif_some h
  simp only [Bool.and_eq_true] at ha
  obtain ⟨ha1, ha2⟩ := ha
  have hst : c.top.start = none := by
    simp only [atF, Bool.and_eq_true] at ha1
    exact isNoneB_ok ha1.2
  intro ρ w S b a todo cs hI hg hh he hstand hstack htr
  have eH : c.H0 = c.H := by unfold Cfg.H0; rw [hst]
  have eE : c.env0 = c.top.env := by unfold Cfg.env0; rw [hst]
  rw [eH] at hh hstack he
  rw [eE] at he
  obtain ⟨x1, s1, h1, l1, t1⟩ := pms_ok hh _ _ _ _ _ h
  obtain ⟨x2, s2, h2, l2, t2⟩ := pmFs_ok (M := M) (cs0 := cs0) hh _ _ _ _ _ ha2 h1
  obtain ⟨x3, s3, h3, l3, t3⟩ := pmBs_ok hh _ _ _ _ _ h2
  obtain ⟨hf, h4⟩ := bif_some h3
  simp only [Sig.fine, Bool.and_eq_true] at hf
  obtain ⟨hd, hz⟩ := hf
  have hlenσ : ∀ c' z, s3.at c' = some z → c' < p.H.length := by
    have key : s3.σ.length = p.H.length := by
      rw [l3.2.2, l2.2.2, l1.2.2]; simp
    intro c' z hz
    rcases Nat.lt_or_ge c' p.H.length with h | h
    · exact h
    · simp [Sig.at, List.getD, List.getElem?_eq_none (by omega : s3.σ.length ≤ c')] at hz
  let H' := instBs p.H x3
  let ρ' : Loc := fun c' => match s3.at c' with | some (some b) => ρ b | _ => none
  let S' : Nat → Prop := fun k => S0 k ∨ ∃ c' o n, Heap.at? H' c' = some o ∧ o.mutable = true ∧ ρ' c' = some (k, n)
  have hH'len : H'.length = p.H.length := instBs_length _ _
  have blockAt : ∀ c' o', H'.at? c' = some o' → (s3.at c' = some none ∧ ∃ t, o' = .row t []) ∨
      ∃ b o, s3.at c' = some (some b) ∧ c.H.at? b = some o ∧ Kin o o' ∧ (o'.mutable = true → o.mutable = true) ∧
      ∀ (H' : Heap) (ρ' : Loc) (S' : Nat → Prop), Good s3 c.H ρ w S H' ρ' S' → (o'.mutable = false → ∀ blk n, ρ b = some (blk, n) → ¬ S' blk) → BlockRel ρ' H' w S' c' o' := by
    intro c' o' ho'
    have hlt := at_lt ho'
    have := (t3 s3 s3.le_refl c' (by rw [← hH'len]; exact hlt)).2
    rw [Nat.zero_add] at this
    exact this o' ho'
  have inj : ∀ {c1 c2 b1 blk n1 n2 o1 o2 b2}, s3.at c1 = some (some b1) → s3.at c2 = some (some b2) → c.H.at? b1 = some o1 → c.H.at? b2 = some o2 → ρ b1 = some (blk, n1) → ρ b2 = some (blk, n2) → c1 = c2 := by
    intro c1 c2 b1 blk n1 n2 o1 o2 b2 q1 q2 q3 q4 q5 q6
    have := hh.inj _ _ _ _ _ _ _ q3 q4 q5 q6
    subst this
    exact distinct_ok hd q1 q2
  have own' : ∀ blk, S' blk → S blk := by
    rintro blk (h0 | ⟨c', o', n, q1, q2, q3⟩)
    · exact (hh.own blk).mpr (.inl h0)
    · rcases blockAt c' o' q1 with ⟨e1, t, rfl⟩ | ⟨b, o, e1, e2, e3, e4, _⟩
      · simp only [ρ', e1] at q3; cases q3
      · simp only [ρ', e1] at q3
        exact (hh.own blk).mpr (.inr ⟨b, o, n, e2, e4 q2, q3⟩)
  have good : Good s3 c.H ρ w S H' ρ' S' := by
    refine ⟨fun c' b hb => ⟨?_, ?_, fun o' ho' => ?_⟩, fun c' hc' => ⟨?_, fun o' ho' => ?_⟩, fun b hb o blk n ho hr => ?_, fun b _ hb => own' b hb⟩
    · rw [hH'len]; exact hlenσ _ _ hb
    · simp only [ρ', hb]
    · rcases blockAt c' o' ho' with ⟨e1, _⟩ | ⟨b', o, e1, e2, e3, _⟩
      · rw [e1] at hb; cases hb
      · rw [e1] at hb; cases hb
        exact ⟨o, e2, e3⟩
    · rw [hH'len]; exact hlenσ _ _ hc'
    · rcases blockAt c' o' ho' with ⟨e1, t, rfl⟩ | ⟨b', o, e1, _⟩
      · exact ⟨rfl, rfl⟩
      · rw [e1] at hc'; cases hc'
    · intro hs
      have hfr := hh.from_ _ _ _ _ ho hr
      rcases hs with h0 | ⟨c', o', n', q1, q2, q3⟩
      · have := hh.outer _ h0; omega
      · rcases blockAt c' o' q1 with ⟨e1, t, rfl⟩ | ⟨b', o2, e1, e2, e3, e4, _⟩
        · simp only [ρ', e1] at q3; cases q3
        · simp only [ρ', e1] at q3
          obtain rfl := hh.inj _ _ _ _ _ _ _ ho e2 hr q3
          exact apartN_ok hz b hb (mem_reals e1)
  have hh' : HRel base S0 ρ' H' w S' := by
    refine ⟨hh.base_le, hh.outer, fun _ => Iff.rfl, fun c' o' blk n q1 q3 => ?_, fun c1 c2 o1 o2 blk n1 n2 q1 q2 q3 q4 => ?_, fun c' o' q1 => ?_⟩
    · rcases blockAt c' o' q1 with ⟨e1, t, rfl⟩ | ⟨b', o2, e1, e2, _⟩
      · simp only [ρ', e1] at q3; cases q3
      · simp only [ρ', e1] at q3
        exact hh.from_ _ _ _ _ e2 q3
    · rcases blockAt c1 o1 q1 with ⟨e1, t, rfl⟩ | ⟨b1, p1, e1, e2, _⟩
      · simp only [ρ', e1] at q3; cases q3
      · rcases blockAt c2 o2 q2 with ⟨f1, t, rfl⟩ | ⟨b2, p2, f1, f2, _⟩
        · simp only [ρ', f1] at q4; cases q4
        · simp only [ρ', e1] at q3
          simp only [ρ', f1] at q4
          exact inj e1 f1 e2 f2 q3 q4
    · rcases blockAt c' o' q1 with ⟨e1, t, rfl⟩ | ⟨b', o2, e1, e2, e3, e4, e5⟩
      · exact .inr ⟨by simp only [ρ', e1], rfl⟩
      · refine e5 H' ρ' S' good (fun hm blk n hr hs => ?_)
        have hfr := hh.from_ _ _ _ _ e2 hr
        rcases hs with h0 | ⟨c2, p2, n', q2, q4, q3⟩
        · have := hh.outer _ h0; omega
        · rcases blockAt c2 p2 q2 with ⟨f1, t, rfl⟩ | ⟨b2, p3, f1, f2, _⟩
          · simp only [ρ', f1] at q3; cases q3
          · simp only [ρ', f1] at q3
            obtain rfl := inj e1 f1 e2 f2 hr q3
            rw [q1] at q2
            cases q2
            rw [hm] at q4; cases q4
  obtain ⟨e1, e2, e3, e4⟩ := atF_ok ha1 x1
  have hS1 := hS (x1, x2, x3) h4
  have := hS1 ρ' w S' b a todo cs hI hg hh' (t1.le (Sig.le_trans l2 l3) H' ρ' S' good _ he) ?_ (t2 s3 l3 H' ρ' S' good cs hstack) trivial
  · show Fin P (bottom c.top.K c.rest) base cs0 post w (lone (b.at a todo) cs w) r
    have eb : bottom (instC p (x1, x2, x3)).top.K (instC p (x1, x2, x3)).rest = bottom c.top.K c.rest := by
      show bottom (instF p.top x1).K (instFs p.rest x2) = _
      rw [bottom_eq _ _ _ _ ha2, e1]
    rw [eb] at this
    exact this
  · obtain ⟨h1, h2, h3, f, body, code, kk, h5, h6, h7, h8⟩ := hstand
    refine ⟨h1.trans e1.symm, h2, h3, f, body, code, kk, ?_, h6, ?_, ?_⟩
    · show M.fn (instF p.top x1).K = _
      rw [e1]; exact h5
    · show todoAt body (instF p.top x1).path [] = _
      rw [e2]; exact h7
    · show match (instF p.top x1).ix with | none => _ | some i => _
      rw [e3]
      cases hix : c.top.ix with
      | none =>
        rw [hix] at h8
        exact ⟨rfl, h8.2⟩
      | some i =>
        rw [hix, hst] at h8
        exact h8

end
end Go.Proofs.Ytecjkkofoafhaaa.V
