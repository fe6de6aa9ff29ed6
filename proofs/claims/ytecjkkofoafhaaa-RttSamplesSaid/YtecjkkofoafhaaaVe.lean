/- The pure machine, part e: slices cut, made and appended to; structs built; bytes and strings. -/
import Derived.Test.YtecjkkofoafhaaaVd
namespace Go.Proofs.Ytecjkkofoafhaaa.V
open Go.RowKit

section
variable {P : Program} {base : Nat} {S0 : Nat → Prop} {ρ : Loc} {H : Heap} {w : World} {S : Nat → Prop}

/-! #### bounds -/
def optInt : Option PV → Option (Option Int)
  | none => some none
  | some p => (intOfP p).map fun x => some x.2

theorem sliceBound_run {k : IntKind} {i : Int} {y : Nat} {c : BoundsCode} (h : 0 ≤ i ∧ i ≤ y) : (Instr.sliceBound (.int k i) y c).run P w = .ok i.toNat w := by
  simp [Instr.sliceBound, asIntOf, h]

theorem sliceBounds_run {isS : Bool} {len cap : Nat} {lo hi mx : Option PV} {lo' hi' mx' : Option Value} {l h m : Option Int}
    (hl : optInt lo = some l) (hh : optInt hi = some h) (hm : optInt mx = some m)
    (rl : ∀ p, lo = some p → ∃ v, lo' = some v ∧ PRel ρ H w S p v) (rl0 : lo = none → lo' = none)
    (rh : ∀ p, hi = some p → ∃ v, hi' = some v ∧ PRel ρ H w S p v) (rh0 : hi = none → hi' = none)
    (rm : ∀ p, mx = some p → ∃ v, mx' = some v ∧ PRel ρ H w S p v) (rm0 : mx = none → mx' = none)
    (hb : 0 ≤ l.getD 0 ∧ l.getD 0 ≤ h.getD len ∧ h.getD len ≤ m.getD cap ∧ m.getD cap ≤ cap) (hmx : m.isSome = true → h.isSome = true) :
    (Instr.sliceBounds isS len cap lo' hi' mx').run P w = .ok ((l.getD 0).toNat, (h.getD len).toNat, (m.getD cap).toNat) w := by
  have one : ∀ {p : Option PV} {p' : Option Value} {x : Option Int}, optInt p = some x → (∀ q, p = some q → ∃ v, p' = some v ∧ PRel ρ H w S q v) → (p = none → p' = none) →
      (x = none ∧ p' = none) ∨ (∃ k i, x = some i ∧ p' = some (.int k i)) := by
    intro p p' x hx h1 h0
    cases p with
    | none => simp only [optInt, Option.some.injEq] at hx; exact .inl ⟨hx.symm, h0 rfl⟩
    | some q =>
      obtain ⟨v, e, hv⟩ := h1 q rfl
      simp only [optInt] at hx
      cases hq : intOfP q with
      | none => rw [hq] at hx; cases hx
      | some y =>
        obtain ⟨k, i⟩ := y
        rw [hq] at hx
        simp only [Option.map_some, Option.some.injEq] at hx
        exact .inr ⟨k, i, hx.symm, by rw [e, intOfP_rel hq hv]⟩
  rcases one hl rl rl0 with ⟨rfl, rfl⟩ | ⟨kl, il, rfl, rfl⟩ <;> rcases one hh rh rh0 with ⟨rfl, rfl⟩ | ⟨kh, ih, rfl, rfl⟩ <;> rcases one hm rm rm0 with ⟨rfl, rfl⟩ | ⟨km, im, rfl, rfl⟩ <;>
    simp only [Option.getD_none, Option.getD_some] at hb ⊢ <;> (try (simp at hmx; done)) <;>
    unfold Instr.sliceBounds <;>
    simp only [Sem.run_bind, Sem.run_pure, Result.andThen_ok] <;>
    (repeat (first | rfl | rw [sliceBound_run (by omega), Result.andThen_ok] | rw [sliceBound_run (by omega)])) <;>
    (try simp)


/-! #### slices of slices, strings, arrays -/
def isZero : Option Operand → Bool
  | some (.const (.int _ 0)) => true
  | _ => false

def sliceP (P : Program) (T : TypeId) (x : PV) (lo hi mx : Option PV) (z : Bool) (H : Heap) : Tst :=
  match optInt lo, optInt hi, optInt mx, P.underlying T with
  | some l, some h, some m, some .string => match x with
    | .val (.string s) => if m.isNone then some (decide (0 ≤ l.getD 0 ∧ l.getD 0 ≤ h.getD s.size ∧ h.getD s.size ≤ s.size), .val (.string (s.extract (l.getD 0).toNat (h.getD s.size).toNat))) else none
    | _ => none
  | some l, some h, some m, some (.slice e) => if m.isSome → h.isSome then match x with
    | .rows t xs clip => if szOf P e = some t.size then
        some (decide (0 ≤ l.getD 0 ∧ l.getD 0 ≤ h.getD xs.length ∧ h.getD xs.length ≤ m.getD xs.length ∧ m.getD xs.length ≤ xs.length ∧ (z = true → m = some 0)),
          if z then .emp else .rows t ((xs.drop (l.getD 0).toNat).take ((h.getD xs.length).toNat - (l.getD 0).toNat)) (match m, h with | some m, some h => decide (m = h) | some _, none => false | none, none => clip | none, some _ => false)) else none
    | .all b => match H.at? b with
      | some o => if o.isRow ∧ szOf P e = some o.elemSize ∧ m.isNone then match lo, hi with
          | none, none => some (true, .all b)
          | _, _ => some (decide (0 ≤ l.getD 0 ∧ l.getD 0 ≤ h.getD o.len ∧ h.getD o.len ≤ o.len), .sl b (l.getD 0).toNat ((h.getD o.len).toNat - (l.getD 0).toNat))
        else none
      | none => none
    | .sl b off len => match H.at? b with
      | some o => if o.isRow ∧ szOf P e = some o.elemSize ∧ m.isNone then
          some (decide (0 ≤ l.getD 0 ∧ l.getD 0 ≤ h.getD len ∧ h.getD len ≤ len), .sl b (off + (l.getD 0).toNat) ((h.getD len).toNat - (l.getD 0).toNat))
        else none
      | none => none
    | _ => none else none
  | some l, some h, some none, some (.array n e) => match x with
    | .ptr b off => match szOf P e, H.at? b with
      | some sz, some (.cells cs) => some (decide (0 ≤ l.getD 0 ∧ l.getD 0 ≤ h.getD n ∧ h.getD n ≤ n ∧ l.getD 0 < n ∧ off + n * sz ≤ cs.length), .cs b (off + (l.getD 0).toNat * sz) ((h.getD n).toNat - (l.getD 0).toNat) sz)
      | _, _ => none
    | _ => none
  | _, _, _, _ => none

theorem slice_did (hh : HRel base S0 ρ H w S) {T : TypeId} {x q : PV} {v : Value} {lo hi mx : Option PV} {lo' hi' mx' : Option Value} {z : Bool}
    (hs : sliceP P T x lo hi mx z H = some (true, q)) (hp : PRel ρ H w S x v)
    (rl : ∀ p, lo = some p → ∃ v, lo' = some v ∧ PRel ρ H w S p v) (rl0 : lo = none → lo' = none)
    (rh : ∀ p, hi = some p → ∃ v, hi' = some v ∧ PRel ρ H w S p v) (rh0 : hi = none → hi' = none)
    (rm : ∀ p, mx = some p → ∃ v, mx' = some v ∧ PRel ρ H w S p v) (rm0 : mx = none → mx' = none) :
    Did P (Instr.sliceAt T v lo' hi' mx') base S0 ρ H w S q H := by
  unfold sliceP at hs
  split at hs
  · -- a string
    rename_i l h m hl hh' hm hu
    split at hs
    · rename_i s
      split at hs
      · rename_i hmn
        simp only [Option.some.injEq, Prod.mk.injEq, decide_eq_true_eq] at hs
        obtain ⟨hin, rfl⟩ := hs
        simp only [PRel] at hp
        subst hp
        have hm0 : mx = none := by
          cases mx with
          | none => rfl
          | some q => simp only [optInt] at hm; cases hq : intOfP q <;> rw [hq] at hm <;> cases hm; simp at hmn
        subst hm0
        simp only [optInt, Option.some.injEq] at hm
        subst hm
        refine Did.still hh (v := .string (s.extract (l.getD 0).toNat (h.getD s.size).toNat)) ?_ rfl
        have hb := sliceBounds_run (P := P) (isS := false) (len := s.size) (cap := s.size) (mx := none) (mx' := none) (m := none) hl hh' rfl rl rl0 rh rh0 (fun _ h => by cases h) (fun _ => rfl)
          ⟨hin.1, hin.2.1, by simpa using hin.2.2, by simp⟩ (fun h => by simp at h)
        simp only [Instr.sliceAt, Instr.slice, Sem.run_bind, run_underlying hu, Result.andThen_ok, rm0 rfl, Option.isSome_none, Bool.false_eq_true, if_false]
        simp [hb]
      · cases hs
    · cases hs
  · -- a slice
    rename_i l h m e hl hh' hm hu
    split at hs
    · rename_i hmh
      have run : ∀ {a : Option Addr} {len cap n : Nat}, v = .slice a len cap → szOf P e = some n →
          (0 ≤ l.getD 0 ∧ l.getD 0 ≤ h.getD len ∧ h.getD len ≤ m.getD cap ∧ m.getD cap ≤ cap) →
          (Instr.sliceAt T v lo' hi' mx').run P w = .ok (.slice (if (m.getD cap).toNat = (l.getD 0).toNat then a else a.map (·.add ((l.getD 0).toNat * n))) ((h.getD len).toNat - (l.getD 0).toNat) ((m.getD cap).toNat - (l.getD 0).toNat)) w := by
        rintro a len cap n rfl hsz hb
        have := sliceBounds_run (P := P) (isS := true) (len := len) (cap := cap) hl hh' hm rl rl0 rh rh0 rm rm0 hb hmh
        simp [Instr.sliceAt, Instr.slice, run_underlying hu, this, sizeOf_run hsz]
      split at hs
      · -- rows
        rename_i t xs clip
        split at hs
        · rename_i hsz
          simp only [Option.some.injEq, Prod.mk.injEq, decide_eq_true_eq] at hs
          obtain ⟨⟨h0, h1, h2, h3, h4⟩, hq⟩ := hs
          simp only [PRel] at hp
          obtain ⟨⟨a, cap, rfl, hcap, hne⟩, hclip⟩ := hp
          have hb : (0 ≤ l.getD 0 ∧ l.getD 0 ≤ h.getD xs.length ∧ h.getD xs.length ≤ m.getD cap ∧ m.getD cap ≤ cap) := by
            cases m with
            | none => simp at h2 h3 ⊢; omega
            | some m => simp at h2 h3 ⊢; omega
          refine Did.still hh (run rfl hsz hb) ?_
          cases z with
          | true =>
            simp only [if_true] at hq
            subst hq
            have hm0 := h4 rfl
            subst hm0
            simp only [Option.getD_some] at hb ⊢
            simp only [PRel]
            have e1 : (h.getD ↑xs.length).toNat - (l.getD 0).toNat = 0 := by omega
            have e2 : (0 : Int).toNat - (l.getD 0).toNat = 0 := by omega
            rw [e1, e2]
            exact ⟨_, rfl⟩
          | false =>
            simp only [Bool.false_eq_true, if_false] at hq
            subst hq
            simp only [PRel]
            have hlen : ((xs.drop (l.getD 0).toNat).take ((h.getD ↑xs.length).toNat - (l.getD 0).toNat)).length = (h.getD ↑xs.length).toNat - (l.getD 0).toNat := by
              simp
              have : (h.getD ↑xs.length).toNat ≤ xs.length := by
                cases m with
                | none => simp at h2; omega
                | some m => simp at h2 h3; omega
              omega
            refine ⟨⟨_, _, by rw [hlen], ?_, fun hnn => ?_⟩, ?_⟩
            · rw [hlen]; omega
            · have hpos : 0 < (h.getD ↑xs.length).toNat - (l.getD 0).toNat := by
                rw [← hlen]; exact List.length_pos_iff.mpr hnn
              have hle : (h.getD ↑xs.length).toNat ≤ xs.length := by
                cases m with
                | none => simp at h2; omega
                | some m => simp at h2 h3; omega
              have hx : xs ≠ [] := by
                have hx0 : xs.length ≠ 0 := by omega
                intro e; exact hx0 (by rw [e]; rfl)
              obtain ⟨blk, off, arr, elem, fz, rfl, g1, g2, g3⟩ := hne hx
              rw [if_neg (by omega)]
              refine ⟨blk, off + (l.getD 0).toNat * t.size, arr, elem, fz, by simp [addr_add], g1, g2, fun i hi => ?_⟩
              rw [hlen] at hi
              obtain ⟨vs, k1, k2⟩ := g3 ((l.getD 0).toNat + i) (by omega)
              refine ⟨vs, ?_, ?_⟩
              · simpa using k1
              · rw [Nat.add_mul] at k2; rw [Nat.add_assoc]; exact k2
            · intro hc
              rw [hlen]
              cases m with
              | some m => cases h with
                | some h =>
                  simp only [decide_eq_true_eq] at hc
                  subst hc
                  exact ⟨_, rfl⟩
                | none => cases hc
              | none => cases h with
                | some h => cases hc
                | none =>
                  obtain ⟨a', e'⟩ := hclip hc
                  cases e'
                  simp only [Option.getD_none, Int.toNat_natCast]
                  exact ⟨_, rfl⟩
        · cases hs
      · -- all
        rename_i b
        split at hs
        · rename_i o ho
          split at hs
          · rename_i hc
            obtain ⟨hrow, hsz, hmn⟩ := hc
            cases m with
            | some m => simp at hmn
            | none =>
            split at hs
            · -- whole
              cases hs
              simp only [optInt, Option.some.injEq] at hl hh'
              subst hl hh'
              have hp' := hp
              simp only [PRel] at hp
              rcases hp.2 o ho hrow with ⟨blk, n, cap, hr, rfl, hle, hn⟩ | ⟨h0, a, rfl⟩
              · refine Did.still hh (v := .slice (some ⟨blk, 0, none⟩) o.len cap) ?_ hp'
                have := run rfl hsz (by simp; omega)
                rw [this]
                simp [addr_add]
              · refine Did.still hh (v := .slice a 0 0) ?_ hp'
                have := run rfl hsz (by simp)
                rw [this]
                simp
            · simp only [Option.some.injEq, Prod.mk.injEq, decide_eq_true_eq] at hs
              obtain ⟨⟨h0, h1, h2⟩, rfl⟩ := hs
              simp only [PRel] at hp
              rcases hp.2 o ho hrow with ⟨blk, n, cap, hr, rfl, hle, hn⟩ | ⟨g0, a, rfl⟩
              · have r := run rfl hsz (by simp; omega)
                refine Did.still hh r ?_
                simp only [PRel]
                refine ⟨⟨hp.1.1, rfl⟩, fun o' ho' _ => ?_⟩
                rw [ho] at ho'; cases ho'
                simp only [Option.getD_none]
                refine ⟨by omega, ?_⟩
                by_cases c : cap = (l.getD 0).toNat
                · refine .inr ⟨by omega, some ⟨blk, 0, none⟩, ?_⟩
                  have e1 : (h.getD ↑o.len).toNat - (l.getD 0).toNat = 0 := by omega
                  have e5 : (↑cap : Int).toNat = (l.getD 0).toNat := by simpa using c
                  have e6 : (↑cap : Int).toNat - (l.getD 0).toNat = 0 := by omega
                  simp only [e1, e6]
                  rw [if_pos e5]
                · refine .inl ⟨blk, n, cap - (l.getD 0).toNat, hr, ?_, by omega, ?_⟩
                  · rw [if_neg (by omega)]; simp [addr_add]
                  · rw [show (l.getD 0).toNat + (cap - (l.getD 0).toNat) = cap by omega]; exact hn
              · have k1 := h1
                have k2 := h2
                rw [g0] at k1 k2
                have r := run rfl hsz (by simp at k1 k2 ⊢; omega)
                refine Did.still hh r ?_
                simp only [PRel]
                refine ⟨⟨hp.1.1, rfl⟩, fun o' ho' _ => ?_⟩
                rw [ho] at ho'; cases ho'
                have e2 : (l.getD 0).toNat = 0 := by simp at k1 k2; omega
                have e3 : (h.getD ↑(0 : Nat)).toNat = 0 := by simp at k1 k2 ⊢; omega
                have e4 : (h.getD ↑o.len).toNat = 0 := by omega
                refine ⟨by omega, .inr ⟨by omega, a, ?_⟩⟩
                simp [e2]
                simpa using e3
          · cases hs
        · cases hs
      · -- sl
        rename_i b off len
        split at hs
        · rename_i o ho
          split at hs
          · rename_i hc
            obtain ⟨hrow, hsz, hmn⟩ := hc
            cases m with
            | some m => simp at hmn
            | none =>
            simp only [Option.some.injEq, Prod.mk.injEq, decide_eq_true_eq] at hs
            obtain ⟨⟨h0, h1, h2⟩, rfl⟩ := hs
            simp only [PRel] at hp
            obtain ⟨hofl, ⟨blk, n, cap, hr, rfl, hle, hn⟩ | ⟨g0, a, rfl⟩⟩ := hp.2 o ho hrow
            · have r := run rfl hsz (by simp; omega)
              refine Did.still hh r ?_
              simp only [PRel]
              refine ⟨⟨hp.1.1, rfl⟩, fun o' ho' _ => ?_⟩
              rw [ho] at ho'; cases ho'
              simp only [Option.getD_none]
              refine ⟨by omega, ?_⟩
              by_cases c : cap = (l.getD 0).toNat
              · refine .inr ⟨by omega, some ⟨blk, off * o.elemSize, none⟩, ?_⟩
                have e1 : (h.getD ↑len).toNat - (l.getD 0).toNat = 0 := by omega
                have e5 : (↑cap : Int).toNat = (l.getD 0).toNat := by simpa using c
                have e6 : (↑cap : Int).toNat - (l.getD 0).toNat = 0 := by omega
                simp only [e1, e6]
                rw [if_pos e5]
              · refine .inl ⟨blk, n, cap - (l.getD 0).toNat, hr, ?_, by omega, ?_⟩
                · rw [if_neg (by omega)]; simp [addr_add, Nat.add_mul]
                · rw [show off + (l.getD 0).toNat + (cap - (l.getD 0).toNat) = off + cap by omega]; exact hn
            · subst g0
              have r := run rfl hsz (by simp; simp at h1 h2; omega)
              refine Did.still hh r ?_
              simp only [PRel]
              refine ⟨⟨hp.1.1, rfl⟩, fun o' ho' _ => ?_⟩
              rw [ho] at ho'; cases ho'
              have e2 : (l.getD 0).toNat = 0 := by simp at h1 h2; omega
              have e3 : (h.getD ↑(0 : Nat)).toNat = 0 := by simp at h1 h2 ⊢; omega
              refine ⟨by omega, .inr ⟨by omega, a, ?_⟩⟩
              simp [e2]
              simpa using e3
          · cases hs
        · cases hs
      · cases hs
    · cases hs
  · -- an array
    rename_i l h n e hl hh' hm hu
    split at hs
    · rename_i b off
      split at hs
      · rename_i sz cells hsz ho
        simp only [Option.some.injEq, Prod.mk.injEq, decide_eq_true_eq] at hs
        obtain ⟨⟨h0, h1, h2, h3, h5⟩, rfl⟩ := hs
        have hm0 : mx = none := by
          cases mx with
          | none => rfl
          | some q => simp only [optInt] at hm; cases hq : intOfP q <;> rw [hq] at hm <;> cases hm
        subst hm0
        obtain ⟨blk, m, hr, rfl⟩ := live_ptr hp (by rw [ho]; rfl)
        have hb := sliceBounds_run (P := P) (isS := false) (len := n) (cap := n) (mx := none) (mx' := none) (m := none) hl hh' rfl rl rl0 rh rh0 (fun _ h => by cases h) (fun _ => rfl)
          ⟨h0, h1, by simpa using h2, by simp⟩ (fun h => by simp at h)
        refine Did.still hh (v := .slice (some ⟨blk, off + (l.getD 0).toNat * sz, none⟩) ((h.getD ↑n).toNat - (l.getD 0).toNat) (n - (l.getD 0).toNat)) ?_ ?_
        · simp only [Instr.sliceAt, Sem.run_bind, run_underlying hu, Result.andThen_ok, Instr.sureAddr, Sem.run_pure, rm0 rfl, hb, sizeOf_run hsz]
          simp
          rw [if_neg (by omega), addr_add]
        · simp only [PRel] at hp ⊢
          refine ⟨⟨hp.1.1, rfl⟩, fun cs' ho' => ?_⟩
          rw [ho] at ho'; cases ho'
          refine ⟨?_, blk, m, _, hr, rfl, by omega⟩
          have : ((l.getD 0).toNat + ((h.getD ↑n).toNat - (l.getD 0).toNat)) * sz ≤ n * sz := Nat.mul_le_mul_right _ (by omega)
          rw [Nat.add_mul] at this
          omega
      · cases hs
    · cases hs
  · cases hs

end
end Go.Proofs.Ytecjkkofoafhaaa.V
