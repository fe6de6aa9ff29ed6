/- The pure machine, part r: a contract out of a run. -/
import Derived.Test.YtecjkkofoafhaaaVq
namespace Go.Proofs.Ytecjkkofoafhaaa.V
open Go.RowKit

section
variable {P : Program} {I : World → Prop} {g : Nat} {M : Mach P I g}

/-- What is told at the end, as data. -/
def finP (c : Con) (ps : List PV) (H : Heap) : Option (denL c.results) := decArgs c.results ps H

/-- Where the call begins. -/
def startP (K ntmps : Nat) (ps : List PV) : Cfg := ⟨⟨K, [], none, ps ++ List.replicate (ntmps - ps.length) nothing, none, []⟩, [], []⟩

theorem pvsOf_length : ∀ (ts : List Ty) (x : denL ts), (pvsOf ts x).length = ts.length
  | [], _ => rfl
  | _ :: ts, x => by simp [pvsOf, pvsOf_length ts]

theorem HRel.empty {w : World} {S : Nat → Prop} (hS : ∀ b, S b → b < w.heap.size) : HRel w.heap.size S (fun _ => none) [] w S :=
  ⟨Nat.le_refl _, hS, fun blk => ⟨fun h => .inl h, fun h => by
      rcases h with h | ⟨b, o, n, h1, _⟩
      · exact h
      · have := at_lt h1; simp at this⟩,
    fun b o blk n h1 _ => by have := at_lt h1; simp at this, fun b b' o o' blk n n' h1 _ _ _ => by have := at_lt h1; simp at this, fun b o h1 => by have := at_lt h1; simp at this⟩

theorem finP_ok (c : Con) (base : Nat) (S0 : Nat → Prop) : FinOk (finP c) base S0 (fun w v r => RepRes w S0 c.results r v) := by
  intro ps H r ρ w S v hf hh hv
  obtain ⟨S1, f1, f2⟩ := frzH_rel (idsOf c.results ps) hh
  have hS : ∀ b, b < w.heap.size → S0 b → S1 b := fun b _ h => (f1.own b).mpr (.inl h)
  unfold finP at hf
  obtain ⟨params, results, F⟩ := c
  simp only at hf f1 f2 r ⊢
  have list : ∀ vs, PRels ρ H w S ps vs → RepVs w S0 results r vs := fun vs hvs =>
    (decArgs_rel f1 (fun b hb => hb) hf (f2.rels hvs)).mono (Same.refl _ _) (fun b hb h => hS b hb h)
  unfold RepRes
  split
  · rename_i t r
    cases ps with
    | nil => simp [decArgs] at hf
    | cons p qs => cases qs with
      | nil =>
        obtain ⟨u, us, e, h1, h2⟩ := list [v] ⟨v, [], rfl, hv, rfl⟩
        simp at e
        obtain ⟨rfl, rfl⟩ := e
        exact h1
      | cons q qs =>
        simp only [decArgs] at hf
        (repeat' split at hf) <;> first | cases hf | skip
        all_goals (rename_i h; simp at h)
  · rename_i r hne
    have tup : ∃ us, v = .tuple us ∧ PRels ρ H w S ps us.toList := by
      cases ps with
      | nil => exact hv
      | cons p qs => cases qs with
        | nil =>
          exfalso
          cases results with
          | nil => simp [decArgs] at hf
          | cons t ts => cases ts with
            | nil => exact hne t r rfl HEq.rfl
            | cons t2 ts =>
              simp only [decArgs] at hf
              (repeat' split at hf) <;> first | cases hf | skip
              all_goals (rename_i h; simp [decArgs] at h)
        | cons q qs => exact hv
    obtain ⟨us, rfl, h1⟩ := tup
    exact ⟨us, rfl, list _ h1⟩

theorem RepVs.length {w : World} {S : Nat → Prop} : ∀ {ts : List Ty} {x : denL ts} {vs : List Value}, RepVs w S ts x vs → vs.length = ts.length
  | [], _, _, h => by obtain rfl := h; rfl
  | _ :: _, _, _, h => by obtain ⟨u, us, rfl, _, h2⟩ := h; simp [RepVs.length h2]

/-- A contract out of sound runs. -/
theorem con_sound (hgI : ∀ w, I w → g ≤ w.heap.size) {K : Nat} {c : Con} {f : Func} (hf : M.fn K = some f)
    (h : ∀ x y, c.F x = some y → ∀ base S0 cs0, Sound M base S0 cs0 (fun w v r => RepRes w S0 c.results r v) (startP K f.ntmps (pvsOf c.params x)) y) : c.Sound P I K := by
  intro x y hxy w S args hI hS hargs cs
  obtain ⟨hfn, _, hbody⟩ := M.fn_ok _ _ hf
  obtain ⟨body, hb⟩ := Option.isSome_iff_exists.mp hbody
  have henter : Frame.enter P K args .normal = ({ (default : Frame) with fn := K, kind := .normal } : Frame).at { tmps := args ++ Array.replicate (f.ntmps - args.size) undef, defers := [] } [.code body] := by
    simp [Frame.enter, Frame.at, hfn, hb]
  have hlen : (pvsOf c.params x).length = args.size := by rw [pvsOf_length]; have := hargs.length; simp at this; omega
  have := h x y hxy w.heap.size S cs (fun _ => none) w S ({ (default : Frame) with fn := K, kind := .normal } : Frame) { tmps := args ++ Array.replicate (f.ntmps - args.size) undef, defers := [] } [.code body] cs hI (hgI w hI) (HRel.empty hS)
    (by
      have e : (args ++ Array.replicate (f.ntmps - args.size) undef).toList = args.toList ++ List.replicate (f.ntmps - (pvsOf c.params x).length) undef := by simp [hlen]
      simp only [e]
      exact (pvsOf_rel hargs).append (PRels.replicate _))
    ⟨rfl, rfl, rfl, f, body, body, [], hf, hb, rfl, rfl, .inl rfl⟩ .nil trivial
  obtain ⟨fr, w', v, h1, h2, h3, h4, h5⟩ := this
  refine ⟨.returned v, w', fr, ⟨v, rfl, h4, h5⟩, ?_, h2, h3⟩
  rw [henter]
  exact h1

end
end Go.Proofs.Ytecjkkofoafhaaa.V
