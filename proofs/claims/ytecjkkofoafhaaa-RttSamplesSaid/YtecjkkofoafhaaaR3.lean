/- The row of the law RttSamples: for every input that can be read, the call returns true and leaves its arguments alone. No conditions. -/
import Derived.Test.YtecjkkofoafhaaaRows
import Derived.Test.YtecjkkofoafhaaaL3
import Derived.Test.YtecjkkofoafhaaaVz
namespace Go.Proofs.Ytecjkkofoafhaaa.V.Row3
open Go.ChangeShapes Go.WideShapes Go.ChangeAt Go.RowKit Go.Proofs
set_option linter.unusedVariables false
theorem own : ownKnob Try.prog.godebug = none := by kernel_rfl
theorem laidOut : laidOutB Try.prog = true := by kernel_rfl
set_option maxRecDepth 100000 in
theorem lifted (os : Os) (started : os.Started) (H : Type) (enc : TypeId × Value → H) :
    ReturnsInHanded {} Try.checked os 3 .any (Rows.rttSamplesSpec.pre6 enc Try.prog Try.f3 Rows.rttSamplesRow.domain false) (Rows.rttSamplesSpec.post enc Try.prog Try.f3 false true false false) := by
  refine returnsInHanded_of_change_sized (C := Try.checked) own started (by kernel_rfl) Try.func3
    (ChangeSpec.witness6 (enc := enc) (C := Try.checked) false ⟨#[], (con3.params.map zeroV).toArray, []⟩ 8 (by kernel_rfl) (by kernel_rfl) (by kernel_rfl) (by kernel_rfl)) ?_
  intro W base args ds gs before hval hW hcnd hsz _
  have hW' := hW
  obtain ⟨p, q, hA, hV, rfl, hfz, hnd⟩ := hW
  obtain ⟨x, hx, hwf⟩ := args_rep (n := 20) (ts := con3.params) (by kernel_rfl) hA (fun j T v h1 h2 => hval j T v (by simpa using h1) (by simpa using h2))
  have hlen : ds.length = 3 := (trodAll_length hA).trans (by kernel_rfl)
  obtain ⟨d1, d2, d3, rfl⟩ : ∃ d1 d2 d3, ds = [d1, d2, d3] := by match ds, hlen with | [d1, d2, d3], _ => exact ⟨d1, d2, d3, rfl⟩
  obtain ⟨rfl, rfl⟩ := trodVars_none hV
  refine (law_calls (K := 3) con3_ok trivial hx (law3 x hwf)).mono fun e W' ⟨he, bel⟩ => ?_
  subst he
  exact ⟨_, rfl, _, _, _, [], _, [], hW', trodAll_mk1 (shut_bool Try.underlying4 _), trodAll_below laidOut bel (by kernel_rfl) hA, rfl, bel.frame _, fun h => by cases h⟩
theorem proved : Rows.RttSamplesSaid :=
  OpenClaim.holds_of_wide 3 Try.f3 rfl rfl rfl rfl rfl rfl rfl ⟨rfl, rfl, rfl, rfl, rfl⟩ rfl rfl rfl rfl rfl (by kernel_rfl) Try.func3 (by kernel_rfl)
    (of_decide_eq_true (by kernel_rfl)) (by unfold Func.isWrapper; first | (rw [if_pos (by decide +kernel)]; kernel_rfl) | (rw [if_neg (by decide +kernel)]; exact ⟨rfl, rfl⟩))
    (fun os started H enc _ => lifted os started H enc)
end Go.Proofs.Ytecjkkofoafhaaa.V.Row3
namespace Go.Proofs.Ytecjkkofoafhaaa
/-- The row, under a short name, for the claim. -/
theorem rttSamples_holds : Rows.RttSamplesSaid := V.Row3.proved
end Go.Proofs.Ytecjkkofoafhaaa
