/-
  No cell of these rows narrows 'for every input' (looked for: loops, veiled, ifaces, maps, wideKeys, modest, calm, conditions, laid).
  DERIVED. THE GIVEN ROWS OF THIS SEAT. 5 by the template 'for every input the law returns true; each argument reads behind the call as it read before'; 0 by the template 'total and deterministic' (their statements: YtecjkkofoafhaaaTotals.lean).
  GIVEN WITH THE SEED: the statements are not yours to turn. If you find one false, say at which input.
  Laid BY PROGRAM, IN A SANDBOX (cutbox-rows.mjs): the forced cells as the released guide's own fill.sh prints them over the translation 991286a0ba30292e… (all of the seat's roots in one cut). By AI agents, Wed Nov 11 2026. No macro, syntax, notation, axiom, sorry.
-/
import Derived.Test.YtecjkkofoafhaaaChecked
import GoSem.Claim
import GoSem.ClaimJoined
import GoSem.ClaimMapViews
import Derived.JoinedTies
import Derived.KernelRfl
namespace Go.Proofs.Ytecjkkofoafhaaa
/- THE CELL 'sum', in the pinned program and in every row, IS THE sha256 OF THE DUMP (.gsa) THAT YtecjkkofoafhaaaProg.lean LOADS. Nothing in Lean hashes anything: it is a label: what it is worth is what the hold of that sum in a sandbox is worth. -/
noncomputable def Try.pinned : Pinned := { name := "ytecjkkofoafhaaa", sum := "991286a0ba30292ea253cefc123e0914c6f6a0db11d754a7e17a7cfbf8d5d116", checked := Try.checked }
namespace Rows
def none {H : Type} : Left H := { results := [], args := [] }

/-- 'dominolaw11.RttSamples': WHATEVER THE INPUT: true; the input reads as it did. -/
def rttSamplesSpec : ChangeSpec := { name := "rttSamples", fn := fun _ => fun
  | [d1, d2, d3] => { results := [.lit (.bool true)], args := [d1, d2, d3] }
  | _ => none }
def rttSamplesRow : OpenClaim := { program := "ytecjkkofoafhaaa", sum := "991286a0ba30292ea253cefc123e0914c6f6a0db11d754a7e17a7cfbf8d5d116", func := "domino/dominolaw11.RttSamples", spec := "rttSamples", apart := false }
def RttSamplesSaid : Prop := rttSamplesRow.holds Try.pinned (OpenSpec.ofChange rttSamplesSpec)

/-- ITS FALSE NEIGHBOUR: 'it returns false'. Refute it at one input. -/
def rttSamplesWrong : ChangeSpec := { name := "rttSamples", fn := fun _ => fun
  | [d1, d2, d3] => { results := [.lit (.bool false)], args := [d1, d2, d3] }
  | _ => none }
def RttSamplesWrongFalsely : Prop := rttSamplesRow.holds Try.pinned (OpenSpec.ofChange rttSamplesWrong)

/-- 'dominolaw11.RttBetween': WHATEVER THE INPUT: true; the input reads as it did. -/
def rttBetweenSpec : ChangeSpec := { name := "rttBetween", fn := fun _ => fun
  | [d1, d2, d3] => { results := [.lit (.bool true)], args := [d1, d2, d3] }
  | _ => none }
def rttBetweenRow : OpenClaim := { program := "ytecjkkofoafhaaa", sum := "991286a0ba30292ea253cefc123e0914c6f6a0db11d754a7e17a7cfbf8d5d116", func := "domino/dominolaw11.RttBetween", spec := "rttBetween", apart := false }
def RttBetweenSaid : Prop := rttBetweenRow.holds Try.pinned (OpenSpec.ofChange rttBetweenSpec)

/-- ITS FALSE NEIGHBOUR: 'it returns false'. Refute it at one input. -/
def rttBetweenWrong : ChangeSpec := { name := "rttBetween", fn := fun _ => fun
  | [d1, d2, d3] => { results := [.lit (.bool false)], args := [d1, d2, d3] }
  | _ => none }
def RttBetweenWrongFalsely : Prop := rttBetweenRow.holds Try.pinned (OpenSpec.ofChange rttBetweenWrong)

/-- 'dominolaw11.RttSteady': WHATEVER THE INPUT: true; the input reads as it did. -/
def rttSteadySpec : ChangeSpec := { name := "rttSteady", fn := fun _ => fun
  | [d1, d2] => { results := [.lit (.bool true)], args := [d1, d2] }
  | _ => none }
def rttSteadyRow : OpenClaim := { program := "ytecjkkofoafhaaa", sum := "991286a0ba30292ea253cefc123e0914c6f6a0db11d754a7e17a7cfbf8d5d116", func := "domino/dominolaw11.RttSteady", spec := "rttSteady", apart := false }
def RttSteadySaid : Prop := rttSteadyRow.holds Try.pinned (OpenSpec.ofChange rttSteadySpec)

/-- ITS FALSE NEIGHBOUR: 'it returns false'. Refute it at one input. -/
def rttSteadyWrong : ChangeSpec := { name := "rttSteady", fn := fun _ => fun
  | [d1, d2] => { results := [.lit (.bool false)], args := [d1, d2] }
  | _ => none }
def RttSteadyWrongFalsely : Prop := rttSteadyRow.holds Try.pinned (OpenSpec.ofChange rttSteadyWrong)

/-- 'dominolaw11.RttPto': WHATEVER THE INPUT: true; the input reads as it did. -/
def rttPtoSpec : ChangeSpec := { name := "rttPto", fn := fun _ => fun
  | [d1, d2, d3] => { results := [.lit (.bool true)], args := [d1, d2, d3] }
  | _ => none }
def rttPtoRow : OpenClaim := { program := "ytecjkkofoafhaaa", sum := "991286a0ba30292ea253cefc123e0914c6f6a0db11d754a7e17a7cfbf8d5d116", func := "domino/dominolaw11.RttPto", spec := "rttPto", apart := false }
def RttPtoSaid : Prop := rttPtoRow.holds Try.pinned (OpenSpec.ofChange rttPtoSpec)

/-- ITS FALSE NEIGHBOUR: 'it returns false'. Refute it at one input. -/
def rttPtoWrong : ChangeSpec := { name := "rttPto", fn := fun _ => fun
  | [d1, d2, d3] => { results := [.lit (.bool false)], args := [d1, d2, d3] }
  | _ => none }
def RttPtoWrongFalsely : Prop := rttPtoRow.holds Try.pinned (OpenSpec.ofChange rttPtoWrong)

/-- 'dominolaw11.RttHeld': WHATEVER THE INPUT: true; the input reads as it did. -/
def rttHeldSpec : ChangeSpec := { name := "rttHeld", fn := fun _ => fun
  | [d1, d2, d3, d4] => { results := [.lit (.bool true)], args := [d1, d2, d3, d4] }
  | _ => none }
def rttHeldRow : OpenClaim := { program := "ytecjkkofoafhaaa", sum := "991286a0ba30292ea253cefc123e0914c6f6a0db11d754a7e17a7cfbf8d5d116", func := "domino/dominolaw11.RttHeld", spec := "rttHeld", apart := false }
def RttHeldSaid : Prop := rttHeldRow.holds Try.pinned (OpenSpec.ofChange rttHeldSpec)

/-- ITS FALSE NEIGHBOUR: 'it returns false'. Refute it at one input. -/
def rttHeldWrong : ChangeSpec := { name := "rttHeld", fn := fun _ => fun
  | [d1, d2, d3, d4] => { results := [.lit (.bool false)], args := [d1, d2, d3, d4] }
  | _ => none }
def RttHeldWrongFalsely : Prop := rttHeldRow.holds Try.pinned (OpenSpec.ofChange rttHeldWrong)

/- THE SECOND FORM. 'bulk': how many values and letters a reading holds, each counted each time it is reached (what is shared counts as often as it is met; a slice's spare places count too). A statement '..UptoSaid' is the law's where the arguments, and the package variables that the reading takes, are together of bulk at most 1048576: NARROWER than '..Said'. Prove '..Said' where nothing that the law and all that it calls make is longer than what came in: it says more and counts as full. Else prove '..UptoSaid'. A law counts once. -/
mutual
def uptoBulk {H : Type} : DataW H → Nat
  | .lit (.string bytes) => bytes.length + 1
  | .lit _ => 1
  | .nil => 1
  | .ptr d => uptoBulk d + 1
  | .slice elems spare => uptoBulkAll elems + uptoBulkAll spare + 1
  | .agg parts => uptoBulkAll parts + 1
  | .iface _ d => uptoBulk d + 1
  | .map entries => uptoBulkEntries entries + 1
  | .held _ => 1
def uptoBulkAll {H : Type} : List (DataW H) → Nat
  | [] => 0
  | d :: r => uptoBulk d + uptoBulkAll r
def uptoBulkEntries {H : Type} : List (Lit × DataW H) → Nat
  | [] => 0
  | x :: r => uptoBulkEntry x + uptoBulkEntries r
def uptoBulkEntry {H : Type} : Lit × DataW H → Nat
  | (.string bytes, d) => bytes.length + uptoBulk d + 1
  | (_, d) => uptoBulk d + 1
 end
def uptoSmall : (H : Type) → List (DataW H) → Bool := fun _ ds => decide (uptoBulkAll ds ≤ 1048576)
def OpenSpec.upto (s : _root_.Go.ChangeSpec) : _root_.Go.OpenSpec := { _root_.Go.OpenSpec.ofChange s with cond := some uptoSmall }

/-- 'dominolaw11.RttSamples', WHERE WHAT IT READS IS OF BULK AT MOST 1048576: true; the input reads as it did. -/
def rttSamplesUptoRow : OpenClaim := { program := "ytecjkkofoafhaaa", sum := "991286a0ba30292ea253cefc123e0914c6f6a0db11d754a7e17a7cfbf8d5d116", func := "domino/dominolaw11.RttSamples", spec := "rttSamples", apart := false, narrowed := true }
def RttSamplesUptoSaid : Prop := rttSamplesUptoRow.holds Try.pinned (OpenSpec.upto rttSamplesSpec)

/-- 'dominolaw11.RttBetween', WHERE WHAT IT READS IS OF BULK AT MOST 1048576: true; the input reads as it did. -/
def rttBetweenUptoRow : OpenClaim := { program := "ytecjkkofoafhaaa", sum := "991286a0ba30292ea253cefc123e0914c6f6a0db11d754a7e17a7cfbf8d5d116", func := "domino/dominolaw11.RttBetween", spec := "rttBetween", apart := false, narrowed := true }
def RttBetweenUptoSaid : Prop := rttBetweenUptoRow.holds Try.pinned (OpenSpec.upto rttBetweenSpec)

/-- 'dominolaw11.RttSteady', WHERE WHAT IT READS IS OF BULK AT MOST 1048576: true; the input reads as it did. -/
def rttSteadyUptoRow : OpenClaim := { program := "ytecjkkofoafhaaa", sum := "991286a0ba30292ea253cefc123e0914c6f6a0db11d754a7e17a7cfbf8d5d116", func := "domino/dominolaw11.RttSteady", spec := "rttSteady", apart := false, narrowed := true }
def RttSteadyUptoSaid : Prop := rttSteadyUptoRow.holds Try.pinned (OpenSpec.upto rttSteadySpec)

/-- 'dominolaw11.RttPto', WHERE WHAT IT READS IS OF BULK AT MOST 1048576: true; the input reads as it did. -/
def rttPtoUptoRow : OpenClaim := { program := "ytecjkkofoafhaaa", sum := "991286a0ba30292ea253cefc123e0914c6f6a0db11d754a7e17a7cfbf8d5d116", func := "domino/dominolaw11.RttPto", spec := "rttPto", apart := false, narrowed := true }
def RttPtoUptoSaid : Prop := rttPtoUptoRow.holds Try.pinned (OpenSpec.upto rttPtoSpec)

/-- 'dominolaw11.RttHeld', WHERE WHAT IT READS IS OF BULK AT MOST 1048576: true; the input reads as it did. -/
def rttHeldUptoRow : OpenClaim := { program := "ytecjkkofoafhaaa", sum := "991286a0ba30292ea253cefc123e0914c6f6a0db11d754a7e17a7cfbf8d5d116", func := "domino/dominolaw11.RttHeld", spec := "rttHeld", apart := false, narrowed := true }
def RttHeldUptoSaid : Prop := rttHeldUptoRow.holds Try.pinned (OpenSpec.upto rttHeldSpec)

end Rows
end Go.Proofs.Ytecjkkofoafhaaa
