/-
  NARROWER THAN 'FOR EVERY INPUT', by the rows' own cells (each row's printed sentence says how): StreamLimit: laid · StreamCredit: laid · StreamBroken: laid · StreamReset: laid · StreamActs: laid · FlowTurns: laid · FlowOpen: laid · FlowCredit: laid · FlowRights: laid · FlowLost: laid · FlowActs: laid.
  DERIVED. THE GIVEN ROWS OF THIS SEAT. 11 by the template 'for every input the law returns true; each argument reads behind the call as it read before'; 0 by the template 'total and deterministic' (their statements: YtamaklnhjagifaaGreatDoorTotals.lean).
  GIVEN WITH THE SEED: the statements are not yours to turn. If you find one false, say at which input.
  Laid BY PROGRAM, IN A SANDBOX (cutbox-rows.mjs): the forced cells as the released guide's own fill.sh prints them over the translation ea67342bb2809869… (all of the seat's roots in one cut). By AI agents, Wed Nov 11 2026. No macro, syntax, notation, axiom, sorry.
-/
import Derived.Test.YtamaklnhjagifaaGreatDoorChecked
import GoSem.Claim
import GoSem.ClaimJoined
import GoSem.ClaimMapViews
import Derived.JoinedTies
import Derived.KernelRfl
namespace Go.Proofs.YtamaklnhjagifaaGreatDoor
/- THE CELL 'sum', in the pinned program and in every row, IS THE sha256 OF THE DUMP (.gsa) THAT YtamaklnhjagifaaGreatDoorProg.lean LOADS. Nothing in Lean hashes anything: it is a label: what it is worth is what the hold of that sum in a sandbox is worth. -/
noncomputable def Tryz.pinned : Pinned := { name := "ytamaklnhjagifaagreatdoor", sum := "ea67342bb28098694436c17c81deb3b9884f21cdbb58bf982f03ee183d35d55b", checked := Tryz.checked }
namespace Rows
def none {H : Type} : Left H := { results := [], args := [] }

/- WHAT THE LISTED PACKAGE-LEVEL VARIABLES READ AS WHEN THE CALL BEGINS. Each datum BY PROGRAM (the guide's laid-datum.mjs) off the statement by which the dump's own 'gosem.cut.vars' lays the variable. In a bare row this is a premise. The card (YtamaklnhjagifaaGreatDoorCards.lean) ties it to the program's text. -/
def laid_math_bits_deBruijn32tab {H : Type} : DataW H := .agg [.lit (.int .u8 0), .lit (.int .u8 1), .lit (.int .u8 28), .lit (.int .u8 2), .lit (.int .u8 29), .lit (.int .u8 14), .lit (.int .u8 24), .lit (.int .u8 3), .lit (.int .u8 30), .lit (.int .u8 22), .lit (.int .u8 20), .lit (.int .u8 15), .lit (.int .u8 25), .lit (.int .u8 17), .lit (.int .u8 4), .lit (.int .u8 8), .lit (.int .u8 31), .lit (.int .u8 27), .lit (.int .u8 13), .lit (.int .u8 23), .lit (.int .u8 21), .lit (.int .u8 19), .lit (.int .u8 16), .lit (.int .u8 7), .lit (.int .u8 26), .lit (.int .u8 12), .lit (.int .u8 18), .lit (.int .u8 6), .lit (.int .u8 11), .lit (.int .u8 5), .lit (.int .u8 10), .lit (.int .u8 9)]
def laid_math_bits_deBruijn64tab {H : Type} : DataW H := .agg [.lit (.int .u8 0), .lit (.int .u8 1), .lit (.int .u8 56), .lit (.int .u8 2), .lit (.int .u8 57), .lit (.int .u8 49), .lit (.int .u8 28), .lit (.int .u8 3), .lit (.int .u8 61), .lit (.int .u8 58), .lit (.int .u8 42), .lit (.int .u8 50), .lit (.int .u8 38), .lit (.int .u8 29), .lit (.int .u8 17), .lit (.int .u8 4), .lit (.int .u8 62), .lit (.int .u8 47), .lit (.int .u8 59), .lit (.int .u8 36), .lit (.int .u8 45), .lit (.int .u8 43), .lit (.int .u8 51), .lit (.int .u8 22), .lit (.int .u8 53), .lit (.int .u8 39), .lit (.int .u8 33), .lit (.int .u8 30), .lit (.int .u8 24), .lit (.int .u8 18), .lit (.int .u8 12), .lit (.int .u8 5), .lit (.int .u8 63), .lit (.int .u8 55), .lit (.int .u8 48), .lit (.int .u8 27), .lit (.int .u8 60), .lit (.int .u8 41), .lit (.int .u8 37), .lit (.int .u8 16), .lit (.int .u8 46), .lit (.int .u8 35), .lit (.int .u8 44), .lit (.int .u8 21), .lit (.int .u8 52), .lit (.int .u8 32), .lit (.int .u8 23), .lit (.int .u8 11), .lit (.int .u8 54), .lit (.int .u8 26), .lit (.int .u8 40), .lit (.int .u8 15), .lit (.int .u8 34), .lit (.int .u8 20), .lit (.int .u8 31), .lit (.int .u8 10), .lit (.int .u8 25), .lit (.int .u8 14), .lit (.int .u8 19), .lit (.int .u8 9), .lit (.int .u8 13), .lit (.int .u8 8), .lit (.int .u8 7), .lit (.int .u8 6)]

/-- 'dominolaw16.StreamLimit': WHATEVER THE INPUT: true; the input reads as it did. -/
def streamLimitSpec : ChangeSpec := { name := "streamLimit", fn := fun _ => fun
  | [d1, d2] => { results := [.lit (.bool true)], args := [d1, d2] }
  | _ => none }
def streamLimitRow : OpenClaim := { program := "ytamaklnhjagifaagreatdoor", sum := "ea67342bb28098694436c17c81deb3b9884f21cdbb58bf982f03ee183d35d55b", func := "domino/dominolaw16.StreamLimit", spec := "streamLimit", inPlace := ["internal/abi.NoEscape"], unfollowed := true, recurses := true, named := ["math/bits.deBruijn32tab", "math/bits.deBruijn64tab"], apart := false, laid := [("math/bits.deBruijn32tab", laid_math_bits_deBruijn32tab), ("math/bits.deBruijn64tab", laid_math_bits_deBruijn64tab)] }
def StreamLimitSaid : Prop := streamLimitRow.holds Tryz.pinned (OpenSpec.ofChange streamLimitSpec)

/-- ITS FALSE NEIGHBOUR: 'it returns false'. Refute it at one input. -/
def streamLimitWrong : ChangeSpec := { name := "streamLimit", fn := fun _ => fun
  | [d1, d2] => { results := [.lit (.bool false)], args := [d1, d2] }
  | _ => none }
def StreamLimitWrongFalsely : Prop := streamLimitRow.holds Tryz.pinned (OpenSpec.ofChange streamLimitWrong)

/-- 'dominolaw16.StreamCredit': WHATEVER THE INPUT: true; the input reads as it did. -/
def streamCreditSpec : ChangeSpec := { name := "streamCredit", fn := fun _ => fun
  | [d1, d2] => { results := [.lit (.bool true)], args := [d1, d2] }
  | _ => none }
def streamCreditRow : OpenClaim := { program := "ytamaklnhjagifaagreatdoor", sum := "ea67342bb28098694436c17c81deb3b9884f21cdbb58bf982f03ee183d35d55b", func := "domino/dominolaw16.StreamCredit", spec := "streamCredit", inPlace := ["internal/abi.NoEscape"], unfollowed := true, recurses := true, named := ["math/bits.deBruijn32tab", "math/bits.deBruijn64tab"], apart := false, laid := [("math/bits.deBruijn32tab", laid_math_bits_deBruijn32tab), ("math/bits.deBruijn64tab", laid_math_bits_deBruijn64tab)] }
def StreamCreditSaid : Prop := streamCreditRow.holds Tryz.pinned (OpenSpec.ofChange streamCreditSpec)

/-- ITS FALSE NEIGHBOUR: 'it returns false'. Refute it at one input. -/
def streamCreditWrong : ChangeSpec := { name := "streamCredit", fn := fun _ => fun
  | [d1, d2] => { results := [.lit (.bool false)], args := [d1, d2] }
  | _ => none }
def StreamCreditWrongFalsely : Prop := streamCreditRow.holds Tryz.pinned (OpenSpec.ofChange streamCreditWrong)

/-- 'dominolaw16.StreamBroken': WHATEVER THE INPUT: true; the input reads as it did. -/
def streamBrokenSpec : ChangeSpec := { name := "streamBroken", fn := fun _ => fun
  | [d1, d2, d3, d4] => { results := [.lit (.bool true)], args := [d1, d2, d3, d4] }
  | _ => none }
def streamBrokenRow : OpenClaim := { program := "ytamaklnhjagifaagreatdoor", sum := "ea67342bb28098694436c17c81deb3b9884f21cdbb58bf982f03ee183d35d55b", func := "domino/dominolaw16.StreamBroken", spec := "streamBroken", inPlace := ["internal/abi.NoEscape"], unfollowed := true, recurses := true, named := ["math/bits.deBruijn32tab", "math/bits.deBruijn64tab"], apart := false, laid := [("math/bits.deBruijn32tab", laid_math_bits_deBruijn32tab), ("math/bits.deBruijn64tab", laid_math_bits_deBruijn64tab)] }
def StreamBrokenSaid : Prop := streamBrokenRow.holds Tryz.pinned (OpenSpec.ofChange streamBrokenSpec)

/-- ITS FALSE NEIGHBOUR: 'it returns false'. Refute it at one input. -/
def streamBrokenWrong : ChangeSpec := { name := "streamBroken", fn := fun _ => fun
  | [d1, d2, d3, d4] => { results := [.lit (.bool false)], args := [d1, d2, d3, d4] }
  | _ => none }
def StreamBrokenWrongFalsely : Prop := streamBrokenRow.holds Tryz.pinned (OpenSpec.ofChange streamBrokenWrong)

/-- 'dominolaw16.StreamReset': WHATEVER THE INPUT: true; the input reads as it did. -/
def streamResetSpec : ChangeSpec := { name := "streamReset", fn := fun _ => fun
  | [d1, d2, d3, d4] => { results := [.lit (.bool true)], args := [d1, d2, d3, d4] }
  | _ => none }
def streamResetRow : OpenClaim := { program := "ytamaklnhjagifaagreatdoor", sum := "ea67342bb28098694436c17c81deb3b9884f21cdbb58bf982f03ee183d35d55b", func := "domino/dominolaw16.StreamReset", spec := "streamReset", inPlace := ["internal/abi.NoEscape"], unfollowed := true, recurses := true, named := ["math/bits.deBruijn32tab", "math/bits.deBruijn64tab"], apart := false, laid := [("math/bits.deBruijn32tab", laid_math_bits_deBruijn32tab), ("math/bits.deBruijn64tab", laid_math_bits_deBruijn64tab)] }
def StreamResetSaid : Prop := streamResetRow.holds Tryz.pinned (OpenSpec.ofChange streamResetSpec)

/-- ITS FALSE NEIGHBOUR: 'it returns false'. Refute it at one input. -/
def streamResetWrong : ChangeSpec := { name := "streamReset", fn := fun _ => fun
  | [d1, d2, d3, d4] => { results := [.lit (.bool false)], args := [d1, d2, d3, d4] }
  | _ => none }
def StreamResetWrongFalsely : Prop := streamResetRow.holds Tryz.pinned (OpenSpec.ofChange streamResetWrong)

/-- 'dominolaw16.StreamActs': WHATEVER THE INPUT: true; the input reads as it did. -/
def streamActsSpec : ChangeSpec := { name := "streamActs", fn := fun _ => fun
  | [d1, d2, d3, d4] => { results := [.lit (.bool true)], args := [d1, d2, d3, d4] }
  | _ => none }
def streamActsRow : OpenClaim := { program := "ytamaklnhjagifaagreatdoor", sum := "ea67342bb28098694436c17c81deb3b9884f21cdbb58bf982f03ee183d35d55b", func := "domino/dominolaw16.StreamActs", spec := "streamActs", inPlace := ["internal/abi.NoEscape"], unfollowed := true, recurses := true, named := ["math/bits.deBruijn32tab", "math/bits.deBruijn64tab"], apart := false, laid := [("math/bits.deBruijn32tab", laid_math_bits_deBruijn32tab), ("math/bits.deBruijn64tab", laid_math_bits_deBruijn64tab)] }
def StreamActsSaid : Prop := streamActsRow.holds Tryz.pinned (OpenSpec.ofChange streamActsSpec)

/-- ITS FALSE NEIGHBOUR: 'it returns false'. Refute it at one input. -/
def streamActsWrong : ChangeSpec := { name := "streamActs", fn := fun _ => fun
  | [d1, d2, d3, d4] => { results := [.lit (.bool false)], args := [d1, d2, d3, d4] }
  | _ => none }
def StreamActsWrongFalsely : Prop := streamActsRow.holds Tryz.pinned (OpenSpec.ofChange streamActsWrong)

/-- 'dominolaw17.FlowTurns': WHATEVER THE INPUT: true; the input reads as it did. -/
def flowTurnsSpec : ChangeSpec := { name := "flowTurns", fn := fun _ => fun
  | [d1, d2, d3] => { results := [.lit (.bool true)], args := [d1, d2, d3] }
  | _ => none }
def flowTurnsRow : OpenClaim := { program := "ytamaklnhjagifaagreatdoor", sum := "ea67342bb28098694436c17c81deb3b9884f21cdbb58bf982f03ee183d35d55b", func := "domino/dominolaw17.FlowTurns", spec := "flowTurns", inPlace := ["slices.overlaps[domino/flow.Item]", "internal/abi.NoEscape"], unfollowed := true, recurses := true, named := ["math/bits.deBruijn32tab", "math/bits.deBruijn64tab"], apart := false, laid := [("math/bits.deBruijn32tab", laid_math_bits_deBruijn32tab), ("math/bits.deBruijn64tab", laid_math_bits_deBruijn64tab)] }
def FlowTurnsSaid : Prop := flowTurnsRow.holds Tryz.pinned (OpenSpec.ofChange flowTurnsSpec)

/-- ITS FALSE NEIGHBOUR: 'it returns false'. Refute it at one input. -/
def flowTurnsWrong : ChangeSpec := { name := "flowTurns", fn := fun _ => fun
  | [d1, d2, d3] => { results := [.lit (.bool false)], args := [d1, d2, d3] }
  | _ => none }
def FlowTurnsWrongFalsely : Prop := flowTurnsRow.holds Tryz.pinned (OpenSpec.ofChange flowTurnsWrong)

/-- 'dominolaw17.FlowOpen': WHATEVER THE INPUT: true; the input reads as it did. -/
def flowOpenSpec : ChangeSpec := { name := "flowOpen", fn := fun _ => fun
  | [d1, d2, d3] => { results := [.lit (.bool true)], args := [d1, d2, d3] }
  | _ => none }
def flowOpenRow : OpenClaim := { program := "ytamaklnhjagifaagreatdoor", sum := "ea67342bb28098694436c17c81deb3b9884f21cdbb58bf982f03ee183d35d55b", func := "domino/dominolaw17.FlowOpen", spec := "flowOpen", inPlace := ["slices.overlaps[domino/flow.Item]", "internal/abi.NoEscape"], unfollowed := true, recurses := true, named := ["math/bits.deBruijn32tab", "math/bits.deBruijn64tab"], apart := false, laid := [("math/bits.deBruijn32tab", laid_math_bits_deBruijn32tab), ("math/bits.deBruijn64tab", laid_math_bits_deBruijn64tab)] }
def FlowOpenSaid : Prop := flowOpenRow.holds Tryz.pinned (OpenSpec.ofChange flowOpenSpec)

/-- ITS FALSE NEIGHBOUR: 'it returns false'. Refute it at one input. -/
def flowOpenWrong : ChangeSpec := { name := "flowOpen", fn := fun _ => fun
  | [d1, d2, d3] => { results := [.lit (.bool false)], args := [d1, d2, d3] }
  | _ => none }
def FlowOpenWrongFalsely : Prop := flowOpenRow.holds Tryz.pinned (OpenSpec.ofChange flowOpenWrong)

/-- 'dominolaw17.FlowCredit': WHATEVER THE INPUT: true; the input reads as it did. -/
def flowCreditSpec : ChangeSpec := { name := "flowCredit", fn := fun _ => fun
  | [d1, d2, d3, d4, d5, d6, d7, d8] => { results := [.lit (.bool true)], args := [d1, d2, d3, d4, d5, d6, d7, d8] }
  | _ => none }
def flowCreditRow : OpenClaim := { program := "ytamaklnhjagifaagreatdoor", sum := "ea67342bb28098694436c17c81deb3b9884f21cdbb58bf982f03ee183d35d55b", func := "domino/dominolaw17.FlowCredit", spec := "flowCredit", inPlace := ["slices.overlaps[domino/flow.Item]", "internal/abi.NoEscape"], unfollowed := true, recurses := true, named := ["math/bits.deBruijn32tab", "math/bits.deBruijn64tab"], apart := false, laid := [("math/bits.deBruijn32tab", laid_math_bits_deBruijn32tab), ("math/bits.deBruijn64tab", laid_math_bits_deBruijn64tab)] }
def FlowCreditSaid : Prop := flowCreditRow.holds Tryz.pinned (OpenSpec.ofChange flowCreditSpec)

/-- ITS FALSE NEIGHBOUR: 'it returns false'. Refute it at one input. -/
def flowCreditWrong : ChangeSpec := { name := "flowCredit", fn := fun _ => fun
  | [d1, d2, d3, d4, d5, d6, d7, d8] => { results := [.lit (.bool false)], args := [d1, d2, d3, d4, d5, d6, d7, d8] }
  | _ => none }
def FlowCreditWrongFalsely : Prop := flowCreditRow.holds Tryz.pinned (OpenSpec.ofChange flowCreditWrong)

/-- 'dominolaw17.FlowRights': WHATEVER THE INPUT: true; the input reads as it did. -/
def flowRightsSpec : ChangeSpec := { name := "flowRights", fn := fun _ => fun
  | [d1, d2, d3] => { results := [.lit (.bool true)], args := [d1, d2, d3] }
  | _ => none }
def flowRightsRow : OpenClaim := { program := "ytamaklnhjagifaagreatdoor", sum := "ea67342bb28098694436c17c81deb3b9884f21cdbb58bf982f03ee183d35d55b", func := "domino/dominolaw17.FlowRights", spec := "flowRights", inPlace := ["slices.overlaps[domino/flow.Item]", "internal/abi.NoEscape"], unfollowed := true, recurses := true, named := ["math/bits.deBruijn32tab", "math/bits.deBruijn64tab"], apart := false, laid := [("math/bits.deBruijn32tab", laid_math_bits_deBruijn32tab), ("math/bits.deBruijn64tab", laid_math_bits_deBruijn64tab)] }
def FlowRightsSaid : Prop := flowRightsRow.holds Tryz.pinned (OpenSpec.ofChange flowRightsSpec)

/-- ITS FALSE NEIGHBOUR: 'it returns false'. Refute it at one input. -/
def flowRightsWrong : ChangeSpec := { name := "flowRights", fn := fun _ => fun
  | [d1, d2, d3] => { results := [.lit (.bool false)], args := [d1, d2, d3] }
  | _ => none }
def FlowRightsWrongFalsely : Prop := flowRightsRow.holds Tryz.pinned (OpenSpec.ofChange flowRightsWrong)

/-- 'dominolaw17.FlowLost': WHATEVER THE INPUT: true; the input reads as it did. -/
def flowLostSpec : ChangeSpec := { name := "flowLost", fn := fun _ => fun
  | [d1, d2, d3] => { results := [.lit (.bool true)], args := [d1, d2, d3] }
  | _ => none }
def flowLostRow : OpenClaim := { program := "ytamaklnhjagifaagreatdoor", sum := "ea67342bb28098694436c17c81deb3b9884f21cdbb58bf982f03ee183d35d55b", func := "domino/dominolaw17.FlowLost", spec := "flowLost", inPlace := ["slices.overlaps[domino/flow.Item]", "internal/abi.NoEscape"], unfollowed := true, recurses := true, named := ["math/bits.deBruijn32tab", "math/bits.deBruijn64tab"], apart := false, laid := [("math/bits.deBruijn32tab", laid_math_bits_deBruijn32tab), ("math/bits.deBruijn64tab", laid_math_bits_deBruijn64tab)] }
def FlowLostSaid : Prop := flowLostRow.holds Tryz.pinned (OpenSpec.ofChange flowLostSpec)

/-- ITS FALSE NEIGHBOUR: 'it returns false'. Refute it at one input. -/
def flowLostWrong : ChangeSpec := { name := "flowLost", fn := fun _ => fun
  | [d1, d2, d3] => { results := [.lit (.bool false)], args := [d1, d2, d3] }
  | _ => none }
def FlowLostWrongFalsely : Prop := flowLostRow.holds Tryz.pinned (OpenSpec.ofChange flowLostWrong)

/-- 'dominolaw17.FlowActs': WHATEVER THE INPUT: true; the input reads as it did. -/
def flowActsSpec : ChangeSpec := { name := "flowActs", fn := fun _ => fun
  | [d1, d2, d3, d4, d5, d6, d7, d8] => { results := [.lit (.bool true)], args := [d1, d2, d3, d4, d5, d6, d7, d8] }
  | _ => none }
def flowActsRow : OpenClaim := { program := "ytamaklnhjagifaagreatdoor", sum := "ea67342bb28098694436c17c81deb3b9884f21cdbb58bf982f03ee183d35d55b", func := "domino/dominolaw17.FlowActs", spec := "flowActs", inPlace := ["slices.overlaps[domino/flow.Item]", "internal/abi.NoEscape"], unfollowed := true, recurses := true, named := ["math/bits.deBruijn32tab", "math/bits.deBruijn64tab"], apart := false, laid := [("math/bits.deBruijn32tab", laid_math_bits_deBruijn32tab), ("math/bits.deBruijn64tab", laid_math_bits_deBruijn64tab)] }
def FlowActsSaid : Prop := flowActsRow.holds Tryz.pinned (OpenSpec.ofChange flowActsSpec)

/-- ITS FALSE NEIGHBOUR: 'it returns false'. Refute it at one input. -/
def flowActsWrong : ChangeSpec := { name := "flowActs", fn := fun _ => fun
  | [d1, d2, d3, d4, d5, d6, d7, d8] => { results := [.lit (.bool false)], args := [d1, d2, d3, d4, d5, d6, d7, d8] }
  | _ => none }
def FlowActsWrongFalsely : Prop := flowActsRow.holds Tryz.pinned (OpenSpec.ofChange flowActsWrong)

/- THE SECOND FORM. 'bulk': how many values and letters a reading holds, each counted each time it is reached (what is shared counts as often as it is met; a slice's spare places count too). A statement '..UptoSaid' is the law's where the arguments, and the package variables that the reading takes, are together of bulk at most 1048576: NARROWER than '..Said'. Prove '..Said' where nothing that the law and all that it calls make is longer than what came in: it says more and counts as full. Else prove '..UptoSaid'. A law counts once. -/
mutual
def uptoBulk {H : Type} : DataW H → Nat
  | .lit (.string bytes) => bytes.length + 1
  | .lit _ => 1
  | .nil => 1
  | .ptr d => uptoBulk d + 1
  | .slice elems spare => uptoBulkAll elems + uptoBulkAll spare + 1
  | .agg parts => uptoBulkAll parts + 1
  | .iface _ d => uptoBulk d + 1
  | .map entries => uptoBulkEntries entries + 1
  | .held _ => 1
def uptoBulkAll {H : Type} : List (DataW H) → Nat
  | [] => 0
  | d :: r => uptoBulk d + uptoBulkAll r
def uptoBulkEntries {H : Type} : List (Lit × DataW H) → Nat
  | [] => 0
  | x :: r => uptoBulkEntry x + uptoBulkEntries r
def uptoBulkEntry {H : Type} : Lit × DataW H → Nat
  | (.string bytes, d) => bytes.length + uptoBulk d + 1
  | (_, d) => uptoBulk d + 1
 end
def uptoSmall : (H : Type) → List (DataW H) → Bool := fun _ ds => decide (uptoBulkAll ds ≤ 1048576)
def OpenSpec.upto (s : _root_.Go.ChangeSpec) : _root_.Go.OpenSpec := { _root_.Go.OpenSpec.ofChange s with cond := some uptoSmall }

/-- 'dominolaw16.StreamLimit', WHERE WHAT IT READS IS OF BULK AT MOST 1048576: true; the input reads as it did. -/
def streamLimitUptoRow : OpenClaim := { program := "ytamaklnhjagifaagreatdoor", sum := "ea67342bb28098694436c17c81deb3b9884f21cdbb58bf982f03ee183d35d55b", func := "domino/dominolaw16.StreamLimit", spec := "streamLimit", inPlace := ["internal/abi.NoEscape"], unfollowed := true, recurses := true, named := ["math/bits.deBruijn32tab", "math/bits.deBruijn64tab"], apart := false, laid := [("math/bits.deBruijn32tab", laid_math_bits_deBruijn32tab), ("math/bits.deBruijn64tab", laid_math_bits_deBruijn64tab)], narrowed := true }
def StreamLimitUptoSaid : Prop := streamLimitUptoRow.holds Tryz.pinned (OpenSpec.upto streamLimitSpec)

/-- 'dominolaw16.StreamCredit', WHERE WHAT IT READS IS OF BULK AT MOST 1048576: true; the input reads as it did. -/
def streamCreditUptoRow : OpenClaim := { program := "ytamaklnhjagifaagreatdoor", sum := "ea67342bb28098694436c17c81deb3b9884f21cdbb58bf982f03ee183d35d55b", func := "domino/dominolaw16.StreamCredit", spec := "streamCredit", inPlace := ["internal/abi.NoEscape"], unfollowed := true, recurses := true, named := ["math/bits.deBruijn32tab", "math/bits.deBruijn64tab"], apart := false, laid := [("math/bits.deBruijn32tab", laid_math_bits_deBruijn32tab), ("math/bits.deBruijn64tab", laid_math_bits_deBruijn64tab)], narrowed := true }
def StreamCreditUptoSaid : Prop := streamCreditUptoRow.holds Tryz.pinned (OpenSpec.upto streamCreditSpec)

/-- 'dominolaw16.StreamBroken', WHERE WHAT IT READS IS OF BULK AT MOST 1048576: true; the input reads as it did. -/
def streamBrokenUptoRow : OpenClaim := { program := "ytamaklnhjagifaagreatdoor", sum := "ea67342bb28098694436c17c81deb3b9884f21cdbb58bf982f03ee183d35d55b", func := "domino/dominolaw16.StreamBroken", spec := "streamBroken", inPlace := ["internal/abi.NoEscape"], unfollowed := true, recurses := true, named := ["math/bits.deBruijn32tab", "math/bits.deBruijn64tab"], apart := false, laid := [("math/bits.deBruijn32tab", laid_math_bits_deBruijn32tab), ("math/bits.deBruijn64tab", laid_math_bits_deBruijn64tab)], narrowed := true }
def StreamBrokenUptoSaid : Prop := streamBrokenUptoRow.holds Tryz.pinned (OpenSpec.upto streamBrokenSpec)

/-- 'dominolaw16.StreamReset', WHERE WHAT IT READS IS OF BULK AT MOST 1048576: true; the input reads as it did. -/
def streamResetUptoRow : OpenClaim := { program := "ytamaklnhjagifaagreatdoor", sum := "ea67342bb28098694436c17c81deb3b9884f21cdbb58bf982f03ee183d35d55b", func := "domino/dominolaw16.StreamReset", spec := "streamReset", inPlace := ["internal/abi.NoEscape"], unfollowed := true, recurses := true, named := ["math/bits.deBruijn32tab", "math/bits.deBruijn64tab"], apart := false, laid := [("math/bits.deBruijn32tab", laid_math_bits_deBruijn32tab), ("math/bits.deBruijn64tab", laid_math_bits_deBruijn64tab)], narrowed := true }
def StreamResetUptoSaid : Prop := streamResetUptoRow.holds Tryz.pinned (OpenSpec.upto streamResetSpec)

/-- 'dominolaw16.StreamActs', WHERE WHAT IT READS IS OF BULK AT MOST 1048576: true; the input reads as it did. -/
def streamActsUptoRow : OpenClaim := { program := "ytamaklnhjagifaagreatdoor", sum := "ea67342bb28098694436c17c81deb3b9884f21cdbb58bf982f03ee183d35d55b", func := "domino/dominolaw16.StreamActs", spec := "streamActs", inPlace := ["internal/abi.NoEscape"], unfollowed := true, recurses := true, named := ["math/bits.deBruijn32tab", "math/bits.deBruijn64tab"], apart := false, laid := [("math/bits.deBruijn32tab", laid_math_bits_deBruijn32tab), ("math/bits.deBruijn64tab", laid_math_bits_deBruijn64tab)], narrowed := true }
def StreamActsUptoSaid : Prop := streamActsUptoRow.holds Tryz.pinned (OpenSpec.upto streamActsSpec)

/-- 'dominolaw17.FlowTurns', WHERE WHAT IT READS IS OF BULK AT MOST 1048576: true; the input reads as it did. -/
def flowTurnsUptoRow : OpenClaim := { program := "ytamaklnhjagifaagreatdoor", sum := "ea67342bb28098694436c17c81deb3b9884f21cdbb58bf982f03ee183d35d55b", func := "domino/dominolaw17.FlowTurns", spec := "flowTurns", inPlace := ["slices.overlaps[domino/flow.Item]", "internal/abi.NoEscape"], unfollowed := true, recurses := true, named := ["math/bits.deBruijn32tab", "math/bits.deBruijn64tab"], apart := false, laid := [("math/bits.deBruijn32tab", laid_math_bits_deBruijn32tab), ("math/bits.deBruijn64tab", laid_math_bits_deBruijn64tab)], narrowed := true }
def FlowTurnsUptoSaid : Prop := flowTurnsUptoRow.holds Tryz.pinned (OpenSpec.upto flowTurnsSpec)

/-- 'dominolaw17.FlowOpen', WHERE WHAT IT READS IS OF BULK AT MOST 1048576: true; the input reads as it did. -/
def flowOpenUptoRow : OpenClaim := { program := "ytamaklnhjagifaagreatdoor", sum := "ea67342bb28098694436c17c81deb3b9884f21cdbb58bf982f03ee183d35d55b", func := "domino/dominolaw17.FlowOpen", spec := "flowOpen", inPlace := ["slices.overlaps[domino/flow.Item]", "internal/abi.NoEscape"], unfollowed := true, recurses := true, named := ["math/bits.deBruijn32tab", "math/bits.deBruijn64tab"], apart := false, laid := [("math/bits.deBruijn32tab", laid_math_bits_deBruijn32tab), ("math/bits.deBruijn64tab", laid_math_bits_deBruijn64tab)], narrowed := true }
def FlowOpenUptoSaid : Prop := flowOpenUptoRow.holds Tryz.pinned (OpenSpec.upto flowOpenSpec)

/-- 'dominolaw17.FlowCredit', WHERE WHAT IT READS IS OF BULK AT MOST 1048576: true; the input reads as it did. -/
def flowCreditUptoRow : OpenClaim := { program := "ytamaklnhjagifaagreatdoor", sum := "ea67342bb28098694436c17c81deb3b9884f21cdbb58bf982f03ee183d35d55b", func := "domino/dominolaw17.FlowCredit", spec := "flowCredit", inPlace := ["slices.overlaps[domino/flow.Item]", "internal/abi.NoEscape"], unfollowed := true, recurses := true, named := ["math/bits.deBruijn32tab", "math/bits.deBruijn64tab"], apart := false, laid := [("math/bits.deBruijn32tab", laid_math_bits_deBruijn32tab), ("math/bits.deBruijn64tab", laid_math_bits_deBruijn64tab)], narrowed := true }
def FlowCreditUptoSaid : Prop := flowCreditUptoRow.holds Tryz.pinned (OpenSpec.upto flowCreditSpec)

/-- 'dominolaw17.FlowRights', WHERE WHAT IT READS IS OF BULK AT MOST 1048576: true; the input reads as it did. -/
def flowRightsUptoRow : OpenClaim := { program := "ytamaklnhjagifaagreatdoor", sum := "ea67342bb28098694436c17c81deb3b9884f21cdbb58bf982f03ee183d35d55b", func := "domino/dominolaw17.FlowRights", spec := "flowRights", inPlace := ["slices.overlaps[domino/flow.Item]", "internal/abi.NoEscape"], unfollowed := true, recurses := true, named := ["math/bits.deBruijn32tab", "math/bits.deBruijn64tab"], apart := false, laid := [("math/bits.deBruijn32tab", laid_math_bits_deBruijn32tab), ("math/bits.deBruijn64tab", laid_math_bits_deBruijn64tab)], narrowed := true }
def FlowRightsUptoSaid : Prop := flowRightsUptoRow.holds Tryz.pinned (OpenSpec.upto flowRightsSpec)

/-- 'dominolaw17.FlowLost', WHERE WHAT IT READS IS OF BULK AT MOST 1048576: true; the input reads as it did. -/
def flowLostUptoRow : OpenClaim := { program := "ytamaklnhjagifaagreatdoor", sum := "ea67342bb28098694436c17c81deb3b9884f21cdbb58bf982f03ee183d35d55b", func := "domino/dominolaw17.FlowLost", spec := "flowLost", inPlace := ["slices.overlaps[domino/flow.Item]", "internal/abi.NoEscape"], unfollowed := true, recurses := true, named := ["math/bits.deBruijn32tab", "math/bits.deBruijn64tab"], apart := false, laid := [("math/bits.deBruijn32tab", laid_math_bits_deBruijn32tab), ("math/bits.deBruijn64tab", laid_math_bits_deBruijn64tab)], narrowed := true }
def FlowLostUptoSaid : Prop := flowLostUptoRow.holds Tryz.pinned (OpenSpec.upto flowLostSpec)

/-- 'dominolaw17.FlowActs', WHERE WHAT IT READS IS OF BULK AT MOST 1048576: true; the input reads as it did. -/
def flowActsUptoRow : OpenClaim := { program := "ytamaklnhjagifaagreatdoor", sum := "ea67342bb28098694436c17c81deb3b9884f21cdbb58bf982f03ee183d35d55b", func := "domino/dominolaw17.FlowActs", spec := "flowActs", inPlace := ["slices.overlaps[domino/flow.Item]", "internal/abi.NoEscape"], unfollowed := true, recurses := true, named := ["math/bits.deBruijn32tab", "math/bits.deBruijn64tab"], apart := false, laid := [("math/bits.deBruijn32tab", laid_math_bits_deBruijn32tab), ("math/bits.deBruijn64tab", laid_math_bits_deBruijn64tab)], narrowed := true }
def FlowActsUptoSaid : Prop := flowActsUptoRow.holds Tryz.pinned (OpenSpec.upto flowActsSpec)

end Rows
end Go.Proofs.YtamaklnhjagifaaGreatDoor
