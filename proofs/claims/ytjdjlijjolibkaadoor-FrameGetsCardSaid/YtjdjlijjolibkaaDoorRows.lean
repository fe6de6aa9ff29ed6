/-
  NARROWER THAN 'FOR EVERY INPUT', by the rows' own cells (each row's printed sentence says how): PathThree: laid · PathAnswers: laid · PathFull: laid · FramePuts: laid · FrameBack: laid · FrameSame: laid · FrameTail: laid · FrameCut: laid · FrameLong: laid · FrameKinds: laid · FrameGets: laid · FrameAll: laid · IdsOnce: laid · IdsBoth: laid · IdsFill: laid · IdsPrior: laid.
  DERIVED. THE GIVEN ROWS OF THIS SEAT. 16 by the template 'for every input the law returns true; each argument reads behind the call as it read before'; 0 by the template 'total and deterministic' (their statements: YtjdjlijjolibkaaDoorTotals.lean).
  GIVEN WITH THE SEED: the statements are not yours to turn. If you find one false, say at which input.
  Laid BY PROGRAM, IN A SANDBOX (cutbox-rows.mjs): the forced cells as the released guide's own fill.sh prints them over the translation c868670ee167af9c… (all of the seat's roots in one cut). By AI agents, Wed Nov 11 2026. No macro, syntax, notation, axiom, sorry.
-/
import Derived.Test.YtjdjlijjolibkaaDoorChecked
import GoSem.Claim
import GoSem.ClaimJoined
import GoSem.ClaimMapViews
import Derived.JoinedTies
import Derived.KernelRfl
namespace Go.Proofs.YtjdjlijjolibkaaDoor
/- THE CELL 'sum', in the pinned program and in every row, IS THE sha256 OF THE DUMP (.gsa) THAT YtjdjlijjolibkaaDoorProg.lean LOADS. Nothing in Lean hashes anything: it is a label: what it is worth is what the hold of that sum in a sandbox is worth. -/
noncomputable def Tryd.pinned : Pinned := { name := "ytjdjlijjolibkaadoor", sum := "c868670ee167af9cf533dc5161f2633eccbaa32079fd1715707e731a0d70a783", checked := Tryd.checked }
namespace Rows
def none {H : Type} : Left H := { results := [], args := [] }

/- WHAT THE LISTED PACKAGE-LEVEL VARIABLES READ AS WHEN THE CALL BEGINS. Each datum BY PROGRAM (the guide's laid-datum.mjs) off the statement by which the dump's own 'gosem.cut.vars' lays the variable. In a bare row this is a premise. The card (YtjdjlijjolibkaaDoorCards.lean) ties it to the program's text. -/
def laid_math_bits_deBruijn32tab {H : Type} : DataW H := .agg [.lit (.int .u8 0), .lit (.int .u8 1), .lit (.int .u8 28), .lit (.int .u8 2), .lit (.int .u8 29), .lit (.int .u8 14), .lit (.int .u8 24), .lit (.int .u8 3), .lit (.int .u8 30), .lit (.int .u8 22), .lit (.int .u8 20), .lit (.int .u8 15), .lit (.int .u8 25), .lit (.int .u8 17), .lit (.int .u8 4), .lit (.int .u8 8), .lit (.int .u8 31), .lit (.int .u8 27), .lit (.int .u8 13), .lit (.int .u8 23), .lit (.int .u8 21), .lit (.int .u8 19), .lit (.int .u8 16), .lit (.int .u8 7), .lit (.int .u8 26), .lit (.int .u8 12), .lit (.int .u8 18), .lit (.int .u8 6), .lit (.int .u8 11), .lit (.int .u8 5), .lit (.int .u8 10), .lit (.int .u8 9)]
def laid_math_bits_deBruijn64tab {H : Type} : DataW H := .agg [.lit (.int .u8 0), .lit (.int .u8 1), .lit (.int .u8 56), .lit (.int .u8 2), .lit (.int .u8 57), .lit (.int .u8 49), .lit (.int .u8 28), .lit (.int .u8 3), .lit (.int .u8 61), .lit (.int .u8 58), .lit (.int .u8 42), .lit (.int .u8 50), .lit (.int .u8 38), .lit (.int .u8 29), .lit (.int .u8 17), .lit (.int .u8 4), .lit (.int .u8 62), .lit (.int .u8 47), .lit (.int .u8 59), .lit (.int .u8 36), .lit (.int .u8 45), .lit (.int .u8 43), .lit (.int .u8 51), .lit (.int .u8 22), .lit (.int .u8 53), .lit (.int .u8 39), .lit (.int .u8 33), .lit (.int .u8 30), .lit (.int .u8 24), .lit (.int .u8 18), .lit (.int .u8 12), .lit (.int .u8 5), .lit (.int .u8 63), .lit (.int .u8 55), .lit (.int .u8 48), .lit (.int .u8 27), .lit (.int .u8 60), .lit (.int .u8 41), .lit (.int .u8 37), .lit (.int .u8 16), .lit (.int .u8 46), .lit (.int .u8 35), .lit (.int .u8 44), .lit (.int .u8 21), .lit (.int .u8 52), .lit (.int .u8 32), .lit (.int .u8 23), .lit (.int .u8 11), .lit (.int .u8 54), .lit (.int .u8 26), .lit (.int .u8 40), .lit (.int .u8 15), .lit (.int .u8 34), .lit (.int .u8 20), .lit (.int .u8 31), .lit (.int .u8 10), .lit (.int .u8 25), .lit (.int .u8 14), .lit (.int .u8 19), .lit (.int .u8 9), .lit (.int .u8 13), .lit (.int .u8 8), .lit (.int .u8 7), .lit (.int .u8 6)]

/-- 'dominolaw19.PathThree': WHATEVER THE INPUT: true; the input reads as it did. -/
def pathThreeSpec : ChangeSpec := { name := "pathThree", fn := fun _ => fun
  | [d] => { results := [.lit (.bool true)], args := [d] }
  | _ => none }
def pathThreeRow : OpenClaim := { program := "ytjdjlijjolibkaadoor", sum := "c868670ee167af9cf533dc5161f2633eccbaa32079fd1715707e731a0d70a783", func := "domino/dominolaw19.PathThree", spec := "pathThree", inPlace := ["internal/abi.NoEscape"], unfollowed := true, recurses := true, named := ["math/bits.deBruijn32tab", "math/bits.deBruijn64tab"], apart := false, laid := [("math/bits.deBruijn32tab", laid_math_bits_deBruijn32tab), ("math/bits.deBruijn64tab", laid_math_bits_deBruijn64tab)] }
def PathThreeSaid : Prop := pathThreeRow.holds Tryd.pinned (OpenSpec.ofChange pathThreeSpec)

/-- ITS FALSE NEIGHBOUR: 'it returns false'. Refute it at one input. -/
def pathThreeWrong : ChangeSpec := { name := "pathThree", fn := fun _ => fun
  | [d] => { results := [.lit (.bool false)], args := [d] }
  | _ => none }
def PathThreeWrongFalsely : Prop := pathThreeRow.holds Tryd.pinned (OpenSpec.ofChange pathThreeWrong)

/-- 'dominolaw19.PathAnswers': WHATEVER THE INPUT: true; the input reads as it did. -/
def pathAnswersSpec : ChangeSpec := { name := "pathAnswers", fn := fun _ => fun
  | [d1, d2] => { results := [.lit (.bool true)], args := [d1, d2] }
  | _ => none }
def pathAnswersRow : OpenClaim := { program := "ytjdjlijjolibkaadoor", sum := "c868670ee167af9cf533dc5161f2633eccbaa32079fd1715707e731a0d70a783", func := "domino/dominolaw19.PathAnswers", spec := "pathAnswers", inPlace := ["internal/abi.NoEscape"], unfollowed := true, recurses := true, named := ["math/bits.deBruijn32tab", "math/bits.deBruijn64tab"], apart := false, laid := [("math/bits.deBruijn32tab", laid_math_bits_deBruijn32tab), ("math/bits.deBruijn64tab", laid_math_bits_deBruijn64tab)] }
def PathAnswersSaid : Prop := pathAnswersRow.holds Tryd.pinned (OpenSpec.ofChange pathAnswersSpec)

/-- ITS FALSE NEIGHBOUR: 'it returns false'. Refute it at one input. -/
def pathAnswersWrong : ChangeSpec := { name := "pathAnswers", fn := fun _ => fun
  | [d1, d2] => { results := [.lit (.bool false)], args := [d1, d2] }
  | _ => none }
def PathAnswersWrongFalsely : Prop := pathAnswersRow.holds Tryd.pinned (OpenSpec.ofChange pathAnswersWrong)

/-- 'dominolaw19.PathFull': WHATEVER THE INPUT: true; the input reads as it did. -/
def pathFullSpec : ChangeSpec := { name := "pathFull", fn := fun _ => fun
  | [d1, d2] => { results := [.lit (.bool true)], args := [d1, d2] }
  | _ => none }
def pathFullRow : OpenClaim := { program := "ytjdjlijjolibkaadoor", sum := "c868670ee167af9cf533dc5161f2633eccbaa32079fd1715707e731a0d70a783", func := "domino/dominolaw19.PathFull", spec := "pathFull", inPlace := ["internal/abi.NoEscape"], unfollowed := true, recurses := true, named := ["math/bits.deBruijn32tab", "math/bits.deBruijn64tab"], apart := false, laid := [("math/bits.deBruijn32tab", laid_math_bits_deBruijn32tab), ("math/bits.deBruijn64tab", laid_math_bits_deBruijn64tab)] }
def PathFullSaid : Prop := pathFullRow.holds Tryd.pinned (OpenSpec.ofChange pathFullSpec)

/-- ITS FALSE NEIGHBOUR: 'it returns false'. Refute it at one input. -/
def pathFullWrong : ChangeSpec := { name := "pathFull", fn := fun _ => fun
  | [d1, d2] => { results := [.lit (.bool false)], args := [d1, d2] }
  | _ => none }
def PathFullWrongFalsely : Prop := pathFullRow.holds Tryd.pinned (OpenSpec.ofChange pathFullWrong)

/-- 'dominolaw06.FramePuts': WHATEVER THE INPUT: true; the input reads as it did. -/
def framePutsSpec : ChangeSpec := { name := "framePuts", fn := fun _ => fun
  | [d] => { results := [.lit (.bool true)], args := [d] }
  | _ => none }
def framePutsRow : OpenClaim := { program := "ytjdjlijjolibkaadoor", sum := "c868670ee167af9cf533dc5161f2633eccbaa32079fd1715707e731a0d70a783", func := "domino/dominolaw06.FramePuts", spec := "framePuts", inPlace := ["internal/abi.NoEscape"], unfollowed := true, recurses := true, named := ["math/bits.deBruijn32tab", "math/bits.deBruijn64tab"], apart := false, laid := [("math/bits.deBruijn32tab", laid_math_bits_deBruijn32tab), ("math/bits.deBruijn64tab", laid_math_bits_deBruijn64tab)] }
def FramePutsSaid : Prop := framePutsRow.holds Tryd.pinned (OpenSpec.ofChange framePutsSpec)

/-- ITS FALSE NEIGHBOUR: 'it returns false'. Refute it at one input. -/
def framePutsWrong : ChangeSpec := { name := "framePuts", fn := fun _ => fun
  | [d] => { results := [.lit (.bool false)], args := [d] }
  | _ => none }
def FramePutsWrongFalsely : Prop := framePutsRow.holds Tryd.pinned (OpenSpec.ofChange framePutsWrong)

/-- 'dominolaw06.FrameBack': WHATEVER THE INPUT: true; the input reads as it did. -/
def frameBackSpec : ChangeSpec := { name := "frameBack", fn := fun _ => fun
  | [d1, d2] => { results := [.lit (.bool true)], args := [d1, d2] }
  | _ => none }
def frameBackRow : OpenClaim := { program := "ytjdjlijjolibkaadoor", sum := "c868670ee167af9cf533dc5161f2633eccbaa32079fd1715707e731a0d70a783", func := "domino/dominolaw06.FrameBack", spec := "frameBack", inPlace := ["internal/abi.NoEscape"], unfollowed := true, recurses := true, named := ["math/bits.deBruijn32tab", "math/bits.deBruijn64tab"], apart := false, laid := [("math/bits.deBruijn32tab", laid_math_bits_deBruijn32tab), ("math/bits.deBruijn64tab", laid_math_bits_deBruijn64tab)] }
def FrameBackSaid : Prop := frameBackRow.holds Tryd.pinned (OpenSpec.ofChange frameBackSpec)

/-- ITS FALSE NEIGHBOUR: 'it returns false'. Refute it at one input. -/
def frameBackWrong : ChangeSpec := { name := "frameBack", fn := fun _ => fun
  | [d1, d2] => { results := [.lit (.bool false)], args := [d1, d2] }
  | _ => none }
def FrameBackWrongFalsely : Prop := frameBackRow.holds Tryd.pinned (OpenSpec.ofChange frameBackWrong)

/-- 'dominolaw06.FrameSame': WHATEVER THE INPUT: true; the input reads as it did. -/
def frameSameSpec : ChangeSpec := { name := "frameSame", fn := fun _ => fun
  | [d1, d2] => { results := [.lit (.bool true)], args := [d1, d2] }
  | _ => none }
def frameSameRow : OpenClaim := { program := "ytjdjlijjolibkaadoor", sum := "c868670ee167af9cf533dc5161f2633eccbaa32079fd1715707e731a0d70a783", func := "domino/dominolaw06.FrameSame", spec := "frameSame", inPlace := ["internal/abi.NoEscape"], unfollowed := true, recurses := true, named := ["math/bits.deBruijn32tab", "math/bits.deBruijn64tab"], apart := false, laid := [("math/bits.deBruijn32tab", laid_math_bits_deBruijn32tab), ("math/bits.deBruijn64tab", laid_math_bits_deBruijn64tab)] }
def FrameSameSaid : Prop := frameSameRow.holds Tryd.pinned (OpenSpec.ofChange frameSameSpec)

/-- ITS FALSE NEIGHBOUR: 'it returns false'. Refute it at one input. -/
def frameSameWrong : ChangeSpec := { name := "frameSame", fn := fun _ => fun
  | [d1, d2] => { results := [.lit (.bool false)], args := [d1, d2] }
  | _ => none }
def FrameSameWrongFalsely : Prop := frameSameRow.holds Tryd.pinned (OpenSpec.ofChange frameSameWrong)

/-- 'dominolaw06.FrameTail': WHATEVER THE INPUT: true; the input reads as it did. -/
def frameTailSpec : ChangeSpec := { name := "frameTail", fn := fun _ => fun
  | [d1, d2, d3] => { results := [.lit (.bool true)], args := [d1, d2, d3] }
  | _ => none }
def frameTailRow : OpenClaim := { program := "ytjdjlijjolibkaadoor", sum := "c868670ee167af9cf533dc5161f2633eccbaa32079fd1715707e731a0d70a783", func := "domino/dominolaw06.FrameTail", spec := "frameTail", inPlace := ["internal/abi.NoEscape"], unfollowed := true, recurses := true, named := ["math/bits.deBruijn32tab", "math/bits.deBruijn64tab"], apart := false, laid := [("math/bits.deBruijn32tab", laid_math_bits_deBruijn32tab), ("math/bits.deBruijn64tab", laid_math_bits_deBruijn64tab)] }
def FrameTailSaid : Prop := frameTailRow.holds Tryd.pinned (OpenSpec.ofChange frameTailSpec)

/-- ITS FALSE NEIGHBOUR: 'it returns false'. Refute it at one input. -/
def frameTailWrong : ChangeSpec := { name := "frameTail", fn := fun _ => fun
  | [d1, d2, d3] => { results := [.lit (.bool false)], args := [d1, d2, d3] }
  | _ => none }
def FrameTailWrongFalsely : Prop := frameTailRow.holds Tryd.pinned (OpenSpec.ofChange frameTailWrong)

/-- 'dominolaw06.FrameCut': WHATEVER THE INPUT: true; the input reads as it did. -/
def frameCutSpec : ChangeSpec := { name := "frameCut", fn := fun _ => fun
  | [d1, d2] => { results := [.lit (.bool true)], args := [d1, d2] }
  | _ => none }
def frameCutRow : OpenClaim := { program := "ytjdjlijjolibkaadoor", sum := "c868670ee167af9cf533dc5161f2633eccbaa32079fd1715707e731a0d70a783", func := "domino/dominolaw06.FrameCut", spec := "frameCut", inPlace := ["internal/abi.NoEscape"], unfollowed := true, recurses := true, named := ["math/bits.deBruijn32tab", "math/bits.deBruijn64tab"], apart := false, laid := [("math/bits.deBruijn32tab", laid_math_bits_deBruijn32tab), ("math/bits.deBruijn64tab", laid_math_bits_deBruijn64tab)] }
def FrameCutSaid : Prop := frameCutRow.holds Tryd.pinned (OpenSpec.ofChange frameCutSpec)

/-- ITS FALSE NEIGHBOUR: 'it returns false'. Refute it at one input. -/
def frameCutWrong : ChangeSpec := { name := "frameCut", fn := fun _ => fun
  | [d1, d2] => { results := [.lit (.bool false)], args := [d1, d2] }
  | _ => none }
def FrameCutWrongFalsely : Prop := frameCutRow.holds Tryd.pinned (OpenSpec.ofChange frameCutWrong)

/-- 'dominolaw06.FrameLong': WHATEVER THE INPUT: true; the input reads as it did. -/
def frameLongSpec : ChangeSpec := { name := "frameLong", fn := fun _ => fun
  | [d1, d2] => { results := [.lit (.bool true)], args := [d1, d2] }
  | _ => none }
def frameLongRow : OpenClaim := { program := "ytjdjlijjolibkaadoor", sum := "c868670ee167af9cf533dc5161f2633eccbaa32079fd1715707e731a0d70a783", func := "domino/dominolaw06.FrameLong", spec := "frameLong", inPlace := ["internal/abi.NoEscape"], unfollowed := true, recurses := true, named := ["math/bits.deBruijn32tab", "math/bits.deBruijn64tab"], apart := false, laid := [("math/bits.deBruijn32tab", laid_math_bits_deBruijn32tab), ("math/bits.deBruijn64tab", laid_math_bits_deBruijn64tab)] }
def FrameLongSaid : Prop := frameLongRow.holds Tryd.pinned (OpenSpec.ofChange frameLongSpec)

/-- ITS FALSE NEIGHBOUR: 'it returns false'. Refute it at one input. -/
def frameLongWrong : ChangeSpec := { name := "frameLong", fn := fun _ => fun
  | [d1, d2] => { results := [.lit (.bool false)], args := [d1, d2] }
  | _ => none }
def FrameLongWrongFalsely : Prop := frameLongRow.holds Tryd.pinned (OpenSpec.ofChange frameLongWrong)

/-- 'dominolaw06.FrameKinds': WHATEVER THE INPUT: true; the input reads as it did. -/
def frameKindsSpec : ChangeSpec := { name := "frameKinds", fn := fun _ => fun
  | [d1, d2] => { results := [.lit (.bool true)], args := [d1, d2] }
  | _ => none }
def frameKindsRow : OpenClaim := { program := "ytjdjlijjolibkaadoor", sum := "c868670ee167af9cf533dc5161f2633eccbaa32079fd1715707e731a0d70a783", func := "domino/dominolaw06.FrameKinds", spec := "frameKinds", inPlace := ["internal/abi.NoEscape"], unfollowed := true, recurses := true, named := ["math/bits.deBruijn32tab", "math/bits.deBruijn64tab"], apart := false, laid := [("math/bits.deBruijn32tab", laid_math_bits_deBruijn32tab), ("math/bits.deBruijn64tab", laid_math_bits_deBruijn64tab)] }
def FrameKindsSaid : Prop := frameKindsRow.holds Tryd.pinned (OpenSpec.ofChange frameKindsSpec)

/-- ITS FALSE NEIGHBOUR: 'it returns false'. Refute it at one input. -/
def frameKindsWrong : ChangeSpec := { name := "frameKinds", fn := fun _ => fun
  | [d1, d2] => { results := [.lit (.bool false)], args := [d1, d2] }
  | _ => none }
def FrameKindsWrongFalsely : Prop := frameKindsRow.holds Tryd.pinned (OpenSpec.ofChange frameKindsWrong)

/-- 'dominolaw06.FrameGets': WHATEVER THE INPUT: true; the input reads as it did. -/
def frameGetsSpec : ChangeSpec := { name := "frameGets", fn := fun _ => fun
  | [d] => { results := [.lit (.bool true)], args := [d] }
  | _ => none }
def frameGetsRow : OpenClaim := { program := "ytjdjlijjolibkaadoor", sum := "c868670ee167af9cf533dc5161f2633eccbaa32079fd1715707e731a0d70a783", func := "domino/dominolaw06.FrameGets", spec := "frameGets", inPlace := ["internal/abi.NoEscape"], unfollowed := true, recurses := true, named := ["math/bits.deBruijn32tab", "math/bits.deBruijn64tab"], apart := false, laid := [("math/bits.deBruijn32tab", laid_math_bits_deBruijn32tab), ("math/bits.deBruijn64tab", laid_math_bits_deBruijn64tab)] }
def FrameGetsSaid : Prop := frameGetsRow.holds Tryd.pinned (OpenSpec.ofChange frameGetsSpec)

/-- ITS FALSE NEIGHBOUR: 'it returns false'. Refute it at one input. -/
def frameGetsWrong : ChangeSpec := { name := "frameGets", fn := fun _ => fun
  | [d] => { results := [.lit (.bool false)], args := [d] }
  | _ => none }
def FrameGetsWrongFalsely : Prop := frameGetsRow.holds Tryd.pinned (OpenSpec.ofChange frameGetsWrong)

/-- 'dominolaw06.FrameAll': WHATEVER THE INPUT: true; the input reads as it did. -/
def frameAllSpec : ChangeSpec := { name := "frameAll", fn := fun _ => fun
  | [d1, d2] => { results := [.lit (.bool true)], args := [d1, d2] }
  | _ => none }
def frameAllRow : OpenClaim := { program := "ytjdjlijjolibkaadoor", sum := "c868670ee167af9cf533dc5161f2633eccbaa32079fd1715707e731a0d70a783", func := "domino/dominolaw06.FrameAll", spec := "frameAll", inPlace := ["internal/abi.NoEscape"], unfollowed := true, recurses := true, named := ["math/bits.deBruijn32tab", "math/bits.deBruijn64tab"], apart := false, laid := [("math/bits.deBruijn32tab", laid_math_bits_deBruijn32tab), ("math/bits.deBruijn64tab", laid_math_bits_deBruijn64tab)] }
def FrameAllSaid : Prop := frameAllRow.holds Tryd.pinned (OpenSpec.ofChange frameAllSpec)

/-- ITS FALSE NEIGHBOUR: 'it returns false'. Refute it at one input. -/
def frameAllWrong : ChangeSpec := { name := "frameAll", fn := fun _ => fun
  | [d1, d2] => { results := [.lit (.bool false)], args := [d1, d2] }
  | _ => none }
def FrameAllWrongFalsely : Prop := frameAllRow.holds Tryd.pinned (OpenSpec.ofChange frameAllWrong)

/-- 'dominolaw18.IdsOnce': WHATEVER THE INPUT: true; the input reads as it did. -/
def idsOnceSpec : ChangeSpec := { name := "idsOnce", fn := fun _ => fun
  | [d1, d2] => { results := [.lit (.bool true)], args := [d1, d2] }
  | _ => none }
def idsOnceRow : OpenClaim := { program := "ytjdjlijjolibkaadoor", sum := "c868670ee167af9cf533dc5161f2633eccbaa32079fd1715707e731a0d70a783", func := "domino/dominolaw18.IdsOnce", spec := "idsOnce", inPlace := ["internal/abi.NoEscape", "slices.overlaps[domino/ids.Given]"], unfollowed := true, recurses := true, named := ["math/bits.deBruijn32tab", "math/bits.deBruijn64tab"], apart := false, laid := [("math/bits.deBruijn32tab", laid_math_bits_deBruijn32tab), ("math/bits.deBruijn64tab", laid_math_bits_deBruijn64tab)] }
def IdsOnceSaid : Prop := idsOnceRow.holds Tryd.pinned (OpenSpec.ofChange idsOnceSpec)

/-- ITS FALSE NEIGHBOUR: 'it returns false'. Refute it at one input. -/
def idsOnceWrong : ChangeSpec := { name := "idsOnce", fn := fun _ => fun
  | [d1, d2] => { results := [.lit (.bool false)], args := [d1, d2] }
  | _ => none }
def IdsOnceWrongFalsely : Prop := idsOnceRow.holds Tryd.pinned (OpenSpec.ofChange idsOnceWrong)

/-- 'dominolaw18.IdsBoth': WHATEVER THE INPUT: true; the input reads as it did. -/
def idsBothSpec : ChangeSpec := { name := "idsBoth", fn := fun _ => fun
  | [d1, d2] => { results := [.lit (.bool true)], args := [d1, d2] }
  | _ => none }
def idsBothRow : OpenClaim := { program := "ytjdjlijjolibkaadoor", sum := "c868670ee167af9cf533dc5161f2633eccbaa32079fd1715707e731a0d70a783", func := "domino/dominolaw18.IdsBoth", spec := "idsBoth", inPlace := ["internal/abi.NoEscape", "slices.overlaps[domino/ids.Given]"], unfollowed := true, recurses := true, named := ["math/bits.deBruijn32tab", "math/bits.deBruijn64tab"], apart := false, laid := [("math/bits.deBruijn32tab", laid_math_bits_deBruijn32tab), ("math/bits.deBruijn64tab", laid_math_bits_deBruijn64tab)] }
def IdsBothSaid : Prop := idsBothRow.holds Tryd.pinned (OpenSpec.ofChange idsBothSpec)

/-- ITS FALSE NEIGHBOUR: 'it returns false'. Refute it at one input. -/
def idsBothWrong : ChangeSpec := { name := "idsBoth", fn := fun _ => fun
  | [d1, d2] => { results := [.lit (.bool false)], args := [d1, d2] }
  | _ => none }
def IdsBothWrongFalsely : Prop := idsBothRow.holds Tryd.pinned (OpenSpec.ofChange idsBothWrong)

/-- 'dominolaw18.IdsFill': WHATEVER THE INPUT: true; the input reads as it did. -/
def idsFillSpec : ChangeSpec := { name := "idsFill", fn := fun _ => fun
  | [d1, d2, d3] => { results := [.lit (.bool true)], args := [d1, d2, d3] }
  | _ => none }
def idsFillRow : OpenClaim := { program := "ytjdjlijjolibkaadoor", sum := "c868670ee167af9cf533dc5161f2633eccbaa32079fd1715707e731a0d70a783", func := "domino/dominolaw18.IdsFill", spec := "idsFill", inPlace := ["internal/abi.NoEscape", "slices.overlaps[domino/ids.Given]"], unfollowed := true, recurses := true, named := ["math/bits.deBruijn32tab", "math/bits.deBruijn64tab"], apart := false, laid := [("math/bits.deBruijn32tab", laid_math_bits_deBruijn32tab), ("math/bits.deBruijn64tab", laid_math_bits_deBruijn64tab)] }
def IdsFillSaid : Prop := idsFillRow.holds Tryd.pinned (OpenSpec.ofChange idsFillSpec)

/-- ITS FALSE NEIGHBOUR: 'it returns false'. Refute it at one input. -/
def idsFillWrong : ChangeSpec := { name := "idsFill", fn := fun _ => fun
  | [d1, d2, d3] => { results := [.lit (.bool false)], args := [d1, d2, d3] }
  | _ => none }
def IdsFillWrongFalsely : Prop := idsFillRow.holds Tryd.pinned (OpenSpec.ofChange idsFillWrong)

/-- 'dominolaw18.IdsPrior': WHATEVER THE INPUT: true; the input reads as it did. -/
def idsPriorSpec : ChangeSpec := { name := "idsPrior", fn := fun _ => fun
  | [d1, d2, d3] => { results := [.lit (.bool true)], args := [d1, d2, d3] }
  | _ => none }
def idsPriorRow : OpenClaim := { program := "ytjdjlijjolibkaadoor", sum := "c868670ee167af9cf533dc5161f2633eccbaa32079fd1715707e731a0d70a783", func := "domino/dominolaw18.IdsPrior", spec := "idsPrior", inPlace := ["internal/abi.NoEscape", "slices.overlaps[domino/ids.Given]"], unfollowed := true, recurses := true, named := ["math/bits.deBruijn32tab", "math/bits.deBruijn64tab"], apart := false, laid := [("math/bits.deBruijn32tab", laid_math_bits_deBruijn32tab), ("math/bits.deBruijn64tab", laid_math_bits_deBruijn64tab)] }
def IdsPriorSaid : Prop := idsPriorRow.holds Tryd.pinned (OpenSpec.ofChange idsPriorSpec)

/-- ITS FALSE NEIGHBOUR: 'it returns false'. Refute it at one input. -/
def idsPriorWrong : ChangeSpec := { name := "idsPrior", fn := fun _ => fun
  | [d1, d2, d3] => { results := [.lit (.bool false)], args := [d1, d2, d3] }
  | _ => none }
def IdsPriorWrongFalsely : Prop := idsPriorRow.holds Tryd.pinned (OpenSpec.ofChange idsPriorWrong)

/- THE SECOND FORM. 'bulk': how many values and letters a reading holds, each counted each time it is reached (what is shared counts as often as it is met; a slice's spare places count too). A statement '..UptoSaid' is the law's where the arguments, and the package variables that the reading takes, are together of bulk at most 1048576: NARROWER than '..Said'. Prove '..Said' where nothing that the law and all that it calls make is longer than what came in: it says more and counts as full. Else prove '..UptoSaid'. A law counts once. -/
mutual
def uptoBulk {H : Type} : DataW H → Nat
  | .lit (.string bytes) => bytes.length + 1
  | .lit _ => 1
  | .nil => 1
  | .ptr d => uptoBulk d + 1
  | .slice elems spare => uptoBulkAll elems + uptoBulkAll spare + 1
  | .agg parts => uptoBulkAll parts + 1
  | .iface _ d => uptoBulk d + 1
  | .map entries => uptoBulkEntries entries + 1
  | .held _ => 1
def uptoBulkAll {H : Type} : List (DataW H) → Nat
  | [] => 0
  | d :: r => uptoBulk d + uptoBulkAll r
def uptoBulkEntries {H : Type} : List (Lit × DataW H) → Nat
  | [] => 0
  | x :: r => uptoBulkEntry x + uptoBulkEntries r
def uptoBulkEntry {H : Type} : Lit × DataW H → Nat
  | (.string bytes, d) => bytes.length + uptoBulk d + 1
  | (_, d) => uptoBulk d + 1
 end
def uptoSmall : (H : Type) → List (DataW H) → Bool := fun _ ds => decide (uptoBulkAll ds ≤ 1048576)
def OpenSpec.upto (s : _root_.Go.ChangeSpec) : _root_.Go.OpenSpec := { _root_.Go.OpenSpec.ofChange s with cond := some uptoSmall }

/-- 'dominolaw19.PathThree', WHERE WHAT IT READS IS OF BULK AT MOST 1048576: true; the input reads as it did. -/
def pathThreeUptoRow : OpenClaim := { program := "ytjdjlijjolibkaadoor", sum := "c868670ee167af9cf533dc5161f2633eccbaa32079fd1715707e731a0d70a783", func := "domino/dominolaw19.PathThree", spec := "pathThree", inPlace := ["internal/abi.NoEscape"], unfollowed := true, recurses := true, named := ["math/bits.deBruijn32tab", "math/bits.deBruijn64tab"], apart := false, laid := [("math/bits.deBruijn32tab", laid_math_bits_deBruijn32tab), ("math/bits.deBruijn64tab", laid_math_bits_deBruijn64tab)], narrowed := true }
def PathThreeUptoSaid : Prop := pathThreeUptoRow.holds Tryd.pinned (OpenSpec.upto pathThreeSpec)

/-- 'dominolaw19.PathAnswers', WHERE WHAT IT READS IS OF BULK AT MOST 1048576: true; the input reads as it did. -/
def pathAnswersUptoRow : OpenClaim := { program := "ytjdjlijjolibkaadoor", sum := "c868670ee167af9cf533dc5161f2633eccbaa32079fd1715707e731a0d70a783", func := "domino/dominolaw19.PathAnswers", spec := "pathAnswers", inPlace := ["internal/abi.NoEscape"], unfollowed := true, recurses := true, named := ["math/bits.deBruijn32tab", "math/bits.deBruijn64tab"], apart := false, laid := [("math/bits.deBruijn32tab", laid_math_bits_deBruijn32tab), ("math/bits.deBruijn64tab", laid_math_bits_deBruijn64tab)], narrowed := true }
def PathAnswersUptoSaid : Prop := pathAnswersUptoRow.holds Tryd.pinned (OpenSpec.upto pathAnswersSpec)

/-- 'dominolaw19.PathFull', WHERE WHAT IT READS IS OF BULK AT MOST 1048576: true; the input reads as it did. -/
def pathFullUptoRow : OpenClaim := { program := "ytjdjlijjolibkaadoor", sum := "c868670ee167af9cf533dc5161f2633eccbaa32079fd1715707e731a0d70a783", func := "domino/dominolaw19.PathFull", spec := "pathFull", inPlace := ["internal/abi.NoEscape"], unfollowed := true, recurses := true, named := ["math/bits.deBruijn32tab", "math/bits.deBruijn64tab"], apart := false, laid := [("math/bits.deBruijn32tab", laid_math_bits_deBruijn32tab), ("math/bits.deBruijn64tab", laid_math_bits_deBruijn64tab)], narrowed := true }
def PathFullUptoSaid : Prop := pathFullUptoRow.holds Tryd.pinned (OpenSpec.upto pathFullSpec)

/-- 'dominolaw06.FramePuts', WHERE WHAT IT READS IS OF BULK AT MOST 1048576: true; the input reads as it did. -/
def framePutsUptoRow : OpenClaim := { program := "ytjdjlijjolibkaadoor", sum := "c868670ee167af9cf533dc5161f2633eccbaa32079fd1715707e731a0d70a783", func := "domino/dominolaw06.FramePuts", spec := "framePuts", inPlace := ["internal/abi.NoEscape"], unfollowed := true, recurses := true, named := ["math/bits.deBruijn32tab", "math/bits.deBruijn64tab"], apart := false, laid := [("math/bits.deBruijn32tab", laid_math_bits_deBruijn32tab), ("math/bits.deBruijn64tab", laid_math_bits_deBruijn64tab)], narrowed := true }
def FramePutsUptoSaid : Prop := framePutsUptoRow.holds Tryd.pinned (OpenSpec.upto framePutsSpec)

/-- 'dominolaw06.FrameBack', WHERE WHAT IT READS IS OF BULK AT MOST 1048576: true; the input reads as it did. -/
def frameBackUptoRow : OpenClaim := { program := "ytjdjlijjolibkaadoor", sum := "c868670ee167af9cf533dc5161f2633eccbaa32079fd1715707e731a0d70a783", func := "domino/dominolaw06.FrameBack", spec := "frameBack", inPlace := ["internal/abi.NoEscape"], unfollowed := true, recurses := true, named := ["math/bits.deBruijn32tab", "math/bits.deBruijn64tab"], apart := false, laid := [("math/bits.deBruijn32tab", laid_math_bits_deBruijn32tab), ("math/bits.deBruijn64tab", laid_math_bits_deBruijn64tab)], narrowed := true }
def FrameBackUptoSaid : Prop := frameBackUptoRow.holds Tryd.pinned (OpenSpec.upto frameBackSpec)

/-- 'dominolaw06.FrameSame', WHERE WHAT IT READS IS OF BULK AT MOST 1048576: true; the input reads as it did. -/
def frameSameUptoRow : OpenClaim := { program := "ytjdjlijjolibkaadoor", sum := "c868670ee167af9cf533dc5161f2633eccbaa32079fd1715707e731a0d70a783", func := "domino/dominolaw06.FrameSame", spec := "frameSame", inPlace := ["internal/abi.NoEscape"], unfollowed := true, recurses := true, named := ["math/bits.deBruijn32tab", "math/bits.deBruijn64tab"], apart := false, laid := [("math/bits.deBruijn32tab", laid_math_bits_deBruijn32tab), ("math/bits.deBruijn64tab", laid_math_bits_deBruijn64tab)], narrowed := true }
def FrameSameUptoSaid : Prop := frameSameUptoRow.holds Tryd.pinned (OpenSpec.upto frameSameSpec)

/-- 'dominolaw06.FrameTail', WHERE WHAT IT READS IS OF BULK AT MOST 1048576: true; the input reads as it did. -/
def frameTailUptoRow : OpenClaim := { program := "ytjdjlijjolibkaadoor", sum := "c868670ee167af9cf533dc5161f2633eccbaa32079fd1715707e731a0d70a783", func := "domino/dominolaw06.FrameTail", spec := "frameTail", inPlace := ["internal/abi.NoEscape"], unfollowed := true, recurses := true, named := ["math/bits.deBruijn32tab", "math/bits.deBruijn64tab"], apart := false, laid := [("math/bits.deBruijn32tab", laid_math_bits_deBruijn32tab), ("math/bits.deBruijn64tab", laid_math_bits_deBruijn64tab)], narrowed := true }
def FrameTailUptoSaid : Prop := frameTailUptoRow.holds Tryd.pinned (OpenSpec.upto frameTailSpec)

/-- 'dominolaw06.FrameCut', WHERE WHAT IT READS IS OF BULK AT MOST 1048576: true; the input reads as it did. -/
def frameCutUptoRow : OpenClaim := { program := "ytjdjlijjolibkaadoor", sum := "c868670ee167af9cf533dc5161f2633eccbaa32079fd1715707e731a0d70a783", func := "domino/dominolaw06.FrameCut", spec := "frameCut", inPlace := ["internal/abi.NoEscape"], unfollowed := true, recurses := true, named := ["math/bits.deBruijn32tab", "math/bits.deBruijn64tab"], apart := false, laid := [("math/bits.deBruijn32tab", laid_math_bits_deBruijn32tab), ("math/bits.deBruijn64tab", laid_math_bits_deBruijn64tab)], narrowed := true }
def FrameCutUptoSaid : Prop := frameCutUptoRow.holds Tryd.pinned (OpenSpec.upto frameCutSpec)

/-- 'dominolaw06.FrameLong', WHERE WHAT IT READS IS OF BULK AT MOST 1048576: true; the input reads as it did. -/
def frameLongUptoRow : OpenClaim := { program := "ytjdjlijjolibkaadoor", sum := "c868670ee167af9cf533dc5161f2633eccbaa32079fd1715707e731a0d70a783", func := "domino/dominolaw06.FrameLong", spec := "frameLong", inPlace := ["internal/abi.NoEscape"], unfollowed := true, recurses := true, named := ["math/bits.deBruijn32tab", "math/bits.deBruijn64tab"], apart := false, laid := [("math/bits.deBruijn32tab", laid_math_bits_deBruijn32tab), ("math/bits.deBruijn64tab", laid_math_bits_deBruijn64tab)], narrowed := true }
def FrameLongUptoSaid : Prop := frameLongUptoRow.holds Tryd.pinned (OpenSpec.upto frameLongSpec)

/-- 'dominolaw06.FrameKinds', WHERE WHAT IT READS IS OF BULK AT MOST 1048576: true; the input reads as it did. -/
def frameKindsUptoRow : OpenClaim := { program := "ytjdjlijjolibkaadoor", sum := "c868670ee167af9cf533dc5161f2633eccbaa32079fd1715707e731a0d70a783", func := "domino/dominolaw06.FrameKinds", spec := "frameKinds", inPlace := ["internal/abi.NoEscape"], unfollowed := true, recurses := true, named := ["math/bits.deBruijn32tab", "math/bits.deBruijn64tab"], apart := false, laid := [("math/bits.deBruijn32tab", laid_math_bits_deBruijn32tab), ("math/bits.deBruijn64tab", laid_math_bits_deBruijn64tab)], narrowed := true }
def FrameKindsUptoSaid : Prop := frameKindsUptoRow.holds Tryd.pinned (OpenSpec.upto frameKindsSpec)

/-- 'dominolaw06.FrameGets', WHERE WHAT IT READS IS OF BULK AT MOST 1048576: true; the input reads as it did. -/
def frameGetsUptoRow : OpenClaim := { program := "ytjdjlijjolibkaadoor", sum := "c868670ee167af9cf533dc5161f2633eccbaa32079fd1715707e731a0d70a783", func := "domino/dominolaw06.FrameGets", spec := "frameGets", inPlace := ["internal/abi.NoEscape"], unfollowed := true, recurses := true, named := ["math/bits.deBruijn32tab", "math/bits.deBruijn64tab"], apart := false, laid := [("math/bits.deBruijn32tab", laid_math_bits_deBruijn32tab), ("math/bits.deBruijn64tab", laid_math_bits_deBruijn64tab)], narrowed := true }
def FrameGetsUptoSaid : Prop := frameGetsUptoRow.holds Tryd.pinned (OpenSpec.upto frameGetsSpec)

/-- 'dominolaw06.FrameAll', WHERE WHAT IT READS IS OF BULK AT MOST 1048576: true; the input reads as it did. -/
def frameAllUptoRow : OpenClaim := { program := "ytjdjlijjolibkaadoor", sum := "c868670ee167af9cf533dc5161f2633eccbaa32079fd1715707e731a0d70a783", func := "domino/dominolaw06.FrameAll", spec := "frameAll", inPlace := ["internal/abi.NoEscape"], unfollowed := true, recurses := true, named := ["math/bits.deBruijn32tab", "math/bits.deBruijn64tab"], apart := false, laid := [("math/bits.deBruijn32tab", laid_math_bits_deBruijn32tab), ("math/bits.deBruijn64tab", laid_math_bits_deBruijn64tab)], narrowed := true }
def FrameAllUptoSaid : Prop := frameAllUptoRow.holds Tryd.pinned (OpenSpec.upto frameAllSpec)

/-- 'dominolaw18.IdsOnce', WHERE WHAT IT READS IS OF BULK AT MOST 1048576: true; the input reads as it did. -/
def idsOnceUptoRow : OpenClaim := { program := "ytjdjlijjolibkaadoor", sum := "c868670ee167af9cf533dc5161f2633eccbaa32079fd1715707e731a0d70a783", func := "domino/dominolaw18.IdsOnce", spec := "idsOnce", inPlace := ["internal/abi.NoEscape", "slices.overlaps[domino/ids.Given]"], unfollowed := true, recurses := true, named := ["math/bits.deBruijn32tab", "math/bits.deBruijn64tab"], apart := false, laid := [("math/bits.deBruijn32tab", laid_math_bits_deBruijn32tab), ("math/bits.deBruijn64tab", laid_math_bits_deBruijn64tab)], narrowed := true }
def IdsOnceUptoSaid : Prop := idsOnceUptoRow.holds Tryd.pinned (OpenSpec.upto idsOnceSpec)

/-- 'dominolaw18.IdsBoth', WHERE WHAT IT READS IS OF BULK AT MOST 1048576: true; the input reads as it did. -/
def idsBothUptoRow : OpenClaim := { program := "ytjdjlijjolibkaadoor", sum := "c868670ee167af9cf533dc5161f2633eccbaa32079fd1715707e731a0d70a783", func := "domino/dominolaw18.IdsBoth", spec := "idsBoth", inPlace := ["internal/abi.NoEscape", "slices.overlaps[domino/ids.Given]"], unfollowed := true, recurses := true, named := ["math/bits.deBruijn32tab", "math/bits.deBruijn64tab"], apart := false, laid := [("math/bits.deBruijn32tab", laid_math_bits_deBruijn32tab), ("math/bits.deBruijn64tab", laid_math_bits_deBruijn64tab)], narrowed := true }
def IdsBothUptoSaid : Prop := idsBothUptoRow.holds Tryd.pinned (OpenSpec.upto idsBothSpec)

/-- 'dominolaw18.IdsFill', WHERE WHAT IT READS IS OF BULK AT MOST 1048576: true; the input reads as it did. -/
def idsFillUptoRow : OpenClaim := { program := "ytjdjlijjolibkaadoor", sum := "c868670ee167af9cf533dc5161f2633eccbaa32079fd1715707e731a0d70a783", func := "domino/dominolaw18.IdsFill", spec := "idsFill", inPlace := ["internal/abi.NoEscape", "slices.overlaps[domino/ids.Given]"], unfollowed := true, recurses := true, named := ["math/bits.deBruijn32tab", "math/bits.deBruijn64tab"], apart := false, laid := [("math/bits.deBruijn32tab", laid_math_bits_deBruijn32tab), ("math/bits.deBruijn64tab", laid_math_bits_deBruijn64tab)], narrowed := true }
def IdsFillUptoSaid : Prop := idsFillUptoRow.holds Tryd.pinned (OpenSpec.upto idsFillSpec)

/-- 'dominolaw18.IdsPrior', WHERE WHAT IT READS IS OF BULK AT MOST 1048576: true; the input reads as it did. -/
def idsPriorUptoRow : OpenClaim := { program := "ytjdjlijjolibkaadoor", sum := "c868670ee167af9cf533dc5161f2633eccbaa32079fd1715707e731a0d70a783", func := "domino/dominolaw18.IdsPrior", spec := "idsPrior", inPlace := ["internal/abi.NoEscape", "slices.overlaps[domino/ids.Given]"], unfollowed := true, recurses := true, named := ["math/bits.deBruijn32tab", "math/bits.deBruijn64tab"], apart := false, laid := [("math/bits.deBruijn32tab", laid_math_bits_deBruijn32tab), ("math/bits.deBruijn64tab", laid_math_bits_deBruijn64tab)], narrowed := true }
def IdsPriorUptoSaid : Prop := idsPriorUptoRow.holds Tryd.pinned (OpenSpec.upto idsPriorSpec)

end Rows
end Go.Proofs.YtjdjlijjolibkaaDoor
