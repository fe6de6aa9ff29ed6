/-
  DERIVED. GIVEN WITH THE SEED: THE CARDS: each row of YtjdjlijjolibkaaDoorRows.lean that lists a variable, with what it lists TIED to the program's text (the seventh form; the later family's looks); each row that meets fmt, with fmt's text TOLD by the authors' own Lean function (tested against real Go, not proved from fmt's source: count such statements apart). THE CARD IS WHAT COUNTS. Prove the row's statement (the work); the ties are given (YtjdjlijjolibkaaDoorTie.lean); close each card by the builder's one call (the guide's Derived/Test/ToyasCard.lean, 'card_holds'). Laid BY PROGRAM, IN A SANDBOX (cutbox-door.mjs). By AI agents, Wed Nov 11 2026. No macro, syntax, notation, axiom, sorry.
-/
import Derived.Test.YtjdjlijjolibkaaDoorRows
import GoSem.ClaimSeven
namespace Go.Proofs.YtjdjlijjolibkaaDoor
namespace Rows

/-- THE TIED CARD OF 'dominolaw19.PathThree'. -/
def pathThreeCard : Claim7 := { stood := { row := pathThreeRow, standIns := [], harness := (true, "1021a36958bef67feb8e8930050b74075fa45ed83853cf8c22c3fa63b7773168"), looks := true }, kinds := [], alts := [], laidByText := true, laidKinds := [.data, .data], laidTests := true, laidLooks := .later }
def PathThreeCardSaid : Prop := Claim7.holds Tryd.pinned (.plain (OpenSpec.ofChange pathThreeSpec)) pathThreeCard

/-- THE TIED CARD OF 'dominolaw19.PathAnswers'. -/
def pathAnswersCard : Claim7 := { stood := { row := pathAnswersRow, standIns := [], harness := (true, "1021a36958bef67feb8e8930050b74075fa45ed83853cf8c22c3fa63b7773168"), looks := true }, kinds := [], alts := [], laidByText := true, laidKinds := [.data, .data], laidTests := true, laidLooks := .later }
def PathAnswersCardSaid : Prop := Claim7.holds Tryd.pinned (.plain (OpenSpec.ofChange pathAnswersSpec)) pathAnswersCard

/-- THE TIED CARD OF 'dominolaw19.PathFull'. -/
def pathFullCard : Claim7 := { stood := { row := pathFullRow, standIns := [], harness := (true, "1021a36958bef67feb8e8930050b74075fa45ed83853cf8c22c3fa63b7773168"), looks := true }, kinds := [], alts := [], laidByText := true, laidKinds := [.data, .data], laidTests := true, laidLooks := .later }
def PathFullCardSaid : Prop := Claim7.holds Tryd.pinned (.plain (OpenSpec.ofChange pathFullSpec)) pathFullCard

/-- THE TIED CARD OF 'dominolaw06.FramePuts'. -/
def framePutsCard : Claim7 := { stood := { row := framePutsRow, standIns := [], harness := (true, "1021a36958bef67feb8e8930050b74075fa45ed83853cf8c22c3fa63b7773168"), looks := true }, kinds := [], alts := [], laidByText := true, laidKinds := [.data, .data], laidTests := true, laidLooks := .later }
def FramePutsCardSaid : Prop := Claim7.holds Tryd.pinned (.plain (OpenSpec.ofChange framePutsSpec)) framePutsCard

/-- THE TIED CARD OF 'dominolaw06.FrameBack'. -/
def frameBackCard : Claim7 := { stood := { row := frameBackRow, standIns := [], harness := (true, "1021a36958bef67feb8e8930050b74075fa45ed83853cf8c22c3fa63b7773168"), looks := true }, kinds := [], alts := [], laidByText := true, laidKinds := [.data, .data], laidTests := true, laidLooks := .later }
def FrameBackCardSaid : Prop := Claim7.holds Tryd.pinned (.plain (OpenSpec.ofChange frameBackSpec)) frameBackCard

/-- THE TIED CARD OF 'dominolaw06.FrameSame'. -/
def frameSameCard : Claim7 := { stood := { row := frameSameRow, standIns := [], harness := (true, "1021a36958bef67feb8e8930050b74075fa45ed83853cf8c22c3fa63b7773168"), looks := true }, kinds := [], alts := [], laidByText := true, laidKinds := [.data, .data], laidTests := true, laidLooks := .later }
def FrameSameCardSaid : Prop := Claim7.holds Tryd.pinned (.plain (OpenSpec.ofChange frameSameSpec)) frameSameCard

/-- THE TIED CARD OF 'dominolaw06.FrameTail'. -/
def frameTailCard : Claim7 := { stood := { row := frameTailRow, standIns := [], harness := (true, "1021a36958bef67feb8e8930050b74075fa45ed83853cf8c22c3fa63b7773168"), looks := true }, kinds := [], alts := [], laidByText := true, laidKinds := [.data, .data], laidTests := true, laidLooks := .later }
def FrameTailCardSaid : Prop := Claim7.holds Tryd.pinned (.plain (OpenSpec.ofChange frameTailSpec)) frameTailCard

/-- THE TIED CARD OF 'dominolaw06.FrameCut'. -/
def frameCutCard : Claim7 := { stood := { row := frameCutRow, standIns := [], harness := (true, "1021a36958bef67feb8e8930050b74075fa45ed83853cf8c22c3fa63b7773168"), looks := true }, kinds := [], alts := [], laidByText := true, laidKinds := [.data, .data], laidTests := true, laidLooks := .later }
def FrameCutCardSaid : Prop := Claim7.holds Tryd.pinned (.plain (OpenSpec.ofChange frameCutSpec)) frameCutCard

/-- THE TIED CARD OF 'dominolaw06.FrameLong'. -/
def frameLongCard : Claim7 := { stood := { row := frameLongRow, standIns := [], harness := (true, "1021a36958bef67feb8e8930050b74075fa45ed83853cf8c22c3fa63b7773168"), looks := true }, kinds := [], alts := [], laidByText := true, laidKinds := [.data, .data], laidTests := true, laidLooks := .later }
def FrameLongCardSaid : Prop := Claim7.holds Tryd.pinned (.plain (OpenSpec.ofChange frameLongSpec)) frameLongCard

/-- THE TIED CARD OF 'dominolaw06.FrameKinds'. -/
def frameKindsCard : Claim7 := { stood := { row := frameKindsRow, standIns := [], harness := (true, "1021a36958bef67feb8e8930050b74075fa45ed83853cf8c22c3fa63b7773168"), looks := true }, kinds := [], alts := [], laidByText := true, laidKinds := [.data, .data], laidTests := true, laidLooks := .later }
def FrameKindsCardSaid : Prop := Claim7.holds Tryd.pinned (.plain (OpenSpec.ofChange frameKindsSpec)) frameKindsCard

/-- THE TIED CARD OF 'dominolaw06.FrameGets'. -/
def frameGetsCard : Claim7 := { stood := { row := frameGetsRow, standIns := [], harness := (true, "1021a36958bef67feb8e8930050b74075fa45ed83853cf8c22c3fa63b7773168"), looks := true }, kinds := [], alts := [], laidByText := true, laidKinds := [.data, .data], laidTests := true, laidLooks := .later }
def FrameGetsCardSaid : Prop := Claim7.holds Tryd.pinned (.plain (OpenSpec.ofChange frameGetsSpec)) frameGetsCard

/-- THE TIED CARD OF 'dominolaw06.FrameAll'. -/
def frameAllCard : Claim7 := { stood := { row := frameAllRow, standIns := [], harness := (true, "1021a36958bef67feb8e8930050b74075fa45ed83853cf8c22c3fa63b7773168"), looks := true }, kinds := [], alts := [], laidByText := true, laidKinds := [.data, .data], laidTests := true, laidLooks := .later }
def FrameAllCardSaid : Prop := Claim7.holds Tryd.pinned (.plain (OpenSpec.ofChange frameAllSpec)) frameAllCard

/-- THE TIED CARD OF 'dominolaw18.IdsOnce'. -/
def idsOnceCard : Claim7 := { stood := { row := idsOnceRow, standIns := [], harness := (true, "1021a36958bef67feb8e8930050b74075fa45ed83853cf8c22c3fa63b7773168"), looks := true }, kinds := [], alts := [], laidByText := true, laidKinds := [.data, .data], laidTests := true, laidLooks := .later }
def IdsOnceCardSaid : Prop := Claim7.holds Tryd.pinned (.plain (OpenSpec.ofChange idsOnceSpec)) idsOnceCard

/-- THE TIED CARD OF 'dominolaw18.IdsBoth'. -/
def idsBothCard : Claim7 := { stood := { row := idsBothRow, standIns := [], harness := (true, "1021a36958bef67feb8e8930050b74075fa45ed83853cf8c22c3fa63b7773168"), looks := true }, kinds := [], alts := [], laidByText := true, laidKinds := [.data, .data], laidTests := true, laidLooks := .later }
def IdsBothCardSaid : Prop := Claim7.holds Tryd.pinned (.plain (OpenSpec.ofChange idsBothSpec)) idsBothCard

/-- THE TIED CARD OF 'dominolaw18.IdsFill'. -/
def idsFillCard : Claim7 := { stood := { row := idsFillRow, standIns := [], harness := (true, "1021a36958bef67feb8e8930050b74075fa45ed83853cf8c22c3fa63b7773168"), looks := true }, kinds := [], alts := [], laidByText := true, laidKinds := [.data, .data], laidTests := true, laidLooks := .later }
def IdsFillCardSaid : Prop := Claim7.holds Tryd.pinned (.plain (OpenSpec.ofChange idsFillSpec)) idsFillCard

/-- THE TIED CARD OF 'dominolaw18.IdsPrior'. -/
def idsPriorCard : Claim7 := { stood := { row := idsPriorRow, standIns := [], harness := (true, "1021a36958bef67feb8e8930050b74075fa45ed83853cf8c22c3fa63b7773168"), looks := true }, kinds := [], alts := [], laidByText := true, laidKinds := [.data, .data], laidTests := true, laidLooks := .later }
def IdsPriorCardSaid : Prop := Claim7.holds Tryd.pinned (.plain (OpenSpec.ofChange idsPriorSpec)) idsPriorCard

/-- THE SECOND FORM's CARD OF 'dominolaw19.PathThree'. -/
def pathThreeUptoCard : Claim7 := { stood := { row := pathThreeUptoRow, standIns := [], harness := (true, "1021a36958bef67feb8e8930050b74075fa45ed83853cf8c22c3fa63b7773168"), looks := true }, kinds := [], alts := [], laidByText := true, laidKinds := [.data, .data], laidTests := true, laidLooks := .later }
def PathThreeUptoCardSaid : Prop := Claim7.holds Tryd.pinned (.plain (OpenSpec.upto pathThreeSpec)) pathThreeUptoCard

/-- THE SECOND FORM's CARD OF 'dominolaw19.PathAnswers'. -/
def pathAnswersUptoCard : Claim7 := { stood := { row := pathAnswersUptoRow, standIns := [], harness := (true, "1021a36958bef67feb8e8930050b74075fa45ed83853cf8c22c3fa63b7773168"), looks := true }, kinds := [], alts := [], laidByText := true, laidKinds := [.data, .data], laidTests := true, laidLooks := .later }
def PathAnswersUptoCardSaid : Prop := Claim7.holds Tryd.pinned (.plain (OpenSpec.upto pathAnswersSpec)) pathAnswersUptoCard

/-- THE SECOND FORM's CARD OF 'dominolaw19.PathFull'. -/
def pathFullUptoCard : Claim7 := { stood := { row := pathFullUptoRow, standIns := [], harness := (true, "1021a36958bef67feb8e8930050b74075fa45ed83853cf8c22c3fa63b7773168"), looks := true }, kinds := [], alts := [], laidByText := true, laidKinds := [.data, .data], laidTests := true, laidLooks := .later }
def PathFullUptoCardSaid : Prop := Claim7.holds Tryd.pinned (.plain (OpenSpec.upto pathFullSpec)) pathFullUptoCard

/-- THE SECOND FORM's CARD OF 'dominolaw06.FramePuts'. -/
def framePutsUptoCard : Claim7 := { stood := { row := framePutsUptoRow, standIns := [], harness := (true, "1021a36958bef67feb8e8930050b74075fa45ed83853cf8c22c3fa63b7773168"), looks := true }, kinds := [], alts := [], laidByText := true, laidKinds := [.data, .data], laidTests := true, laidLooks := .later }
def FramePutsUptoCardSaid : Prop := Claim7.holds Tryd.pinned (.plain (OpenSpec.upto framePutsSpec)) framePutsUptoCard

/-- THE SECOND FORM's CARD OF 'dominolaw06.FrameBack'. -/
def frameBackUptoCard : Claim7 := { stood := { row := frameBackUptoRow, standIns := [], harness := (true, "1021a36958bef67feb8e8930050b74075fa45ed83853cf8c22c3fa63b7773168"), looks := true }, kinds := [], alts := [], laidByText := true, laidKinds := [.data, .data], laidTests := true, laidLooks := .later }
def FrameBackUptoCardSaid : Prop := Claim7.holds Tryd.pinned (.plain (OpenSpec.upto frameBackSpec)) frameBackUptoCard

/-- THE SECOND FORM's CARD OF 'dominolaw06.FrameSame'. -/
def frameSameUptoCard : Claim7 := { stood := { row := frameSameUptoRow, standIns := [], harness := (true, "1021a36958bef67feb8e8930050b74075fa45ed83853cf8c22c3fa63b7773168"), looks := true }, kinds := [], alts := [], laidByText := true, laidKinds := [.data, .data], laidTests := true, laidLooks := .later }
def FrameSameUptoCardSaid : Prop := Claim7.holds Tryd.pinned (.plain (OpenSpec.upto frameSameSpec)) frameSameUptoCard

/-- THE SECOND FORM's CARD OF 'dominolaw06.FrameTail'. -/
def frameTailUptoCard : Claim7 := { stood := { row := frameTailUptoRow, standIns := [], harness := (true, "1021a36958bef67feb8e8930050b74075fa45ed83853cf8c22c3fa63b7773168"), looks := true }, kinds := [], alts := [], laidByText := true, laidKinds := [.data, .data], laidTests := true, laidLooks := .later }
def FrameTailUptoCardSaid : Prop := Claim7.holds Tryd.pinned (.plain (OpenSpec.upto frameTailSpec)) frameTailUptoCard

/-- THE SECOND FORM's CARD OF 'dominolaw06.FrameCut'. -/
def frameCutUptoCard : Claim7 := { stood := { row := frameCutUptoRow, standIns := [], harness := (true, "1021a36958bef67feb8e8930050b74075fa45ed83853cf8c22c3fa63b7773168"), looks := true }, kinds := [], alts := [], laidByText := true, laidKinds := [.data, .data], laidTests := true, laidLooks := .later }
def FrameCutUptoCardSaid : Prop := Claim7.holds Tryd.pinned (.plain (OpenSpec.upto frameCutSpec)) frameCutUptoCard

/-- THE SECOND FORM's CARD OF 'dominolaw06.FrameLong'. -/
def frameLongUptoCard : Claim7 := { stood := { row := frameLongUptoRow, standIns := [], harness := (true, "1021a36958bef67feb8e8930050b74075fa45ed83853cf8c22c3fa63b7773168"), looks := true }, kinds := [], alts := [], laidByText := true, laidKinds := [.data, .data], laidTests := true, laidLooks := .later }
def FrameLongUptoCardSaid : Prop := Claim7.holds Tryd.pinned (.plain (OpenSpec.upto frameLongSpec)) frameLongUptoCard

/-- THE SECOND FORM's CARD OF 'dominolaw06.FrameKinds'. -/
def frameKindsUptoCard : Claim7 := { stood := { row := frameKindsUptoRow, standIns := [], harness := (true, "1021a36958bef67feb8e8930050b74075fa45ed83853cf8c22c3fa63b7773168"), looks := true }, kinds := [], alts := [], laidByText := true, laidKinds := [.data, .data], laidTests := true, laidLooks := .later }
def FrameKindsUptoCardSaid : Prop := Claim7.holds Tryd.pinned (.plain (OpenSpec.upto frameKindsSpec)) frameKindsUptoCard

/-- THE SECOND FORM's CARD OF 'dominolaw06.FrameGets'. -/
def frameGetsUptoCard : Claim7 := { stood := { row := frameGetsUptoRow, standIns := [], harness := (true, "1021a36958bef67feb8e8930050b74075fa45ed83853cf8c22c3fa63b7773168"), looks := true }, kinds := [], alts := [], laidByText := true, laidKinds := [.data, .data], laidTests := true, laidLooks := .later }
def FrameGetsUptoCardSaid : Prop := Claim7.holds Tryd.pinned (.plain (OpenSpec.upto frameGetsSpec)) frameGetsUptoCard

/-- THE SECOND FORM's CARD OF 'dominolaw06.FrameAll'. -/
def frameAllUptoCard : Claim7 := { stood := { row := frameAllUptoRow, standIns := [], harness := (true, "1021a36958bef67feb8e8930050b74075fa45ed83853cf8c22c3fa63b7773168"), looks := true }, kinds := [], alts := [], laidByText := true, laidKinds := [.data, .data], laidTests := true, laidLooks := .later }
def FrameAllUptoCardSaid : Prop := Claim7.holds Tryd.pinned (.plain (OpenSpec.upto frameAllSpec)) frameAllUptoCard

/-- THE SECOND FORM's CARD OF 'dominolaw18.IdsOnce'. -/
def idsOnceUptoCard : Claim7 := { stood := { row := idsOnceUptoRow, standIns := [], harness := (true, "1021a36958bef67feb8e8930050b74075fa45ed83853cf8c22c3fa63b7773168"), looks := true }, kinds := [], alts := [], laidByText := true, laidKinds := [.data, .data], laidTests := true, laidLooks := .later }
def IdsOnceUptoCardSaid : Prop := Claim7.holds Tryd.pinned (.plain (OpenSpec.upto idsOnceSpec)) idsOnceUptoCard

/-- THE SECOND FORM's CARD OF 'dominolaw18.IdsBoth'. -/
def idsBothUptoCard : Claim7 := { stood := { row := idsBothUptoRow, standIns := [], harness := (true, "1021a36958bef67feb8e8930050b74075fa45ed83853cf8c22c3fa63b7773168"), looks := true }, kinds := [], alts := [], laidByText := true, laidKinds := [.data, .data], laidTests := true, laidLooks := .later }
def IdsBothUptoCardSaid : Prop := Claim7.holds Tryd.pinned (.plain (OpenSpec.upto idsBothSpec)) idsBothUptoCard

/-- THE SECOND FORM's CARD OF 'dominolaw18.IdsFill'. -/
def idsFillUptoCard : Claim7 := { stood := { row := idsFillUptoRow, standIns := [], harness := (true, "1021a36958bef67feb8e8930050b74075fa45ed83853cf8c22c3fa63b7773168"), looks := true }, kinds := [], alts := [], laidByText := true, laidKinds := [.data, .data], laidTests := true, laidLooks := .later }
def IdsFillUptoCardSaid : Prop := Claim7.holds Tryd.pinned (.plain (OpenSpec.upto idsFillSpec)) idsFillUptoCard

/-- THE SECOND FORM's CARD OF 'dominolaw18.IdsPrior'. -/
def idsPriorUptoCard : Claim7 := { stood := { row := idsPriorUptoRow, standIns := [], harness := (true, "1021a36958bef67feb8e8930050b74075fa45ed83853cf8c22c3fa63b7773168"), looks := true }, kinds := [], alts := [], laidByText := true, laidKinds := [.data, .data], laidTests := true, laidLooks := .later }
def IdsPriorUptoCardSaid : Prop := Claim7.holds Tryd.pinned (.plain (OpenSpec.upto idsPriorSpec)) idsPriorUptoCard
end Rows
end Go.Proofs.YtjdjlijjolibkaaDoor
