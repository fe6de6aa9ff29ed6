/-
  DERIVED. GIVEN WITH THE SEED: THE CARDS: each row of YtjlfmolfcgennaaDoorRows.lean that lists a variable, with what it lists TIED to the program's text (the seventh form; the later family's looks); each row that meets fmt, with fmt's text TOLD by the authors' own Lean function (tested against real Go, not proved from fmt's source: count such statements apart). THE CARD IS WHAT COUNTS. Prove the row's statement (the work); the ties are given (YtjlfmolfcgennaaDoorTie.lean); close each card by the builder's one call (the guide's Derived/Test/ToyasCard.lean, 'card_holds'). Laid BY PROGRAM, IN A SANDBOX (cutbox-door.mjs). By AI agents, Wed Nov 11 2026. No macro, syntax, notation, axiom, sorry.
-/
import Derived.Test.YtjlfmolfcgennaaDoorRows
import GoSem.ClaimSeven
namespace Go.Proofs.YtjlfmolfcgennaaDoor
namespace Rows

/-- THE TIED CARD OF 'dominolaw18.IdsOnce'. -/
def idsOnceCard : Claim7 := { stood := { row := idsOnceRow, standIns := [], harness := (true, "70b6eef9c0b129b7d1ea0fbf90fb816c6ee33174c00881a73e6ace0d5a4488d7"), looks := false }, kinds := [], alts := [], laidByText := true, laidKinds := [.data, .data], laidTests := true, laidLooks := .later }
def IdsOnceCardSaid : Prop := Claim7.holds Tryd.pinned (.plain (OpenSpec.ofChange idsOnceSpec)) idsOnceCard

/-- THE SECOND FORM's CARD OF 'dominolaw18.IdsOnce'. -/
def idsOnceUptoCard : Claim7 := { stood := { row := idsOnceUptoRow, standIns := [], harness := (true, "70b6eef9c0b129b7d1ea0fbf90fb816c6ee33174c00881a73e6ace0d5a4488d7"), looks := false }, kinds := [], alts := [], laidByText := true, laidKinds := [.data, .data], laidTests := true, laidLooks := .later }
def IdsOnceUptoCardSaid : Prop := Claim7.holds Tryd.pinned (.plain (OpenSpec.upto idsOnceSpec)) idsOnceUptoCard
end Rows
end Go.Proofs.YtjlfmolfcgennaaDoor
