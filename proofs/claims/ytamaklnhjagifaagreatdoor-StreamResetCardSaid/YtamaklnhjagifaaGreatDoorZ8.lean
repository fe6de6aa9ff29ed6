/- The law StreamReset, part 8: what is proved: for every input that can be read the call of StreamReset returns true and leaves its arguments alone. No conditions but the listed tables of the card. -/
import Derived.Test.YtamaklnhjagifaaGreatDoorRows
import Derived.Test.YtamaklnhjagifaaGreatDoorCards
import Derived.SevenTiedAt
import Derived.Test.YtamaklnhjagifaaGreatDoorZ7
namespace Go.Proofs.YtamaklnhjagifaaGreatDoor.V.RowStreamReset
open Go.ChangeShapes Go.WideShapes Go.ChangeAt Go.RowKit Go.Proofs
set_option linter.unusedVariables false
set_option maxRecDepth 100000
set_option maxHeartbeats 20000000 in
theorem ZmG:joinedFacts Tryz.prog 6 Tryz.f6 Rows.streamResetSpec Rows.streamResetRow=true:=by
 unfold joinedFacts
 simp only [Bool.and_eq_true]
 repeat' apply And.intro
 all_goals as_aux_lemma=>kernel_rfl
end Go.Proofs.YtamaklnhjagifaaGreatDoor.V.RowStreamReset
