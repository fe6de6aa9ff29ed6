/- The law StreamReset, part 9: what is proved: for every input that can be read the call of StreamReset returns true and leaves its arguments alone. No conditions but the listed tables of the card. -/
import Derived.Test.YtamaklnhjagifaaGreatDoorRows
import Derived.Test.YtamaklnhjagifaaGreatDoorCards
import Derived.SevenTiedAt
import Derived.Test.YtamaklnhjagifaaGreatDoorZ8
namespace Go.Proofs.YtamaklnhjagifaaGreatDoor.V.RowStreamReset
open Go.ChangeShapes Go.WideShapes Go.ChangeAt Go.RowKit Go.Proofs
set_option linter.unusedVariables false
set_option maxRecDepth 100000
set_option maxHeartbeats 20000000 in
theorem looks:false=Tryz.prog.looks []:=by kernel_rfl
set_option maxHeartbeats 20000000 in
theorem Zxb:false=Rows.streamResetRow.goesBy Tryz.prog:=by kernel_rfl
set_option maxHeartbeats 20000000 in
theorem ZfR : ∀ t∈[9,5,69,4],Tryz.prog.wantsStandIn t=false:=by
 intro t h
 simp only [List.mem_cons,List.not_mem_nil,or_false] at h
 rcases h with rfl | rfl | rfl | rfl <;> kernel_rfl
end Go.Proofs.YtamaklnhjagifaaGreatDoor.V.RowStreamReset
