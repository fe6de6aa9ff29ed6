import Derived.Test.YtecjkkofoafhaaaVx
import Derived.Test.YtecjkkofoafhaaaProg
import Derived.KernelRfl
namespace Go.Proofs.Ytecjkkofoafhaaa.V
open Go.RowKit Go.Proofs.Try
def Inv : World → Prop := fun _ => True
def gInv : Nat := 0
theorem inv_g : ∀ w, Inv w → gInv ≤ w.heap.size := fun _ _ => Nat.zero_le _
theorem inv_keep : ∀ w w' B, gInv ≤ B → Below B w w' → Inv w → Inv w' := fun _ _ _ _ _ _ => trivial
theorem inv_mixed : prog.follows .mixedOrders = true := by kernel_rfl
end Go.Proofs.Ytecjkkofoafhaaa.V
