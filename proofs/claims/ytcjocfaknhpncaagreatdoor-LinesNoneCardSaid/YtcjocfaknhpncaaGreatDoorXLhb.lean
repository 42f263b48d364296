/- The closed facts of the row, one by one: printed by program. -/
import Derived.Test.YtcjocfaknhpncaaGreatDoorCards
import Derived.JoinedOf
import Derived.KernelRfl
namespace Go.Ev
open Go Go.Proofs Go.Proofs.YtcjocfaknhpncaaGreatDoor
theorem fact9 : ((Rows.linesNoneRow.inPlace == Tryz.prog.inPlace 3) : Bool) = true := by kernel_rfl
theorem fact10 : ((Rows.linesNoneRow.unfollowed == Tryz.prog.unfollowed 3) : Bool) = true := by kernel_rfl
end Go.Ev
