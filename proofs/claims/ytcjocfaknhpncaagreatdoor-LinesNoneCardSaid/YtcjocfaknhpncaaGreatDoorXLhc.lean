/- The closed facts of the row, one by one: printed by program. -/
import Derived.Test.YtcjocfaknhpncaaGreatDoorCards
import Derived.JoinedOf
import Derived.KernelRfl
namespace Go.Ev
open Go Go.Proofs Go.Proofs.YtcjocfaknhpncaaGreatDoor
theorem fact11 : ((Rows.linesNoneRow.recurses == Tryz.prog.recurses 3) : Bool) = true := by kernel_rfl
theorem fact12 : ((Rows.linesNoneRow.named == Tryz.prog.varsNamed 3) : Bool) = true := by kernel_rfl
end Go.Ev
