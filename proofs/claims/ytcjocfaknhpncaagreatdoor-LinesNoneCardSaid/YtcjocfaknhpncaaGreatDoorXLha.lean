/- The closed facts of the row, one by one: printed by program. -/
import Derived.Test.YtcjocfaknhpncaaGreatDoorCards
import Derived.JoinedOf
import Derived.KernelRfl
namespace Go.Ev
open Go Go.Proofs Go.Proofs.YtcjocfaknhpncaaGreatDoor
theorem fact0 : (Rows.linesNoneRow.wf (OpenSpec.ofChange ((OpenSpec.ofChange Rows.linesNoneSpec).bare)) : Bool) = true := by kernel_rfl
theorem fact1 : (laidOutB Tryz.prog : Bool) = true := by kernel_rfl
theorem fact2 : (mapsRowed Tryz.prog : Bool) = true := by kernel_rfl
theorem fact3 : (Tryz.f3.params.all (Tryz.prog.readableRec ·) : Bool) = true := by kernel_rfl
theorem fact4 : (namedTie Tryz.prog Rows.linesNoneRow.named ((OpenSpec.ofChange Rows.linesNoneSpec).bare).vars : Bool) = true := by kernel_rfl
theorem fact5 : ((Rows.linesNoneRow.stops == []) : Bool) = true := by kernel_rfl
theorem fact6 : ((Tryz.prog.stops == []) : Bool) = true := by kernel_rfl
theorem fact7 : ((Rows.linesNoneRow.knobs == []) : Bool) = true := by kernel_rfl
theorem fact8 : ((Tryz.prog.stopKnobs == []) : Bool) = true := by kernel_rfl
end Go.Ev
