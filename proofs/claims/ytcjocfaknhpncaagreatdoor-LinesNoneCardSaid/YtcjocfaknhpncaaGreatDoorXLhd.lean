/- The closed facts of the row, one by one: printed by program. -/
import Derived.Test.YtcjocfaknhpncaaGreatDoorCards
import Derived.JoinedOf
import Derived.KernelRfl
namespace Go.Ev
open Go Go.Proofs Go.Proofs.YtcjocfaknhpncaaGreatDoor
theorem fact13 : ((Rows.linesNoneRow.maps == (Tryz.f3.params.toList ++ ((OpenSpec.ofChange Rows.linesNoneSpec).bare).plain.varTypes Tryz.prog).any (Tryz.prog.mapsRec ·)) : Bool) = true := by kernel_rfl
theorem fact14 : ((Rows.linesNoneRow.ifaces == (Tryz.f3.params.toList ++ ((OpenSpec.ofChange Rows.linesNoneSpec).bare).plain.varTypes Tryz.prog).any (Tryz.prog.ifacesRec ·)) : Bool) = true := by kernel_rfl
theorem fact15 : ((Rows.linesNoneRow.mapsOut == Tryz.prog.mapsAmong Tryz.f3.resultTypes.toList) : Bool) = true := by kernel_rfl
theorem fact16 : ((Rows.linesNoneRow.loops == (Tryz.f3.params.toList ++ ((OpenSpec.ofChange Rows.linesNoneSpec).bare).plain.varTypes Tryz.prog).any (Tryz.prog.loopsFrom ·)) : Bool) = true := by kernel_rfl
theorem fact17 : ((Rows.linesNoneRow.wideKeys == (Tryz.f3.params.toList ++ ((OpenSpec.ofChange Rows.linesNoneSpec).bare).plain.varTypes Tryz.prog ++ Tryz.f3.resultTypes.toList).any (Tryz.prog.wideKeysFrom ·)) : Bool) = true := by kernel_rfl
theorem fact18 : (((OpenSpec.ofChange Rows.linesNoneSpec).bare).vars.all (Tryz.prog.varReadable ·) : Bool) = true := by kernel_rfl
theorem fact19 : (Tryz.f3.resultTypes.all (fun t => Tryz.prog.readableRec t && decide (t < Tryz.prog.types.size)) : Bool) = true := by kernel_rfl
theorem fact20 : ((Rows.linesNoneRow.ifacesOut == Tryz.f3.resultTypes.toList.any (Tryz.prog.ifacesRec ·)) : Bool) = true := by kernel_rfl
theorem fact21 : ((Rows.linesNoneRow.loopsOut == Tryz.f3.resultTypes.toList.any (Tryz.prog.loopsFrom ·)) : Bool) = true := by kernel_rfl
theorem fact22 : ((Rows.linesNoneRow.plainKeys == Tryz.prog.plainKeys) : Bool) = true := by kernel_rfl
theorem fact23 : (Rows.linesNoneRow.shortTexts.isNone : Bool) = true := by kernel_rfl
theorem fact24 : (Tryz.prog.stopsHeard : Bool) = true := by kernel_rfl
theorem fact25 : (Tryz.prog.mayEnter : Bool) = true := by kernel_rfl
theorem fact26 : ((Rows.linesNoneRow.lifted == Tryz.prog.liftsFinal) : Bool) = true := by kernel_rfl
theorem fact27 : ((Tryz.prog.make == some Rows.linesNoneRow.make) : Bool) = true := by kernel_rfl
theorem fact28 : ((Rows.linesNoneRow.kinds == (if Rows.linesNoneRow.domain.isEmpty then [] else Tryz.f3.params.toList.map fun t => match Tryz.prog.underlying t with | some (.int k) => some k | _ => none)) : Bool) = true := by kernel_rfl
theorem fact29 : ((Rows.linesNoneRow.pinned == Rows.linesNoneRow.pinnedBy) : Bool) = true := by kernel_rfl
theorem fact30 : ((Rows.linesNoneRow.veiled == (Tryz.f3.params.toList ++ ((OpenSpec.ofChange Rows.linesNoneSpec).bare).plain.varTypes Tryz.prog ++ Tryz.f3.resultTypes.toList).any (Tryz.prog.veiledRec ·)) : Bool) = true := by kernel_rfl
theorem fact31 : (Rows.linesNoneRow.veiledFits Tryz.prog Tryz.f3.params.toList (Tryz.f3.params.toList ++ ((OpenSpec.ofChange Rows.linesNoneSpec).bare).plain.varTypes Tryz.prog ++ Tryz.f3.resultTypes.toList) : Bool) = true := by kernel_rfl
theorem c_wf : Rows.linesNoneRow.wfByText (OpenSpec.ofChange Rows.linesNoneSpec) = true := by kernel_rfl
theorem c_main : Tryz.prog.mainIs = some (true, "d790d6963607c2bb4dd06e1a98c9b7029b52c4d1277bee97b87227f02d0d0623".toList) := by kernel_rfl
theorem c_looks : true = Tryz.prog.looks [] := by kernel_rfl
theorem c_stand : Tryz.prog.wantsStandIn 22 = false := by kernel_rfl
end Go.Ev
