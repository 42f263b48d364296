/- No text of the program starts a goroutine. -/
import Derived.Test.YtcjocfaknhpncaaGreatDoorCards
import Derived.JoinedOf
import Derived.KernelRfl
namespace Go.Ev
open Go Go.Proofs Go.Proofs.YtcjocfaknhpncaaGreatDoor
theorem c_noGo : Tryz.prog.funcs.toList.any Func.goes = false := by kernel_rfl
theorem c_func : Tryz.prog.funcNamed "firkin/firkinlaw34.LinesNone" = some 3 := by kernel_rfl
theorem goes_of {P : Program} (f : FuncId) (h : P.funcs.toList.any Func.goes = false) : P.goes f = false := by
  have h2 : P.funcs.any Func.goes = false := by rw [← Array.any_toList]; exact h
  unfold Program.goes
  rw [h2, Bool.and_false, Bool.or_false]
  rw [List.any_eq_false]
  intro g _
  cases hx : P.funcs[g]? with
  | none => simp
  | some fn =>
    have hm : fn ∈ P.funcs.toList := by
      have := Array.mem_of_getElem? hx
      simpa using this
    have := List.any_eq_false.1 h fn hm
    simpa using this
theorem c_goes : false = Rows.linesNoneRow.goesBy Tryz.prog := by
  unfold OpenClaim.goesBy Program.goesAt Program.goesFrom
  rw [show Rows.linesNoneRow.func = "firkin/firkinlaw34.LinesNone" from rfl, c_func]
  rw [Option.any_some, goes_of 3 c_noGo]
  rfl
end Go.Ev
