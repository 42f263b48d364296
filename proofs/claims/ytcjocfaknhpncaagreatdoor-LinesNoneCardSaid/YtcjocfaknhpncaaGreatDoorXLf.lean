/- A world that fits, for the row's witness. -/
import Derived.Test.YtcjocfaknhpncaaGreatDoorXLb
import Derived.WalkKit
import Derived.ProofKit
import Derived.OpenShut
import Derived.Deep.DeepHandedRow
import Derived.Deep.DeepWitnessRowRef
namespace Go.Ev
open Go Go.RowKit Go.Proofs Go.ChangeShapes Go.WideShapes Go.ChangeAt Go.Proofs.YtcjocfaknhpncaaGreatDoor

def cellsOfD {H : Type} : DataW H → List Value
  | .agg ds => ds.flatMap fun
    | .lit (.int k n) => [.int k n]
    | .agg es => es.flatMap fun
      | .lit (.int k n) => [.int k n]
      | _ => []
    | _ => []
  | _ => []

/-- the settled world with the two errors' structs behind it, the variables holding what their initialisers lay -/
noncomputable def laidWorld (os : Os) : World :=
  let N := (World.settled Tryz.prog os).heap.size
  let w0 := World.holding Tryz.prog os ⟨#[
    .cells #[.string ⟨⟨[105, 110, 118, 97, 108, 105, 100, 32, 115, 121, 110, 116, 97, 120]⟩⟩] 481,
    .cells #[.string ⟨⟨[118, 97, 108, 117, 101, 32, 111, 117, 116, 32, 111, 102, 32, 114, 97, 110, 103, 101]⟩⟩] 481], #[], []⟩
  let put (h : Array Obj) (g : Nat) (cs : Array Value) : Array Obj := h.modify g fun
    | .cells _ t frozen => .cells cs t frozen
    | o => o
  let tab (h : Array Obj) (g : Nat) (d : DataW Unit) : Array Obj := put h g ⟨cellsOfD d⟩
  let h0 := put (put w0.heap 7 #[.iface 479 (.pointer (some ⟨N, 0, none⟩))]) 8 #[.iface 479 (.pointer (some ⟨N + 1, 0, none⟩))]
  let h1 := tab (tab (tab h0 1 Rows.laid_firkin_text_digits) 2 Rows.laid_internal_strconv_uint64pow10) 3 Rows.laid_unicode_utf8_first
  let h2 := tab (tab (tab h1 4 Rows.laid_unicode_utf8_acceptRanges) 5 Rows.laid_math_bits_deBruijn32tab) 6 Rows.laid_math_bits_deBruijn64tab
  { w0 with heap := tab h2 9 Rows.laid_firkin_crc_shifted }

set_option maxRecDepth 1000000
theorem laid_met (os : Os) : laidMet Tryz.prog Rows.linesNoneRow.laid ((laidWorld os).forCall (fun _ _ => 0) ⟨#[], #[.slice none 0 0], []⟩).memory :=
  laidMet_of_run' 8 (by kernel_rfl) (by kernel_rfl)
theorem reads (os : Os) {H : Type} (enc : TypeId × Value → H) : ∃ places, DataW.whole enc Tryz.prog ((laidWorld os).forCall (fun _ _ => 0) ⟨#[], #[.slice none 0 0], []⟩).memory Tryz.f3.params.toList Rows.linesNoneSpec.vars false #[Value.slice none 0 0].toList 8 = some ([.nil], [], places) :=
  ⟨[], by kernel_rfl⟩
theorem w_vars (os : Os) : ((laidWorld os).forCall (fun _ _ => 0) ⟨#[], #[.slice none 0 0], []⟩).variablesRefB Tryz.prog = true := by kernel_rfl
theorem w_rest (os : Os) : (((laidWorld os).forCall (fun _ _ => 0) ⟨#[], #[.slice none 0 0], []⟩).heap.toList.drop Tryz.prog.globals.size).take ((begin Tryz.prog (fun _ _ => 0) default).world.heap.size - Tryz.prog.globals.size) =
      (begin Tryz.prog (fun _ _ => 0) default).world.heap.toList.drop Tryz.prog.globals.size := by kernel_rfl
theorem w_ok (os : Os) : Input.okWideB Tryz.prog ((laidWorld os).forCall (fun _ _ => 0) ⟨#[], #[.slice none 0 0], []⟩) 3 ⟨#[], #[.slice none 0 0], []⟩ = true := by kernel_rfl
end Go.Ev
