/- The closed facts of the row, joined. -/
/- The row and its card, out of what the example answers. -/
import Derived.Test.YtcjocfaknhpncaaGreatDoorXLha
import Derived.Test.YtcjocfaknhpncaaGreatDoorXLhb
import Derived.Test.YtcjocfaknhpncaaGreatDoorXLhc
import Derived.Test.YtcjocfaknhpncaaGreatDoorXLhd
import Derived.Test.YtcjocfaknhpncaaGreatDoorXLj
import Derived.Test.YtcjocfaknhpncaaGreatDoorXLb
import Derived.Test.YtcjocfaknhpncaaGreatDoorXLf
namespace Go.Ev
open Go Go.Proofs Go.Proofs.YtcjocfaknhpncaaGreatDoor
theorem andI {a b : Bool} (h : a = true) (k : b = true) : (a && b) = true := by rw [h, k]; rfl
set_option maxRecDepth 1000000 in
theorem closed : joinedFacts Tryz.prog 3 Tryz.f3 ((OpenSpec.ofChange Rows.linesNoneSpec).bare) Rows.linesNoneRow = true := by
  unfold joinedFacts
  exact (andI (andI (andI (andI (andI (andI (andI (andI (andI (andI (andI (andI (andI (andI (andI (andI (andI (andI (andI (andI (andI (andI (andI (andI (andI (andI (andI (andI (andI (andI (andI fact0 fact1) fact2) fact3) fact4) fact5) fact6) fact7) fact8) fact9) fact10) fact11) fact12) fact13) fact14) fact15) fact16) fact17) fact18) fact19) fact20) fact21) fact22) fact23) fact24) fact25) fact26) fact27) fact28) fact29) fact30) fact31)
end Go.Ev
namespace Go.Ev
open Go Go.RowKit Go.Proofs Go.ChangeShapes Go.WideShapes Go.ChangeAt Go.Proofs.YtcjocfaknhpncaaGreatDoor
set_option maxRecDepth 1000000

theorem lifted (hmm : mm61.Ok tbE Tryz.prog tbGl) (os : Os) (started : os.Started) (H : Type) (enc : TypeId × Value → H) (F : Stop.Interp) :
    ReturnsInHanded {} Tryz.checked os 3 .any ((OpenSpec.ofChange Rows.linesNoneSpec).preRow enc Tryz.prog Tryz.f3 Rows.linesNoneRow.domain false Rows.linesNoneRow.laid) (((OpenSpec.ofChange Rows.linesNoneSpec).at F).post enc Tryz.prog Tryz.f3 false true false false) := by
  obtain ⟨places, hx⟩ := reads os enc
  refine returnsInHanded_of_row (C := Tryz.checked) (s := OpenSpec.ofChange Rows.linesNoneSpec) ln_own started (by kernel_rfl) Tryz.func3
    (witness_row_atRef (enc := enc) (C := Tryz.checked) false (laidWorld os) #[.slice none 0 0] rfl (w_vars os) (w_rest os) (w_ok os)
      (OpenSpec.preRow_of_cond 8 hx (by kernel_rfl) (fun k hk => by cases hk) (by kernel_rfl) (laid_met os))) ?_
  intro W base args ds gs before hval hW _ _ _ hL _ _
  exact contract hmm H enc W base args ds gs before hval hW hL

theorem c_inst : Tryz.f3.isInstance Tryz.prog Rows.linesNoneRow.origin Rows.linesNoneRow.targs := of_decide_eq_true (by kernel_rfl)
theorem c_wrap : Tryz.f3.isWrapper Tryz.prog Rows.linesNoneRow.wrapper Rows.linesNoneRow.mainSum := by
  unfold Func.isWrapper; first | (rw [if_pos (by decide +kernel)]; kernel_rfl) | (rw [if_neg (by decide +kernel)]; exact ⟨rfl, rfl⟩)

theorem saidOf (hmm : mm61.Ok tbE Tryz.prog tbGl) : Rows.LinesNoneSaid :=
  OpenClaim.holds_of_cond 3 Tryz.f3 rfl rfl rfl rfl rfl rfl rfl ⟨rfl, rfl, rfl, rfl, rfl⟩ rfl rfl rfl rfl rfl c_func Tryz.func3 closed c_inst c_wrap
    (fun os started H enc _ F => by rw [OpenClaim.pre_eq_preRow]; exact lifted hmm os started H enc F)

/-- No parameter wants a stand-in; the program's own looks are off. -/
theorem plain (f : FuncId) (fn : Func) (hf : Tryz.pinned.checked.prog.funcNamed "firkin/firkinlaw34.LinesNone" = some f) (hfn : Tryz.pinned.checked.prog.funcs[f]? = some fn) :
    true = Tryz.pinned.checked.prog.looks [] ∧ ∀ (j : Nat) t, fn.params[j]? = some t → Tryz.pinned.checked.prog.wantsStandIn t = false := by
  obtain rfl : f = 3 := Option.some.inj ((show Tryz.prog.funcNamed "firkin/firkinlaw34.LinesNone" = some 3 from c_func).symm.trans hf) |>.symm
  obtain rfl : fn = Tryz.f3 := (Option.some.inj (Tryz.func3.symm.trans hfn)).symm
  refine ⟨c_looks, fun j t ht => ?_⟩
  rw [Tryz.params3] at ht
  obtain rfl : t = 22 := by simpa using Array.mem_of_getElem? ht
  exact c_stand

theorem cardOf (hmm : mm61.Ok tbE Tryz.prog tbGl) : Rows.LinesNoneCardSaid :=
  Claim7.holds_tied_plain_at .later [] _ _ _ _ (saidOf hmm) (fun _ h => by cases h) c_wf (fun _ h => by cases h) linesNone_row_tie rfl ⟨rfl, rfl⟩ c_main rfl plain c_goes
end Go.Ev
