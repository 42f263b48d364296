/- What the law's own check gives: a call that answers true. -/
import Derived.Test.YtcjocfaknhpncaaGreatDoorXTc
import Derived.Test.YtcjocfaknhpncaaGreatDoorXGa
import Derived.SliceStrings
import Derived.LaidSub
import Derived.Lib.LaidTab
import Derived.Carry
namespace Go.Ev
open Go
noncomputable def strs (f : Nat → List UInt8) (n : Nat) : List LV := Nat.rec (motive := fun _ => Nat → List LV) (fun _ => []) (fun _ ih i => .str (f i) :: ih (Nat.succ i)) n 0
noncomputable def lnE : Env := tbE.withM tbGl [mm61] [4]
noncomputable def lnH (f : Nat → List UInt8) (n : Nat) : LH := ⟨layH [(10, .cells (strs f n) none)] (layH tbGl.gl .nil), 11, 11⟩
noncomputable def lnChk (f : Nat → List UInt8) (c n : Nat) : Bool := trueRes (frun lnE 1000000 (.fn (lnH f n) 3 [.sl (some (10, 0)) n c none]))
noncomputable def lnH0 : LH := ⟨layH tbGl.gl .nil, 11, 11⟩
noncomputable def lnChkBig (c m : Nat) : Bool := trueRes (frun lnE 1000000 (.fn lnH0 3 [.sl (some (10, 0)) (Nat.add m 101) c none]))
noncomputable def lnChkNil : Bool := trueRes (frun lnE 1000000 (.fn lnH0 3 [.sl none 0 0 none]))
end Go.Ev
namespace Go.Ev
open Go Go.RowKit Go.Proofs Go.ChangeShapes Go.WideShapes

noncomputable def lnChkZ (c : Nat) : Bool := trueRes (frun lnE 1000000 (.fn lnH0 3 [.sl (some (10, 0)) 0 c none]))
set_option maxRecDepth 1000000 in
theorem lnZ (c : Nat) : lnChkZ c = true := by kernel_rfl

theorem trueRes_ok {r : Res} (h : trueRes r = true) : ∃ h', r = .val (.bool true) h' := by
  cases r with
  | stuck => cases h
  | code e s => cases h
  | val v h' =>
    cases v with
    | bool b => exact ⟨h', by rw [show b = true from h]⟩
    | _ => cases h

theorem ln_body : Option.isSome Tryz.f3.body = true := by kernel_rfl
theorem ln_fn : lnE.funcs.get 3 = some Tryz.f3 := by kernel_rfl

/-- a call of the law that answers true -/
theorem ln_in (hm : mm61.Ok tbE Tryz.prog tbGl) {h : LH} {args : List LV} (hc : trueRes (frun lnE 1000000 (.fn h 3 args)) = true) : ∃ h', FnIn lnE Tryz.prog h 3 args (.bool true) h' := by
  have hrun : frun lnE 1000000 (.fn h 3 args) = run lnE 1000000 (.fn h 3 args) := frun_eq _ 1000000 (.fn h 3 args)
  rw [hrun] at hc
  obtain ⟨h', hr⟩ := trueRes_ok hc
  have hT : Tabs lnE Tryz.prog := tb_tabs.withM tbGl [mm61] [4]
  have hok := ev_ok hT (tb_orac.withM (G := tbGl) (ks := [4]) (ms := [mm61]) fun m hm' => by
    rcases List.mem_cons.1 hm' with rfl | h1
    · exact hm
    · cases h1) 1000000 (.fn h 3 args)
  rw [hr] at hok
  obtain ⟨c, hb⟩ := Option.isSome_iff_exists.1 ln_body
  exact ⟨h', FnOk.inn hT ln_fn hb hok⟩

/-! the worlds that the law is called in -/
/-- the program's variables that it reads -/
structure GlobMet (W : World) : Prop where
  size : 10 ≤ W.heap.size
  one : ∀ b o, (layH tbGl.gl .nil).get b = some o → b < 10 ∧ ∀ φ : Phi, φ b = some ⟨b, 0, 0, 0⟩ → ObjRel φ W ⟨b, 0, 0, 0⟩ false o

/-- where the variables lie, and the argument's block -/
def lnPhi (a : Addr) : Phi := fun g => if g < 10 then some ⟨g, 0, 0, 0⟩ else if g = 10 then some ⟨a.block, a.off, 0, 0⟩ else none
def lnBase (W : World) : Base := ⟨W, (· < W.heap.size), (· < W.heap.size), fun _ => False, fun _ h => h, fun _ h => h⟩

theorem lnPhi_lt {a : Addr} {g : Nat} (h : g < 10) : lnPhi a g = some ⟨g, 0, 0, 0⟩ := by simp [lnPhi, h]
theorem lnPhi_ten (a : Addr) : lnPhi a 10 = some ⟨a.block, a.off, 0, 0⟩ := by simp [lnPhi]

theorem ln_ng : lnE.ng = 10 := by kernel_rfl

theorem ln_sit {W : World} (hG : GlobMet W) {a : Addr} (ha : a.block < W.heap.size) {m : T LObj}
    (hm : ∀ b o, m.get b = some o → (layH tbGl.gl .nil).get b = some o ∨ (b = 10 ∧ ObjRel (lnPhi a) W ⟨a.block, a.off, 0, 0⟩ false o)) :
    Sit lnE Tryz.prog (lnPhi a) (lnBase W) W ⟨m, 11, 11⟩ := by
  have dom : ∀ b k, lnPhi a b = some k → b < 11 ∧ k.R < W.heap.size := by
    intro b k h
    unfold lnPhi at h
    split at h
    · rename_i h1
      simp only [Option.some.injEq] at h; subst h
      exact ⟨by omega, Nat.lt_of_lt_of_le h1 hG.size⟩
    · split at h
      · rename_i h1
        simp only [Option.some.injEq] at h; subst h
        exact ⟨by omega, ha⟩
      · cases h
  have obj : ∀ b o, m.get b = some o → b < 11 ∧ ∃ k, lnPhi a b = some k ∧ ObjRel (lnPhi a) W k false o := by
    intro b o hb
    rcases hm b o hb with h1 | ⟨rfl, h1⟩
    · obtain ⟨h2, h3⟩ := hG.one b o h1
      exact ⟨by omega, _, lnPhi_lt h2, h3 _ (lnPhi_lt h2)⟩
    · exact ⟨by omega, _, lnPhi_ten a, h1⟩
  refine ⟨⟨⟨rfl, rfl, rfl, Nat.le_refl _, fun _ _ => rfl⟩, fun b k h => (dom b k h).1, fun b o k hb _ hl => ?_, fun b o hb => ?_, fun b k h _ => (dom b k h).2, fun b h => h.elim, fun b b' o o' k k' hb _ _ _ hl => ?_⟩, Nat.le_refl _, fun g hg => ?_⟩
  · exact absurd (obj b o hb).1 (Nat.not_lt.2 hl)
  · obtain ⟨h1, k, h2, h3⟩ := obj b o hb
    refine ⟨k, h2, ?_⟩
    have : decide (11 ≤ b) = false := by simp; omega
    show ObjRel (lnPhi a) W k (decide (11 ≤ b)) o
    rw [this]; exact h3
  · exact absurd (obj b o hb).1 (Nat.not_lt.2 hl)
  · rw [ln_ng] at hg
    exact ⟨_, lnPhi_lt hg, rfl, rfl⟩
end Go.Ev
