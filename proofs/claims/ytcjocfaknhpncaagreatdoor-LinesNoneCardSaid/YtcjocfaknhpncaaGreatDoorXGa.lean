/- Calls that were reckoned apart: what one leaves of the blocks that it sees, it leaves beside all others too. -/
/- Calls that were reckoned apart, as they are typed, and as the evaluator uses them. -/
import Derived.Test.YtcjocfaknhpncaaGreatDoorXEza
import Derived.Test.YtcjocfaknhpncaaGreatDoorXFc
namespace Go.Ev
open Go Go.RowKit

variable {E : Env} {P : Program}

/-- 'FnOk' of a function that has a body -/
def FnIn (E : Env) (P : Program) (h : LH) (k : FuncId) (args : List LV) (v : LV) (h' : LH) : Prop :=
  ∀ (φ : Phi) (w0 : Base) (w : World) (Args : List Value), Sit E P φ w0 w h → insts φ args = some Args →
    (callFunc k ⟨Args⟩).run P w = .ok (.enter k ⟨Args⟩) w ∧ CallsIn Fence.wide 0 P k ⟨Args⟩ w fun e w' => ∃ X, e = .returned X ∧ After E P φ w0 h v h' X w'

theorem FnIn.ok {h h' : LH} {k : FuncId} {args : List LV} {v : LV} (hf : FnIn E P h k args v h') : FnOk E P h k args v h' := fun φ w0 w Args hs ha => .inl (hf φ w0 w Args hs ha)
theorem FnOk.inn (hT : Tabs E P) {h h' : LH} {k : FuncId} {args : List LV} {v : LV} {fn : Func} {c : Code} (hfn : E.funcs.get k = some fn) (hb : fn.body = some c) (hf : FnOk E P h k args v h') : FnIn E P h k args v h' := by
  intro φ w0 w Args hs ha
  rcases hf φ w0 w Args hs ha with h1 | ⟨_, X, w', h1, _⟩
  · exact h1
  · rw [callFunc_enter hT hfn hb] at h1; cases h1

/-- objects as they are typed -/
inductive LO where
  | cells (vs : List LV) (own : Option Nat)
  | map (es : List (LV × LV × Nat)) (clock : Nat)
noncomputable def LO.obj : LO → LObj
  | .cells vs own => .cells (T.ofListFrom vs 0 .nil) vs.length own
  | .map es c => .map es c
abbrev Hp := List (Nat × LO)
noncomputable def layH (l : Hp) (m : T LObj) : T LObj := List.rec (motive := fun _ => T LObj → T LObj) (fun m => m) (fun p _ ih m => T.setK (some p.2.obj) m p.1 ih) l m
noncomputable def delH (l : Hp) (m : T LObj) : T LObj := List.rec (motive := fun _ => T LObj → T LObj) (fun m => m) (fun p _ ih m => T.setK none m p.1 ih) l m

theorem layH_nil (m : T LObj) : layH [] m = m := rfl
theorem layH_cons (p : Nat × LO) (l : Hp) (m : T LObj) : layH (p :: l) m = layH l (m.set p.1 p.2.obj) := by
  show T.setK (some p.2.obj) m p.1 (fun m => layH l m) = _
  rw [T.setK_set]
theorem delH_nil (m : T LObj) : delH [] m = m := rfl
theorem delH_cons (p : Nat × LO) (l : Hp) (m : T LObj) : delH (p :: l) m = delH l (m.del p.1) := by
  show T.setK none m p.1 (fun m => delH l m) = _
  rw [T.setK_eq none m (Nat.succ p.1) p.1 _ (Nat.lt_succ_self _)]
  congr 1
  exact (T.setK_eq none m (Nat.succ p.1) p.1 (fun t => t) (Nat.lt_succ_self _)).symm

/-- what lies at a number behind the laying: the last that was laid there, or what lay there -/
theorem layH_get : ∀ (l : Hp) (m : T LObj) (b : Nat) (o : LObj), (layH l m).get b = some o → (∃ p ∈ l, p.1 = b ∧ o = p.2.obj) ∨ (m.get b = some o ∧ ∀ p ∈ l, p.1 ≠ b)
  | [], m, b, o, h => .inr ⟨h, by simp⟩
  | p :: l, m, b, o, h => by
    rw [layH_cons] at h
    rcases layH_get l _ b o h with ⟨q, hq, h1, h2⟩ | ⟨h1, h2⟩
    · exact .inl ⟨q, List.mem_cons_of_mem _ hq, h1, h2⟩
    · rw [T.get_set] at h1
      by_cases hb : b = p.1
      · rw [if_pos hb] at h1
        simp only [Option.some.injEq] at h1
        exact .inl ⟨p, List.mem_cons_self, hb.symm, h1.symm⟩
      · rw [if_neg hb] at h1
        refine .inr ⟨h1, fun q hq => ?_⟩
        rcases List.mem_cons.1 hq with rfl | hq
        · exact fun he => hb he.symm
        · exact h2 q hq
theorem delH_get : ∀ (l : Hp) (m : T LObj) (b : Nat) (o : LObj), (delH l m).get b = some o → m.get b = some o ∧ ∀ p ∈ l, p.1 ≠ b
  | [], m, b, o, h => ⟨h, by simp⟩
  | p :: l, m, b, o, h => by
    rw [delH_cons] at h
    obtain ⟨h1, h2⟩ := delH_get l _ b o h
    rw [T.get_del] at h1
    by_cases hb : b = p.1
    · rw [if_pos hb] at h1; cases h1
    · rw [if_neg hb] at h1
      refine ⟨h1, fun q hq => ?_⟩
      rcases List.mem_cons.1 hq with rfl | hq
      · exact fun he => hb he.symm
      · exact h2 q hq

/-! is an object as it was typed? -/
noncomputable def eqV (a b : LV) : Bool := asInt a (LV.beq a b) fun k x => asInt b false fun k' y => Bool.rec (motive := fun _ => Bool) false (eqR x y) (Nat.beq (kIdx k) (kIdx k'))
theorem eqI_ok {x y : Int} (h : eqI x y = true) : x = y := by
  cases x <;> cases y <;> simp [eqI] at h <;> simp [h]
theorem eqV_ok {a b : LV} (h : eqV a b = true) : a = b := by
  cases a with
  | int k x =>
    cases b with
    | int k' y =>
      change Bool.rec (motive := fun _ => Bool) false (eqR x y) (Nat.beq (kIdx k) (kIdx k')) = true at h
      cases hk : Nat.beq (kIdx k) (kIdx k') with
      | false => rw [hk] at h; cases h
      | true =>
        rw [hk] at h
        change eqR x y = true at h
        rw [eqR_eq] at h
        rw [kIdx_inj hk, eqI_ok h]
    | _ => cases h
  | _ => exact LV.beq_ok _ _ h
noncomputable def eqCells (c : T LV) (vs : List LV) : Nat → Bool :=
  List.rec (motive := fun _ => Nat → Bool) (fun _ => true) (fun v _ ih i => Option.rec (motive := fun _ => Bool) false (fun u => Bool.rec (motive := fun _ => Bool) false (fNat (Nat.succ i) ih) (eqV v u)) (c.get i)) vs
theorem eqCells_ok (c : T LV) : ∀ (vs : List LV) (i : Nat), eqCells c vs i = true → ∀ j v, vs[j]? = some v → c.get (i + j) = some v
  | [], i, _, j, v, h => by simp at h
  | u :: vs, i, h, j, v, hj => by
    change Option.rec (motive := fun _ => Bool) false (fun w => Bool.rec (motive := fun _ => Bool) false (fNat (Nat.succ i) (eqCells c vs)) (eqV u w)) (c.get i) = true at h
    cases hc : c.get i with
    | none => rw [hc] at h; cases h
    | some w =>
      rw [hc] at h
      change Bool.rec (motive := fun _ => Bool) false (fNat (Nat.succ i) (eqCells c vs)) (eqV u w) = true at h
      cases he : eqV u w with
      | false => rw [he] at h; cases h
      | true =>
        rw [he] at h
        change fNat (Nat.succ i) (eqCells c vs) = true at h
        rw [fNat_eq] at h
        cases j with
        | zero =>
          simp only [List.getElem?_cons_zero, Option.some.injEq] at hj
          rw [Nat.add_zero, hc, ← eqV_ok he, hj]
        | succ j =>
          simp only [List.getElem?_cons_succ] at hj
          have := eqCells_ok c vs (Nat.succ i) h j v hj
          rwa [show Nat.succ i + j = i + (j + 1) by omega] at this
noncomputable def eqEs : List (LV × LV × Nat) → List (LV × LV × Nat) → Bool
  | [], [] => true
  | (a, b, c) :: x, (a', b', c') :: y => eqV a a' && (eqV b b' && (Nat.beq c c' && eqEs x y))
  | _, _ => false
theorem eqEs_ok : ∀ {x y : List (LV × LV × Nat)}, eqEs x y = true → x = y
  | [], [], _ => rfl
  | [], _ :: _, h => by cases h
  | _ :: _, [], h => by cases h
  | (a, b, c) :: x, (a', b', c') :: y, h => by
    simp only [eqEs, Bool.and_eq_true] at h
    obtain ⟨h1, h2, h3, h4⟩ := h
    rw [eqV_ok h1, eqV_ok h2, Nat.eq_of_beq_eq_true h3, eqEs_ok h4]
noncomputable def eqON (a b : Option Nat) : Bool := Option.rec (motive := fun _ => Bool) (Option.rec (motive := fun _ => Bool) true (fun _ => false) b) (fun x => Option.rec (motive := fun _ => Bool) false (fun y => Nat.beq x y) b) a
theorem eqON_ok {a b : Option Nat} (h : eqON a b = true) : a = b := by
  cases a <;> cases b <;> first | rfl | (cases h; done) | skip
  rename_i x y
  rw [Nat.eq_of_beq_eq_true (show Nat.beq x y = true from h)]
noncomputable def isO (l : LO) (o : LObj) : Bool := match l, o with
  | .cells vs own, .cells c n own' => Nat.beq vs.length n && (eqON own own' && eqCells c vs 0)
  | .map es c, .map es' c' => Nat.beq c c' && eqEs es es'
  | _, _ => false

/-- what stands for the object stands for what was typed -/
theorem isO_ok {l : LO} {o : LObj} (h : isO l o = true) {φ : Phi} {w : World} {k : Blk} {nb : Bool} (ho : ObjRel φ w k nb o) : ObjRel φ w k nb l.obj := by
  cases l with
  | cells vs own =>
    cases o with
    | cells c n own' =>
      simp only [isO, Bool.and_eq_true] at h
      obtain ⟨h1, h2, h3⟩ := h
      have h1 := Nat.eq_of_beq_eq_true h1
      have h2 := eqON_ok h2
      subst h2
      obtain ⟨rc, et, fr, g1, g2, g3, g4, g5⟩ := ho
      refine ⟨rc, et, fr, g1, fun i v hv => g2 i v ?_, by rw [h1]; exact g3, g4, g5⟩
      rw [T.get_ofList] at hv
      have := eqCells_ok c vs 0 h3 i v hv
      rwa [Nat.zero_add] at this
    | _ => cases h
  | map es c =>
    cases o with
    | map es' c' =>
      simp only [isO, Bool.and_eq_true] at h
      have := eqEs_ok h.2; subst this
      have := Nat.eq_of_beq_eq_true h.1; subst this
      exact ho
    | _ => cases h

noncomputable def allIn (m : T LObj) (l : Hp) : Bool := List.rec (motive := fun _ => Bool) true (fun p _ ih => Option.rec (motive := fun _ => Bool) false (fun o => Bool.rec (motive := fun _ => Bool) false ih (isO p.2 o)) (m.get p.1)) l
theorem allIn_ok {m : T LObj} : ∀ {l : Hp}, allIn m l = true → ∀ p ∈ l, ∃ o, m.get p.1 = some o ∧ isO p.2 o = true
  | [], _, p, hp => by simp at hp
  | q :: l, h, p, hp => by
    change Option.rec (motive := fun _ => Bool) false (fun o => Bool.rec (motive := fun _ => Bool) false (allIn m l) (isO q.2 o)) (m.get q.1) = true at h
    cases hq : m.get q.1 with
    | none => rw [hq] at h; cases h
    | some o =>
      rw [hq] at h
      change Bool.rec (motive := fun _ => Bool) false (allIn m l) (isO q.2 o) = true at h
      cases ho : isO q.2 o with
      | false => rw [ho] at h; cases h
      | true =>
        rw [ho] at h
        rcases List.mem_cons.1 hp with rfl | hp
        · exact ⟨o, hq, ho⟩
        · exact allIn_ok (show allIn m l = true from h) p hp
noncomputable def allFrom (lo : Nat) (l : Hp) : Bool := List.rec (motive := fun _ => Bool) true (fun p _ ih => Bool.rec (motive := fun _ => Bool) false ih (Nat.ble lo p.1)) l
theorem allFrom_ok {lo : Nat} : ∀ {l : Hp}, allFrom lo l = true → ∀ p ∈ l, lo ≤ p.1
  | [], _, p, hp => by simp at hp
  | q :: l, h, p, hp => by
    change Bool.rec (motive := fun _ => Bool) false (allFrom lo l) (Nat.ble lo q.1) = true at h
    cases hq : Nat.ble lo q.1 with
    | false => rw [hq] at h; cases h
    | true =>
      rw [hq] at h
      rcases List.mem_cons.1 hp with rfl | hp
      · exact Nat.le_of_ble_eq_true hq
      · exact allFrom_ok (show allFrom lo l = true from h) p hp

/-- a relation over what is seen in part -/
theorem Rel.part {φ : Phi} {w0 : Base} {w : World} {h : LH} (hr : Rel φ w0 w h) {m : T LObj} (hm : ∀ b o, m.get b = some o → ∃ o', h.m.get b = some o' ∧ ∀ k nb, ObjRel φ w k nb o' → ObjRel φ w k nb o) : Rel φ w0 w ⟨m, h.nx, h.lo⟩ :=
  ⟨hr.below, hr.dom, fun b o k hb hk hl => let ⟨o', h1, _⟩ := hm b o hb; hr.new b o' k h1 hk hl, fun b o hb => let ⟨o', h1, h2⟩ := hm b o hb; let ⟨k, hk, ho⟩ := hr.objs b o' h1; ⟨k, hk, h2 k _ ho⟩, hr.old, hr.res,
   fun b b' o o' k k' hb hb' hk hk' hl he => let ⟨_, h1, _⟩ := hm b o hb; let ⟨_, h2, _⟩ := hm b' o' hb'; hr.inj b b' _ _ k k' h1 h2 hk hk' hl he⟩

/-- **the frame**: a call that sees some of the blocks leaves the others as they are -/
theorem FnIn.frame {h hl hl' : LH} {k : FuncId} {args : List LV} {v : LV} (hf : FnIn E P hl k args v hl') (hnx : hl.nx = h.nx) (hlo : hl.lo = h.lo) (hsub : ∀ b o, hl.m.get b = some o → ∃ o', h.m.get b = some o' ∧ ∀ φ w k nb, ObjRel φ w k nb o' → ObjRel φ w k nb o)
    (hge : ∀ b o, hl'.m.get b = some o → h.lo ≤ b) {m2 : T LObj} (hm2 : ∀ b o, m2.get b = some o → hl'.m.get b = some o ∨ (h.m.get b = some o ∧ ((∀ o', hl.m.get b ≠ some o') ∨ b < h.lo))) : FnIn E P h k args v ⟨m2, hl'.nx, h.lo⟩ := by
  intro φ w0 w Args hs ha
  let Q : Nat → Prop := fun b => (∃ o, h.m.get b = some o) ∧ ((∀ o', hl.m.get b ≠ some o') ∨ b < h.lo)
  have hr0 : Rel φ w0 w hl := by
    have := hs.rel.part (m := hl.m) fun b o hb => let ⟨o', h1, h2⟩ := hsub b o hb; ⟨o', h1, h2 φ w⟩
    rw [← hnx, ← hlo] at this
    exact this
  let w1 : Base := ⟨w, fun R => w0.B R ∨ ∃ b kb, Q b ∧ φ b = some kb ∧ R = kb.R, w0.O, w0.Z, by
      rintro R (hB | ⟨b, kb, ⟨⟨o, ho⟩, _⟩, hk, rfl⟩)
      · exact Nat.lt_of_lt_of_le (w0.bd R hB) hs.rel.below.size
      · obtain ⟨k', hk', ho'⟩ := hs.rel.objs b o ho
        rw [hk] at hk'; cases hk'
        exact ho'.lt, fun R hO => Nat.lt_of_lt_of_le (w0.od R hO) hs.rel.below.size⟩
  have hr1 : Rel φ w1 w hl := by
    refine ⟨⟨rfl, rfl, rfl, Nat.le_refl _, fun R _ => rfl⟩, hr0.dom, ?_, hr0.objs, hr0.old, hr0.res, hr0.inj⟩
    rintro b ob kb hb hkb hl1 (hB | ⟨b', kb', ⟨⟨o', ho'⟩, hq⟩, hk', he⟩)
    · exact hr0.new b ob kb hb hkb hl1 hB
    · obtain ⟨o1, h1, _⟩ := hsub b ob hb
      have := hs.rel.inj b b' o1 o' kb kb' h1 ho' hkb hk' (by rw [← hlo]; exact hl1) he
      subst this
      rcases hq with hq | hq
      · exact hq ob hb
      · rw [← hlo] at hq; omega
  obtain ⟨h1, h2⟩ := hf φ w1 w Args ⟨hr1, by rw [hnx, hlo]; exact hs.lo, hs.glob⟩ ha
  refine ⟨h1, h2.mono fun e w' ⟨X, hX, ψ, b1, b2, b3, b4, b5⟩ => ⟨X, hX, ψ, b1, b2, ?_, rfl, by rw [← hnx]; exact b5⟩⟩
  have hk1 := b3.rel.below
  have hlo' : hl'.lo = h.lo := b4.trans hlo
  -- what was not seen has stayed
  have stay : ∀ b o, h.m.get b = some o → ((∀ o', hl.m.get b ≠ some o') ∨ b < h.lo) → ∃ kb, φ b = some kb ∧ ψ b = some kb ∧ w1.B kb.R ∧ ObjRel ψ w' kb (decide (h.lo ≤ b)) o := by
    intro b o hb hq
    obtain ⟨kb, hkb, ho⟩ := hs.rel.objs b o hb
    have hB : w1.B kb.R := .inr ⟨b, kb, ⟨⟨o, hb⟩, hq⟩, hkb, rfl⟩
    exact ⟨kb, hkb, b1 _ _ hkb, hB, (ho.mono b1).world (hk1.block kb.R hB)⟩
  refine ⟨⟨hs.rel.below.step hk1.os hk1.tape hk1.output hk1.size fun R hR => hk1.block R (.inl hR), b3.rel.dom, fun b o kb hb hkb hl1 => ?_, fun b o hb => ?_, fun b kb hkb hl1 => ?_, fun b hz => b3.rel.res b hz, fun b b' o o' kb kb' hb hb' hkb hkb' hl1 he => ?_⟩, by
      have := b3.lo; rw [hlo'] at this; exact this, b3.glob⟩
  · rcases hm2 b o hb with h3 | ⟨h3, hq⟩
    · intro hB
      exact b3.rel.new b o kb h3 hkb (by rw [hlo']; exact hl1) (.inl hB)
    · obtain ⟨k2, e1, e2, _⟩ := stay b o h3 hq
      rw [hkb] at e2; cases e2
      exact hs.rel.new b o _ h3 e1 hl1
  · rcases hm2 b o hb with h3 | ⟨h3, hq⟩
    · have := b3.rel.objs b o h3
      rw [hlo'] at this; exact this
    · obtain ⟨k2, e1, e2, _, e3⟩ := stay b o h3 hq
      exact ⟨k2, e2, e3⟩
  · exact b3.rel.old b kb hkb (by rw [hlo']; exact hl1)
  · rcases hm2 b o hb with h3 | ⟨h3, hq⟩ <;> rcases hm2 b' o' hb' with h4 | ⟨h4, hq'⟩
    · exact b3.rel.inj b b' o o' kb kb' h3 h4 hkb hkb' (by rw [hlo']; exact hl1) he
    · obtain ⟨k2, _, e2, eB, _⟩ := stay b' o' h4 hq'
      rw [hkb'] at e2; cases e2
      exact absurd (he ▸ eB) (b3.rel.new b o kb h3 hkb (by rw [hlo']; exact hl1))
    · obtain ⟨k2, _, e2, eB, _⟩ := stay b o h3 hq
      rw [hkb] at e2; cases e2
      exact absurd (he ▸ eB) (b3.rel.new b' o' kb' h4 hkb' (by rw [hlo']; exact hge b' o' h4))
    · obtain ⟨k2, e0, e2, _⟩ := stay b o h3 hq
      rw [hkb] at e2; cases e2
      obtain ⟨k3, e0', e3, _⟩ := stay b' o' h4 hq'
      rw [hkb'] at e3; cases e3
      exact hs.rel.inj b b' o o' _ _ h3 h4 e0 e0' hl1 he

end Go.Ev
namespace Go.Ev
open Go Go.RowKit

variable {E E' : Env} {P : Program}

theorem Sit.env {φ : Phi} {w0 : Base} {w : World} {h : LH} (he : E'.ng = E.ng) (hs : Sit E P φ w0 w h) : Sit E' P φ w0 w h := ⟨hs.rel, hs.lo, he ▸ hs.glob⟩
theorem FnIn.env (he : E'.ng = E.ng) {h h' : LH} {k : FuncId} {args : List LV} {v : LV} (hf : FnIn E P h k args v h') : FnIn E' P h k args v h' := by
  intro φ w0 w Args hs ha
  obtain ⟨h1, h2⟩ := hf φ w0 w Args (hs.env he.symm) ha
  exact ⟨h1, h2.mono fun e w' ⟨X, hX, ψ, b1, b2, b3, b4, b5⟩ => ⟨X, hX, ψ, b1, b2, b3.env he, b4, b5⟩⟩
/-- fewer blocks are told of at the end -/
theorem FnIn.less {h h' : LH} {k : FuncId} {args : List LV} {v : LV} (hf : FnIn E P h k args v h') {m : T LObj} (hm : ∀ b o, m.get b = some o → ∃ o', h'.m.get b = some o' ∧ ∀ φ w k nb, ObjRel φ w k nb o' → ObjRel φ w k nb o) : FnIn E P h k args v ⟨m, h'.nx, h'.lo⟩ := by
  intro φ w0 w Args hs ha
  obtain ⟨h1, h2⟩ := hf φ w0 w Args hs ha
  refine ⟨h1, h2.mono fun e w' ⟨X, hX, ψ, b1, b2, b3, b4, b5⟩ => ⟨X, hX, ψ, b1, b2, ⟨b3.rel.part fun b o hb => let ⟨o', c1, c2⟩ := hm b o hb; ⟨o', c1, c2 ψ w'⟩, b3.lo, b3.glob⟩, b4, b5⟩⟩

structure Memo where
  k : FuncId
  args : List LV
  nx : Nat
  hi : Hp
  v : LV
  nx' : Nat
  ho : Hp

/-- the program's variables, and where the blocks begin -/
structure Gl where
  gl : Hp
  lo : Nat

noncomputable def allBelow (lo : Nat) (l : Hp) : Bool := List.rec (motive := fun _ => Bool) true (fun p _ ih => Bool.rec (motive := fun _ => Bool) false ih (Nat.blt p.1 lo)) l
theorem allBelow_ok {lo : Nat} : ∀ {l : Hp}, allBelow lo l = true → ∀ p ∈ l, p.1 < lo
  | [], _, p, hp => by simp at hp
  | q :: l, h, p, hp => by
    change Bool.rec (motive := fun _ => Bool) false (allBelow lo l) (Nat.blt q.1 lo) = true at h
    cases hq : Nat.blt q.1 lo with
    | false => rw [hq] at h; cases h
    | true =>
      rw [hq] at h
      rcases List.mem_cons.1 hp with rfl | hp
      · simpa [Nat.blt_eq] using hq
      · exact allBelow_ok (show allBelow lo l = true from h) p hp

noncomputable def Memo.hin (m : Memo) (G : Gl) : LH := ⟨layH m.hi (layH G.gl .nil), m.nx, G.lo⟩
noncomputable def Memo.hout (m : Memo) (G : Gl) : LH := ⟨layH m.ho .nil, m.nx', G.lo⟩
def Memo.Ok (E : Env) (P : Program) (G : Gl) (m : Memo) : Prop := FnIn E P (m.hin G) m.k m.args m.v (m.hout G)

noncomputable def bAnd (a b : Bool) : Bool := Bool.rec (motive := fun _ => Bool) false b a
theorem bAnd_ok {a b : Bool} (h : bAnd a b = true) : a = true ∧ b = true := by
  cases a
  · cases h
  · exact ⟨rfl, h⟩

noncomputable def Memo.fits (m : Memo) (G : Gl) (h : LH) (args : List LV) : Bool :=
  bAnd (Nat.beq h.nx m.nx) (bAnd (Nat.beq h.lo G.lo) (bAnd (LV.beqs m.args args) (bAnd (allBelow G.lo G.gl) (bAnd (allFrom G.lo m.ho) (bAnd (allIn h.m m.hi) (allIn h.m G.gl))))))
noncomputable def Memo.use (m : Memo) (G : Gl) (h : LH) (args : List LV) (z : Option (LV × LH)) : Option (LV × LH) :=
  Bool.rec (motive := fun _ => Option (LV × LH)) z ((layH m.ho (delH m.hi h.m)).force fun x => some (m.v, ⟨x, m.nx', h.lo⟩)) (m.fits G h args)

theorem layH_same : ∀ (l : Hp) (m m' : T LObj) (b : Nat) (o : LObj), (layH l m).get b = some o → (∃ p ∈ l, p.1 = b) → (layH l m').get b = some o
  | [], m, m', b, o, h, ⟨p, hp, _⟩ => by simp at hp
  | q :: l, m, m', b, o, h, hex => by
    rw [layH_cons] at h ⊢
    by_cases hl : ∃ p ∈ l, p.1 = b
    · exact layH_same l _ _ b o h hl
    · have hno : ∀ p ∈ l, p.1 ≠ b := fun p hp he => hl ⟨p, hp, he⟩
      have keep : ∀ (l : Hp) (m : T LObj), (∀ p ∈ l, p.1 ≠ b) → (layH l m).get b = m.get b := by
        intro l
        induction l with
        | nil => intro m _; rfl
        | cons p l ih =>
          intro m hp
          rw [layH_cons, ih _ fun q hq => hp q (List.mem_cons_of_mem _ hq), T.get_set, if_neg]
          exact fun he => hp p List.mem_cons_self he.symm
      rw [keep l _ hno] at h ⊢
      obtain ⟨p, hp, hpb⟩ := hex
      rcases List.mem_cons.1 hp with rfl | hp
      · rw [T.get_set, if_pos hpb.symm] at h ⊢; exact h
      · exact absurd hpb (hno p hp)

theorem layH_isO {l : Hp} {m : T LObj} (hl : allIn m l = true) {m0 : T LObj} {b : Nat} {o : LObj} (h : (layH l m0).get b = some o) : (∃ o', m.get b = some o' ∧ ∀ φ w k nb, ObjRel φ w k nb o' → ObjRel φ w k nb o) ∨ (m0.get b = some o ∧ ∀ p ∈ l, p.1 ≠ b) := by
  rcases layH_get l m0 b o h with ⟨p, hp, rfl, rfl⟩ | h
  · obtain ⟨o', h1, h2⟩ := allIn_ok hl p hp
    exact .inl ⟨o', h1, fun φ w k nb ho => isO_ok h2 ho⟩
  · exact .inr h

theorem Memo.use_ok {G : Gl} {m : Memo} (hm : m.Ok E P G) {h : LH} {args : List LV} {z : Option (LV × LH)} {v : LV} {h' : LH} (hu : m.use G h args z = some (v, h')) : z = some (v, h') ∨ FnIn E P h m.k args v h' := by
  unfold Memo.use at hu
  cases hf : m.fits G h args with
  | false => rw [hf] at hu; exact .inl hu
  | true =>
    rw [hf] at hu
    change ((layH m.ho (delH m.hi h.m)).force fun x => some (m.v, (⟨x, m.nx', h.lo⟩ : LH))) = some (v, h') at hu
    rw [T.force_eq] at hu
    simp only [Option.some.injEq, Prod.mk.injEq] at hu
    obtain ⟨rfl, rfl⟩ := hu
    obtain ⟨f1, hf⟩ := bAnd_ok hf
    obtain ⟨f2, hf⟩ := bAnd_ok hf
    obtain ⟨f3, hf⟩ := bAnd_ok hf
    obtain ⟨f4, hf⟩ := bAnd_ok hf
    obtain ⟨f5, hf⟩ := bAnd_ok hf
    obtain ⟨f6, f7⟩ := bAnd_ok hf
    have f1 := Nat.eq_of_beq_eq_true f1
    have f2 := Nat.eq_of_beq_eq_true f2
    have f3 := LV.beqs_ok _ _ f3
    subst f3
    right
    have ho : ∀ b o, (m.hout G).m.get b = some o → h.lo ≤ b := by
      intro b o hb
      rcases layH_get m.ho .nil b o hb with ⟨p, hp, rfl, _⟩ | ⟨h1, _⟩
      · rw [f2]; exact allFrom_ok f5 p hp
      · cases h1
    refine hm.frame (h := h) f1.symm f2.symm (fun b o hb => ?_) ho (m2 := layH m.ho (delH m.hi h.m)) fun b o hb => ?_
    · rcases layH_isO f6 hb with h1 | ⟨h1, _⟩
      · exact h1
      · rcases layH_isO f7 h1 with h2 | ⟨h2, _⟩
        · exact h2
        · cases h2
    · rcases layH_get m.ho _ b o hb with ⟨p, hp, h1, h2⟩ | ⟨h1, _⟩
      · exact .inl (layH_same m.ho _ _ b o hb ⟨p, hp, h1⟩)
      · obtain ⟨h2, h3⟩ := delH_get m.hi h.m b o h1
        refine .inr ⟨h2, ?_⟩
        by_cases hg : ∃ o', (m.hin G).m.get b = some o'
        · obtain ⟨o', hg⟩ := hg
          rcases layH_get m.hi _ b o' hg with ⟨p, hp, h4, _⟩ | ⟨h4, _⟩
          · exact absurd h4 (h3 p hp)
          · rcases layH_get G.gl _ b o' h4 with ⟨p, hp, rfl, _⟩ | ⟨h5, _⟩
            · exact .inr (by rw [f2]; exact allBelow_ok f4 p hp)
            · cases h5
        · exact .inl fun o' h4 => hg ⟨o', h4⟩

/-! the evaluator beside what was reckoned -/
noncomputable def useAll (G : Gl) (ms : List Memo) (k : FuncId) (h : LH) (args : List LV) : Option (LV × LH) :=
  List.rec (motive := fun _ => Option (LV × LH)) none (fun m _ ih => Bool.rec (motive := fun _ => Option (LV × LH)) ih (m.use G h args ih) (Nat.beq m.k k)) ms
theorem useAll_ok {G : Gl} {k : FuncId} {h h' : LH} {args : List LV} {v : LV} : ∀ {ms : List Memo}, (∀ m ∈ ms, m.Ok E P G) → useAll G ms k h args = some (v, h') → FnIn E P h k args v h'
  | [], _, hu => by cases hu
  | m :: ms, hok, hu => by
    change Bool.rec (motive := fun _ => Option (LV × LH)) (useAll G ms k h args) (m.use G h args (useAll G ms k h args)) (Nat.beq m.k k) = some (v, h') at hu
    have ih : useAll G ms k h args = some (v, h') → FnIn E P h k args v h' := fun h0 => useAll_ok (ms := ms) (fun m hm => hok m (List.mem_cons_of_mem _ hm)) h0
    cases hk : Nat.beq m.k k with
    | false => rw [hk] at hu; exact ih hu
    | true =>
      rw [hk] at hu
      change m.use G h args (useAll G ms k h args) = some (v, h') at hu
      rcases Memo.use_ok (hok m List.mem_cons_self) hu with h1 | h1
      · exact ih h1
      · rw [← Nat.eq_of_beq_eq_true hk]; exact h1

noncomputable def oracM (G : Gl) (ms : List Memo) (ks : List FuncId) (o : T (LH → List LV → Option (LV × LH))) : T (LH → List LV → Option (LV × LH)) :=
  List.rec (motive := fun _ => T (LH → List LV → Option (LV × LH))) o (fun k _ ih => ih.set k (useAll G ms k)) ks
noncomputable def Env.withM (E : Env) (G : Gl) (ms : List Memo) (ks : List FuncId) : Env := ⟨E.types, E.funcs, oracM G ms ks E.orac, E.flat, E.ng⟩

theorem oracM_get {G : Gl} {ms : List Memo} {o : T (LH → List LV → Option (LV × LH))} {k : FuncId} {f : LH → List LV → Option (LV × LH)} : ∀ {ks : List FuncId}, (oracM G ms ks o).get k = some f → f = useAll G ms k ∨ o.get k = some f
  | [], h => .inr h
  | j :: ks, h => by
    change ((oracM G ms ks o).set j (useAll G ms j)).get k = some f at h
    rw [T.get_set] at h
    by_cases hj : k = j
    · rw [if_pos hj] at h
      simp only [Option.some.injEq] at h
      subst hj
      exact .inl h.symm
    · rw [if_neg hj] at h; exact oracM_get h

/-- what an oracle must be, whatever evaluator it is asked by -/
def OracAll (E : Env) (P : Program) : Prop := ∀ k f, E.orac.get k = some f → ∀ (E' : Env), E'.ng = E.ng → (E'.orac.get k).isSome = true → ∀ h args v h', f h args = some (v, h') → FnOk E' P h k args v h'

theorem OracAll.withM {G : Gl} {ms : List Memo} {ks : List FuncId} (hO : OracAll E P) (hm : ∀ m ∈ ms, m.Ok E P G) : OracOk (E.withM G ms ks) P := by
  intro k f hf h args v h' hv
  rcases oracM_get (show (oracM G ms ks E.orac).get k = some f from hf) with rfl | h1
  · exact (FnIn.env (E := E) (E' := E.withM G ms ks) rfl (useAll_ok (E := E) hm hv)).ok
  · exact hO k f h1 (E.withM G ms ks) rfl (by rw [hf]; rfl) h args v h' hv

theorem Tabs.withM (hT : Tabs E P) (G : Gl) (ms : List Memo) (ks : List FuncId) : Tabs (E.withM G ms ks) P := ⟨hT.mixed, hT.funcs, hT.types, hT.flat⟩

noncomputable def Memo.good (m : Memo) (G : Gl) (r : Res) : Bool :=
  Res.rec (motive := fun _ => Bool) false (fun _ _ => false) (fun v h => bAnd (eqV m.v v) (bAnd (Nat.beq h.nx m.nx') (bAnd (Nat.beq h.lo G.lo) (allIn h.m m.ho)))) r
noncomputable def hasBody (E : Env) (k : FuncId) : Bool := Option.rec (motive := fun _ => Bool) false (fun fn => Option.rec (motive := fun _ => Bool) false (fun _ => true) fn.body) (E.funcs.get k)
/-- does the call answer so? -/
noncomputable def Memo.check (m : Memo) (E : Env) (G : Gl) (n : Nat) : Bool := bAnd (hasBody E m.k) (m.good G (frun E n (.fn (m.hin G) m.k m.args)))

theorem Memo.ok_of_check {G : Gl} {ms : List Memo} {ks : List FuncId} {m : Memo} {n : Nat} (hT : Tabs E P) (hO : OracAll E P) (hm : ∀ m ∈ ms, m.Ok E P G) (hc : m.check (E.withM G ms ks) G n = true) : m.Ok E P G := by
  obtain ⟨hb, hg⟩ := bAnd_ok hc
  have hrun : frun (E.withM G ms ks) n (.fn (m.hin G) m.k m.args) = run (E.withM G ms ks) n (.fn (m.hin G) m.k m.args) := frun_eq _ n (.fn (m.hin G) m.k m.args)
  rw [hrun] at hg
  have hok := ev_ok (hT.withM G ms ks) (hO.withM hm) n (.fn (m.hin G) m.k m.args)
  cases hr : run (E.withM G ms ks) n (.fn (m.hin G) m.k m.args) with
  | stuck => rw [hr] at hg; cases hg
  | code e s => rw [hr] at hg; cases hg
  | val v h =>
    rw [hr] at hg hok
    obtain ⟨g1, hg⟩ := bAnd_ok hg
    obtain ⟨g2, hg⟩ := bAnd_ok hg
    obtain ⟨g3, g4⟩ := bAnd_ok hg
    have g1 := eqV_ok g1
    have g2 := Nat.eq_of_beq_eq_true g2
    have g3 := Nat.eq_of_beq_eq_true g3
    unfold hasBody at hb
    cases hf : (E.withM G ms ks).funcs.get m.k with
    | none => rw [hf] at hb; cases hb
    | some fn =>
      rw [hf] at hb
      cases hbd : fn.body with
      | none => simp only [hbd] at hb; cases hb
      | some c =>
        have h1 : FnIn (E.withM G ms ks) P (m.hin G) m.k m.args v h := FnOk.inn (hT.withM G ms ks) hf hbd hok
        rw [← g1] at h1
        have h2 := h1.less (m := layH m.ho .nil) fun b o hb => by
          rcases layH_isO g4 hb with h1 | ⟨h1, _⟩
          · exact h1
          · cases h1
        rw [g2, g3] at h2
        exact FnIn.env (E := E.withM G ms ks) (E' := E) rfl h2

end Go.Ev
