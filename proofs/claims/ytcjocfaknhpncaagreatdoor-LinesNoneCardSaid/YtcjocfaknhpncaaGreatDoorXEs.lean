/- Putting down what was computed; guards; what a task's answer means. -/
/- The soundness of the evaluator of code, step by step: operations, regions in the text's order, control. -/
import Derived.Test.YtcjocfaknhpncaaGreatDoorXEr
import Derived.RangeFuncLeaves
import Derived.RangeFuncRecord
import Derived.LoopNIn
import Derived.RecoverIn
import Derived.TacticsIn
namespace Go.Ev
open Go Go.RowKit

variable {E : Env} {P : Program} {φ : Phi} {w0 : Base} {w : World} {h h' : LH}

theorem tmpsPut {nt : Nat} {t t' : T LV} {a : Act} {dst : Option Tmp} {v : LV} {X : Value} (ht : TmpsRel φ nt t a.tmps) (hv : inst φ v = some X) (hp : put t nt dst v = some t') : TmpsRel φ nt t' (a.put dst X).tmps := by
  cases dst with
  | none => simp only [Ev.put, Option.some.injEq] at hp; subst hp; exact ht
  | some d =>
    simp only [Ev.put] at hp
    cases hd : Nat.blt d nt with
    | false => simp [hd] at hp
    | true =>
      simp only [hd, cond_true, LV.force_eq, T.force_eq, Option.some.injEq] at hp
      subst hp
      have hlt : d < nt := by simpa [Nat.blt_eq] using hd
      have hsz := ht.size
      refine ⟨by simpa [Act.put] using ht.size, fun i u hu => ?_, fun i hi => ?_⟩
      · rw [T.get_set] at hu
        by_cases hid : i = d
        · subst hid
          simp only [if_true, Option.some.injEq] at hu; subst hu
          have h3 : i < a.tmps.size := Nat.lt_of_lt_of_le hlt hsz
          exact ⟨X, by simp [Act.put, h3], hv⟩
        · rw [if_neg hid] at hu
          obtain ⟨x, h1, h2⟩ := ht.some i u hu
          exact ⟨x, by simp only [Act.put]; rw [Array.getElem?_setIfInBounds_ne (Ne.symm hid)]; exact h1, h2⟩
      · rw [T.get_set] at hi
        by_cases hid : i = d
        · subst hid; simp at hi
        · rw [if_neg hid] at hi
          have := ht.none i hi
          simp only [Act.put, Array.getD_eq_getD_getElem?] at this ⊢
          rw [Array.getElem?_setIfInBounds_ne (Ne.symm hid)]; exact this

theorem put_defers (a : Act) (dst : Option Tmp) (X : Value) : (a.put dst X).defers = a.defers := by cases dst <;> rfl

theorem inst_bool_of {v : LV} {b : Bool} (hx : inst φ v = some (.bool b)) : v = .bool b := by
  cases v with
  | bool c => simp only [inst, Option.some.injEq, Value.bool.injEq] at hx; rw [hx]
  | ptr a =>
    cases a with
    | none => simp [inst] at hx
    | some p => obtain ⟨c, o⟩ := p; simp only [inst] at hx; split at hx <;> cases hx
  | sl a l c w =>
    cases a with
    | none => simp only [inst] at hx; split at hx <;> cases hx
    | some p =>
      obtain ⟨c, o⟩ := p
      cases w with
      | none => simp only [inst] at hx; split at hx <;> cases hx
      | some w => simp only [inst] at hx; (repeat' split at hx) <;> cases hx
  | map a =>
    cases a with
    | none => simp [inst] at hx
    | some p => simp only [inst] at hx; split at hx <;> cases hx
  | _ =>
    simp only [inst] at hx
    (repeat' split at hx) <;> cases hx

theorem wanted_ok {nt : Nat} {t : T LV} {a : Act} (ht : TmpsRel φ nt t a.tmps) (ops : Array Oper) (o : Oper) : Region.wanted o (yielded ops a.tmps) = wanted ops t o := by
  unfold Region.wanted wanted
  cases o.guard with
  | none => rfl
  | some g =>
    obtain ⟨j, want⟩ := g
    simp only [yielded]
    cases ops[j]? with
    | none => simp
    | some g =>
      simp only [Option.bind_some]
      cases g.dst with
      | none => simp
      | some d =>
        simp only [Option.bind_some]
        cases hd : t.get d with
        | none =>
          have := ht.none d hd
          rw [Array.getD_eq_getD_getElem?] at this
          cases hq : a.tmps[d]? with
          | none => simp
          | some x => rw [hq] at this; simp only [Option.getD_some] at this; subst this; simp [undef]
        | some v =>
          obtain ⟨x, h1, h2⟩ := ht.some d v hd
          rw [h1]
          by_cases hb : ∃ b, x = .bool b
          · obtain ⟨b, rfl⟩ := hb
            have := inst_bool_of h2; subst this
            cases b <;> cases want <;> rfl
          · have hv : ∀ b, v ≠ .bool b := fun b e => by subst e; exact hb ⟨b, inst_bool h2⟩
            cases v <;> first | exact absurd rfl (hv _) | skip
            all_goals cases x <;> first | exact absurd ⟨_, rfl⟩ hb | simp

/-- the code of a task is walked in this fence -/
def RoOk (φ : Phi) : Option Nat → Fence → Prop
  | none, F => F = Fence.wide
  | some l, F => ∃ k, φ l = some k ∧ F = Fence.wide.inRound k.R

theorem RoOk.mono {φ ψ : Phi} (h : Le φ ψ) {ro : Option Nat} {F : Fence} (hr : RoOk φ ro F) : RoOk ψ ro F := by
  cases ro with
  | none => exact hr
  | some l => obtain ⟨k, h1, h2⟩ := hr; exact ⟨k, h _ _ h1, h2⟩
theorem RoOk.fn {ro : Option Nat} {F : Fence} (hr : RoOk φ ro F) (f : FuncId) : F.fn f := by
  cases ro with
  | none => simp only [RoOk] at hr; subst hr; trivial
  | some l => obtain ⟨k, _, rfl⟩ := hr; trivial
theorem RoOk.depth {ro : Option Nat} {F : Fence} (hr : RoOk φ ro F) : F.depth.isSome = true → 1 ≤ 0 := by
  cases ro with
  | none => simp only [RoOk] at hr; subst hr; intro h; cases h
  | some l => obtain ⟨k, _, rfl⟩ := hr; intro h; cases h

/-- how the heap stands, and what may come -/
structure Sit (E : Env) (P : Program) (φ : Phi) (w0 : Base) (w : World) (h : LH) : Prop where
  rel : Rel φ w0 w h
  lo : h.lo ≤ h.nx
  glob : Glob φ E.ng

/-- what a call leaves -/
def After (E : Env) (P : Program) (φ : Phi) (w0 : Base) (h : LH) (v : LV) (h' : LH) (X : Value) (w' : World) : Prop :=
  ∃ ψ, Le φ ψ ∧ inst ψ v = some X ∧ Sit E P ψ w0 w' h' ∧ h'.lo = h.lo ∧ h.nx ≤ h'.nx

/-- what code leaves -/
def CodeQ (E : Env) (P : Program) (φ : Phi) (w0 : Base) (nt : Nat) (s : St) (e : Ex) (s' : St) (x : Exit) (a : Act) (w : World) : Prop :=
  x = e.exit' ∧ ∃ ψ, Le φ ψ ∧ Sit E P ψ w0 w s'.h ∧ s'.h.lo = s.h.lo ∧ s.h.nx ≤ s'.h.nx ∧ TmpsRel ψ nt s'.t a.tmps ∧ MarksRel ψ s'.d a.defers

def CodeOk (E : Env) (P : Program) (ro : Option Nat) (nt : Nat) (c : Code) (s : St) (e : Ex) (s' : St) : Prop :=
  ∀ (φ : Phi) (w0 : Base) (w : World) (a : Act) (F : Fence), RoOk φ ro F → Sit E P φ w0 w s.h → TmpsRel φ nt s.t a.tmps → MarksRel φ s.d a.defers →
    c.wpIn F 0 P (CodeQ E P φ w0 nt s e s') a w

def FnOk (E : Env) (P : Program) (h : LH) (k : FuncId) (args : List LV) (v : LV) (h' : LH) : Prop :=
  ∀ (φ : Phi) (w0 : Base) (w : World) (Args : List Value), Sit E P φ w0 w h → insts φ args = some Args →
    ((callFunc k ⟨Args⟩).run P w = .ok (.enter k ⟨Args⟩) w ∧ CallsIn Fence.wide 0 P k ⟨Args⟩ w fun e w' => ∃ X, e = .returned X ∧ After E P φ w0 h v h' X w') ∨
    ((E.orac.get k).isSome = true ∧ ∃ X w', (callFunc k ⟨Args⟩).run P w = .ok (.value X) w' ∧ After E P φ w0 h v h' X w')

/-- a call as an operation makes it -/
def CallOk (E : Env) (P : Program) (h : LH) (g : LV) (args : List LV) (v : LV) (h' : LH) : Prop :=
  ∀ (φ : Phi) (w0 : Base) (w : World) (G : Value) (Args : List Value) (F : Fence) (ro : Option Nat), RoOk φ ro F → Sit E P φ w0 w h → inst φ g = some G → insts φ args = some Args →
    ∃ d, Deferred.ofValue G ⟨Args⟩ = pure d ∧ ∀ (o : Oper) (a : Act) (next : Act → World → Prop) (Q : Exit → Act → World → Prop),
      (∀ X w', After E P φ w0 h v h' X w' → next (a.put o.dst X) w') → o.uponIn F 0 P a next Q ((invoke d.target d.args).run P w)

def DefersOk (E : Env) (P : Program) (ds : List DI) (h : LH) (h' : LH) : Prop :=
  ∀ (φ : Phi) (w0 : Base) (w : World) (Ds : List Deferred) (fn : Func) (tmps : Array Value) (R : Ending → World → Prop), Sit E P φ w0 w h → MarksRel φ ds Ds →
    (∀ ψ w', Le φ ψ → Sit E P ψ w0 w' h' → h'.lo = h.lo → h.nx ≤ h'.nx → LeavesIn Fence.wide 0 P fn tmps R [] .returning w') → LeavesInM Fence.wide 0 P fn tmps R Ds .returning w

/-- a loop's rounds are counted -/
def RoundsOk (E : Env) (P : Program) (ro : Option Nat) (nt : Nat) (s : St) (e : Ex) (s' : St) : Code → Prop
  | .loop x => ∃ m, ∀ (φ : Phi) (w0 : Base) (w : World) (a : Act) (F : Fence), RoOk φ ro F → Sit E P φ w0 w s.h → TmpsRel φ nt s.t a.tmps → MarksRel φ s.d a.defers →
    Code.roundsIn F 0 P x (CodeQ E P φ w0 nt s e s') m a w
  | _ => True

/-- the code of a deferred function, where nobody panics -/
def DCodeOk (E : Env) (P : Program) (nt : Nat) (c : Code) (s : St) (e : Ex) (s' : St) : Prop :=
  ∀ (φ : Phi) (w0 : Base) (w : World) (a : Act) (c₀ : Frame) (cs : List Frame), c₀.mode = .returning → Sit E P φ w0 w s.h → TmpsRel φ nt s.t a.tmps → MarksRel φ s.d a.defers →
    c.wpSIn Fence.wide 0 P (fun x a' cs' w' => cs' = c₀ :: cs ∧ CodeQ E P φ w0 nt s e s' x a' w') a (c₀ :: cs) w

/-- a deferred function's call, where nobody panics -/
def DCallOk (E : Env) (P : Program) (h : LH) (k : FuncId) (args : List LV) (h' : LH) : Prop :=
  ∀ (φ : Phi) (w0 : Base) (w : World) (Args : List Value), Sit E P φ w0 w h → insts φ args = some Args →
    (callFunc k ⟨Args⟩).run P w = .ok (.enter k ⟨Args⟩) w ∧ CallsDIn Fence.wide 0 P k ⟨Args⟩ .returning w fun e u w' => (∃ X, e = .returned X) ∧ u = .returning ∧ ∃ ψ, Le φ ψ ∧ Sit E P ψ w0 w' h' ∧ h'.lo = h.lo ∧ h.nx ≤ h'.nx

def TaskOk (E : Env) (P : Program) : Task → Res → Prop
  | _, .stuck => True
  | .code ro nt c s, .code e s' => CodeOk E P ro nt c s e s' ∧ RoundsOk E P ro nt s e s' c
  | .call h g args, .val v h' => CallOk E P h g args v h'
  | .fn h k args, .val v h' => FnOk E P h k args v h'
  | .defers ds h, .val _ h' => DefersOk E P ds h h'
  | .dcode nt c s, .code e s' => DCodeOk E P nt c s e s'
  | .dcall h k args, .val _ h' => DCallOk E P h k args h'
  | _, _ => True

end Go.Ev
namespace Go.Ev
open Go Go.RowKit

variable {E : Env} {P : Program}

theorem Sit.trans {φ ψ : Phi} {w0 : Base} {w w' : World} {h h' : LH} (hs : Sit E P φ w0 w h) (hr : Rel ψ w0 w' h') (hle : Le φ ψ) (hlo : h'.lo = h.lo) (hnx : h.nx ≤ h'.nx) : Sit E P ψ w0 w' h' :=
  ⟨hr, by rw [hlo]; exact Nat.le_trans hs.lo hnx, hs.glob.mono hle⟩

theorem After.trans {φ ψ : Phi} {w0 : Base} {h h1 h2 : LH} {v : LV} {X : Value} {w' : World} (hle : Le φ ψ) (hlo : h1.lo = h.lo) (hnx : h.nx ≤ h1.nx) (ha : After E P ψ w0 h1 v h2 X w') : After E P φ w0 h v h2 X w' := by
  obtain ⟨χ, a, b, c, d, e⟩ := ha
  exact ⟨χ, hle.trans a, b, c, d.trans hlo, Nat.le_trans hnx e⟩

/-- an operation's answer, whichever way it comes -/
def OpGoes (E : Env) (P : Program) (ro : Option Nat) (o : Oper) (t : T LV) (h : LH) (v : LV) (h' : LH) : Prop :=
  ∀ (φ : Phi) (w0 : Base) (w : World) (nt : Nat) (a : Act) (F : Fence), RoOk φ ro F → Sit E P φ w0 w h → TmpsRel φ nt t a.tmps →
    ∀ (next : Act → World → Prop) (Q : Exit → Act → World → Prop), (∀ X w', After E P φ w0 h v h' X w' → next (a.put o.dst X) w') → o.wpIn F 0 P a w next Q

theorem sem_noDefer {ro : Option Nat} {ρ : Operand → Value} {o : Oper} (h : ∀ c, o.op ≠ .defer c) : Oper.semAt ro ρ o = execOp ρ o := Oper.semAt_eq ro ρ o h

theorem step1_noDefer {h h' : LH} {t : T LV} {op : Op} {v : LV} (hv : step1 E h t op = some (v, h')) : ∀ c, op ≠ .defer c := by
  rintro c rfl; simp [step1] at hv

theorem undef_eq : (undef : Value) = .tuple #[] := rfl

theorem op_step (hT : Tabs E P) {ro : Option Nat} {o : Oper} {t : T LV} {h h' : LH} {v : LV} (hv : step1 E h t o.op = some (v, h')) : OpGoes E P ro o t h v h' := by
  intro φ w0 w nt a F hro hs ht next Q hnext
  refine ⟨fun f _ => hro.fn f, ?_⟩
  rw [sem_noDefer (step1_noDefer hv)]
  obtain ⟨ψ, X, w', h1, h2, h3, h4, h5, h6, h7⟩ := step1_ok hT hs.rel hs.lo hs.glob ht hv
  rw [h2]
  have hn := hnext X w' ⟨ψ, h1, h3, hs.trans h4 h1 h5 h6, h5, h6⟩
  cases hk : skips o.op with
  | false => simpa [hk, Oper.uponIn] using hn
  | true =>
    have hu : X = undef := h7 hk
    subst hu
    simpa [hk, Oper.uponIn] using hn


theorem op_call {ro : Option Nat} {o : Oper} {c : Call} {g : Operand} {t : T LV} {h h' : LH} {G v : LV} {args : List LV} (ho : o.op = .call c) (hc : c.callee = .value g) (hg : evalO E t g = some G) (ha : evalOs E t c.args.toList = some args)
    (hcall : CallOk E P h G args v h') : OpGoes E P ro o t h v h' := by
  intro φ w0 w nt a F hro hs ht next Q hnext
  refine ⟨fun f _ => hro.fn f, ?_⟩
  rw [sem_noDefer (fun c h => by rw [ho] at h; cases h)]
  obtain ⟨d, hd, hup⟩ := hcall φ w0 w (a.eval g) (c.args.toList.map a.eval) F ro hro hs (evalO_ok ht hs.glob hg) (evalOs_ok ht hs.glob ha)
  have he : execOp a.eval o = invoke d.target d.args := by
    unfold execOp
    rw [ho]
    simp only [resolve, hc, map_eval, hd]
    rfl
  rw [he]
  exact hup o a next Q hnext

theorem opVal_ok (hT : Tabs E P) {rec : Task → Res} (hrec : ∀ task, TaskOk E P task (rec task)) (ro : Option Nat) (o : Oper) (t : T LV) (h : LH) (k : LV → LH → Res) :
    opVal E rec o t h k = .stuck ∨ ∃ v h', OpGoes E P ro o t h v h' ∧ k v h' = opVal E rec o t h k := by
  have step : ∀ r, (match step1 E h t o.op with | some (v, h) => k v h | none => Res.stuck) = r → r = .stuck ∨ ∃ v h', OpGoes E P ro o t h v h' ∧ k v h' = r := by
    intro r hr
    cases hv : step1 E h t o.op with
    | none => rw [hv] at hr; exact .inl hr.symm
    | some p =>
      obtain ⟨v, h'⟩ := p
      rw [hv] at hr
      exact .inr ⟨v, h', op_step hT hv, hr⟩
  unfold opVal
  split
  · rename_i c ho
    split
    · rename_i g hc
      cases hg : evalO E t g with
      | none => exact .inl rfl
      | some G =>
        cases ha : evalOs E t c.args.toList with
        | none => exact .inl rfl
        | some args =>
          simp only
          have hr := hrec (.call h G args)
          cases hres : rec (.call h G args) with
          | stuck => exact .inl rfl
          | code e s => exact .inl rfl
          | val v h' =>
            rw [hres] at hr
            exact .inr ⟨v, h', op_call ho hc hg ha hr, rfl⟩
    · exact step _ rfl
  · exact step _ rfl

theorem CodeQ.trans {φ ψ : Phi} {w0 : Base} {nt : Nat} {s s1 s' : St} {e : Ex} {x : Exit} {a : Act} {w : World} (hle : Le φ ψ) (hlo : s1.h.lo = s.h.lo) (hnx : s.h.nx ≤ s1.h.nx) (hq : CodeQ E P ψ w0 nt s1 e s' x a w) : CodeQ E P φ w0 nt s e s' x a w := by
  obtain ⟨hx, χ, a1, a2, a3, a4, a5, a6⟩ := hq
  exact ⟨hx, χ, hle.trans a1, a2, a3.trans hlo, Nat.le_trans hnx a4, a5, a6⟩

/-- one operation of a region, wanted or not: on with the rest -/
theorem opS_ok (hT : Tabs E P) {rec : Task → Res} (hrec : ∀ task, TaskOk E P task (rec task)) (ro : Option Nat) (nt : Nat) (ops : Array Oper) (o : Oper) (s : St) (k : St → Res) :
    opS E ro rec nt ops o s k = .stuck ∨ ∃ s1, k s1 = opS E ro rec nt ops o s k ∧
      ∀ (φ : Phi) (w0 : Base) (w : World) (a : Act) (F : Fence), RoOk φ ro F → Sit E P φ w0 w s.h → TmpsRel φ nt s.t a.tmps → MarksRel φ s.d a.defers →
        ∀ (K : Act → World → Prop) (Q : Exit → Act → World → Prop), (∀ ψ a' w', Le φ ψ → Sit E P ψ w0 w' s1.h → s1.h.lo = s.h.lo → s.h.nx ≤ s1.h.nx → TmpsRel ψ nt s1.t a'.tmps → MarksRel ψ s1.d a'.defers → K a' w') →
          if Region.wanted o (yielded ops a.tmps) then o.wpIn F 0 P a w K Q else (∀ f, o.about P w a.eval = some f → F.fn f) ∧ K (a.put o.dst undef) w := by
  unfold opS
  cases hw : wanted ops s.t o with
  | false =>
    rw [cond_false]
    unfold opPut
    cases hp : put s.t nt o.dst .undef with
    | none => exact .inl rfl
    | some t' =>
      refine .inr ⟨⟨t', s.h, s.d⟩, rfl, fun φ w0 w a F hro hs ht hm K Q hK => ?_⟩
      rw [wanted_ok ht ops o, hw]
      simp only [Bool.false_eq_true, if_false]
      exact ⟨fun f _ => hro.fn f, hK φ _ _ (Le.refl _) hs rfl (Nat.le_refl _) (tmpsPut ht rfl hp) (by rw [put_defers]; exact hm)⟩
  | true =>
    rw [cond_true]
    split
    · rename_i c ho
      split
      · rename_i g hc
        unfold opDefer
        cases ro with
        | some l => exact .inl rfl
        | none =>
          cases hg : evalO E s.t g with
          | none => exact .inl rfl
          | some G =>
            cases G <;> try exact .inl rfl
            rename_i f first cap
            cases f <;> try exact .inl rfl
            rename_i i
            cases ha : evalOs E s.t c.args.toList with
            | none => exact .inl rfl
            | some args =>
              simp only
              unfold opPut
              cases hp : put s.t nt o.dst .undef with
              | none => exact .inl rfl
              | some t' =>
                refine .inr ⟨⟨t', s.h, .call i (first ++ args) cap :: s.d⟩, rfl, fun φ w0 w a F hro hs ht hm K Q hK => ?_⟩
                rw [wanted_ok ht ops o, hw]
                simp only [if_true]
                have hF : F = Fence.wide := hro
                subst hF
                obtain ⟨f', A, C, hG, hf, hA, hC⟩ := inst_fn (evalO_ok ht hs.glob hg)
                simp only [instFn, Option.some.injEq] at hf; subst hf
                have hargs := evalOs_ok ht hs.glob ha
                refine ⟨fun f _ => trivial, ?_⟩
                have hsem : (o.semAt Fence.wide.round a.eval).run P w = .ok (.defer { target := .fn (.func i) ⟨C⟩, args := ⟨A ++ c.args.toList.map a.eval⟩ }) w := by
                  show (Oper.semAt none a.eval o).run P w = _
                  rw [Oper.semAt_none]
                  unfold execOp
                  rw [ho]
                  simp [resolve, hc, hG, Deferred.ofValue, map_eval]
                rw [hsem, Oper.uponIn_defer]
                refine hK φ _ _ (Le.refl _) hs rfl (Nat.le_refl _) ?_ ?_
                · have := tmpsPut (a := { a with defers := { target := .fn (.func i) ⟨C⟩, args := ⟨A ++ c.args.toList.map a.eval⟩ } :: a.defers }) ht (v := .undef) (X := undef) rfl hp
                  exact this
                · rw [put_defers]
                  exact ⟨_, _, _, insts_append hA hargs, hC, rfl, hm⟩
      · exact .inl rfl
    · rcases opVal_ok hT hrec ro o s.t s.h (opPut nt o s.d s.t k) with h0 | ⟨v, h', hop, hk⟩
      · exact .inl h0
      · rw [← hk]
        unfold opPut
        cases hp : put s.t nt o.dst v with
        | none => exact .inl rfl
        | some t' =>
          refine .inr ⟨⟨t', h', s.d⟩, rfl, fun φ w0 w a F hro hs ht hm K Q hK => ?_⟩
          rw [wanted_ok ht ops o, hw]
          simp only [if_true]
          refine hop φ w0 w nt a F hro hs ht K Q fun X w' ⟨ψ, b1, b2, b3, b4, b5⟩ => ?_
          exact hK ψ _ _ b1 b3 b4 b5 (tmpsPut (ht.mono b1) b2 hp) (by rw [put_defers]; exact hm.mono b1)

/-- what is left, as it is handed on -/
def Left (E : Env) (P : Program) (φ : Phi) (w0 : Base) (nt : Nat) (s s' : St) (K : Act → World → Prop) : Prop :=
  ∀ ψ a' w', Le φ ψ → Sit E P ψ w0 w' s'.h → s'.h.lo = s.h.lo → s.h.nx ≤ s'.h.nx → TmpsRel ψ nt s'.t a'.tmps → MarksRel ψ s'.d a'.defers → K a' w'

theorem Left.of {φ ψ : Phi} {w0 : Base} {nt : Nat} {s s1 s' : St} {K : Act → World → Prop} (h : Left E P φ w0 nt s s' K) (hle : Le φ ψ) (hlo : s1.h.lo = s.h.lo) (hnx : s.h.nx ≤ s1.h.nx) : Left E P ψ w0 nt s1 s' K :=
  fun χ a' w' h1 h2 h3 h4 h5 h6 => h χ a' w' (hle.trans h1) h2 (h3.trans hlo) (Nat.le_trans hnx h4) h5 h6

theorem Left.code {φ : Phi} {w0 : Base} {nt : Nat} {s s' : St} : Left E P φ w0 nt s s' (CodeQ E P φ w0 nt s .normal s' .normal) :=
  fun ψ _ _ h1 h2 h3 h4 h5 h6 => ⟨rfl, ψ, h1, h2, h3, h4, h5, h6⟩

theorem opsS_ok (hT : Tabs E P) {rec : Task → Res} (hrec : ∀ task, TaskOk E P task (rec task)) (ro : Option Nat) (nt : Nat) (ops : Array Oper) : ∀ (os : List Oper) (s : St),
    opsS E ro rec nt ops os s = .stuck ∨ ∃ s', opsS E ro rec nt ops os s = .code .normal s' ∧
      ∀ (φ : Phi) (w0 : Base) (w : World) (a : Act) (F : Fence), RoOk φ ro F → Sit E P φ w0 w s.h → TmpsRel φ nt s.t a.tmps → MarksRel φ s.d a.defers →
        ∀ Q : Exit → Act → World → Prop, Left E P φ w0 nt s s' (Q .normal) → wpListIn F 0 P ops Q os a w
  | [], s => .inr ⟨s, rfl, fun φ w0 w a F hro hs ht hm Q hQ => hQ φ a w (Le.refl _) hs rfl (Nat.le_refl _) ht hm⟩
  | o :: os, s => by
    rw [opsS_cons]
    rcases opS_ok hT hrec ro nt ops o s (fun s => opsS E ro rec nt ops os s) with h0 | ⟨s1, hk, hop⟩
    · exact .inl h0
    · rw [← hk]
      rcases opsS_ok hT hrec ro nt ops os s1 with h0 | ⟨s', h1, h2⟩
      · exact .inl h0
      · refine .inr ⟨s', h1, fun φ w0 w a F hro hs ht hm Q hQ => ?_⟩
        refine hop φ w0 w a F hro hs ht hm _ _ fun ψ a' w' hle hs' hlo hnx ht' hm' => ?_
        exact h2 ψ w0 w' a' F (hro.mono hle) hs' ht' hm' Q (hQ.of hle hlo hnx)

theorem region_ok (hT : Tabs E P) {rec : Task → Res} (hrec : ∀ task, TaskOk E P task (rec task)) (ro : Option Nat) (nt id : Nat) (ops : Array Oper) (s : St) :
    TaskOk E P (.code ro nt (.region id ops false) s) (opsS E ro rec nt ops ops.toList s) := by
  rcases opsS_ok hT hrec ro nt ops ops.toList s with h0 | ⟨s', h1, h2⟩
  · rw [h0]; trivial
  · rw [h1]
    exact ⟨fun φ w0 w a F hro hs ht hm => wpIn_region_list (h2 φ w0 w a F hro hs ht hm _ Left.code), trivial⟩

theorem CodeOk.seq {ro : Option Nat} {nt : Nat} {x y : Code} {s s1 s' : St} {e : Ex} (h1 : CodeOk E P ro nt x s .normal s1) (h2 : CodeOk E P ro nt y s1 e s') : CodeOk E P ro nt (.seq x y) s e s' := by
  intro φ w0 w a F hro hs ht hm
  refine wpIn_seq (wpIn_mono (h1 φ w0 w a F hro hs ht hm) fun e' a' w' hq => ?_)
  obtain ⟨rfl, ψ, b1, b2, b3, b4, b5, b6⟩ := hq
  exact wpIn_mono (h2 ψ w0 w' a' F (hro.mono b1) b2 b5 b6) fun e a w hq => hq.trans b1 b3 b4

theorem CodeOk.seq_out {ro : Option Nat} {nt : Nat} {x y : Code} {s s' : St} {e : Ex} (he : e ≠ .normal) (h1 : CodeOk E P ro nt x s e s') : CodeOk E P ro nt (.seq x y) s e s' := by
  intro φ w0 w a F hro hs ht hm
  refine wpIn_seq (wpIn_mono (h1 φ w0 w a F hro hs ht hm) fun e' a' w' hq => ?_)
  have hq' := hq
  obtain ⟨rfl, _⟩ := hq
  cases e with
  | normal => exact absurd rfl he
  | exit i => exact hq'
  | ret => exact hq'

theorem seq_ok {rec : Task → Res} (hrec : ∀ task, TaskOk E P task (rec task)) (ro : Option Nat) (nt : Nat) (x y : Code) (s : St) : TaskOk E P (.code ro nt (.seq x y) s) (tSeq rec ro nt y (rec (.code ro nt x s))) := by
  have h1 := hrec (.code ro nt x s)
  cases hr : rec (.code ro nt x s) with
  | stuck => trivial
  | val v h => trivial
  | code e s1 =>
    rw [hr] at h1
    cases e with
    | normal =>
      simp only [tSeq]
      have h2 := hrec (.code ro nt y s1)
      cases hr2 : rec (.code ro nt y s1) with
      | stuck => trivial
      | val v h => trivial
      | code e2 s2 => rw [hr2] at h2; exact ⟨h1.1.seq h2.1, trivial⟩
    | exit i => exact ⟨CodeOk.seq_out (by simp) h1.1, trivial⟩
    | ret => exact ⟨CodeOk.seq_out (by simp) h1.1, trivial⟩

theorem cond_ok {rec : Task → Res} (hrec : ∀ task, TaskOk E P task (rec task)) (ro : Option Nat) (nt : Nat) (c : Operand) (x y : Code) (s : St) : TaskOk E P (.code ro nt (.cond c x y) s) (tCond rec ro nt x y s (evalO E s.t c)) := by
  cases hc : evalO E s.t c with
  | none => trivial
  | some v =>
    cases v <;> try trivial
    rename_i b
    have key : ∀ z, z = (if b then x else y) → TaskOk E P (.code ro nt (.cond c x y) s) (rec (.code ro nt z s)) := by
      intro z hz
      have h1 := hrec (.code ro nt z s)
      cases hr : rec (.code ro nt z s) with
      | stuck => trivial
      | val v h => trivial
      | code e s1 =>
        rw [hr] at h1
        refine ⟨fun φ w0 w a F hro hs ht hm => ?_, trivial⟩
        exact wpIn_cond (inst_bool (evalO_ok ht hs.glob hc)) (hz ▸ h1.1 φ w0 w a F hro hs ht hm)
    cases b with
    | true => exact key x rfl
    | false => exact key y rfl

theorem block_ok {rec : Task → Res} (hrec : ∀ task, TaskOk E P task (rec task)) (ro : Option Nat) (nt id : Nat) (x : Code) (s : St) : TaskOk E P (.code ro nt (.block id x) s) (tBlock id (rec (.code ro nt x s))) := by
  have h1 := hrec (.code ro nt x s)
  cases hr : rec (.code ro nt x s) with
  | stuck => trivial
  | val v h => trivial
  | code e s1 =>
    rw [hr] at h1
    cases e with
    | normal =>
      refine ⟨fun φ w0 w a F hro hs ht hm => ?_, trivial⟩
      refine wpIn_block (wpIn_mono (h1.1 φ w0 w a F hro hs ht hm) fun e' a' w' hq => ?_)
      have hq' := hq
      obtain ⟨rfl, _⟩ := hq
      exact hq'
    | ret =>
      refine ⟨fun φ w0 w a F hro hs ht hm => ?_, trivial⟩
      refine wpIn_block (wpIn_mono (h1.1 φ w0 w a F hro hs ht hm) fun e' a' w' hq => ?_)
      have hq' := hq
      obtain ⟨rfl, _⟩ := hq
      exact hq'
    | exit i =>
      refine ⟨fun φ w0 w a F hro hs ht hm => ?_, trivial⟩
      refine wpIn_block (wpIn_mono (h1.1 φ w0 w a F hro hs ht hm) fun e' a' w' hq => ?_)
      obtain ⟨rfl, hq⟩ := hq
      cases hb : Nat.beq i id with
      | true =>
        have := Nat.eq_of_beq_eq_true hb; subst this
        simp only [Ex.exit', Exit.inBlock, if_true, cond_true]
        exact ⟨rfl, hq⟩
      | false =>
        have hne : i ≠ id := by rintro rfl; simp at hb
        simp only [Ex.exit', Exit.inBlock, hne, if_false, cond_false]
        exact ⟨rfl, hq⟩

theorem roundsIn_mono {F : Fence} {n : Nat} {c : Code} {Q Q' : Exit → Act → World → Prop} (hq : ∀ e a w, Q e a w → Q' e a w) : ∀ (m : Nat) (a : Act) (w : World), Code.roundsIn F n P c Q m a w → Code.roundsIn F n P c Q' m a w
  | 0, _, _, h => h
  | m + 1, a, w, h => wpIn_mono h fun e a w hh => by
    cases e with
    | normal => exact roundsIn_mono hq m a w hh
    | exit i => exact hq _ _ _ hh
    | goto l => exact hq _ _ _ hh
    | ret => exact hq _ _ _ hh
    | panic c => exact hq _ _ _ hh
    | outgrown => exact hq _ _ _ hh

theorem loop_ok {rec : Task → Res} (hrec : ∀ task, TaskOk E P task (rec task)) (ro : Option Nat) (nt : Nat) (x : Code) (s : St) : TaskOk E P (.code ro nt (.loop x) s) (tSeq rec ro nt (.loop x) (rec (.code ro nt x s))) := by
  have h1 := hrec (.code ro nt x s)
  have fin : ∀ e s', RoundsOk E P ro nt s e s' (.loop x) → TaskOk E P (.code ro nt (.loop x) s) (.code e s') := by
    intro e s' hr
    refine ⟨fun φ w0 w a F hro hs ht hm => ?_, hr⟩
    obtain ⟨m, hm'⟩ := hr
    exact wpIn_loop_rounds m (hm' φ w0 w a F hro hs ht hm)
  cases hr : rec (.code ro nt x s) with
  | stuck => trivial
  | val v h => trivial
  | code e s1 =>
    rw [hr] at h1
    have out : e ≠ .normal → TaskOk E P (.code ro nt (.loop x) s) (.code e s1) := by
      intro he
      refine fin e s1 ⟨1, fun φ w0 w a F hro hs ht hm => ?_⟩
      refine wpIn_mono (h1.1 φ w0 w a F hro hs ht hm) fun e' a' w' hq => ?_
      have hq' := hq
      obtain ⟨rfl, _⟩ := hq
      cases e with
      | normal => exact absurd rfl he
      | exit i => exact hq'
      | ret => exact hq'
    cases e with
    | normal =>
      simp only [tSeq]
      have h2 := hrec (.code ro nt (.loop x) s1)
      cases hr2 : rec (.code ro nt (.loop x) s1) with
      | stuck => trivial
      | val v h => trivial
      | code e2 s2 =>
        rw [hr2] at h2
        obtain ⟨m, hm'⟩ := h2.2
        refine fin e2 s2 ⟨m + 1, fun φ w0 w a F hro hs ht hm => ?_⟩
        refine wpIn_mono (h1.1 φ w0 w a F hro hs ht hm) fun e' a' w' hq => ?_
        obtain ⟨rfl, ψ, b1, b2, b3, b4, b5, b6⟩ := hq
        exact roundsIn_mono (fun e a w hq => hq.trans b1 b3 b4) m _ _ (hm' ψ w0 w' a' F (hro.mono b1) b2 b5 b6)
    | exit i => exact out (by simp)
    | ret => exact out (by simp)


section scope
variable {b : Frame} {a : Act} {k : List Item} {cs : List Frame} {w : World} {F : Fence} {n : Nat} {Q : Exit → Act → World → Prop}
theorem stepR_scope {c : Code} : step P (lone (b.atR a (.code (.scope c) :: k)) cs w) = .next (lone (b.atR a (.code c :: .inScope c :: k)) cs w) :=
  step_lone_go (by simp [stepG, stepG.exec, Frame.atR])
theorem stepR_inScope {c : Code} : step P (lone (b.atR a (.inScope c :: k)) cs w) = .next (lone (b.atR a k) cs w) :=
  step_lone_go (by simp [stepG, stepG.exec, Frame.atR])
/-- a scope through which the run goes without a goto -/
theorem wpIn_scope {c : Code} (h : c.wpIn F n P (fun e a w => (∀ l, e ≠ .goto l) ∧ Q e a w) a w) : (Code.scope c).wpIn F n P Q a w := by
  intro b k cs hro hb hr
  have h0 : (lone (b.atR a (.code (.scope c) :: k)) cs w).fenced P F := fenced_calm hb hr rfl
  obtain ⟨e, a₁, w₁, ⟨hng, hq⟩, harr⟩ := h b (.inScope c :: k) cs hro hb hr
  cases e with
  | normal => exact ⟨.normal, a₁, w₁, hq, .head h0 stepR_scope (StepsIn.trans harr (.one (fenced_calm hb hr rfl) stepR_inScope))⟩
  | exit id =>
    have hx : exitTo id (.inScope c :: k) = exitTo id k := by simp [exitTo]
    exact ⟨.exit id, a₁, w₁, hq, fun k' hk => .head h0 stepR_scope (harr.1 k' (by rw [hx]; exact hk)),
      fun hr' hk => let ⟨k₁, h1, h2⟩ := harr.2 hr' (by rw [hx]; exact hk); ⟨k₁, h1, .head h0 stepR_scope h2⟩⟩
  | goto l => exact absurd rfl (hng l)
  | ret => exact ⟨_, a₁, w₁, hq, .of_steps (.one h0 stepR_scope) harr⟩
  | panic ch => exact ⟨_, a₁, w₁, hq, .of_steps (.one h0 stepR_scope) harr⟩
  | outgrown => exact ⟨_, a₁, w₁, hq, .of_steps (.one h0 stepR_scope) harr⟩
end scope

theorem scope_ok {rec : Task → Res} (hrec : ∀ task, TaskOk E P task (rec task)) (ro : Option Nat) (nt : Nat) (x : Code) (s : St) : TaskOk E P (.code ro nt (.scope x) s) (rec (.code ro nt x s)) := by
  have h1 := hrec (.code ro nt x s)
  cases hr : rec (.code ro nt x s) with
  | stuck => trivial
  | val v h => trivial
  | code e s1 =>
    rw [hr] at h1
    refine ⟨fun φ w0 w a F hro hs ht hm => wpIn_scope (wpIn_mono (h1.1 φ w0 w a F hro hs ht hm) fun e' a' w' hq => ⟨fun l hl => ?_, hq⟩), trivial⟩
    obtain ⟨rfl, _⟩ := hq
    cases e <;> simp [Ex.exit'] at hl

end Go.Ev
