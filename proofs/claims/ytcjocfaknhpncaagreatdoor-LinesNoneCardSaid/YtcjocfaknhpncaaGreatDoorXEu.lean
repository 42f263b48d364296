/- Calls, deferred marks, functions. -/
/- Calls of values; rounds; ranges over functions. -/
import Derived.Test.YtcjocfaknhpncaaGreatDoorXEs
namespace Go.Ev
open Go Go.RowKit

variable {E : Env} {P : Program}

theorem enter_tmps {φ : Phi} {args : List LV} {Args : List Value} (ha : insts φ args = some Args) (nt : Nat) :
    TmpsRel φ nt (T.ofListFrom args 0 .nil) ((⟨Args⟩ : Array Value) ++ Array.replicate (nt - (⟨Args⟩ : Array Value).size) undef) := by
  have hl := insts_length ha
  refine ⟨by simp; omega, fun i v hv => ?_, fun i hi => ?_⟩
  · rw [T.get_ofList] at hv
    obtain ⟨x, h1, h2⟩ := insts_get ha i v hv
    have hlt := (List.getElem?_eq_some_iff.1 h1).1
    refine ⟨x, ?_, h2⟩
    rw [Array.getElem?_append_left (by simpa using hlt)]
    simpa using h1
  · rw [T.get_ofList] at hi
    have hge : Args.length ≤ i := by rw [hl]; exact List.getElem?_eq_none_iff.1 hi
    rw [Array.getD_eq_getD_getElem?, Array.getElem?_append_right (by simpa using hge)]
    simp only [Array.getElem?_replicate]
    split <;> rfl

def oneOf : List LV → LV
  | [v] => v
  | vs => .tup vs

theorem resultsL_ok (hT : Tabs E P) {φ : Phi} {w0 : Base} {w : World} {h : LH} (hr : Rel φ w0 w h) {nt : Nat} {t : T LV} {tmps : Array Value} (ht : TmpsRel φ nt t tmps) {f : ResultVar → Sem Value}
    (hf1 : ∀ t, f (.tmp t) = pure (tmps.getD t undef)) (hf2 : ∀ a t, f (.cell a t) = do loadVar t (← asAddr (tmps.getD a undef))) : ∀ (rs : List ResultVar) (vs : List LV), resultsV E h t rs = some vs →
    ∃ Vs, (rs.mapM f).run P w = .ok Vs w ∧ insts φ vs = some Vs
  | [], vs, hv => by simp only [resultsV, Option.some.injEq] at hv; subst hv; exact ⟨[], rfl, rfl⟩
  | .tmp i :: rs, vs, hv => by
    simp only [resultsV, obind_some, Option.some.injEq] at hv
    obtain ⟨r, hr', rfl⟩ := hv
    obtain ⟨Vs, h1, h2⟩ := resultsL_ok hT hr ht hf1 hf2 rs r hr'
    cases hi : t.get i with
    | none =>
      refine ⟨undef :: Vs, ?_, insts_cons.2 ⟨_, _, rfl, h2, rfl⟩⟩
      have := ht.none i hi
      simp only [List.mapM_cons, Sem.run_bind, hf1, Sem.run_pure, Result.andThen_ok, this, h1]
    | some v =>
      obtain ⟨x, g1, g2⟩ := ht.some i v hi
      refine ⟨x :: Vs, ?_, insts_cons.2 ⟨_, _, g2, h2, rfl⟩⟩
      have : tmps.getD i undef = x := by rw [Array.getD_eq_getD_getElem?, g1]; rfl
      simp only [List.mapM_cons, Sem.run_bind, hf1, Sem.run_pure, Result.andThen_ok, this, h1]
  | .cell i ty :: rs, vs, hv => by
    simp only [resultsV] at hv
    split at hv
    · rename_i b o hi
      simp only [obind_some, Option.some.injEq] at hv
      obtain ⟨v, hl, r, hr', rfl⟩ := hv
      obtain ⟨Vs, h1, h2⟩ := resultsL_ok hT hr ht hf1 hf2 rs r hr'
      obtain ⟨x, g1, g2⟩ := ht.some i _ hi
      obtain ⟨k, hk, rfl⟩ := inst_ptr g2
      obtain ⟨X, l1, l2⟩ := loadV_ok (P := P) hT hr hk hl
      refine ⟨X :: Vs, ?_, insts_cons.2 ⟨_, _, l2, h2, rfl⟩⟩
      have : tmps.getD i undef = .pointer (some ⟨k.R, k.o + o, none⟩) := by rw [Array.getD_eq_getD_getElem?, g1]; rfl
      have hA : asAddr (.pointer (some ⟨k.R, k.o + o, none⟩)) = pure ⟨k.R, k.o + o, none⟩ := rfl
      simp only [List.mapM_cons, Sem.run_bind, hf2, this, hA, Sem.run_pure, Result.andThen_ok, l1, h1]
    · cases hv

theorem results_ok (hT : Tabs E P) {φ : Phi} {w0 : Base} {w : World} {h : LH} (hr : Rel φ w0 w h) {nt : Nat} {t : T LV} {tmps : Array Value} (ht : TmpsRel φ nt t tmps) {fn : Func} {vs : List LV} (hv : resultsV E h t fn.results.toList = some vs) :
    ∃ X, (results fn tmps).run P w = .ok X w ∧ inst φ (oneOf vs) = some X := by
  have key : ∀ f : ResultVar → Sem Value, (∀ t, f (.tmp t) = pure (tmps.getD t undef)) → (∀ a t, f (.cell a t) = do loadVar t (← asAddr (tmps.getD a undef))) →
      ∃ X, (do let vs ← fn.results.mapM f; pure (if h : vs.size = 1 then vs[0] else .tuple vs) : Sem Value).run P w = .ok X w ∧ inst φ (oneOf vs) = some X := by
    intro f hf1 hf2
    obtain ⟨Vs, r1, r2⟩ := resultsL_ok hT hr ht hf1 hf2 fn.results.toList vs hv
    rw [Array.mapM_eq_mapM_toList, Sem.run_bind, Sem.run_map, r1]
    cases vs with
    | nil =>
      simp only [insts, Option.some.injEq] at r2; subst r2
      exact ⟨.tuple #[], rfl, rfl⟩
    | cons v1 vs =>
      obtain ⟨y, ys, q1, q2, rfl⟩ := insts_cons.1 r2
      cases vs with
      | nil =>
        simp only [insts, Option.some.injEq] at q2; subst q2
        exact ⟨y, rfl, q1⟩
      | cons v2 vs =>
        obtain ⟨z, zs, q3, q4, rfl⟩ := insts_cons.1 q2
        exact ⟨.tuple ⟨y :: z :: zs⟩, by simp, by simp [oneOf, inst, r2]⟩
  unfold results
  exact key _ (fun _ => rfl) (fun _ _ => rfl)

theorem callFunc_enter (hT : Tabs E P) {k : FuncId} {fn : Func} {c : Code} (hf : E.funcs.get k = some fn) (hb : fn.body = some c) (args : Array Value) (w : World) : (callFunc k args).run P w = .ok (.enter k args) w := by
  obtain ⟨h1, h2⟩ := hT.funcs k fn hf
  have h3 : ¬ fn.name = "runtime.NumGoroutine" := by simpa using h2
  simp [callFunc, h1, h3, hb]

theorem fn_ok (hT : Tabs E P) {rec : Task → Res} (hrec : ∀ task, TaskOk E P task (rec task)) (h : LH) (k : FuncId) (args : List LV) : TaskOk E P (.fn h k args) (tFn E rec h args (E.funcs.get k)) := by
  unfold tFn
  split
  · rename_i fn hf
    split
    · rename_i body hb
      have h1 := hrec (.code none fn.ntmps body ⟨T.ofListFrom args 0 .nil, h, []⟩)
      cases hr : rec (.code none fn.ntmps body ⟨T.ofListFrom args 0 .nil, h, []⟩) with
      | stuck => trivial
      | val v h => trivial
      | code e s =>
        rw [hr] at h1
        have main : (e = .normal ∨ e = .ret) → TaskOk E P (.fn h k args) (tFn2 E fn s (rec (.defers s.d s.h))) := by
          intro he
          have h2 := hrec (.defers s.d s.h)
          cases hr2 : rec (.defers s.d s.h) with
          | stuck => trivial
          | code e s => trivial
          | val v0 h2' =>
            rw [hr2] at h2
            simp only [tFn2]
            cases hres : resultsV E h2' s.t fn.results.toList with
            | none => trivial
            | some vs =>
              have fin : FnOk E P h k args (oneOf vs) h2' := by
                intro φ w0 w Args hs ha
                refine .inl ⟨callFunc_enter hT hf hb _ w, ?_⟩
                refine callsIn_of_wp_marks (hT.funcs k fn hf).1 hb trivial ?_
                refine wpIn_mono (h1.1 φ w0 w _ Fence.wide rfl hs (enter_tmps ha fn.ntmps) rfl) fun e' a' w' hq => ?_
                obtain ⟨rfl, ψ, b1, b2, b3, b4, b5, b6⟩ := hq
                have leave : LeavesInM Fence.wide 0 P fn a'.tmps (fun e w' => ∃ X, e = .returned X ∧ After E P φ w0 h (oneOf vs) h2' X w') a'.defers .returning w' := by
                  refine h2 ψ w0 w' a'.defers fn a'.tmps _ b2 b6 fun χ w'' c1 c2 c3 c4 => ?_
                  obtain ⟨X, x1, x2⟩ := results_ok hT c2.rel (b5.mono c1) hres
                  exact ⟨X, x1, X, rfl, χ, b1.trans c1, x2, c2, c3.trans b3, Nat.le_trans b4 c4⟩
                rcases he with rfl | rfl
                · exact leave
                · exact leave
              cases vs with
              | nil => exact fin
              | cons v1 vs =>
                cases vs with
                | nil => exact fin
                | cons v2 vs => exact fin
        cases e with
        | normal => exact main (.inl rfl)
        | ret => exact main (.inr rfl)
        | exit i => trivial
    · trivial
  · trivial

theorem putObj_drop {φ : Phi} {w0 : Base} {w : World} {h : LH} (hr : Rel φ w0 w h) {b : Nat} {ob : LObj} {k : Blk} (hb : h.m.get b = some ob) (hk : φ b = some k) (hlo : h.lo ≤ b) (o : Obj) : Rel φ w0 (w.putObj k.R o) ⟨h.m.del b, h.nx, h.lo⟩ :=
  (hr.drop hb hk hlo (w' := w.putObj k.R o) (hr.below.setObj (hr.new b _ k hb hk hlo) o) (fun _ hR => World.putObj_heap_other hR)).1

theorem defers_ok {rec : Task → Res} (hrec : ∀ task, TaskOk E P task (rec task)) (ds : List DI) (h : LH) : TaskOk E P (.defers ds h) (tDefers rec h ds) := by
  cases ds with
  | nil =>
    intro φ w0 w Ds fn tmps R hs hm hk
    simp only [MarksRel] at hm; subst hm
    exact hk φ w (Le.refl _) hs rfl (Nat.le_refl _)
  | cons d ds =>
    cases d with
    | call f args cap =>
      simp only [tDefers]
      have h1 := hrec (.dcall h f (args ++ cap))
      cases hr1 : rec (.dcall h f (args ++ cap)) with
      | stuck => trivial
      | code e s => trivial
      | val v1 h1' =>
        rw [hr1] at h1
        simp only [tDefers2]
        have h2 := hrec (.defers ds h1')
        cases hr2 : rec (.defers ds h1') with
        | stuck => trivial
        | code e s => trivial
        | val v h' =>
          rw [hr2] at h2
          intro φ w0 w Ds fn tmps R hs hm hk
          obtain ⟨As, Cs, r, hA, hC, rfl, hm'⟩ := hm
          obtain ⟨henter, hcall⟩ := h1 φ w0 w (As ++ Cs) hs (insts_append hA hC)
          refine ⟨by simp, .inr ⟨(fun h => by cases h), .func f, ⟨Cs⟩, f, ⟨As ++ Cs⟩, rfl, ?_, fun _ _ => trivial, hcall.mono fun e u' w' hq => ?_⟩⟩
          · simp only [invoke]
            simpa using henter
          · obtain ⟨⟨X, rfl⟩, rfl, ψ, b1, b2, b3, b4⟩ := hq
            refine h2 ψ w0 w' r fn tmps R b2 (hm'.mono b1) fun χ w'' c1 c2 c3 c4 => ?_
            exact hk χ w'' (b1.trans c1) c2 (c3.trans b3) (Nat.le_trans b4 c4)
    | mark D =>
      simp only [tDefers]
      split
      · rename_i hD
        cases hb : Nat.ble h.lo D with
        | false => trivial
        | true =>
          simp only [cond_true, T.force_eq]
          have hlo := Nat.le_of_ble_eq_true hb
          have h1 := hrec (.defers ds ⟨h.m.del D, h.nx, h.lo⟩)
          cases hr : rec (.defers ds ⟨h.m.del D, h.nx, h.lo⟩) with
          | stuck => trivial
          | code e s => trivial
          | val v h' =>
            rw [hr] at h1
            intro φ w0 w Ds fn tmps R hs hm hk
            obtain ⟨k, r, hkD, rfl, hm'⟩ := hm
            obtain ⟨k', hk', hobj⟩ := hs.rel.objs D _ hD
            rw [hkD] at hk'; cases hk'
            have hrel := putObj_drop hs.rel hD hkD hlo (.deferred none)
            refine ⟨by simp, .inl ⟨k.R, _, rfl, run_takeDeferred hobj, ?_⟩⟩
            exact h1 φ w0 _ r fn tmps R ⟨hrel, hs.lo, hs.glob⟩ hm' hk
      · trivial

/-! the code of a deferred function, where nobody panics -/

theorem recover_run {ρ : Operand → Value} {o : Oper} (h : isRecover o.op = true) (w : World) : (execOp ρ o).run P w = .ok .recover w := by
  cases ho : o.op <;> simp only [ho, isRecover, Bool.false_eq_true] at h
  rename_i c
  cases hc : c.callee <;> simp only [hc, Bool.false_eq_true] at h
  rename_i b
  cases b <;> simp only [Bool.false_eq_true] at h
  simp [execOp, ho, resolve, hc, invoke, builtin]

theorem opsD_ok (hT : Tabs E P) (nt : Nat) (ops : Array Oper) : ∀ (n k : Nat), k + n = ops.size → ∀ s : St, opsD E nt ops (ops.toList.drop k) s = .stuck ∨
    ∃ s', opsD E nt ops (ops.toList.drop k) s = .code .normal s' ∧ ∀ (φ : Phi) (w0 : Base) (w : World) (a : Act) (c₀ : Frame) (cs : List Frame), c₀.mode = .returning → Sit E P φ w0 w s.h → TmpsRel φ nt s.t a.tmps → MarksRel φ s.d a.defers →
      ∀ Q : Exit → Act → List Frame → World → Prop, Left E P φ w0 nt s s' (fun a w => Q .normal a (c₀ :: cs) w) → wpOpsSIn Fence.wide 0 P ops Q (List.range' k n) a (c₀ :: cs) w
  | 0, k, hk, s => by
    have : ops.toList.drop k = [] := List.drop_eq_nil_of_le (by simp; omega)
    rw [this]
    exact .inr ⟨s, rfl, fun φ w0 w a c₀ cs _ hs ht hm Q hQ => hQ φ a w (Le.refl _) hs rfl (Nat.le_refl _) ht hm⟩
  | n + 1, k, hk, s => by
    have hlt : k < ops.size := by omega
    have ho : ops[k]? = some ops[k] := Array.getElem?_eq_getElem hlt
    have hd : ops.toList.drop k = ops[k] :: ops.toList.drop (k + 1) := by
      rw [List.drop_eq_getElem_cons (by simpa using hlt)]; simp
    rw [hd]
    generalize ops[k] = o at ho
    simp only [opsD]
    have fin : ∀ (v : LV) (h' : LH), (opPut nt o s.d s.t (fun s => opsD E nt ops (ops.toList.drop (k + 1)) s) v h' = .stuck ∨ ∃ s', opPut nt o s.d s.t (fun s => opsD E nt ops (ops.toList.drop (k + 1)) s) v h' = .code .normal s' ∧
        ∀ (φ ψ : Phi) (w0 : Base) (w' : World) (a : Act) (c₀ : Frame) (cs : List Frame) (X : Value), c₀.mode = .returning → Le φ ψ → Sit E P ψ w0 w' h' → h'.lo = s.h.lo → s.h.nx ≤ h'.nx → inst ψ v = some X → TmpsRel φ nt s.t a.tmps → MarksRel φ s.d a.defers →
        ∀ Q : Exit → Act → List Frame → World → Prop, Left E P φ w0 nt s s' (fun a w => Q .normal a (c₀ :: cs) w) → wpOpsSIn Fence.wide 0 P ops Q (List.range' (k + 1) n) (a.put o.dst X) (c₀ :: cs) w') := by
      intro v h'
      unfold opPut
      cases hp : put s.t nt o.dst v with
      | none => exact .inl rfl
      | some t' =>
        rcases opsD_ok hT nt ops n (k + 1) (by omega) ⟨t', h', s.d⟩ with h0 | ⟨s', h1, h2⟩
        · exact .inl h0
        · refine .inr ⟨s', h1, fun φ ψ w0 w' a c₀ cs X hc hle hs hlo hnx hX ht hm Q hQ => ?_⟩
          exact h2 ψ w0 w' _ c₀ cs hc hs (tmpsPut (ht.mono hle) hX hp) (by rw [put_defers]; exact hm.mono hle) Q (hQ.of (s1 := ⟨t', h', s.d⟩) hle hlo hnx)
    have wide : ∀ (w : World) (ρ : Operand → Value) f, o.about P w ρ = some f → Fence.wide.fn f := fun _ _ _ _ => trivial
    unfold opD
    cases hw : wanted ops s.t o with
    | false =>
      rw [cond_false]
      rcases fin .undef s.h with h0 | ⟨s', h1, h2⟩
      · exact .inl h0
      · refine .inr ⟨s', h1, fun φ w0 w a c₀ cs hc hs ht hm Q hQ => ?_⟩
        simp only [List.range'_succ, wpOpsSIn, ho]
        refine ⟨wide w _, ?_⟩
        rw [wanted_ok ht ops o, hw]
        simp only [Bool.false_eq_true, if_false]
        exact h2 φ φ w0 w a c₀ cs undef hc (Le.refl _) hs rfl (Nat.le_refl _) rfl ht hm Q hQ
    | true =>
      rw [cond_true]
      cases hr : isRecover o.op with
      | true =>
        rw [cond_true]
        rcases fin .nilIface s.h with h0 | ⟨s', h1, h2⟩
        · exact .inl h0
        · refine .inr ⟨s', h1, fun φ w0 w a c₀ cs hc hs ht hm Q hQ => ?_⟩
          simp only [List.range'_succ, wpOpsSIn, ho]
          refine ⟨wide w _, ?_⟩
          rw [wanted_ok ht ops o, hw]
          have hn : recoverD (c₀ :: cs) = none := by simp [recoverD, hc]
          simp only [if_true, recover_run hr w, hn]
          exact h2 φ φ w0 w a c₀ cs .nilIface hc (Le.refl _) hs rfl (Nat.le_refl _) rfl ht hm Q hQ
      | false =>
        rw [cond_false]
        cases hv : step1 E s.h s.t o.op with
        | none => exact .inl rfl
        | some p =>
          obtain ⟨v, h'⟩ := p
          simp only
          rcases fin v h' with h0 | ⟨s', h1, h2⟩
          · exact .inl h0
          · refine .inr ⟨s', h1, fun φ w0 w a c₀ cs hc hs ht hm Q hQ => ?_⟩
            simp only [List.range'_succ, wpOpsSIn, ho]
            refine ⟨wide w _, ?_⟩
            rw [wanted_ok ht ops o, hw]
            obtain ⟨ψ, X, w', b1, b2, b3, b4, b5, b6, b7⟩ := step1_ok hT hs.rel hs.lo hs.glob ht hv
            have hn := h2 φ ψ w0 w' a c₀ cs X hc b1 (hs.trans b4 b1 b5 b6) b5 b6 b3 ht hm Q hQ
            simp only [if_true, b2]
            cases hk : skips o.op with
            | false => simpa using hn
            | true => have hu := b7 hk; subst hu; exact hn

theorem DCodeOk.of_code {nt : Nat} {c : Code} {s s' : St} {e : Ex} (h : CodeOk E P none nt c s e s') : DCodeOk E P nt c s e s' := by
  intro φ w0 w a c₀ cs hc hs ht hm
  exact wpSIn_of_wpIn rfl (wpIn_mono (h φ w0 w a Fence.wide rfl hs ht hm) fun e a w hq => ⟨rfl, hq⟩)

theorem wpSIn_mono {F : Fence} {n : Nat} {c : Code} {Q Q' : Exit → Act → List Frame → World → Prop} {a : Act} {cs : List Frame} {w : World} (h : c.wpSIn F n P Q a cs w) (hq : ∀ e a cs w, Q e a cs w → Q' e a cs w) : c.wpSIn F n P Q' a cs w :=
  fun b k hb hr hF hroom => let ⟨e, a', cs', w', l, q, r⟩ := h b k hb hr hF hroom; ⟨e, a', cs', w', l, hq _ _ _ _ q, r⟩

theorem dcode_ok (hT : Tabs E P) {rec : Task → Res} (hrec : ∀ task, TaskOk E P task (rec task)) (nt : Nat) (c : Code) (s : St) : TaskOk E P (.dcode nt c s) (tDcode E rec nt s c) := by
  have plain : TaskOk E P (.dcode nt c s) (rec (.code none nt c s)) := by
    have h1 := hrec (.code none nt c s)
    cases hr : rec (.code none nt c s) with
    | stuck => trivial
    | val v h => trivial
    | code e s' => rw [hr] at h1; exact DCodeOk.of_code h1.1
  cases c with
  | region id ops draw =>
    cases draw with
    | true => exact plain
    | false =>
      simp only [tDcode]
      cases ha : anyRecover ops.toList with
      | false => exact plain
      | true =>
        rw [cond_true]
        rcases opsD_ok (P := P) hT nt ops ops.size 0 (by omega) s with h0 | ⟨s', h1, h2⟩
        · rw [List.drop_zero] at h0; rw [h0]; trivial
        · rw [List.drop_zero] at h1; rw [h1]
          intro φ w0 w a c₀ cs hc hs ht hm
          refine wpSIn_region ?_
          rw [List.range_eq_range']
          exact h2 φ w0 w a c₀ cs hc hs ht hm _ fun ψ a' w' b1 b2 b3 b4 b5 b6 => ⟨rfl, rfl, ψ, b1, b2, b3, b4, b5, b6⟩
  | seq x y =>
    simp only [tDcode]
    have h1 := hrec (.dcode nt x s)
    cases hr : rec (.dcode nt x s) with
    | stuck => trivial
    | val v h => trivial
    | code e s1 =>
      rw [hr] at h1
      have out : e ≠ .normal → DCodeOk E P nt (.seq x y) s e s1 := by
        intro he φ w0 w a c₀ cs hc hs ht hm
        refine wpSIn_seq (wpSIn_mono (h1 φ w0 w a c₀ cs hc hs ht hm) fun e' a' cs' w' hq => ?_)
        obtain ⟨rfl, hq⟩ := hq
        have hq' := hq
        obtain ⟨rfl, _⟩ := hq
        cases e with
        | normal => exact absurd rfl he
        | exit i => exact ⟨rfl, hq'⟩
        | ret => exact ⟨rfl, hq'⟩
      cases e with
      | normal =>
        simp only [tDSeq]
        have h2 := hrec (.dcode nt y s1)
        cases hr2 : rec (.dcode nt y s1) with
        | stuck => trivial
        | val v h => trivial
        | code e2 s2 =>
          rw [hr2] at h2
          intro φ w0 w a c₀ cs hc hs ht hm
          refine wpSIn_seq (wpSIn_mono (h1 φ w0 w a c₀ cs hc hs ht hm) fun e' a' cs' w' hq => ?_)
          obtain ⟨rfl, rfl, ψ, b1, b2, b3, b4, b5, b6⟩ := hq
          exact wpSIn_mono (h2 ψ w0 w' a' c₀ cs hc b2 b5 b6) fun e a cs w hq => ⟨hq.1, hq.2.trans b1 b3 b4⟩
      | exit i => exact out (by simp)
      | ret => exact out (by simp)
  | cond c x y =>
    simp only [tDcode]
    cases hc : evalO E s.t c with
    | none => trivial
    | some v =>
      cases v <;> try trivial
      rename_i b
      have key : ∀ z, z = (if b then x else y) → TaskOk E P (.dcode nt (.cond c x y) s) (rec (.dcode nt z s)) := by
        intro z hz
        have h1 := hrec (.dcode nt z s)
        cases hr : rec (.dcode nt z s) with
        | stuck => trivial
        | val v h => trivial
        | code e s1 =>
          rw [hr] at h1
          intro φ w0 w a c₀ cs hc0 hs ht hm
          exact wpSIn_cond (inst_bool (evalO_ok ht hs.glob hc)) (hz ▸ h1 φ w0 w a c₀ cs hc0 hs ht hm)
      cases b with
      | true => exact key x rfl
      | false => exact key y rfl
  | _ => exact plain

theorem dcall_ok (hT : Tabs E P) {rec : Task → Res} (hrec : ∀ task, TaskOk E P task (rec task)) (h : LH) (k : FuncId) (args : List LV) : TaskOk E P (.dcall h k args) (tDcall E rec h args (E.funcs.get k)) := by
  unfold tDcall
  split
  · rename_i fn hf
    split
    · rename_i body hb
      have h1 := hrec (.dcode fn.ntmps body ⟨T.ofListFrom args 0 .nil, h, []⟩)
      cases hr : rec (.dcode fn.ntmps body ⟨T.ofListFrom args 0 .nil, h, []⟩) with
      | stuck => trivial
      | val v h => trivial
      | code e s =>
        rw [hr] at h1
        have main : (e = .normal ∨ e = .ret) → TaskOk E P (.dcall h k args) (tDcall2 E fn s) := by
          intro he
          unfold tDcall2
          split
          · rename_i hd
            cases hres : resultsV E s.h s.t fn.results.toList with
            | none => trivial
            | some vs =>
              have fin : DCallOk E P h k args s.h := by
                intro φ w0 w Args hs ha
                refine ⟨callFunc_enter hT hf hb _ w, callsDIn_of_wpSIn (hT.funcs k fn hf).1 hb trivial fun c₀ cs hc => ?_⟩
                refine wpSIn_mono (h1 φ w0 w _ c₀ cs hc hs (enter_tmps ha fn.ntmps) rfl) fun e' a' cs' w' hq => ?_
                obtain ⟨rfl, rfl, ψ, b1, b2, b3, b4, b5, b6⟩ := hq
                rw [hd] at b6
                simp only [MarksRel] at b6
                obtain ⟨X, x1, x2⟩ := results_ok hT b2.rel b5 hres
                have post : a'.defers = [] ∧ ∃ u', c₀ :: cs = { c₀ with mode := u' } :: cs ∧ ∃ v, (results fn a'.tmps).run P w' = .ok v w' ∧ ((∃ X, Ending.returned v = .returned X) ∧ u' = .returning ∧ ∃ ψ, Le φ ψ ∧ Sit E P ψ w0 w' s.h ∧ s.h.lo = h.lo ∧ h.nx ≤ s.h.nx) :=
                  ⟨b6, .returning, by rw [← hc], X, x1, ⟨X, rfl⟩, rfl, ψ, b1, b2, b3, b4⟩
                rcases he with rfl | rfl
                · exact post
                · exact post
              cases vs with
              | nil => exact fin
              | cons v1 vs =>
                cases vs with
                | nil => exact fin
                | cons v2 vs => exact fin
          · trivial
        cases e with
        | normal => exact main (.inl rfl)
        | ret => exact main (.inr rfl)
        | exit i => trivial
    · trivial
  · trivial

theorem wideIn {φ : Phi} {ro : Option Nat} {F : Fence} (hro : RoOk φ ro F) {n : Nat} {k : FuncId} {args : Array Value} {w : World} {R : Ending → World → Prop} (h : CallsIn Fence.wide n P k args w R) : CallsIn F n P k args w R := by
  cases ro with
  | none => simp only [RoOk] at hro; subst hro; exact h
  | some l => obtain ⟨b, _, rfl⟩ := hro; exact h

end Go.Ev
namespace Go.Ev
open Go Go.RowKit

variable {E : Env} {P : Program}

theorem call_fn_ok {rec : Task → Res} (hrec : ∀ task, TaskOk E P task (rec task)) (h : LH) (k : FuncId) (first cap args : List LV) : TaskOk E P (.call h (.fn (.func k) first cap) args) (rec (.fn h k (first ++ (args ++ cap)))) := by
  have h1 := hrec (.fn h k (first ++ (args ++ cap)))
  cases hr : rec (.fn h k (first ++ (args ++ cap))) with
  | stuck => trivial
  | code e s => trivial
  | val v h' =>
    rw [hr] at h1
    intro φ w0 w G Args F ro hro hs hg ha
    obtain ⟨f', a', c', rfl, hf, hA, hC⟩ := inst_fn hg
    simp only [instFn, Option.some.injEq] at hf; subst hf
    refine ⟨_, rfl, fun o a next Q hnext => ?_⟩
    have hargs := insts_append hA (insts_append ha hC)
    have he : ((⟨a'⟩ : Array Value) ++ ⟨Args⟩ ++ ⟨c'⟩) = ⟨a' ++ (Args ++ c')⟩ := by apply Array.ext'; simp
    simp only [invoke, he]
    rcases h1 φ w0 w _ hs hargs with ⟨hcf, hin⟩ | ⟨_, X, w', hcf, haf⟩
    · rw [hcf, Oper.uponIn_enter]
      refine ⟨hro.depth, CallsIn.mono (wideIn hro hin) fun e w'' he => ?_⟩
      obtain ⟨X, rfl, haf⟩ := he
      exact hnext X w'' haf
    · rw [hcf, Oper.uponIn_value]
      exact hnext X w' haf

theorem zipSet_ok {φ : Phi} {nt : Nat} : ∀ (ps : List Tmp) (vs : List LV) (xs : List Value) (t : T LV) (tmps : Array Value), insts φ vs = some xs → allLt nt ps = true → TmpsRel φ nt t tmps →
    TmpsRel φ nt (zipSet ps vs t) ((ps.zip xs).foldl (fun tmps p => tmps.setIfInBounds p.1 p.2) tmps)
  | [], vs, xs, t, tmps, hx, hl, ht => by simpa [zipSet] using ht
  | p :: ps, [], xs, t, tmps, hx, hl, ht => by simp only [insts, Option.some.injEq] at hx; subst hx; simpa [zipSet] using ht
  | p :: ps, v :: vs, xs, t, tmps, hx, hl, ht => by
    obtain ⟨y, ys, h1, h2, rfl⟩ := insts_cons.1 hx
    simp only [allLt, Bool.and_eq_true] at hl
    simp only [zipSet, LV.force_eq, T.force_eq, List.zip_cons_cons, List.foldl_cons]
    refine zipSet_ok ps vs ys _ _ h2 hl.2 ?_
    have hp : put t nt (some p) v = some (t.set p v) := by simp [put, hl.1]
    exact tmpsPut (a := ⟨tmps, []⟩) ht h1 hp

theorem putObj_turn {φ : Phi} {w0 : Base} {w : World} {h : LH} (hr : Rel φ w0 w h) {b : Nat} {ob ob' : LObj} {k : Blk} (hb : h.m.get b = some ob) (hk : φ b = some k) (hlo : h.lo ≤ b) (o : Obj)
    (hob : ∀ w' : World, w'.heap[k.R]? = some o → ObjRel φ w' k true ob') : Rel φ w0 (w.putObj k.R o) ⟨h.m.set b ob', h.nx, h.lo⟩ := by
  have hlt : k.R < w.heap.size := by
    obtain ⟨k', hk', ho⟩ := hr.objs b ob hb
    rw [hk] at hk'; cases hk'
    exact ho.lt
  exact hr.turn hb hk hlo (w' := w.putObj k.R o) (hr.below.setObj (hr.new b _ k hb hk hlo) o) (fun R hR => World.putObj_heap_other hR) (hob _ (World.putObj_heap_same hlt))

theorem yield4_ok {φ : Phi} {w0 : Base} {w : World} {s : St} {l : Nat} {k : Blk} {st : LoopState} {pend : Option Code} {v : LV} {h' : LH} {b : Bool} (hs : Sit E P φ w0 w s.h) (hk : φ l = some k) (hst : st = if pend.isNone then .ready else .done) (hb : b = pend.isNone)
    (hy : tYield4 s l st pend (s.h.m.get l) b = .val v h') : ∃ X w', (Instr.endRound k.R pend).run P w = .ok X w' ∧ After E P φ w0 s.h v h' X w' := by
  unfold tYield4 at hy
  split at hy
  · rename_i pe nt t ps as body hl
    cases hlo : Nat.ble s.h.lo l with
    | false => simp [hlo] at hy
    | true =>
      simp only [hlo, cond_true, T.force_eq, Res.val.injEq] at hy
      obtain ⟨rfl, rfl⟩ := hy
      have hlo := Nat.le_of_ble_eq_true hlo
      obtain ⟨k', hk', r, g1, g2, g3, g4, g5, g6, g7⟩ := hs.rel.objs l _ hl
      rw [hk] at hk'; cases hk'
      refine ⟨_, _, run_endRound pend g1, φ, Le.refl _, by rw [hb]; rfl, ⟨putObj_turn hs.rel hl hk hlo _ fun w' hw => ⟨_, hw, hst.symm, rfl, g4, g5, g6, g7⟩, hs.lo, hs.glob⟩, rfl, Nat.le_refl _⟩
  · cases hy

theorem yield_ok {rec : Task → Res} (hrec : ∀ task, TaskOk E P task (rec task)) (h : LH) (l : Nat) (cap args : List LV) : TaskOk E P (.call h (.fn (.yield l) [] cap) args) (tYield rec h l args (h.m.get l)) := by
  unfold tYield
  split
  · rename_i pe nt t ps as body hl
    cases hc : (Nat.beq args.length ps.length && allLt nt ps) with
    | false => trivial
    | true =>
      rw [cond_true]
      simp only [Bool.and_eq_true] at hc
      have hlen := Nat.eq_of_beq_eq_true hc.1
      have h1 := hrec (.code (some l) nt as ⟨zipSet ps args t, h, []⟩)
      cases hr : rec (.code (some l) nt as ⟨zipSet ps args t, h, []⟩) with
      | stuck => trivial
      | val v h => trivial
      | code e s =>
        rw [hr] at h1
        cases e with
        | exit i => trivial
        | ret => trivial
        | normal =>
          simp only [tYield2]
          split
          · rename_i hd
            unfold tYield5
            split
            · rename_i pe' nt' t' ps' as' body' hl'
              cases hlo : Nat.ble s.h.lo l with
              | false => trivial
              | true =>
                simp only [cond_true, T.force_eq]
                have hlo := Nat.le_of_ble_eq_true hlo
                have h2 := hrec (.code (some l) nt body ⟨s.t, ⟨s.h.m.set l (.loop .busy pe' nt' t' ps' as' body'), s.h.nx, s.h.lo⟩, []⟩)
                cases hr2 : rec (.code (some l) nt body ⟨s.t, ⟨s.h.m.set l (.loop .busy pe' nt' t' ps' as' body'), s.h.nx, s.h.lo⟩, []⟩) with
                | stuck => trivial
                | val v h => trivial
                | code e2 s2 =>
                  rw [hr2] at h2
                  simp only [tYield3]
                  split
                  · rename_i hd2
                    -- however the body was left
                    have main : ∀ (st : LoopState) (pend : Option Code) (b : Bool), (st = if pend.isNone then .ready else .done) → b = pend.isNone →
                        (∀ (φ : Phi) (w0 : Base) (w : World) (a : Act) (k : Blk) (R : Ending → World → Prop), (∃ X w', (Instr.endRound k.R pend).run P w = .ok X w' ∧ R (.returned X) w') → roundPost P k.R R e2.exit' a w) →
                        TaskOk E P (.call h (.fn (.yield l) [] cap) args) (tYield4 s2 l st pend (s2.h.m.get l) b) := by
                      intro st pend b hst hb hpost
                      cases hy : tYield4 s2 l st pend (s2.h.m.get l) b with
                      | stuck => trivial
                      | code e s => trivial
                      | val v h' =>
                        intro φ w0 w G Args F ro hro hs hg ha
                        obtain ⟨f', a', c', rfl, hf, hA, hC⟩ := inst_fn hg
                        simp only [instFn] at hf
                        cases hk : φ l with
                        | none => simp [hk] at hf
                        | some k =>
                          rw [hk] at hf
                          simp only [Option.some.injEq] at hf; subst hf
                          simp only [insts, Option.some.injEq] at hA; subst hA
                          refine ⟨_, rfl, fun o a next Q hnext => ?_⟩
                          obtain ⟨k', hk', r, g1, g2, g3, g4, g5, g6, g7⟩ := hs.rel.objs l _ hl
                          rw [hk] at hk'; cases hk'
                          have hal := insts_length ha
                          have hpl : r.params.toList.length = ps.length := by rw [g4]
                          have hsz : ((#[] : Array Value) ++ ⟨Args⟩).size = r.params.size := by
                            simp only [Array.size_append, List.size_toArray, List.length_nil, Nat.zero_add]
                            rw [hal, hlen, ← hpl]; simp
                          have hinv : (invoke (.fn (.yield k.R) ⟨c'⟩) (#[] ++ ⟨Args⟩)).run P w = .ok (.round k.R r.fn ((r.params.zip (#[] ++ ⟨Args⟩)).foldl (fun tmps (t, a) => tmps.setIfInBounds t a) r.tmps) r.assign r.body) w := by
                            simp only [invoke]
                            exact run_yield g1 hsz
                          show o.uponIn F 0 P a next Q ((invoke (.fn (.yield k.R) ⟨c'⟩) (#[] ++ ⟨Args⟩)).run P w)
                          rw [hinv, Oper.uponIn_round]
                          refine ⟨hro.depth, RoundIn.mono (R := fun e w'' => ∃ X, e = .returned X ∧ After E P φ w0 h v h' X w'') ?_ fun e w'' he => ?_⟩
                          · have hF : F.inRound k.R = Fence.wide.inRound k.R := by
                              cases ro with
                              | none => simp only [RoOk] at hro; subst hro; rfl
                              | some l' => obtain ⟨kk, _, rfl⟩ := hro; rfl
                            refine roundIn_of_wpIn (hro.fn _) ?_
                            rw [hF, g5, g6]
                            have htm : TmpsRel φ nt (zipSet ps args t) ((r.params.zip (#[] ++ ⟨Args⟩)).foldl (fun tmps (t, a) => tmps.setIfInBounds t a) r.tmps) := by
                              have := zipSet_ok ps args Args t r.tmps ha hc.2 g7
                              have hz : (r.params.zip (#[] ++ ⟨Args⟩ : Array Value)).toList = ps.zip Args := by simp [g4]
                              rw [← Array.foldl_toList, hz]
                              exact this
                            refine wpIn_mono (h1.1 φ w0 w ⟨_, []⟩ _ ⟨k, hk, rfl⟩ hs htm rfl) fun e' a1 w1 hq => ?_
                            obtain ⟨rfl, ψ, b1, b2, b3, b4, b5, b6⟩ := hq
                            obtain ⟨kk, hkk, r', q1, q2, q3, q4, q5, q6, q7⟩ := b2.rel.objs l _ hl'
                            rw [b1 _ _ hk] at hkk; cases hkk
                            refine ⟨_, run_beginRound q1 q2, ?_⟩
                            have hturn := putObj_turn b2.rel hl' (b1 _ _ hk) hlo (.loop { r' with state := .busy }) (ob' := .loop .busy pe' nt' t' ps' as' body') fun w' hw => ⟨_, hw, rfl, q3, q4, q5, q6, q7⟩
                            have hda : a1.defers = [] := by rw [hd] at b6; exact b6
                            refine wpIn_mono (h2.1 ψ w0 _ a1 _ ⟨k, b1 _ _ hk, rfl⟩ ⟨hturn, b2.lo, b2.glob⟩ b5 hda) fun e'' a2 w2 hq => ?_
                            obtain ⟨rfl, χ, c1, c2, c3, c4, c5, c6⟩ := hq
                            refine hpost χ w0 w2 a2 k _ ?_
                            obtain ⟨X, w3, y1, y2⟩ := yield4_ok (k := k) c2 (c1 _ _ (b1 _ _ hk)) hst hb hy
                            exact ⟨X, w3, y1, X, rfl, (y2.trans c1 c3 c4).trans b1 b3 b4⟩
                          · obtain ⟨X, rfl, haf⟩ := he
                            exact hnext X w'' haf
                    cases e2 with
                    | normal => exact main .ready none true rfl rfl fun φ w0 w a k R hx => hx
                    | ret => exact main .done (some .ret) false rfl rfl fun φ w0 w a k R hx => hx
                    | exit i => exact main .done (some (.exit i)) false rfl rfl fun φ w0 w a k R hx => hx
                  · trivial
            · trivial
          · trivial
  · trivial

theorem call_ok {rec : Task → Res} (hrec : ∀ task, TaskOk E P task (rec task)) (h : LH) (g : LV) (args : List LV) : TaskOk E P (.call h g args) (tCall rec h g args) := by
  unfold tCall
  split
  · split
    · exact call_fn_ok hrec h _ _ _ args
    · split
      · exact yield_ok hrec h _ _ args
      · trivial
    · trivial
  · trivial

end Go.Ev
