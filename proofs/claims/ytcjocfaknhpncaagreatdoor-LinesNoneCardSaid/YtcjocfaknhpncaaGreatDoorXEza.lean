/- Regions whose order is drawn: what the evaluator checks makes a plan. -/
/- Regions whose order is drawn: the plan out of the steps; the evaluator's soundness, whole. -/
import Derived.Test.YtcjocfaknhpncaaGreatDoorXEz
namespace Go.Ev
open Go Go.RowKit

variable {E : Env} {P : Program}

theorem Agree.evalOs {t t' : T LV} {xs : List Operand} (h : Agree t t' xs) : evalOs E t xs = evalOs E t' xs := evalOs_congr h

theorem opVal_ok2 (hT : Tabs E P) {rec : Task → Res} (hrec : ∀ task, TaskOk E P task (rec task)) (ro : Option Nat) (o : Oper) (t : T LV) (h : LH) (k : LV → LH → Res) :
    opVal E rec o t h k = .stuck ∨ ∃ v h', (∀ t', Agree t t' o.op.operands.toList → OpGoes E P ro o t' h v h') ∧ (isCall o.op = false → step1 E h t o.op = some (v, h')) ∧ k v h' = opVal E rec o t h k := by
  have step : ∀ r, (match step1 E h t o.op with | some (v, h) => k v h | none => Res.stuck) = r → r = .stuck ∨ ∃ v h', (∀ t', Agree t t' o.op.operands.toList → OpGoes E P ro o t' h v h') ∧ (isCall o.op = false → step1 E h t o.op = some (v, h')) ∧ k v h' = r := by
    intro r hr
    cases hv : step1 E h t o.op with
    | none => rw [hv] at hr; exact .inl hr.symm
    | some p =>
      obtain ⟨v, h'⟩ := p
      rw [hv] at hr
      exact .inr ⟨v, h', fun t' ha => op_step hT (by rw [← step1_congr ha]; exact hv), fun _ => rfl, hr⟩
  unfold opVal
  split
  · rename_i c ho
    split
    · rename_i g hc
      cases hg : evalO E t g with
      | none => exact .inl rfl
      | some G =>
        cases ha : evalOs E t c.args.toList with
        | none => exact .inl rfl
        | some args =>
          simp only
          have hr := hrec (.call h G args)
          cases hres : rec (.call h G args) with
          | stuck => exact .inl rfl
          | code e s => exact .inl rfl
          | val v h' =>
            rw [hres] at hr
            refine .inr ⟨v, h', fun t' hag => ?_, fun hcall => ?_, rfl⟩
            · rw [ho] at hag
              refine op_call ho hc ?_ ?_ hr
              · rw [← hg]; exact (evalO_mem hag (x := g) (by simp [Op.operands, Call.operands, hc])).symm
              · rw [← ha]; exact (evalOs_congr fun d hd => hag d (by simp [Op.operands, Call.operands, hc]; exact .inr (by simpa using hd))).symm
            · rw [ho] at hcall; simp [isCall, hc] at hcall
    · exact step _ rfl
  · exact step _ rfl

structure DStep (E : Env) (P : Program) (ro : Option Nat) (nt : Nat) (ops : Array Oper) (o : Oper) (s : St) (D : Dr) (s1 : St) (D1 : Dr) (m : Nat) (v : LV) (wr : Bool) (mk : Option (LObj × MV)) (ab : List Pd) : Prop where
  msk : maskE D.bs D.i o.after.toList 0 = some m
  ap : apartAll o.dst (o.looksAt ops) m D.gs = true
  i : D1.i = D.i + 1
  nb : D1.nb = D.nb
  bs : D1.bs = m :: D.bs
  gs : D1.gs = ⟨D.i, o.dst, o.looksAt ops, m⟩ :: D.gs
  pt : put s.t nt o.dst v = some s1.t
  d : s1.d = s.d
  how : (wanted ops s.t o = false ∧ v = .undef ∧ wr = false ∧ s1.h = s.h ∧ D1.hs = D.hs ∧ D1.rs = D.rs ∧ mk = none ∧ ab = [] ∧ D1.pl = D.pl) ∨
    (wanted ops s.t o = true ∧ wr = false ∧ s1.h = s.h ∧ isCall o.op = false ∧ step1 E s.h s.t o.op = some (v, s.h) ∧ backOk E m ⟨D.i, o, s.t, v⟩ D.hs = true ∧ D1.hs = D.hs ∧ D1.rs = ⟨D.i, o, s.t, v⟩ :: D.rs ∧ mk = none ∧ ab = [] ∧ D1.pl = D.pl) ∨
    (wanted ops s.t o = true ∧ wr = true ∧ (∀ t', Agree s.t t' o.op.operands.toList → OpGoes E P ro o t' (layP ab s.h) v s1.h) ∧ lastOk m D.hs = true ∧ D1.hs = (D.i, s.h) :: D.hs ∧ forthOk E m s1.h D.rs = some D1.rs ∧ mk = none ∧
      ab.Sublist D.pl ∧ D1.pl.Sublist D.pl ∧ (∀ q ∈ ab, bit m q.i = true ∧ q ∉ D1.pl)) ∨
    (wanted ops s.t o = true ∧ wr = false ∧ s1.h = s.h ∧ D1.hs = D.hs ∧ D1.rs = D.rs ∧ ab = [] ∧ ∃ ob mv, mk = some (ob, mv) ∧ isMake o.op = true ∧ makeOf E s.t o.op = some (ob, mv) ∧ v = mv.at (D.nb + D.i) ∧ D1.pl = ⟨D.i, D.nb + D.i, ob⟩ :: D.pl)

theorem drawPut_ok {nt : Nat} {o : Oper} {s : St} {m : Nat} {D : Dr} {looks : List Tmp} {hs : List (Nat × LH)} {rs : List Rd} {pl : List Pd} {k : St → Dr → Res} {v : LV} {h : LH} :
    drawPut nt o s m D looks hs rs pl k v h = .stuck ∨ ∃ t1, put s.t nt o.dst v = some t1 ∧ k ⟨t1, h, s.d⟩ ⟨D.i + 1, m :: D.bs, ⟨D.i, o.dst, looks, m⟩ :: D.gs, hs, rs, D.nb, pl⟩ = drawPut nt o s m D looks hs rs pl k v h := by
  simp only [drawPut, fNat_eq, opPut]
  cases hp : put s.t nt o.dst v with
  | none => exact .inl rfl
  | some t1 => exact .inr ⟨t1, rfl, rfl⟩

theorem splitP_ok {m : Nat} : ∀ (l : List Pd), (splitP m l).1.Sublist l ∧ (splitP m l).2.Sublist l ∧ (∀ q ∈ (splitP m l).1, bit m q.i = true) ∧ ∀ q ∈ (splitP m l).2, bit m q.i = false
  | [] => ⟨List.Sublist.refl _, List.Sublist.refl _, by simp [splitP], by simp [splitP]⟩
  | q :: l => by
    obtain ⟨h1, h2, h3, h4⟩ := splitP_ok (m := m) l
    simp only [splitP]
    cases hb : bit m q.i with
    | true =>
      simp only [cond_true]
      refine ⟨h1.cons_cons _, h2.cons _, fun q' hq => ?_, h4⟩
      rcases List.mem_cons.1 hq with rfl | hq
      · exact hb
      · exact h3 q' hq
    | false =>
      simp only [cond_false]
      refine ⟨h1.cons _, h2.cons_cons _, h3, fun q' hq => ?_⟩
      rcases List.mem_cons.1 hq with rfl | hq
      · exact hb
      · exact h4 q' hq

theorem isMake_noDefer {o : Op} (h : isMake o = true) : ∀ c, o ≠ .defer c := by rintro c rfl; cases h

theorem drawS_ok (hT : Tabs E P) {rec : Task → Res} (hrec : ∀ task, TaskOk E P task (rec task)) (ro : Option Nat) (nt : Nat) (ops : Array Oper) (o : Oper) (s : St) (D : Dr) (k : St → Dr → Res) :
    drawS E rec nt ops o s D k = .stuck ∨ ∃ s1 D1 m v wr mk ab, DStep E P ro nt ops o s D s1 D1 m v wr mk ab ∧ k s1 D1 = drawS E rec nt ops o s D k := by
  unfold drawS
  cases hm : maskE D.bs D.i o.after.toList 0 with
  | none => exact .inl rfl
  | some m =>
    simp only
    cases ha : apartAll o.dst (o.looksAt ops) m D.gs with
    | false => exact .inl rfl
    | true =>
      rw [cond_true]
      cases hw : wanted ops s.t o with
      | false =>
        rw [cond_false]
        rcases drawPut_ok (nt := nt) (o := o) (s := s) (m := m) (D := D) (looks := o.looksAt ops) (hs := D.hs) (rs := D.rs) (pl := D.pl) (k := k) (v := LV.undef) (h := s.h) with h0 | ⟨t1, hp, hk⟩
        · exact .inl h0
        · exact .inr ⟨⟨t1, s.h, s.d⟩, ⟨D.i + 1, m :: D.bs, ⟨D.i, o.dst, o.looksAt ops, m⟩ :: D.gs, D.hs, D.rs, D.nb, D.pl⟩, m, .undef, false, none, [], ⟨hm, ha, rfl, rfl, rfl, rfl, hp, rfl, .inl ⟨hw, rfl, rfl, rfl, rfl, rfl, rfl, rfl, rfl⟩⟩, hk⟩
      | true =>
        rw [cond_true]
        cases hmk : isMake o.op with
        | true =>
          rw [cond_true]
          cases hmo : makeOf E s.t o.op with
          | none => exact .inl rfl
          | some u =>
            obtain ⟨ob, mv⟩ := u
            simp only [drawMake, fNat_eq]
            rcases drawPut_ok (nt := nt) (o := o) (s := s) (m := m) (D := D) (looks := o.looksAt ops) (hs := D.hs) (rs := D.rs) (pl := ⟨D.i, Nat.add D.nb D.i, ob⟩ :: D.pl) (k := k) (v := mv.at (Nat.add D.nb D.i)) (h := s.h) with h0 | ⟨t1, hp, hk⟩
            · exact .inl h0
            · exact .inr ⟨⟨t1, s.h, s.d⟩, ⟨D.i + 1, m :: D.bs, ⟨D.i, o.dst, o.looksAt ops, m⟩ :: D.gs, D.hs, D.rs, D.nb, ⟨D.i, Nat.add D.nb D.i, ob⟩ :: D.pl⟩, m, mv.at (Nat.add D.nb D.i), false, some (ob, mv), [],
                ⟨hm, ha, rfl, rfl, rfl, rfl, hp, rfl, .inr (.inr (.inr ⟨hw, rfl, rfl, rfl, rfl, rfl, ob, mv, rfl, hmk, hmo, rfl, rfl⟩))⟩, hk⟩
        | false =>
          rw [cond_false]
          -- what comes of one that is no maker, its blocks laid
          have main : ∀ (call : Bool) (a b : List Pd), (call = false → isCall o.op = false ∧ a = [] ∧ b = D.pl) → a.Sublist D.pl → b.Sublist D.pl → (∀ q ∈ a, bit m q.i = true ∧ q ∉ b) →
              opVal E rec o s.t (layP a s.h) (drawVal E nt o s m D (o.looksAt ops) call b k) = .stuck ∨ ∃ s1 D1 m1 v wr mk ab, DStep E P ro nt ops o s D s1 D1 m1 v wr mk ab ∧ k s1 D1 = opVal E rec o s.t (layP a s.h) (drawVal E nt o s m D (o.looksAt ops) call b k) := by
            intro call a b hcall hsa hsb hab
            rcases opVal_ok2 hT hrec ro o s.t (layP a s.h) (drawVal E nt o s m D (o.looksAt ops) call b k) with h0 | ⟨v, h', hop, hst, hk⟩
            · exact .inl h0
            · generalize opVal E rec o s.t (layP a s.h) (drawVal E nt o s m D (o.looksAt ops) call b k) = R at hk ⊢
              subst hk
              unfold drawVal
              cases hq : (!call && Nat.beq h'.nx s.h.nx) with
              | true =>
                rw [cond_true]
                simp only [Bool.and_eq_true, Bool.not_eq_true'] at hq
                obtain ⟨hc, rfl, rfl⟩ := hcall hq.1
                have hs1 := hst hc
                have hh := step1_keep hc v h' hs1 (Nat.eq_of_beq_eq_true hq.2)
                subst hh
                cases hb : backOk E m ⟨D.i, o, s.t, v⟩ D.hs with
                | false => exact .inl rfl
                | true =>
                  rw [cond_true]
                  rcases drawPut_ok (nt := nt) (o := o) (s := s) (m := m) (D := D) (looks := o.looksAt ops) (hs := D.hs) (rs := ⟨D.i, o, s.t, v⟩ :: D.rs) (pl := D.pl) (k := k) (v := v) (h := s.h) with h0 | ⟨t1, hp, hk⟩
                  · exact .inl h0
                  · exact .inr ⟨⟨t1, s.h, s.d⟩, ⟨D.i + 1, m :: D.bs, ⟨D.i, o.dst, o.looksAt ops, m⟩ :: D.gs, D.hs, ⟨D.i, o, s.t, v⟩ :: D.rs, D.nb, D.pl⟩, m, v, false, none, [], ⟨hm, ha, rfl, rfl, rfl, rfl, hp, rfl, .inr (.inl ⟨hw, rfl, rfl, hc, hs1, hb, rfl, rfl, rfl, rfl, rfl⟩)⟩, hk⟩
              | false =>
                rw [cond_false]
                cases hl : lastOk m D.hs with
                | false => exact .inl rfl
                | true =>
                  rw [cond_true]
                  cases hf : forthOk E m h' D.rs with
                  | none => exact .inl rfl
                  | some rs =>
                    simp only
                    rcases drawPut_ok (nt := nt) (o := o) (s := s) (m := m) (D := D) (looks := o.looksAt ops) (hs := (D.i, s.h) :: D.hs) (rs := rs) (pl := b) (k := k) (v := v) (h := h') with h0 | ⟨t1, hp, hk⟩
                    · exact .inl h0
                    · exact .inr ⟨⟨t1, h', s.d⟩, ⟨D.i + 1, m :: D.bs, ⟨D.i, o.dst, o.looksAt ops, m⟩ :: D.gs, (D.i, s.h) :: D.hs, rs, D.nb, b⟩, m, v, true, none, a, ⟨hm, ha, rfl, rfl, rfl, rfl, hp, rfl, .inr (.inr (.inl ⟨hw, rfl, hop, hl, rfl, hf, rfl, hsa, hsb, hab⟩))⟩, hk⟩
          cases hc : isCall o.op with
          | true =>
            rw [cond_true]
            obtain ⟨h1, h2, h3, h4⟩ := splitP_ok (m := m) D.pl
            exact main true (splitP m D.pl).1 (splitP m D.pl).2 (fun h => by cases h) h1 h2 fun q hq => ⟨h3 q hq, fun hq' => by have := h4 q hq'; rw [h3 q hq] at this; cases this⟩
          | false =>
            rw [cond_false]
            exact main false [] D.pl (fun _ => ⟨hc, rfl, rfl⟩) (List.nil_sublist _) (List.Sublist.refl _) fun q hq => by cases hq

theorem drawsS_seq (hT : Tabs E P) {rec : Task → Res} (hrec : ∀ task, TaskOk E P task (rec task)) (ro : Option Nat) (nt : Nat) (ops : Array Oper) : ∀ (os : List Oper) (s : St) (D : Dr),
    drawsS E rec nt ops os s D = .stuck ∨ ∃ (f : Nat → St × Dr) (m : Nat → Nat) (v : Nat → LV) (wr : Nat → Bool) (mk : Nat → Option (LObj × MV)) (ab : Nat → List Pd), f 0 = (s, D) ∧
      (∀ k o, os[k]? = some o → DStep E P ro nt ops o (f k).1 (f k).2 (f (k + 1)).1 (f (k + 1)).2 (m k) (v k) (wr k) (mk k) (ab k)) ∧ (∀ k, os[k]? = none → mk k = none ∧ ab k = []) ∧
      drawsS E rec nt ops os s D = .code .normal ⟨(f os.length).1.t, layP (f os.length).2.pl (f os.length).1.h, (f os.length).1.d⟩
  | [], s, D => .inr ⟨fun _ => (s, D), fun _ => 0, fun _ => .undef, fun _ => false, fun _ => none, fun _ => [], rfl, fun k o h => by simp at h, fun _ _ => ⟨rfl, rfl⟩, rfl⟩
  | o :: os, s, D => by
    simp only [drawsS]
    rcases drawS_ok hT hrec ro nt ops o s D (fun s D => drawsS E rec nt ops os s D) with h0 | ⟨s1, D1, m1, v1, wr1, mk1, ab1, hd, hk⟩
    · exact .inl h0
    · rw [← hk]
      rcases drawsS_seq hT hrec ro nt ops os s1 D1 with h0 | ⟨f, m, v, wr, mk, ab, h1, h2, h3, h4⟩
      · exact .inl h0
      · refine .inr ⟨fun k => match k with | 0 => (s, D) | k + 1 => f k, fun k => match k with | 0 => m1 | k + 1 => m k, fun k => match k with | 0 => v1 | k + 1 => v k, fun k => match k with | 0 => wr1 | k + 1 => wr k,
          fun k => match k with | 0 => mk1 | k + 1 => mk k, fun k => match k with | 0 => ab1 | k + 1 => ab k, rfl, fun k o' ho => ?_, fun k hk => ?_, h4⟩
        · cases k with
          | zero =>
            simp only [List.getElem?_cons_zero, Option.some.injEq] at ho
            subst ho
            simpa [h1] using hd
          | succ k =>
            simp only [List.getElem?_cons_succ] at ho
            exact h2 k o' ho
        · cases k with
          | zero => simp at hk
          | succ k =>
            simp only [List.getElem?_cons_succ] at hk
            exact h3 k hk

end Go.Ev
namespace Go.Ev
open Go Go.RowKit

variable {E : Env} {P : Program}

theorem bit_or (a b k : Nat) : bit (Nat.lor a b) k = (bit a k || bit b k) := by
  unfold bit; exact Nat.testBit_or a b k
theorem bit_pow (a k : Nat) : bit (Nat.pow 2 a) k = decide (a = k) := by
  unfold bit; exact Nat.testBit_two_pow
theorem bit_zero (k : Nat) : bit 0 k = false := by unfold bit; exact Nat.zero_testBit k

theorem maskE_ok {bs : List Nat} {i : Nat} : ∀ (es : List Edge) (acc m : Nat), maskE bs i es acc = some m →
    (∀ e ∈ es, Region.binds .any e = true → e.on < i ∧ ∃ b, bs[i - 1 - e.on]? = some b ∧ bit m e.on = true ∧ ∀ j, bit b j = true → bit m j = true) ∧
    (∀ j, bit acc j = true → bit m j = true) ∧
    (∀ j, bit m j = true → bit acc j = true ∨ ∃ e ∈ es, Region.binds .any e = true ∧ ∃ b, bs[i - 1 - e.on]? = some b ∧ (j = e.on ∨ bit b j = true))
  | [], acc, m, h => by
    simp only [maskE, Option.some.injEq] at h; subst h
    exact ⟨by simp, fun _ h => h, fun _ h => .inl h⟩
  | e :: es, acc, m, h => by
    simp only [maskE] at h
    cases hb : Region.binds .any e with
    | false =>
      rw [hb, cond_false] at h
      obtain ⟨h1, h2, h3⟩ := maskE_ok es acc m h
      refine ⟨fun e' he' hb' => ?_, h2, fun j hj => ?_⟩
      · rcases List.mem_cons.1 he' with rfl | he'
        · rw [hb] at hb'; cases hb'
        · exact h1 e' he' hb'
      · rcases h3 j hj with h | ⟨e', he', r⟩
        · exact .inl h
        · exact .inr ⟨e', List.mem_cons_of_mem _ he', r⟩
    | true =>
      rw [hb, cond_true] at h
      cases hlt : Nat.blt e.on i with
      | false => rw [hlt, cond_false] at h; cases h
      | true =>
        rw [hlt, cond_true] at h
        have hlt' : e.on < i := by simpa [Nat.blt_eq] using hlt
        change (match bs[i - 1 - e.on]? with | some b => maskE bs i es (Nat.lor acc (Nat.lor b (Nat.pow 2 e.on))) | none => none) = some m at h
        cases hbs : bs[i - 1 - e.on]? with
        | none => rw [hbs] at h; cases h
        | some b =>
          rw [hbs] at h
          obtain ⟨h1, h2, h3⟩ := maskE_ok es _ m h
          refine ⟨fun e' he' hb' => ?_, fun j hj => h2 j (by rw [bit_or, hj]; rfl), fun j hj => ?_⟩
          · rcases List.mem_cons.1 he' with rfl | he'
            · exact ⟨hlt', b, hbs, h2 _ (by rw [bit_or, bit_or, bit_pow]; simp), fun j hj => h2 j (by rw [bit_or, bit_or, hj]; simp)⟩
            · exact h1 e' he' hb'
          · rcases h3 j hj with h | ⟨e', he', r⟩
            · rw [bit_or, bit_or, bit_pow] at h
              simp only [Bool.or_eq_true, decide_eq_true_eq] at h
              rcases h with h | h | h
              · exact .inl h
              · exact .inr ⟨e, List.mem_cons_self, hb, b, hbs, .inr h⟩
              · exact .inr ⟨e, List.mem_cons_self, hb, b, hbs, .inl h.symm⟩
            · exact .inr ⟨e', List.mem_cons_of_mem _ he', r⟩

theorem apartAll_ok {dst : Option Tmp} {looks : List Tmp} {m : Nat} : ∀ {gs : List Gone}, apartAll dst looks m gs = true → ∀ g ∈ gs, apartG dst looks m g = true
  | [], _, g, hg => by simp at hg
  | g0 :: gs, h, g, hg => by
    simp only [apartAll, Bool.and_eq_true] at h
    rcases List.mem_cons.1 hg with rfl | hg
    · exact h.1
    · exact apartAll_ok h.2 g hg

theorem memN_ok {d : Nat} : ∀ {l : List Nat}, memN d l = false → d ∉ l
  | [], _, h => by simp at h
  | x :: l, hf, h => by
    simp only [memN] at hf
    cases hb : Nat.beq d x with
    | true => rw [hb, cond_true] at hf; cases hf
    | false =>
      rw [hb, cond_false] at hf
      rcases List.mem_cons.1 h with rfl | h
      · simp at hb
      · exact memN_ok hf h

theorem apartG_ok {dst : Option Tmp} {looks : List Tmp} {m : Nat} {g : Gone} (h : apartG dst looks m g = true) :
    (∀ d, dst = some d → g.dst ≠ some d) ∧ (bit m g.i = true ∨ ((∀ d, dst = some d → d ∉ g.looks) ∧ ∀ d, g.dst = some d → d ∉ looks)) := by
  unfold apartG at h
  cases hb : bit m g.i with
  | true =>
    rw [hb, cond_true] at h
    refine ⟨fun d hd hg => ?_, .inl rfl⟩
    rw [hd, hg] at h
    simp at h
  | false =>
    rw [hb, cond_false] at h
    simp only [Bool.and_eq_true] at h
    refine ⟨fun d hd hg => ?_, .inr ⟨fun d hd => ?_, fun d hd => ?_⟩⟩
    · rw [hd, hg] at h
      simp at h
    · have h1 := h.1
      rw [hd] at h1
      simp only [Bool.and_eq_true, Bool.not_eq_true'] at h1
      exact memN_ok h1.1
    · have h2 := h.2
      rw [hd] at h2
      simp only [Bool.not_eq_true'] at h2
      exact memN_ok h2

theorem backOk_ok {m : Nat} {r : Rd} {wr : Nat → Bool} {hb : Nat → LH} {hsL : Nat → List (Nat × LH)} (h0 : hsL 0 = []) (hS : ∀ k, hsL (k + 1) = if wr k = true then (k, hb k) :: hsL k else hsL k) (hcl : ∀ j, bit m j = true → wr j = true → ∀ i, i < j → wr i = true → bit m i = true) :
    ∀ k, backOk E m r (hsL k) = true → ∀ j, j < k → wr j = true → bit m j = false → sameAt E (hb j) r = true
  | 0, _, j, hj, _, _ => by omega
  | k + 1, h, j, hj, hw, hbit => by
    rw [hS] at h
    cases hwk : wr k with
    | false =>
      simp only [hwk, Bool.false_eq_true, if_false] at h
      have : j ≠ k := by rintro rfl; rw [hw] at hwk; cases hwk
      exact backOk_ok h0 hS hcl k h j (by omega) hw hbit
    | true =>
      simp only [hwk, if_true, backOk] at h
      cases hbk : bit m k with
      | true =>
        by_cases hjk : j = k
        · subst hjk; rw [hbk] at hbit; cases hbit
        · have := hcl k hbk hwk j (by omega) hw
          rw [this] at hbit; cases hbit
      | false =>
        rw [hbk, cond_false] at h
        simp only [Bool.and_eq_true] at h
        by_cases hjk : j = k
        · subst hjk; exact h.1
        · exact backOk_ok h0 hS hcl k h.2 j (by omega) hw hbit

theorem forthOk_ok {m : Nat} {h : LH} : ∀ {rs rs' : List Rd}, forthOk E m h rs = some rs' → ∀ r ∈ rs, bit m r.i = false → sameAt E h r = true ∧ r ∈ rs'
  | [], _, _, r, hr, _ => by simp at hr
  | r0 :: rs, rs', hf, r, hr, hbit => by
    simp only [forthOk] at hf
    cases hb0 : bit m r0.i with
    | true =>
      rw [hb0, cond_true] at hf
      rcases List.mem_cons.1 hr with rfl | hr
      · rw [hbit] at hb0; cases hb0
      · exact forthOk_ok hf r hr hbit
    | false =>
      rw [hb0, cond_false] at hf
      cases hs : sameAt E h r0 with
      | false => rw [hs, cond_false] at hf; cases hf
      | true =>
        rw [hs, cond_true] at hf
        cases hrs : forthOk E m h rs with
        | none => rw [hrs] at hf; cases hf
        | some l =>
          rw [hrs] at hf
          simp only [Option.some.injEq] at hf; subst hf
          rcases List.mem_cons.1 hr with rfl | hr
          · exact ⟨hs, List.mem_cons_self⟩
          · obtain ⟨h1, h2⟩ := forthOk_ok hrs r hr hbit
            exact ⟨h1, List.mem_cons_of_mem _ h2⟩


def hsOf (wr : Nat → Bool) (hb : Nat → LH) : Nat → List (Nat × LH)
  | 0 => []
  | k + 1 => if wr k = true then (k, hb k) :: hsOf wr hb k else hsOf wr hb k

theorem hsOf_last {wr : Nat → Bool} {hb : Nat → LH} {m : Nat} : ∀ k, lastOk m (hsOf wr hb k) = true → ∀ j, j < k → wr j = true → ∃ j0, j0 < k ∧ j ≤ j0 ∧ wr j0 = true ∧ bit m j0 = true
  | 0, _, j, hj, _ => by omega
  | k + 1, h, j, hj, hw => by
    simp only [hsOf] at h
    cases hk : wr k with
    | true =>
      simp only [hk, if_true, lastOk] at h
      exact ⟨k, by omega, by omega, hk, h⟩
    | false =>
      simp only [hk, Bool.false_eq_true, if_false] at h
      have : j ≠ k := by rintro rfl; rw [hw] at hk; cases hk
      obtain ⟨j0, h1, h2⟩ := hsOf_last k h j (by omega) hw
      exact ⟨j0, by omega, h2⟩

theorem same_heap {n : Nat} {wr : Nat → Bool} {hb : Nat → LH} (hst : ∀ i, i < n → wr i = false → hb (i + 1) = hb i) {p q : Nat} (hpq : p ≤ q) (hq : q ≤ n) (hno : ∀ j, p ≤ j → j < q → wr j = false) : hb p = hb q := by
  induction q with
  | zero => have : p = 0 := by omega
            rw [this]
  | succ q ih =>
    by_cases he : p = q + 1
    · rw [he]
    · rw [hst q (by omega) (hno q (by omega) (by omega))]
      exact ih (by omega) (by omega) fun j h1 h2 => hno j h1 (by omega)

theorem least_writer {wr : Nat → Bool} : ∀ (n p : Nat), (∃ j, p ≤ j ∧ j < p + n ∧ wr j = true) → ∃ j, p ≤ j ∧ j < p + n ∧ wr j = true ∧ ∀ i, p ≤ i → i < j → wr i = false
  | 0, p, ⟨j, h1, h2, _⟩ => by omega
  | n + 1, p, ⟨j, h1, h2, h3⟩ => by
    cases hp : wr p with
    | true => exact ⟨p, Nat.le_refl _, by omega, hp, fun i h4 h5 => by omega⟩
    | false =>
      have : j ≠ p := by rintro rfl; rw [h3] at hp; cases hp
      obtain ⟨j', a1, a2, a3, a4⟩ := least_writer n (p + 1) ⟨j, by omega, by omega, h3⟩
      refine ⟨j', by omega, by omega, a3, fun i h4 h5 => ?_⟩
      by_cases hi : i = p
      · rw [hi]; exact hp
      · exact a4 i (by omega) h5

theorem last_writer {wr : Nat → Bool} (p : Nat) : ∀ (n : Nat), (∃ j, p ≤ j ∧ j < p + n ∧ wr j = true) → ∃ j, p ≤ j ∧ j < p + n ∧ wr j = true ∧ ∀ i, j < i → i < p + n → wr i = false
  | 0, ⟨j, h1, h2, _⟩ => by omega
  | n + 1, ⟨j, h1, h2, h3⟩ => by
    cases hp : wr (p + n) with
    | true => exact ⟨p + n, by omega, by omega, hp, fun i h4 h5 => by omega⟩
    | false =>
      have : j ≠ p + n := by rintro rfl; rw [h3] at hp; cases hp
      obtain ⟨j', a1, a2, a3, a4⟩ := last_writer p n ⟨j, h1, by omega, h3⟩
      refine ⟨j', a1, by omega, a3, fun i h4 h5 => ?_⟩
      by_cases hi : i = p + n
      · rw [hi]; exact hp
      · exact a4 i h4 (by omega)

theorem plan_of_seq {ro : Option Nat} {nt : Nat} {ops : Array Oper} {s : St} {f : Nat → St × Dr} {m : Nat → Nat} {v : Nat → LV} {wr : Nat → Bool} {mk : Nat → Option (LObj × MV)} {ab : Nat → List Pd} (h0 : f 0 = (⟨s.t, ⟨s.h.m, s.h.nx + ops.size, s.h.lo⟩, s.d⟩, ⟨0, [], [], [], [], s.h.nx, []⟩))
    (hst' : ∀ k o, ops.toList[k]? = some o → DStep E P ro nt ops o (f k).1 (f k).2 (f (k + 1)).1 (f (k + 1)).2 (m k) (v k) (wr k) (mk k) (ab k)) (hout : ∀ k, ops.toList[k]? = none → mk k = none ∧ ab k = []) :
    Plan E P ro nt ops s ⟨(f ops.size).1.t, layP (f ops.size).2.pl (f ops.size).1.h, (f ops.size).1.d⟩ m (fun k => (f k).1.t) (fun k => (f k).1.h) v wr mk ab (f ops.size).2.pl := by
  have st : ∀ k o, ops[k]? = some o → DStep E P ro nt ops o (f k).1 (f k).2 (f (k + 1)).1 (f (k + 1)).2 (m k) (v k) (wr k) (mk k) (ab k) := fun k o ho => hst' k o (by simpa using ho)
  have lt : ∀ {k : Nat} {o : Oper}, ops[k]? = some o → k < ops.size := fun ho => (Array.getElem?_eq_some_iff.1 ho).1
  have at_ : ∀ k, k < ops.size → ∃ o, ops[k]? = some o := fun k hk => ⟨ops[k], Array.getElem?_eq_getElem hk⟩
  have Hi : ∀ k, k ≤ ops.size → (f k).2.i = k := by
    intro k
    induction k with
    | zero => intro _; rw [h0]
    | succ k ih => intro hk; obtain ⟨o, ho⟩ := at_ k (by omega); rw [(st k o ho).i, ih (by omega)]
  have Hbs : ∀ k, k ≤ ops.size → ∀ j, j < k → (f k).2.bs[k - 1 - j]? = some (m j) := by
    intro k
    induction k with
    | zero => intro _ j hj; omega
    | succ k ih =>
      intro hk j hj
      obtain ⟨o, ho⟩ := at_ k (by omega)
      rw [(st k o ho).bs]
      by_cases hjk : j = k
      · subst hjk
        rw [show j + 1 - 1 - j = 0 by omega]; rfl
      · rw [show k + 1 - 1 - j = (k - 1 - j) + 1 by omega, List.getElem?_cons_succ]
        exact ih (by omega) j (by omega)
  have Hgs : ∀ k, k ≤ ops.size → ∀ j oj, j < k → ops[j]? = some oj → (⟨j, oj.dst, oj.looksAt ops, m j⟩ : Gone) ∈ (f k).2.gs := by
    intro k
    induction k with
    | zero => intro _ j oj hj; omega
    | succ k ih =>
      intro hk j oj hj hoj
      obtain ⟨o, ho⟩ := at_ k (by omega)
      rw [(st k o ho).gs, Hi k (by omega)]
      by_cases hjk : j = k
      · subst hjk
        rw [ho] at hoj; cases hoj
        exact List.mem_cons_self
      · exact List.mem_cons_of_mem _ (ih (by omega) j oj (by omega) hoj)
  have Hhs : ∀ k, k ≤ ops.size → (f k).2.hs = hsOf wr (fun k => (f k).1.h) k := by
    intro k
    induction k with
    | zero => intro _; rw [h0]; rfl
    | succ k ih =>
      intro hk
      obtain ⟨o, ho⟩ := at_ k (by omega)
      rcases (st k o ho).how with ⟨_, _, hw, _, hh, _⟩ | ⟨_, hw, _, _, _, _, hh, _⟩ | ⟨_, hw, _, _, hh, _⟩ | ⟨_, hw, _, hh, _⟩
      · rw [hh, ih (by omega)]; simp [hsOf, hw]
      · rw [hh, ih (by omega)]; simp [hsOf, hw]
      · rw [hh, ih (by omega), Hi k (by omega)]; simp [hsOf, hw]
      · rw [hh, ih (by omega)]; simp [hsOf, hw]
  have M1 : ∀ k o, ops[k]? = some o → ∀ e ∈ o.after, Region.binds .any e = true → e.on < k ∧ bit (m k) e.on = true ∧ ∀ j, bit (m e.on) j = true → bit (m k) j = true := by
    intro k o ho e he hb
    have hk := lt ho
    obtain ⟨h1, _, _⟩ := maskE_ok _ _ _ (st k o ho).msk
    obtain ⟨a1, b, a2, a3, a4⟩ := h1 e (by simpa using he) hb
    rw [Hi k (by omega)] at a1 a2
    rw [Hbs k (by omega) e.on a1] at a2
    cases a2
    exact ⟨a1, a3, a4⟩
  have M2 : ∀ k o, ops[k]? = some o → ∀ j, bit (m k) j = true → ∃ e ∈ o.after, Region.binds .any e = true ∧ (j = e.on ∨ bit (m e.on) j = true) := by
    intro k o ho j hj
    have hk := lt ho
    obtain ⟨h1, _, h3⟩ := maskE_ok _ _ _ (st k o ho).msk
    rcases h3 j hj with h | ⟨e, he, hb, b, hbs, hor⟩
    · rw [bit_zero] at h; cases h
    · obtain ⟨a1, _⟩ := h1 e he hb
      rw [Hi k (by omega)] at a1 hbs
      rw [Hbs k (by omega) e.on a1] at hbs
      cases hbs
      exact ⟨e, by simpa using he, hb, hor⟩
  have below : ∀ k j, k < ops.size → bit (m k) j = true → j < k := by
    intro k
    induction k using Nat.strongRecOn with
    | _ k ih =>
      intro j hk hj
      obtain ⟨o, ho⟩ := at_ k hk
      obtain ⟨e, he, hb, hor⟩ := M2 k o ho j hj
      obtain ⟨a1, _, _⟩ := M1 k o ho e he hb
      rcases hor with rfl | hor
      · exact a1
      · exact Nat.lt_trans (ih e.on a1 j (by omega) hor) a1
  have trans : ∀ k, k < ops.size → ∀ j i, bit (m k) j = true → bit (m j) i = true → bit (m k) i = true := by
    intro k
    induction k using Nat.strongRecOn with
    | _ k ih =>
      intro hk j i hj hji
      obtain ⟨o, ho⟩ := at_ k hk
      obtain ⟨e, he, hb, hor⟩ := M2 k o ho j hj
      obtain ⟨a1, a2, a3⟩ := M1 k o ho e he hb
      rcases hor with rfl | hor
      · exact a3 i hji
      · exact a3 i (ih e.on a1 (by omega) j i hor hji)
  have ap : ∀ j k oj ok, j < k → ops[j]? = some oj → ops[k]? = some ok → (∀ d, ok.dst = some d → oj.dst ≠ some d) ∧ (bit (m k) j = true ∨ ((∀ d, ok.dst = some d → d ∉ oj.looksAt ops) ∧ ∀ d, oj.dst = some d → d ∉ ok.looksAt ops)) := by
    intro j k oj ok hjk hoj hok
    exact apartG_ok (apartAll_ok (st k ok hok).ap _ (Hgs k (Nat.le_of_lt (lt hok)) j oj hjk hoj))
  have chain : ∀ k, k < ops.size → wr k = true → ∀ j, j < k → wr j = true → bit (m k) j = true := by
    intro k
    induction k using Nat.strongRecOn with
    | _ k ih =>
      intro hk hwk j hj hwj
      obtain ⟨o, ho⟩ := at_ k hk
      have hl : lastOk (m k) (f k).2.hs = true := by
        rcases (st k o ho).how with ⟨_, _, hw, _⟩ | ⟨_, hw, _⟩ | ⟨_, _, _, hl, _⟩ | ⟨_, hw, _⟩
        · rw [hwk] at hw; cases hw
        · rw [hwk] at hw; cases hw
        · exact hl
        · rw [hwk] at hw; cases hw
      rw [Hhs k (by omega)] at hl
      obtain ⟨j0, b1, b2, b3, b4⟩ := hsOf_last k hl j hj hwj
      by_cases hjj : j = j0
      · subst hjj; exact b4
      · exact trans k hk j0 j b4 (ih j0 b1 (by omega) b3 j (by omega) hwj)
  have still : ∀ i, i < ops.size → wr i = false → (f (i + 1)).1.h = (f i).1.h := by
    intro i hi hw
    obtain ⟨o, ho⟩ := at_ i hi
    rcases (st i o ho).how with ⟨_, _, _, hh, _⟩ | ⟨_, _, hh, _⟩ | ⟨_, hw', _⟩ | ⟨_, _, hh, _⟩
    · exact hh
    · exact hh
    · rw [hw] at hw'; cases hw'
    · exact hh
  -- the pool, as it stands in the text's order
  have Hnb : ∀ k, k ≤ ops.size → (f k).2.nb = s.h.nx := by
    intro k
    induction k with
    | zero => intro _; rw [h0]
    | succ k ih => intro hk; obtain ⟨o, ho⟩ := at_ k (by omega); rw [(st k o ho).nb, ih (by omega)]
  have mkw : ∀ i p, mk i = some p → wr i = false := by
    intro i p hi
    cases ho : ops[i]? with
    | none => have := (hout i (by simpa using ho)).1; rw [hi] at this; cases this
    | some o =>
      rcases (st i o ho).how with ⟨_, _, hw, _⟩ | ⟨_, hw, _⟩ | ⟨_, _, _, _, _, _, hm, _⟩ | ⟨_, hw, _⟩
      · exact hw
      · exact hw
      · rw [hi] at hm; cases hm
      · exact hw
  have absub : ∀ k, k < ops.size → (ab k).Sublist (f k).2.pl ∧ ∀ q ∈ ab k, bit (m k) q.i = true := by
    intro k hk
    obtain ⟨o, ho⟩ := at_ k hk
    rcases (st k o ho).how with ⟨_, _, _, _, _, _, _, ha, _⟩ | ⟨_, _, _, _, _, _, _, _, _, ha, _⟩ | ⟨_, _, _, _, _, _, _, hs, _, hb⟩ | ⟨_, _, _, _, _, ha, _⟩
    · rw [ha]; exact ⟨List.nil_sublist _, by simp⟩
    · rw [ha]; exact ⟨List.nil_sublist _, by simp⟩
    · exact ⟨hs, fun q hq => (hb q hq).1⟩
    · rw [ha]; exact ⟨List.nil_sublist _, by simp⟩
  have Hpl : ∀ k, k ≤ ops.size → (∀ q ∈ (f k).2.pl, q.i < k ∧ q.r = s.h.nx + q.i ∧ (∃ mv, mk q.i = some (q.ob, mv)) ∧ ∀ j, j < k → wr j = true → q ∉ ab j) ∧ (f k).2.pl.Pairwise fun q q' => q.i ≠ q'.i := by
    intro k
    induction k with
    | zero => intro _; rw [h0]; exact ⟨by simp, List.Pairwise.nil⟩
    | succ k ih =>
      intro hk
      obtain ⟨h1, h2⟩ := ih (by omega)
      obtain ⟨o, ho⟩ := at_ k (by omega)
      have keep : wr k = false → ∀ q ∈ (f k).2.pl, q.i < k + 1 ∧ q.r = s.h.nx + q.i ∧ (∃ mv, mk q.i = some (q.ob, mv)) ∧ ∀ j, j < k + 1 → wr j = true → q ∉ ab j := by
        intro hw q hq
        obtain ⟨a1, a2, a3, a4⟩ := h1 q hq
        refine ⟨by omega, a2, a3, fun j hj hwj => a4 j ?_ hwj⟩
        have : j ≠ k := by rintro rfl; rw [hw] at hwj; cases hwj
        omega
      rcases (st k o ho).how with ⟨_, _, hw, _, _, _, _, _, hp⟩ | ⟨_, hw, _, _, _, _, _, _, _, _, hp⟩ | ⟨_, hw, _, _, _, _, _, _, hs, hb⟩ | ⟨_, hw, _, _, _, _, ob, mv, hmk, _, _, _, hp⟩
      · rw [hp]; exact ⟨keep hw, h2⟩
      · rw [hp]; exact ⟨keep hw, h2⟩
      · refine ⟨fun q hq => ?_, h2.sublist hs⟩
        obtain ⟨a1, a2, a3, a4⟩ := h1 q (hs.subset hq)
        refine ⟨by omega, a2, a3, fun j hj hwj hin => ?_⟩
        by_cases hjk : j = k
        · subst hjk; exact (hb q hin).2 hq
        · exact a4 j (by omega) hwj hin
      · rw [hp]
        refine ⟨fun q hq => ?_, List.pairwise_cons.2 ⟨fun q hq => ?_, h2⟩⟩
        · rcases List.mem_cons.1 hq with rfl | hq
          · refine ⟨by rw [Hi k (by omega)]; exact Nat.lt_succ_self _, by rw [Hi k (by omega), Hnb k (by omega)], ⟨mv, by rw [Hi k (by omega)]; exact hmk⟩, fun j hj hwj hin => ?_⟩
            have hjk : j ≠ k := by rintro rfl; rw [hw] at hwj; cases hwj
            have hjN : j < ops.size := by omega
            have hlt := below j _ hjN ((absub j hjN).2 _ hin)
            simp only [Hi k (by omega)] at hlt
            omega
          · exact keep hw q hq
        · have := (h1 q hq).1
          simp only [Hi k (by omega)]
          omega
  have uniq : ∀ (i k : Nat) (oi ok : Oper) (d : Tmp), ops[i]? = some oi → ops[k]? = some ok → oi.dst = some d → ok.dst = some d → i = k := by
    intro i k oi ok d hoi hok hdi hdk
    rcases Nat.lt_trichotomy i k with h | h | h
    · exact absurd hdi ((ap i k oi ok h hoi hok).1 d hdk)
    · exact h
    · exact absurd hdk ((ap k i ok oi h hok hoi).1 d hdi)
  have getp : ∀ k o, ops[k]? = some o → (∀ d, o.dst = some d → d < nt ∧ (f (k + 1)).1.t.get d = some (v k)) ∧ ∀ d, o.dst ≠ some d → (f (k + 1)).1.t.get d = (f k).1.t.get d := by
    intro k o ho
    have hp := (st k o ho).pt
    cases hd : o.dst with
    | none =>
      rw [hd] at hp
      simp only [put, Option.some.injEq] at hp
      exact ⟨fun d h => (by cases h), fun d _ => by rw [← hp]⟩
    | some d =>
      rw [hd] at hp
      simp only [put] at hp
      cases hb : Nat.blt d nt with
      | false => simp [hb] at hp
      | true =>
        simp only [hb, cond_true, LV.force_eq, T.force_eq, Option.some.injEq] at hp
        refine ⟨fun d' h => ?_, fun d' h => ?_⟩
        · cases h
          exact ⟨by simpa [Nat.blt_eq] using hb, by rw [← hp, T.get_set, if_pos rfl]⟩
        · rw [← hp, T.get_set, if_neg]
          rintro rfl; exact h rfl
  -- a reader, until a writer is bound to come behind it, is kept
  have kept : ∀ i o, ops[i]? = some o → wanted ops (f i).1.t o = true → wr i = false → mk i = none → ∀ k, i < k → k ≤ ops.size → (∀ j, j < k → wr j = true → i < j → bit (m j) i = false) → (⟨i, o, (f i).1.t, v i⟩ : Rd) ∈ (f k).2.rs := by
    intro i o ho hw hwi hmi k
    induction k with
    | zero => intro h; omega
    | succ k ih =>
      intro hik hk hno
      obtain ⟨ok, hok⟩ := at_ k (by omega)
      by_cases hki : k = i
      · subst hki
        rw [ho] at hok; cases hok
        rcases (st k o ho).how with ⟨hw', _⟩ | ⟨_, _, _, _, _, _, _, hr, _⟩ | ⟨_, hw', _⟩ | ⟨_, _, _, _, _, _, ob, mv, hm', _⟩
        · rw [hw] at hw'; cases hw'
        · rw [hr, Hi k (by omega)]; exact List.mem_cons_self
        · rw [hwi] at hw'; cases hw'
        · rw [hmi] at hm'; cases hm'
      · have hin := ih (by omega) (by omega) fun j hj => hno j (by omega)
        rcases (st k ok hok).how with ⟨_, _, _, _, _, hr, _⟩ | ⟨_, _, _, _, _, _, _, hr, _⟩ | ⟨_, hwk, _, _, _, hr, _⟩ | ⟨_, _, _, _, hr, _⟩
        · rw [hr]; exact hin
        · rw [hr]; exact List.mem_cons_of_mem _ hin
        · exact (forthOk_ok hr _ hin (hno k (by omega) hwk (by omega))).2
        · rw [hr]; exact hin
  refine ⟨fun k o ho e he hb => (M1 k o ho e he hb).1, M2, below, ?_, uniq, ?_, ?_, fun k o d ho hd => ((getp k o ho).1 d hd).1, fun j k hjk hk hj hk' => chain k hk hk' j hjk hj, still, by rw [h0], rfl,
    fun j q hj hq => ⟨(absub j hj).2 q hq, ((Hpl j (by omega)).1 q ((absub j hj).1.subset hq)).2.2.1, ((Hpl j (by omega)).1 q ((absub j hj).1.subset hq)).2.1, ((Hpl j (by omega)).1 q ((absub j hj).1.subset hq)).2.2.2⟩,
    fun q hq => ⟨((Hpl _ (Nat.le_refl _)).1 q hq).2.2.1, ((Hpl _ (Nat.le_refl _)).1 q hq).2.1, ((Hpl _ (Nat.le_refl _)).1 q hq).1, ((Hpl _ (Nat.le_refl _)).1 q hq).2.2.2⟩,
    fun j => ?_, (Hpl _ (Nat.le_refl _)).2, mkw, fun i o ob mv ho hm => ?_, rfl, ?_, ?_, ?_, ?_⟩
  · intro i k oi ok d hoi hok hik hd hdk
    rcases Nat.lt_trichotomy i k with h | h | h
    · rcases (ap i k oi ok h hoi hok).2 with h1 | h1
      · exact .inr h1
      · exact absurd hd (h1.1 d hdk)
    · exact absurd h hik
    · rcases (ap k i ok oi h hok hoi).2 with h1 | h1
      · exact .inl h1
      · exact absurd hd (h1.2 d hdk)
  · intro i
    induction i with
    | zero => intro _ k o d hk; omega
    | succ i ih =>
      intro hi k o d hk ho hd
      obtain ⟨oi, hoi⟩ := at_ i (by omega)
      by_cases hki : k = i
      · subst hki; exact ((getp k o ho).1 d hd).2
      · show (f (i + 1)).1.t.get d = _
        rw [(getp i oi hoi).2 d fun hdi => hki (uniq k i o oi d ho hoi hd hdi)]
        exact ih (by omega) k o d (by omega) ho hd
  · intro i
    induction i with
    | zero => intro _ d _; show (f 0).1.t.get d = _; rw [h0]
    | succ i ih =>
      intro hi d hno
      obtain ⟨oi, hoi⟩ := at_ i (by omega)
      show (f (i + 1)).1.t.get d = _
      rw [(getp i oi hoi).2 d (hno i oi (by omega) hoi)]
      exact ih (by omega) d fun k o hk => hno k o (by omega)
  · show (ab j).Pairwise _
    cases ho : ops[j]? with
    | none => rw [(hout j (by simpa using ho)).2]; exact List.Pairwise.nil
    | some o => exact (Hpl j (Nat.le_of_lt (lt ho))).2.sublist (absub j (lt ho)).1
  · rcases (st i o ho).how with ⟨_, _, _, _, _, _, hm', _⟩ | ⟨_, _, _, _, _, _, _, _, hm', _⟩ | ⟨_, _, _, _, _, _, hm', _⟩ | ⟨hw, _, _, _, _, _, ob', mv', hm', hmk, hmo, hv, _⟩
    · rw [hm] at hm'; cases hm'
    · rw [hm] at hm'; cases hm'
    · rw [hm] at hm'; cases hm'
    · rw [hm] at hm'; cases hm'
      have hi := lt ho
      refine ⟨hw, by rw [hv, Hi i (by omega), Hnb i (by omega)], fun t hag => ⟨?_, isMake_noDefer hmk⟩⟩
      rw [← makeOf_congr hag]; exact hmo
  · have : ∀ k, k ≤ ops.size → (f k).1.d = s.d := by
      intro k
      induction k with
      | zero => intro _; rw [h0]
      | succ k ih => intro hk; obtain ⟨o, ho⟩ := at_ k (by omega); rw [(st k o ho).d, ih (by omega)]
    exact this _ (Nat.le_refl _)
  · intro i o ho hw
    rcases (st i o ho).how with ⟨_, hv, hwi, _, _, _, hmi, _⟩ | ⟨hw', _⟩ | ⟨hw', _⟩ | ⟨hw', _⟩
    · exact ⟨hv, hwi, hmi⟩
    · rw [hw] at hw'; cases hw'
    · rw [hw] at hw'; cases hw'
    · rw [hw] at hw'; cases hw'
  · intro i o ho hw hwi t hag
    rcases (st i o ho).how with ⟨hw', _⟩ | ⟨_, hw', _⟩ | ⟨_, _, hop, _⟩ | ⟨_, hw', _⟩
    · rw [hw] at hw'; cases hw'
    · rw [hwi] at hw'; cases hw'
    · exact hop t hag
    · rw [hwi] at hw'; cases hw'
  · intro i o ho hw hwi hmi p hp hlo hhi
    have hiN := lt ho
    rcases (st i o ho).how with ⟨hw', _⟩ | ⟨_, _, _, hcall, hstep, hback, _⟩ | ⟨_, hw', _⟩ | ⟨_, _, _, _, _, _, ob, mv, hm', _⟩
    · rw [hw] at hw'; cases hw'
    · rw [Hi i (by omega), Hhs i (by omega)] at hback
      rcases Nat.lt_or_ge i p with hip | hip
      · -- behind it
        by_cases hex : ∃ j, i ≤ j ∧ j < i + (p - i) ∧ wr j = true
        · obtain ⟨k, a1, a2, a3, a4⟩ := last_writer i (p - i) hex
          have hki : k ≠ i := by rintro rfl; rw [hwi] at a3; cases a3
          have hkN : k < ops.size := by omega
          obtain ⟨ok, hok⟩ := at_ k hkN
          have hnb : bit (m k) i = false := by
            cases hb : bit (m k) i with
            | false => rfl
            | true => have := hhi k hkN a3 hb; omega
          have hin := kept i o ho hw hwi hmi k (by omega) (by omega) fun j hj hwj hij => by
            cases hb : bit (m j) i with
            | false => rfl
            | true =>
              have := trans k hkN j i (chain k hkN a3 j hj hwj) hb
              rw [hnb] at this; cases this
          have hsame : sameAt E (f (k + 1)).1.h ⟨i, o, (f i).1.t, v i⟩ = true := by
            rcases (st k ok hok).how with ⟨_, _, hw', _⟩ | ⟨_, hw', _⟩ | ⟨_, _, _, _, _, hf, _⟩ | ⟨_, hw', _⟩
            · rw [a3] at hw'; cases hw'
            · rw [a3] at hw'; cases hw'
            · exact (forthOk_ok hf _ hin hnb).1
            · rw [a3] at hw'; cases hw'
          have hhp : (f (k + 1)).1.h = (f p).1.h := same_heap (hb := fun k => (f k).1.h) still (by omega) hp fun j b1 b2 => a4 j (by omega) (by omega)
          have := sameAt_ok (r := ⟨i, o, (f i).1.t, v i⟩) hcall hsame
          rw [hhp] at this
          exact this
        · have hhp : (f i).1.h = (f p).1.h := same_heap (hb := fun k => (f k).1.h) still (by omega) hp fun j b1 b2 => by
            cases hwj : wr j with
            | false => rfl
            | true => exact absurd ⟨j, b1, by omega, hwj⟩ hex
          show step1 E (f p).1.h (f i).1.t o.op = some (v i, (f p).1.h)
          rw [← hhp]; exact hstep
      · -- ahead of it
        by_cases hex : ∃ j, p ≤ j ∧ j < p + (i - p) ∧ wr j = true
        · obtain ⟨k, a1, a2, a3, a4⟩ := least_writer (i - p) p hex
          have hki : k < i := by omega
          have hnb : bit (m i) k = false := by
            cases hb : bit (m i) k with
            | false => rfl
            | true => have := hlo k (by omega) a3 hb; omega
          have hsame := backOk_ok (E := E) (wr := wr) (hb := fun k => (f k).1.h) (hsL := hsOf wr (fun k => (f k).1.h)) rfl (fun k => rfl) (fun j hj hwj i' hi' hwi' => trans i hiN j i' hj (chain j (by have := below i j hiN hj; omega) hwj i' hi' hwi')) i hback k hki a3 hnb
          have hhp : (f p).1.h = (f k).1.h := same_heap (hb := fun k => (f k).1.h) still a1 (by omega) fun j b1 b2 => a4 j b1 b2
          have := sameAt_ok (r := ⟨i, o, (f i).1.t, v i⟩) hcall hsame
          show step1 E (f p).1.h (f i).1.t o.op = some (v i, (f p).1.h)
          rw [hhp]; exact this
        · have hhp : (f p).1.h = (f i).1.h := same_heap (hb := fun k => (f k).1.h) still hip (by omega) fun j b1 b2 => by
            cases hwj : wr j with
            | false => rfl
            | true => exact absurd ⟨j, b1, by omega, hwj⟩ hex
          show step1 E (f p).1.h (f i).1.t o.op = some (v i, (f p).1.h)
          rw [hhp]; exact hstep
    · rw [hwi] at hw'; cases hw'
    · rw [hmi] at hm'; cases hm'

theorem draws_ok (hT : Tabs E P) : DrawsOk E P := by
  intro rec hrec ro nt id ops s
  unfold drawR
  rw [fNat_eq]
  rcases drawsS_seq hT hrec ro nt ops ops.toList ⟨s.t, ⟨s.h.m, Nat.add s.h.nx ops.size, s.h.lo⟩, s.d⟩ ⟨0, [], [], [], [], s.h.nx, []⟩ with h0 | ⟨f, m, v, wr, mk, ab, h1, h2, h3, h4⟩
  · rw [h0]; trivial
  · rw [Array.length_toList] at h4
    rw [h4]
    have pl := plan_of_seq h1 h2 h3
    exact ⟨fun φ w0 w a F hro hs ht hm => plan_ok hT hro pl hs ht hm Left.code, trivial⟩

/-- **the evaluator's answers are the model's** -/
theorem ev_ok (hT : Tabs E P) (hO : OracOk E P) (n : Nat) (task : Task) : TaskOk E P task (run E n task) := run_ok hT (draws_ok hT) hO n task

end Go.Ev
