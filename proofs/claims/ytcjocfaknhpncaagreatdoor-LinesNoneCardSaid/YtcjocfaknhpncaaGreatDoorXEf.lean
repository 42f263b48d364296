/- Operands, equality, operators: what the evaluator answers is what the model's operation answers. -/
/- Operators: '==' at whatever type, arithmetic, texts. -/
import Derived.Test.YtcjocfaknhpncaaGreatDoorXEc
namespace Go.Ev
open Go Go.RowKit

structure Tabs (E : Env) (P : Program) : Prop where
  mixed : P.follows .mixedOrders = true
  funcs : ∀ k fn, E.funcs.get k = some fn → P.funcs[k]? = some fn ∧ (fn.name == "runtime.NumGoroutine") = false
  types : ∀ t i, E.types.get t = some i → P.info? t = some i
  flat : ∀ t, (E.flat.get t).isSome = true → P.stoodInHeld t = false ∧ P.eqGuardType P.depth t = false ∧ ∀ fs, P.underlying t = some (.struct fs) → ∀ f ∈ fs, f.name ≠ "_"

/-- the first numbers are the program's variables -/
def Glob (φ : Phi) (ng : Nat) : Prop := ∀ g, g < ng → ∃ k, φ g = some k ∧ k.R = g ∧ k.o = 0
theorem Glob.mono {φ ψ : Phi} (h : Le φ ψ) {ng : Nat} (hg : Glob φ ng) : Glob ψ ng := fun g hl => let ⟨k, a, b, c⟩ := hg g hl; ⟨k, h _ _ a, b, c⟩

variable {E : Env} {P : Program} {φ : Phi}

theorem desc_ok (hT : Tabs E P) {t : TypeId} {d : TypeDesc} (h : desc E t = some d) : P.underlying t = some d := by
  unfold desc at h
  cases ht : E.types.get t with
  | none => simp [ht] at h
  | some i =>
    have hi := hT.types t i ht
    rw [ht] at h
    obtain ⟨de, _, _, _, _, _, _, _, _, _⟩ := i
    simp only at h
    unfold Program.underlying
    rw [hi]
    cases de
    case named n u =>
      simp only at h ⊢
      cases hu : E.types.get u with
      | none => simp [hu] at h
      | some j => rw [hu] at h; rw [hT.types u j hu]; simpa using h
    all_goals simpa using h

theorem sizeOf_info (hT : Tabs E P) {t : TypeId} {n : Nat} (h : sizeOf E t = some n) : ∃ i, P.info? t = some i ∧ i.size = n := by
  unfold sizeOf at h
  cases ht : E.types.get t with
  | none => simp [ht] at h
  | some i => rw [ht] at h; exact ⟨i, hT.types t i ht, by simpa using h⟩

theorem sizeOf_run (hT : Tabs E P) {t : TypeId} {n : Nat} (h : sizeOf E t = some n) (w : World) : (Go.sizeOf t).run P w = .ok n w := by
  obtain ⟨i, hi, rfl⟩ := sizeOf_info hT h
  simp [Go.sizeOf, typeInfo, hi]

mutual
theorem ofV_inst (φ : Phi) : ∀ (v : Value) (l : LV), ofV v = some l → inst φ l = some v
  | .bool _, _, h => by simp only [ofV, Option.some.injEq] at h; subst h; rfl
  | .int _ _, _, h => by simp only [ofV, Option.some.injEq] at h; subst h; rfl
  | .string s, _, h => by simp only [ofV, Option.some.injEq] at h; subst h; obtain ⟨⟨l⟩⟩ := s; rfl
  | .pointer none, _, h => by simp only [ofV, Option.some.injEq] at h; subst h; rfl
  | .pointer (some _), _, h => by simp [ofV] at h
  | .slice none 0 0, _, h => by simp only [ofV, Option.some.injEq] at h; subst h; simp [inst]
  | .slice none 0 (_ + 1), _, h => by simp [ofV] at h
  | .slice none (_ + 1) _, _, h => by simp [ofV] at h
  | .slice (some _) _ _, _, h => by simp [ofV] at h
  | .map none, _, h => by simp only [ofV, Option.some.injEq] at h; subst h; rfl
  | .map (some _), _, h => by simp [ofV] at h
  | .nilFunc, _, h => by simp only [ofV, Option.some.injEq] at h; subst h; rfl
  | .iface t v, l, h => by
    simp only [ofV] at h
    cases hv : ofV v with
    | none => simp [hv] at h
    | some v' => simp only [hv, Option.some.injEq] at h; subst h; simp [inst, ofV_inst φ v v' hv]
  | .nilIface, _, h => by simp only [ofV, Option.some.injEq] at h; subst h; rfl
  | .agg ⟨cs⟩, l, h => by
    simp only [ofV] at h
    cases hv : ofVs cs with
    | none => simp [hv] at h
    | some v' => simp only [hv, Option.some.injEq] at h; subst h; simp [inst, ofVs_inst φ cs v' hv]
  | .tuple ⟨cs⟩, l, h => by
    simp only [ofV] at h
    cases hv : ofVs cs with
    | none => simp [hv] at h
    | some v' => simp only [hv, Option.some.injEq] at h; subst h; simp [inst, ofVs_inst φ cs v' hv]
  | .float _ _, _, h => by simp [ofV] at h
  | .complex _ _ _, _, h => by simp [ofV] at h
  | .chan _, _, h => by simp [ofV] at h
  | .func _ _ _, _, h => by simp [ofV] at h
theorem ofVs_inst (φ : Phi) : ∀ (v : List Value) (l : List LV), ofVs v = some l → insts φ l = some v
  | [], l, h => by simp only [ofVs, Option.some.injEq] at h; subst h; rfl
  | v :: vs, l, h => by
    simp only [ofVs] at h
    cases hv : ofV v with
    | none => simp [hv] at h
    | some v' =>
      cases hvs : ofVs vs with
      | none => simp [hv, hvs] at h
      | some vs' =>
        simp only [hv, hvs, Option.some.injEq] at h
        subst h
        exact insts_cons.2 ⟨v, vs, ofV_inst φ v v' hv, ofVs_inst φ vs vs' hvs, rfl⟩
end

theorem zeroCells_ok (hT : Tabs E P) {t : TypeId} {z : List LV} (h : zeroCells E t = some z) :
    ∃ i v, P.info? t = some i ∧ i.zero = some v ∧ i.bytes ≤ 4096 ∧ insts φ z = some v.cells.toList := by
  unfold zeroCells at h
  cases ht : E.types.get t with
  | none => simp [ht] at h
  | some i =>
    rw [ht] at h
    simp only at h
    cases hb : Nat.ble i.bytes 4096 with
    | false => simp [hb] at h
    | true =>
      simp only [hb, cond_true] at h
      cases hz : i.zero with
      | none => simp [hz] at h
      | some v =>
        refine ⟨i, v, hT.types t i ht, hz, Nat.le_of_ble_eq_true hb, ?_⟩
        rw [hz] at h
        by_cases hv : ∃ cs, v = .agg cs
        · obtain ⟨⟨cs⟩, rfl⟩ := hv
          simpa [Value.cells] using ofVs_inst φ cs z h
        · have hc : v.cells = #[v] := by cases v <;> first | rfl | exact absurd ⟨_, rfl⟩ hv
          rw [hc]
          have h' : (match ofV v with | some v => some [v] | none => none) = some z := by
            revert h
            cases v <;> first | exact fun h => h | exact absurd ⟨_, rfl⟩ hv
          cases ho : ofV v with
          | none => simp [ho] at h'
          | some l => simp only [ho, Option.some.injEq] at h'; subst h'; simp [insts, ofV_inst φ v l ho]

theorem evalO_ok {nt : Nat} {t : T LV} {a : Act} (ht : TmpsRel φ nt t a.tmps) (hg : Glob φ E.ng) {x : Operand} {v : LV} (h : evalO E t x = some v) : inst φ v = some (a.eval x) := by
  cases x with
  | tmp i =>
    simp only [evalO] at h
    cases hi : t.get i with
    | none =>
      simp only [hi, Option.some.injEq] at h
      subst h
      show inst φ (.tup []) = some (a.tmps.getD i undef)
      rw [ht.none i hi]; rfl
    | some u =>
      simp only [hi, Option.some.injEq] at h
      subst h
      obtain ⟨y, h1, h2⟩ := ht.some i u hi
      rw [h2]
      show some y = some (a.tmps.getD i undef)
      simp [Array.getD_eq_getD_getElem?, h1]
  | const c => exact ofV_inst φ c v h
  | global g =>
    simp only [evalO] at h
    cases hb : Nat.blt g E.ng with
    | false => simp [hb] at h
    | true =>
      simp only [hb, cond_true, Option.some.injEq] at h
      subst h
      obtain ⟨k, h1, h2, h3⟩ := hg g (by simpa [Nat.blt_eq] using hb)
      simp [inst, h1, h2, h3, Act.eval]
  | func f => simp only [evalO, Option.some.injEq] at h; subst h; rfl

theorem evalOs_ok {nt : Nat} {t : T LV} {a : Act} (ht : TmpsRel φ nt t a.tmps) (hg : Glob φ E.ng) : ∀ {xs : List Operand} {vs : List LV}, evalOs E t xs = some vs → insts φ vs = some (xs.map a.eval)
  | [], vs, h => by simp only [evalOs, Option.some.injEq] at h; subst h; rfl
  | x :: xs, vs, h => by
    simp only [evalOs, obind_some, Option.some.injEq] at h
    obtain ⟨v, hv, r, hr, rfl⟩ := h
    exact insts_cons.2 ⟨_, _, evalO_ok ht hg hv, evalOs_ok ht hg hr, rfl⟩

def instPs (φ : Phi) : List (Nat × LV) → List (Nat × Value) → Prop
  | [], xs => xs = []
  | (i, v) :: l, xs => ∃ x r, inst φ v = some x ∧ xs = (i, x) :: r ∧ instPs φ l r

theorem evalP_ok {nt : Nat} {t : T LV} {a : Act} (ht : TmpsRel φ nt t a.tmps) (hg : Glob φ E.ng) : ∀ {xs : List (Nat × Operand)} {vs : List (Nat × LV)}, evalP E t xs = some vs → instPs φ vs (xs.map fun p => (p.1, a.eval p.2))
  | [], vs, h => by simp only [evalP, Option.some.injEq] at h; subst h; rfl
  | (i, x) :: xs, vs, h => by
    simp only [evalP, obind_some, Option.some.injEq] at h
    obtain ⟨v, hv, r, hr, rfl⟩ := h
    exact ⟨_, _, evalO_ok ht hg hv, rfl, evalP_ok ht hg hr⟩

theorem eqL_eq : ∀ (a b : List UInt8), eqL a b = (a == b)
  | [], [] => rfl
  | [], _ :: _ => rfl
  | _ :: _, [] => rfl
  | a :: x, b :: y => by
    have hab : Nat.beq a.toNat b.toNat = (a == b) := by rw [Bool.eq_iff_iff]; simp [UInt8.toNat_inj]
    simp only [eqL, hab, eqL_eq x y, List.cons_beq_cons]
    cases (a == b) <;> rfl
theorem ltL_eq : ∀ (a b : List UInt8), ltL a b = Op.bytesLess a b
  | [], [] => rfl
  | [], _ :: _ => rfl
  | _ :: _, [] => rfl
  | a :: x, b :: y => by
    have hab : Nat.beq a.toNat b.toNat = (a == b) := by rw [Bool.eq_iff_iff]; simp [UInt8.toNat_inj]
    have hlt : Nat.blt a.toNat b.toNat = decide (a < b) := by rw [Bool.eq_iff_iff]; simp [UInt8.lt_iff_toNat_lt]
    simp only [ltL, Op.bytesLess, hab, hlt, ltL_eq x y]
    cases decide (a < b) <;> cases (a == b) <;> rfl

end Go.Ev
namespace Go.Ev
open Go Go.RowKit

variable {E : Env} {P : Program} {φ : Phi}

theorem aggOf_isAgg (hT : Tabs E P) {t : TypeId} {d : TypeDesc} (h : desc E t = some d) (w : World) : (isAgg t).run P w = .ok (aggOf d) w := by
  have hu := desc_ok hT h
  cases d <;> simp [isAgg, run_underlying hu, aggOf]

theorem partV_ok (hT : Tabs E P) {t : TypeId} {cs : List LV} {xs : List Value} {off : Nat} {v : LV} (hx : insts φ cs = some xs) (h : partV E t cs off = some v) (w : World) :
    ∃ x, (part t ⟨xs⟩ off).run P w = .ok x w ∧ inst φ v = some x := by
  unfold partV at h
  obtain ⟨d, hd, h⟩ := obind_some.1 h
  cases ha : aggOf d with
  | true =>
    rw [ha, cond_true] at h
    obtain ⟨n, hn, h⟩ := obind_some.1 h
    change (bif Nat.ble (off + n) cs.length then some (LV.agg (List.take n (List.drop off cs))) else none) = some v at h
    cases hle : Nat.ble (off + n) cs.length with
    | false => simp [hle] at h
    | true =>
      simp only [hle, cond_true, Option.some.injEq] at h
      subst h
      refine ⟨.agg ((⟨xs⟩ : Array Value).extract off (off + n)), by simp [part, aggOf_isAgg hT hd, ha, sizeOf_run hT hn], ?_⟩
      have h1 := insts_take n (insts_drop off hx)
      have h2 : ((⟨xs⟩ : Array Value).extract off (off + n)) = ⟨(xs.drop off).take n⟩ := by
        apply Array.ext'; simp [List.extract]
      rw [h2]
      simp [inst, h1]
  | false =>
    rw [ha, cond_false] at h
    obtain ⟨x, h1, h2⟩ := insts_get hx off v h
    refine ⟨x, ?_, h2⟩
    have h1' : (⟨xs⟩ : Array Value)[off]? = some x := by simpa using h1
    simp [part, aggOf_isAgg hT hd, ha, h1']

/-- what an equality at one depth says, for the model's at any depth that is no less -/
def EqOk (P : Program) (φ : Phi) (n : Nat) (eq : TypeId → LV → LV → Option Bool) : Prop :=
  ∀ (t : TypeId) (x y : LV) (X Y : Value) (b : Bool) (d : Nat) (w : World), n ≤ d → inst φ x = some X → inst φ y = some Y → eq t x y = some b → (Op.equalIn d t X Y).run P w = .ok b w

theorem eqFs_ok (hT : Tabs E P) {n d : Nat} {eq : TypeId → LV → LV → Option Bool} (IH : EqOk P φ n eq) (hd : n ≤ d) {xs ys : List LV} {Xs Ys : List Value} (hx : insts φ xs = some Xs) (hy : insts φ ys = some Ys) (w : World) :
    ∀ (fs : List Field) (b : Bool), (∀ f ∈ fs, f.name ≠ "_") → eqFs E eq xs ys fs = some b → (Op.eqFields d ⟨Xs⟩ ⟨Ys⟩ fs).run P w = .ok b w
  | [], b, _, h => by simp only [eqFs, Option.some.injEq] at h; subst h; simp [Op.eqFields]
  | f :: fs, b, hn, h => by
    simp only [eqFs, obind_some] at h
    obtain ⟨p, hp, q, hq, h⟩ := h
    obtain ⟨X, hX, hX'⟩ := partV_ok hT hx hp w
    obtain ⟨Y, hY, hY'⟩ := partV_ok hT hy hq w
    cases he : eq f.type p q with
    | none => simp [he] at h
    | some r =>
      have hr := IH f.type p q X Y r d w hd hX' hY' he
      simp only [Op.eqFields, hn f (by simp), ne_eq, not_false_eq_true, if_true, Sem.run_bind, hX, hY, hr, Result.andThen_ok]
      rw [he] at h
      cases r with
      | true => simpa using eqFs_ok hT IH hd hx hy w fs b (fun g hg => hn g (by simp [hg])) h
      | false => simp only [Option.some.injEq] at h; subst h; simp

theorem eqIs_ok (hT : Tabs E P) {n d : Nat} {eq : TypeId → LV → LV → Option Bool} (IH : EqOk P φ n eq) (hd : n ≤ d) {e : TypeId} {sz : Nat} {xs ys : List LV} {Xs Ys : List Value} (hx : insts φ xs = some Xs) (hy : insts φ ys = some Ys) (w : World) :
    ∀ (is : List Nat) (b : Bool), eqIs E eq e sz xs ys is = some b → (Op.eqItems d e sz ⟨Xs⟩ ⟨Ys⟩ is).run P w = .ok b w
  | [], b, h => by simp only [eqIs, Option.some.injEq] at h; subst h; simp [Op.eqItems]
  | i :: is, b, h => by
    simp only [eqIs, obind_some] at h
    obtain ⟨p, hp, q, hq, h⟩ := h
    obtain ⟨X, hX, hX'⟩ := partV_ok hT hx hp w
    obtain ⟨Y, hY, hY'⟩ := partV_ok hT hy hq w
    cases he : eq e p q with
    | none => simp [he] at h
    | some r =>
      have hr := IH e p q X Y r d w hd hX' hY' he
      have hX2 : (part e ⟨Xs⟩ (i * sz)).run P w = .ok X w := hX
      have hY2 : (part e ⟨Ys⟩ (i * sz)).run P w = .ok Y w := hY
      simp only [Op.eqItems, Sem.run_bind, hX2, hY2, hr, Result.andThen_ok]
      rw [he] at h
      cases r with
      | true => simpa using eqIs_ok hT IH hd hx hy w is b h
      | false => simp only [Option.some.injEq] at h; subst h; simp

theorem inst_ptr_some {p : Nat × Nat} {X : Value} (h : inst φ (.ptr (some p)) = some X) : ∃ a, X = .pointer (some a) := by
  obtain ⟨b, o⟩ := p
  simp only [inst] at h
  split at h <;> cases h
  exact ⟨_, rfl⟩
theorem inst_sl_some {p : Nat × Nat} {l c : Nat} {o : Option Nat} {X : Value} (h : inst φ (.sl (some p) l c o) = some X) : ∃ a l c, X = .slice (some a) l c := by
  obtain ⟨b, q⟩ := p
  cases o <;> simp only [inst] at h <;> (repeat' split at h) <;> cases h <;> exact ⟨_, _, _, rfl⟩
theorem inst_sl_none {l c : Nat} {o : Option Nat} {X : Value} (h : inst φ (.sl none l c o) = some X) : X = .slice none 0 0 := by
  simp only [inst] at h
  split at h <;> cases h
  rfl
theorem inst_map_some {p : Nat} {X : Value} (h : inst φ (.map (some p)) = some X) : ∃ r, X = .map (some r) := by
  simp only [inst] at h
  split at h <;> cases h
  exact ⟨_, rfl⟩
theorem inst_fn {f : Fn} {a c : List LV} {X : Value} (h : inst φ (.fn f a c) = some X) : ∃ f' a' c', X = .func f' ⟨a'⟩ ⟨c'⟩ ∧ instFn φ f = some f' ∧ insts φ a = some a' ∧ insts φ c = some c' := by
  simp only [inst] at h
  cases h1 : instFn φ f <;> simp only [h1] at h
  · cases h
  cases h2 : insts φ a <;> simp only [h2] at h
  · cases h
  cases h3 : insts φ c <;> simp only [h3] at h
  · cases h
  cases h
  exact ⟨_, _, _, rfl, rfl, rfl, rfl⟩
theorem inst_iface {t : TypeId} {v : LV} {X : Value} (h : inst φ (.iface t v) = some X) : ∃ V, X = .iface t V ∧ inst φ v = some V := by
  simp only [inst] at h
  cases h1 : inst φ v <;> simp only [h1] at h
  · cases h
  cases h
  exact ⟨_, rfl, rfl⟩
theorem inst_agg {cs : List LV} {X : Value} (h : inst φ (.agg cs) = some X) : ∃ xs, X = .agg ⟨xs⟩ ∧ insts φ cs = some xs := by
  simp only [inst] at h
  cases h1 : insts φ cs <;> simp only [h1] at h
  · cases h
  cases h
  exact ⟨_, rfl, rfl⟩
theorem inst_tup {cs : List LV} {X : Value} (h : inst φ (.tup cs) = some X) : ∃ xs, X = .tuple ⟨xs⟩ ∧ insts φ cs = some xs := by
  simp only [inst] at h
  cases h1 : insts φ cs <;> simp only [h1] at h
  · cases h
  cases h
  exact ⟨_, rfl, rfl⟩

theorem eqD_ok (hT : Tabs E P) {n : Nat} {eq : TypeId → LV → LV → Option Bool} (IH : EqOk P φ n eq) : EqOk P φ (n + 1) (fun t x y => obind (desc E t) fun d => eqD E eq t d x y) := by
  intro t x y X Y b d w hd hx hy h
  rw [obind_some] at h; obtain ⟨td, htd, h⟩ := h
  have hu := desc_ok hT htd
  obtain ⟨d, rfl⟩ : ∃ m, d = m + 1 := ⟨d - 1, by omega⟩
  have hd' : n ≤ d := by omega
  cases td <;> simp only [eqD] at h
  case bool =>
    cases x <;> try (cases h; done)
    cases y <;> try (cases h; done)
    simp only [inst, Option.some.injEq] at hx hy h; subst hx; subst hy; subst h
    simp [Op.equalIn, run_underlying hu]
  case int =>
    cases x <;> try (cases h; done)
    rename_i k a
    cases y <;> try (cases h; done)
    rename_i k' b'
    simp only at h
    cases hk : Nat.beq (kIdx k) (kIdx k') with
    | false => simp [hk] at h
    | true =>
      have := kIdx_inj hk; subst this
      simp only [hk, cond_true, Option.some.injEq] at h
      simp only [inst, Option.some.injEq] at hx hy; subst hx; subst hy; subst h
      rw [eqI_eq]
      exact run_equalIn_int w d t k _ a b' hu
  case string =>
    cases x <;> try (cases h; done)
    cases y <;> try (cases h; done)
    simp only [inst, Option.some.injEq] at hx hy h; subst hx; subst hy; subst h
    rw [eqL_eq, run_equalIn_string w d t _ _ hu]
    simp
  case pointer =>
    cases x <;> try (cases h; done)
    rename_i p
    cases y <;> try (cases p <;> cases h; done)
    rename_i q
    cases p with
    | none =>
      simp only [inst, Option.some.injEq] at hx; subst hx
      cases q with
      | none => simp only [inst, Option.some.injEq] at hy h; subst hy; subst h; simp [Op.equalIn, run_underlying hu]
      | some p => obtain ⟨a, rfl⟩ := inst_ptr_some hy; simp only [Option.some.injEq] at h; subst h; simp [Op.equalIn, run_underlying hu]
    | some p =>
      obtain ⟨a, rfl⟩ := inst_ptr_some hx
      cases q with
      | none =>
        simp only [inst, Option.some.injEq] at hy h; subst hy; subst h
        simp [Op.equalIn, run_underlying hu]
      | some q => cases h
  case interface =>
    cases x <;> try (cases h; done)
    case nilIface =>
      cases y <;> try (cases h; done)
      obtain ⟨V, rfl, _⟩ := inst_iface hy
      simp only [inst, Option.some.injEq] at hx h; subst hx; subst h
      simp [Op.equalIn, run_underlying hu]
    case iface tx vx =>
      cases y <;> try (cases h; done)
      case nilIface =>
        obtain ⟨V, rfl, _⟩ := inst_iface hx
        simp only [inst, Option.some.injEq] at hy h; subst hy; subst h
        simp [Op.equalIn, run_underlying hu]
      case iface ty vy =>
        simp only at h
        obtain ⟨V, rfl, hV⟩ := inst_iface hx
        obtain ⟨V', rfl, hV'⟩ := inst_iface hy
        cases ht : Nat.beq tx ty with
        | false =>
          have hne : ¬ tx = ty := by intro e; subst e; simp at ht
          simp only [ht, cond_false, Option.some.injEq] at h; subst h
          simp [Op.equalIn, run_underlying hu, hne]
        | true =>
          have heq : tx = ty := Nat.eq_of_beq_eq_true ht
          subst heq
          simp only [ht, cond_true] at h
          unfold comparable at h
          cases hi : E.types.get tx with
          | none => simp [hi] at h
          | some i =>
            rw [hi] at h
            simp only at h
            cases hc : i.comparable with
            | false => simp [hc] at h
            | true =>
              simp only [hc, cond_true] at h
              have := IH tx vx vy V V' b d w hd' hV hV' h
              simp [Op.equalIn, run_underlying hu, typeInfo, hT.types _ _ hi, hc, this]
  case struct fs =>
    cases x <;> try (cases h; done)
    rename_i xs
    cases y <;> try (cases h; done)
    rename_i ys
    simp only at h
    obtain ⟨Xs, rfl, hXs⟩ := inst_agg hx
    obtain ⟨Ys, rfl, hYs⟩ := inst_agg hy
    cases hf : (E.flat.get t).isSome with
    | false => simp [hf] at h
    | true =>
      simp only [hf, cond_true] at h
      obtain ⟨h1, _, h3⟩ := hT.flat t hf
      have hfo : P.fieldsOf t = fs := by simp [Program.fieldsOf, hu]
      rw [run_equalIn_struct (P := P) w d t _ _ (by rw [hfo]; exact hu) h1, hfo]
      exact eqFs_ok hT IH hd' hXs hYs w fs.toList b (fun f hf => h3 fs hu f (by simpa using hf)) h
  case array m e =>
    cases x <;> try (cases h; done)
    rename_i xs
    cases y <;> try (cases h; done)
    rename_i ys
    simp only at h
    obtain ⟨Xs, rfl, hXs⟩ := inst_agg hx
    obtain ⟨Ys, rfl, hYs⟩ := inst_agg hy
    obtain ⟨sz, hsz, h⟩ := obind_some.1 h
    obtain ⟨i, hi, hi2⟩ := sizeOf_info hT hsz
    have hco : P.cellsOf e = sz := by simp [Program.cellsOf, hi, hi2]
    rw [run_equalIn_array (P := P) w d _ _ hu hi, hco]
    exact eqIs_ok hT IH hd' hXs hYs w _ b h
  case slice =>
    cases x <;> try (cases h; done)
    rename_i p _ _ _
    cases y <;> try (cases p <;> cases h; done)
    rename_i q _ _ _
    cases p with
    | none =>
      have := inst_sl_none hx; subst this
      cases q with
      | none => have := inst_sl_none hy; subst this; simp only [Option.some.injEq] at h; subst h; simp [Op.equalIn, run_underlying hu]
      | some p => obtain ⟨a, l, c, rfl⟩ := inst_sl_some hy; simp only [Option.some.injEq] at h; subst h; simp [Op.equalIn, run_underlying hu]
    | some p =>
      obtain ⟨a, l, c, rfl⟩ := inst_sl_some hx
      cases q with
      | none =>
        have := inst_sl_none hy; subst this
        simp only [Option.some.injEq] at h; subst h
        simp [Op.equalIn, run_underlying hu]
      | some q => cases h
  case map =>
    cases x <;> try (cases h; done)
    rename_i p
    cases y <;> try (cases p <;> cases h; done)
    rename_i q
    cases p with
    | none =>
      simp only [inst, Option.some.injEq] at hx; subst hx
      cases q with
      | none => simp only [inst, Option.some.injEq] at hy h; subst hy; subst h; simp [Op.equalIn, run_underlying hu]
      | some p => obtain ⟨a, rfl⟩ := inst_map_some hy; simp only [Option.some.injEq] at h; subst h; simp [Op.equalIn, run_underlying hu]
    | some p =>
      obtain ⟨a, rfl⟩ := inst_map_some hx
      cases q with
      | none =>
        simp only [inst, Option.some.injEq] at hy h; subst hy; subst h
        simp [Op.equalIn, run_underlying hu]
      | some q => cases h
  case func =>
    cases x <;> try (cases h; done)
    case nilFn =>
      cases y <;> try (cases h; done)
      case nilFn =>
        simp only [inst, Option.some.injEq] at hx hy h; subst hx; subst hy; subst h
        simp [Op.equalIn, run_underlying hu]
      case fn =>
        obtain ⟨_, _, _, rfl, _⟩ := inst_fn hy
        simp only [inst, Option.some.injEq] at hx h; subst hx; subst h
        simp [Op.equalIn, run_underlying hu]
    case fn =>
      cases y <;> try (cases h; done)
      obtain ⟨_, _, _, rfl, _⟩ := inst_fn hx
      simp only [inst, Option.some.injEq] at hy h; subst hy; subst h
      simp [Op.equalIn, run_underlying hu]
  all_goals cases h

theorem eqT_ok (hT : Tabs E P) : ∀ n, EqOk P φ n (eqT E n)
  | 0 => fun t x y X Y b d w hd hx hy h => by simp [eqT] at h
  | n + 1 => eqD_ok hT (eqT_ok hT n)

end Go.Ev
