/- Operators: arithmetic and texts; the operations that leave memory alone. -/
/- Operations on memory: load, store, new variables, parts of structs, slices of slices. -/
import Derived.Test.YtcjocfaknhpncaaGreatDoorXEf
namespace Go.Ev
open Go Go.RowKit

variable {E : Env} {P : Program} {φ : Phi}

theorem arith_ok {op : BinOp} {k : IntKind} {x y : Int} {v : LV} (h : arith op k x y = some v) (t : TypeId) (w : World) :
    ∃ X, (binOp op t (.int k x) (.int k y)).run P w = .ok X w ∧ inst φ v = some X := by
  have hb : ∀ (o : BinOp) r, bitsI o k x y = some r → (o = .and ∨ o = .or ∨ o = .xor ∨ o = .andNot) → (Op.intBits o k x y).run P w = .ok (.int k r) w := fun o r h1 h2 => run_intBits P w h1 h2
  cases op <;> simp only [arith, Option.some.injEq] at h
  case add => subst h; exact ⟨.int k (k.wrap (x + y)), by simp [binOp, Op.intArith], by simp only [inst, wrapF_eq]; rfl⟩
  case sub => subst h; exact ⟨.int k (k.wrap (x - y)), by simp [binOp, Op.intArith], by simp only [inst, wrapF_eq]; rfl⟩
  case mul => subst h; exact ⟨.int k (k.wrap (x * y)), by simp [binOp, Op.intArith], by simp only [inst, wrapF_eq]; rfl⟩
  case quo =>
    rw [eqI_eq] at h
    cases h0 : (y == 0) with
    | true => simp [h0] at h
    | false =>
      simp only [h0, cond_false, Option.some.injEq] at h; subst h
      have hy : y ≠ 0 := by simpa using h0
      exact ⟨.int k (k.wrap (x.tdiv y)), by simp [binOp, Op.intDiv, hy], by simp only [inst, wrapF_eq]⟩
  case rem =>
    rw [eqI_eq] at h
    cases h0 : (y == 0) with
    | true => simp [h0] at h
    | false =>
      simp only [h0, cond_false, Option.some.injEq] at h; subst h
      have hy : y ≠ 0 := by simpa using h0
      exact ⟨.int k (x.tmod y), by simp [binOp, Op.intDiv, hy], by simp only [inst]⟩
  case and =>
    unfold bitsV at h
    cases hr : bitsI .and k x y with
    | none => simp [hr] at h
    | some r => simp only [hr, Option.some.injEq] at h; subst h; exact ⟨.int k r, by simp only [binOp, ne_eq, not_true_eq_false, if_false]; exact hb _ r hr (by simp), by simp only [inst]⟩
  case or =>
    unfold bitsV at h
    cases hr : bitsI .or k x y with
    | none => simp [hr] at h
    | some r => simp only [hr, Option.some.injEq] at h; subst h; exact ⟨.int k r, by simp only [binOp, ne_eq, not_true_eq_false, if_false]; exact hb _ r hr (by simp), by simp only [inst]⟩
  case xor =>
    unfold bitsV at h
    cases hr : bitsI .xor k x y with
    | none => simp [hr] at h
    | some r => simp only [hr, Option.some.injEq] at h; subst h; exact ⟨.int k r, by simp only [binOp, ne_eq, not_true_eq_false, if_false]; exact hb _ r hr (by simp), by simp only [inst]⟩
  case andNot =>
    unfold bitsV at h
    cases hr : bitsI .andNot k x y with
    | none => simp [hr] at h
    | some r => simp only [hr, Option.some.injEq] at h; subst h; exact ⟨.int k r, by simp only [binOp, ne_eq, not_true_eq_false, if_false]; exact hb _ r hr (by simp), by simp only [inst]⟩
  case eql => subst h; exact ⟨.bool (x == y), by simp [binOp, Op.intCmp], by simp [inst, eqI_eq]⟩
  case neq => subst h; exact ⟨.bool (x != y), by simp [binOp, Op.intCmp], by simp [inst, eqI_eq, bne]⟩
  case lss => subst h; exact ⟨.bool (decide (x < y)), by simp [binOp, Op.intCmp], by simp [inst, ltI_eq]⟩
  case leq => subst h; exact ⟨.bool (decide (x ≤ y)), by simp [binOp, Op.intCmp], by simp only [inst, ltI_eq]; congr 2; rw [Bool.eq_iff_iff]; simp⟩
  case gtr => subst h; exact ⟨.bool (decide (x > y)), by simp [binOp, Op.intCmp], by simp [inst, ltI_eq]⟩
  case geq => subst h; exact ⟨.bool (decide (x ≥ y)), by simp [binOp, Op.intCmp], by simp only [inst, ltI_eq]; congr 2; rw [Bool.eq_iff_iff]; simp⟩
  all_goals cases h

theorem intOp_ok {op : BinOp} {k k' : IntKind} {x y : Int} {v : LV} (h : intOp op k k' x y = some v) (t : TypeId) (w : World) :
    ∃ X, (binOp op t (.int k x) (.int k' y)).run P w = .ok X w ∧ inst φ v = some X := by
  by_cases h1 : op = .shl
  · subst h1
    cases y with
    | negSucc b => simp [intOp] at h
    | ofNat b =>
      simp only [intOp, Option.some.injEq] at h; subst h
      refine ⟨.int k (k.wrap (x * 2 ^ (min b k.bits))), ?_, ?_⟩
      · have hn : ¬ ((b : Int) < 0) := by omega
        simp [binOp, Op.shift, hn]
      · simp only [inst, shlI, wrapF_eq]
        have : Int.mul x (Int.ofNat (Nat.pow 2 (Nat.min b k.bits))) = x * 2 ^ (min b k.bits) := by
          show x * ((2 ^ (min b k.bits) : Nat) : Int) = _
          simp
        rw [this]
  · by_cases h2 : op = .shr
    · subst h2
      cases y with
      | negSucc b => simp [intOp] at h
      | ofNat b =>
        simp only [intOp, Option.some.injEq] at h; subst h
        refine ⟨.int k (x.fdiv (2 ^ (min b k.bits))), ?_, ?_⟩
        · have hn : ¬ ((b : Int) < 0) := by omega
          simp [binOp, Op.shift, hn]
        · cases x with
          | negSucc a => simp only [shrI, inst]
          | ofNat a =>
            simp only [shrI, inst]
            have : Int.ofNat (Nat.div a (Nat.pow 2 (Nat.min b k.bits))) = (Int.ofNat a).fdiv (2 ^ (min b k.bits)) := by
              have e : (2 : Int) ^ (min b k.bits) = ((2 ^ (min b k.bits) : Nat) : Int) := by simp
              rw [e]
              show ((a / 2 ^ (min b k.bits) : Nat) : Int) = (a : Int).fdiv ((2 ^ (min b k.bits) : Nat) : Int)
              rw [Int.fdiv_eq_ediv_of_nonneg _ (Int.natCast_nonneg _)]
              simp
            rw [this]
    · have h' : (bif Nat.beq (kIdx k) (kIdx k') then arith op k x y else none) = some v := by
        cases op <;> first | exact h | exact absurd rfl h1 | exact absurd rfl h2
      cases hk : Nat.beq (kIdx k) (kIdx k') with
      | false => simp [hk] at h'
      | true =>
        have := kIdx_inj hk; subst this
        rw [hk, cond_true] at h'
        exact arith_ok h' t w

theorem strOp_ok {op : BinOp} {x y : List UInt8} {v : LV} (h : strOp op x y = some v) (t : TypeId) (w : World) :
    ∃ X, (binOp op t (.string ⟨⟨x⟩⟩) (.string ⟨⟨y⟩⟩)).run P w = .ok X w ∧ inst φ v = some X := by
  have e : ∀ l : List UInt8, (ByteArray.mk ⟨l⟩).toList = l := fun l => by rw [ByteArray.toList_eq]
  cases op <;> simp only [strOp, Option.some.injEq] at h
  case add =>
    change (bif Nat.ble (x.length + y.length) bigN then some (LV.str (x ++ y)) else none) = some v at h
    cases hb : Nat.ble (x.length + y.length) bigN with
    | false => simp [hb] at h
    | true =>
      simp only [hb, cond_true, Option.some.injEq] at h; subst h
      have hle := Nat.le_of_ble_eq_true hb
      have hn : ¬ (((ByteArray.mk ⟨x⟩).size + (ByteArray.mk ⟨y⟩).size : Nat) : Int) > IntKind.i64.max := by
        have e1 : (ByteArray.mk ⟨x⟩).size = x.length := rfl
        have e2 : (ByteArray.mk ⟨y⟩).size = y.length := rfl
        rw [e1, e2]
        simp only [IntKind.max, IntKind.signed, IntKind.bits, bigN] at *
        simp
        omega
      refine ⟨.string (ByteArray.mk ⟨x⟩ ++ ByteArray.mk ⟨y⟩), ?_, ?_⟩
      · simp only [binOp, Op.stringOp]
        rw [if_neg hn]; rfl
      · simp only [inst]
        congr 2
  case eql => subst h; exact ⟨_, by simp only [binOp, Op.stringOp, e]; rfl, by simp [inst, eqL_eq]⟩
  case neq => subst h; exact ⟨_, by simp only [binOp, Op.stringOp, e]; rfl, by simp [inst, eqL_eq]⟩
  case lss => subst h; exact ⟨_, by simp only [binOp, Op.stringOp, e]; rfl, by simp [inst, ltL_eq]⟩
  case leq => subst h; exact ⟨_, by simp only [binOp, Op.stringOp, e]; rfl, by simp [inst, ltL_eq, eqL_eq]⟩
  case gtr => subst h; exact ⟨_, by simp only [binOp, Op.stringOp, e]; rfl, by simp [inst, ltL_eq, eqL_eq]⟩
  case geq => subst h; exact ⟨_, by simp only [binOp, Op.stringOp, e]; rfl, by simp [inst, ltL_eq]⟩
  all_goals cases h

theorem inst_nilIface {a : LV} (h : inst φ a = some .nilIface) : a = .nilIface := by
  cases a with
  | nilIface => rfl
  | ptr a => cases a with
    | none => simp [inst] at h
    | some p => obtain ⟨_, h'⟩ := inst_ptr_some h; cases h'
  | sl a l c o => cases a with
    | none => have := inst_sl_none h; cases this
    | some p => obtain ⟨_, _, _, h'⟩ := inst_sl_some h; cases h'
  | map a => cases a with
    | none => simp [inst] at h
    | some p => obtain ⟨_, h'⟩ := inst_map_some h; cases h'
  | fn f a c => obtain ⟨_, _, _, h', _⟩ := inst_fn h; cases h'
  | iface t v => obtain ⟨_, h', _⟩ := inst_iface h; cases h'
  | agg cs => obtain ⟨_, h', _⟩ := inst_agg h; cases h'
  | tup cs => obtain ⟨_, h', _⟩ := inst_tup h; cases h'
  | _ => simp [inst] at h

theorem inst_is_agg {a : LV} {xs : Array Value} (h : inst φ a = some (.agg xs)) : ∃ cs, a = .agg cs := by
  cases a with
  | agg cs => exact ⟨_, rfl⟩
  | ptr a => cases a with
    | none => simp [inst] at h
    | some p => obtain ⟨_, h'⟩ := inst_ptr_some h; cases h'
  | sl a l c o => cases a with
    | none => have := inst_sl_none h; cases this
    | some p => obtain ⟨_, _, _, h'⟩ := inst_sl_some h; cases h'
  | map a => cases a with
    | none => simp [inst] at h
    | some p => obtain ⟨_, h'⟩ := inst_map_some h; cases h'
  | fn f a c => obtain ⟨_, _, _, h', _⟩ := inst_fn h; cases h'
  | iface t v => obtain ⟨_, h', _⟩ := inst_iface h; cases h'
  | tup cs => obtain ⟨_, h', _⟩ := inst_tup h; cases h'
  | _ => simp [inst] at h

theorem inst_is_int {a : LV} {k : IntKind} {n : Int} (h : inst φ a = some (.int k n)) : ∃ k n, a = .int k n := by
  cases a with
  | int k n => exact ⟨_, _, rfl⟩
  | ptr a => cases a with
    | none => simp [inst] at h
    | some p => obtain ⟨_, h'⟩ := inst_ptr_some h; cases h'
  | sl a l c o => cases a with
    | none => have := inst_sl_none h; cases this
    | some p => obtain ⟨_, _, _, h'⟩ := inst_sl_some h; cases h'
  | map a => cases a with
    | none => simp [inst] at h
    | some p => obtain ⟨_, h'⟩ := inst_map_some h; cases h'
  | fn f a c => obtain ⟨_, _, _, h', _⟩ := inst_fn h; cases h'
  | iface t v => obtain ⟨_, h', _⟩ := inst_iface h; cases h'
  | agg cs => obtain ⟨_, h', _⟩ := inst_agg h; cases h'
  | tup cs => obtain ⟨_, h', _⟩ := inst_tup h; cases h'
  | _ => simp [inst] at h

theorem inst_is_str {a : LV} {s : ByteArray} (h : inst φ a = some (.string s)) : ∃ s, a = .str s := by
  cases a with
  | str s => exact ⟨_, rfl⟩
  | ptr a => cases a with
    | none => simp [inst] at h
    | some p => obtain ⟨_, h'⟩ := inst_ptr_some h; cases h'
  | sl a l c o => cases a with
    | none => have := inst_sl_none h; cases this
    | some p => obtain ⟨_, _, _, h'⟩ := inst_sl_some h; cases h'
  | map a => cases a with
    | none => simp [inst] at h
    | some p => obtain ⟨_, h'⟩ := inst_map_some h; cases h'
  | fn f a c => obtain ⟨_, _, _, h', _⟩ := inst_fn h; cases h'
  | iface t v => obtain ⟨_, h', _⟩ := inst_iface h; cases h'
  | agg cs => obtain ⟨_, h', _⟩ := inst_agg h; cases h'
  | tup cs => obtain ⟨_, h', _⟩ := inst_tup h; cases h'
  | _ => simp [inst] at h

theorem inst_no_float {a : LV} {X : Value} (h : inst φ a = some X) : (∀ k n, X ≠ .float k n) ∧ ∀ k n m, X ≠ .complex k n m := by
  refine ⟨fun k n e => ?_, fun k n m e => ?_⟩ <;> subst e
  all_goals
    cases a with
    | ptr a => cases a with
      | none => simp [inst] at h
      | some p => obtain ⟨_, h'⟩ := inst_ptr_some h; cases h'
    | sl a l c o => cases a with
      | none => have := inst_sl_none h; cases this
      | some p => obtain ⟨_, _, _, h'⟩ := inst_sl_some h; cases h'
    | map a => cases a with
      | none => simp [inst] at h
      | some p => obtain ⟨_, h'⟩ := inst_map_some h; cases h'
    | fn f a c => obtain ⟨_, _, _, h', _⟩ := inst_fn h; cases h'
    | iface t v => obtain ⟨_, h', _⟩ := inst_iface h; cases h'
    | agg cs => obtain ⟨_, h', _⟩ := inst_agg h; cases h'
    | tup cs => obtain ⟨_, h', _⟩ := inst_tup h; cases h'
    | _ => simp [inst] at h

theorem ite_cases {α : Type} {c : Prop} [Decidable c] {a b r : α} (h1 : a = r) (h2 : b = r) : (if c then a else b) = r := by split <;> assumption

/-- the guard before '==' lets by what is neither two nil interfaces nor two structs -/
theorem guard_by {op : BinOp} (t : TypeId) (x y : Operand) {X Y : Value} (h1 : ¬ (X = .nilIface ∧ Y = .nilIface)) (h2 : ¬ ∃ xs ys, X = .agg xs ∧ Y = .agg ys) (w : World) :
    (eqGuard op t x y X Y).run P w = .ok () w := by
  unfold eqGuard
  rw [Sem.run_ite]
  refine ite_cases ?_ ?_
  · rfl
  · split
    · exact absurd ⟨rfl, rfl⟩ h1
    · exact absurd ⟨_, _, rfl, rfl⟩ h2
    · rfl

theorem eqQ_ok (hT : Tabs E P) {t : TypeId} {x y : Operand} {a b : LV} {X Y : Value} {r : Bool} {op : BinOp} (ha : inst φ a = some X) (hb : inst φ b = some Y)
    (h : eqOp.eqQ E t (isConst x || isConst y) a b = some r) (w : World) : (eqGuard op t x y X Y).run P w = .ok () w ∧ (Op.equal t X Y).run P w = .ok r w := by
  have main : eqT E 8 t a b = some r → (Op.equal t X Y).run P w = .ok r w := fun h3 => eqT_ok hT 8 t a b X Y r 10000 w (by decide) ha hb h3
  by_cases hn : a = .nilIface ∧ b = .nilIface
  · obtain ⟨rfl, rfl⟩ := hn
    simp only [inst, Option.some.injEq] at ha hb; subst ha; subst hb
    simp only [eqOp.eqQ] at h
    cases hc : (isConst x || isConst y) with
    | false => simp [hc] at h
    | true =>
      rw [hc, cond_true] at h
      cases hd : desc E t with
      | none => simp [hd] at h
      | some d =>
        rw [hd] at h
        have hu := desc_ok hT hd
        cases d <;> simp only [Option.some.injEq] at h <;> try (cases h; done)
        subst h
        have hq : ∀ d, (Op.equalIn (d + 1) t .nilIface .nilIface).run P w = .ok true w := fun d => by simp [Op.equalIn, run_underlying hu]
        refine ⟨?_, hq 9999⟩
        unfold eqGuard
        rw [Sem.run_ite]
        refine ite_cases rfl ?_
        simp only [Sem.run_ite]
        rw [if_pos]
        · rfl
        · cases x <;> cases y <;> simp_all [isConst]
  · have h1 : ¬ (X = .nilIface ∧ Y = .nilIface) := fun ⟨e1, e2⟩ => hn ⟨inst_nilIface (e1 ▸ ha), inst_nilIface (e2 ▸ hb)⟩
    by_cases hagg : ∃ cs, a = .agg cs
    · obtain ⟨cs, rfl⟩ := hagg
      simp only [eqOp.eqQ] at h
      cases hf : (E.flat.get t).isSome with
      | false => simp [hf] at h
      | true =>
        rw [hf, cond_true] at h
        refine ⟨?_, main h⟩
        by_cases h2 : ∃ xs ys, X = .agg xs ∧ Y = .agg ys
        · obtain ⟨xs, ys, rfl, rfl⟩ := h2
          exact run_eqGuard_agg w op t x y xs ys (hT.flat t hf).2.1
        · exact guard_by t x y h1 h2 w
    · have h2 : ¬ ∃ xs ys, X = .agg xs ∧ Y = .agg ys := fun ⟨xs, ys, e1, _⟩ => hagg (inst_is_agg (e1 ▸ ha))
      refine ⟨guard_by t x y h1 h2 w, main ?_⟩
      revert h
      unfold eqOp.eqQ
      split
      · split
        · exact fun _ => absurd ⟨rfl, rfl⟩ hn
        · exact fun h => h
      · exact absurd ⟨_, rfl⟩ hagg
      · exact fun h => h


theorem binOpV_ok (hT : Tabs E P) {op : BinOp} {t : TypeId} {x y : Operand} {a b v : LV} {X Y : Value} (ha : inst φ a = some X) (hb : inst φ b = some Y) (h : binOpV E op t (isConst x || isConst y) a b = some v) (w : World) :
    ∃ Z, (do eqGuard op t x y X Y; binOp op t X Y : Sem Value).run P w = .ok Z w ∧ inst φ v = some Z := by
  by_cases hi : ∃ k n, a = .int k n
  · obtain ⟨k, n, rfl⟩ := hi
    simp only [inst, Option.some.injEq] at ha; subst ha
    simp only [binOpV] at h
    cases b <;> try (cases h; done)
    rename_i k' m
    simp only [inst, Option.some.injEq] at hb; subst hb
    obtain ⟨Z, h1, h2⟩ := intOp_ok (φ := φ) h t w (P := P)
    exact ⟨Z, by rw [Sem.run_bind, guard_by t x y (by simp) (by simp), Result.andThen_ok]; exact h1, h2⟩
  · by_cases hs : ∃ s, a = .str s
    · obtain ⟨s, rfl⟩ := hs
      simp only [inst, Option.some.injEq] at ha; subst ha
      simp only [binOpV] at h
      cases b <;> try (cases h; done)
      rename_i s'
      simp only [inst, Option.some.injEq] at hb; subst hb
      obtain ⟨Z, h1, h2⟩ := strOp_ok (φ := φ) h t w (P := P)
      exact ⟨Z, by rw [Sem.run_bind, guard_by t x y (by simp) (by simp), Result.andThen_ok]; exact h1, h2⟩
    · have h' : eqOp E op t (isConst x || isConst y) a b = some v := by
        revert h
        unfold binOpV
        split
        · exact absurd ⟨_, _, rfl⟩ hi
        · exact absurd ⟨_, rfl⟩ hs
        · exact fun h => h
      have hXi : ∀ k n, X ≠ .int k n := by
        intro k n e; subst e
        exact hi (inst_is_int ha)
      have hXs : ∀ s, X ≠ .string s := by
        intro s e; subst e
        exact hs (inst_is_str ha)
      cases op <;> simp only [eqOp] at h' <;> try (cases h'; done)
      · cases hq : eqOp.eqQ E t (isConst x || isConst y) a b with
        | none => simp [hq] at h'
        | some r =>
          simp only [hq, Option.some.injEq] at h'; subst h'
          obtain ⟨g1, g2⟩ := eqQ_ok hT (op := .eql) ha hb hq w
          refine ⟨.bool r, ?_, rfl⟩
          rw [Sem.run_bind, g1, Result.andThen_ok]
          have : binOp .eql t X Y = (do pure (.bool (← Op.equal t X Y)) : Sem Value) := by
            obtain ⟨hf, hc⟩ := inst_no_float ha
            cases X <;> first | exact absurd rfl (hXi _ _) | exact absurd rfl (hXs _) | exact absurd rfl (hf _ _) | exact absurd rfl (hc _ _ _) | rfl
          rw [this, Sem.run_bind, g2]; rfl
      · cases hq : eqOp.eqQ E t (isConst x || isConst y) a b with
        | none => simp [hq] at h'
        | some r =>
          simp only [hq, Option.some.injEq] at h'; subst h'
          obtain ⟨g1, g2⟩ := eqQ_ok hT (op := .neq) ha hb hq w
          refine ⟨.bool (!r), ?_, rfl⟩
          rw [Sem.run_bind, g1, Result.andThen_ok]
          have : binOp .neq t X Y = (do pure (.bool (!(← Op.equal t X Y))) : Sem Value) := by
            obtain ⟨hf, hc⟩ := inst_no_float ha
            cases X <;> first | exact absurd rfl (hXi _ _) | exact absurd rfl (hXs _) | exact absurd rfl (hf _ _) | exact absurd rfl (hc _ _ _) | rfl
          rw [this, Sem.run_bind, g2]; rfl

theorem unOpV_ok {op : UnOp} {a v : LV} {X : Value} (ha : inst φ a = some X) (h : unOpV op a = some v) (w : World) : ∃ Z, (Op.unary op X).run P w = .ok Z w ∧ inst φ v = some Z := by
  cases a <;> simp only [unOpV] at h <;> try (cases h; done)
  case int k n =>
    simp only [inst, Option.some.injEq] at ha; subst ha
    cases op <;> simp only at h <;> try (cases h; done)
    case neg =>
      simp only [arith, Option.some.injEq] at h; subst h
      exact ⟨.int k (k.wrap (0 - n)), by simp [Op.unary, Op.intArith], by simp only [inst, wrapF_eq]; rfl⟩
    case xor =>
      simp only [arith, bitsV] at h
      cases hr : bitsI .xor k (if k.signed then -1 else k.max) n with
      | none => simp [hr] at h
      | some r =>
        simp only [hr, Option.some.injEq] at h; subst h
        exact ⟨.int k r, run_intBits P w hr (by simp), by simp only [inst]⟩
  case bool b =>
    simp only [inst, Option.some.injEq] at ha; subst ha
    cases op <;> simp only at h <;> try (cases h; done)
    simp only [Option.some.injEq] at h; subst h
    exact ⟨.bool (!b), rfl, rfl⟩

end Go.Ev
namespace Go.Ev
open Go Go.RowKit

variable {E : Env} {P : Program} {φ : Phi} {w0 : Base} {w : World} {h h' : LH}

/-- an operation of the model comes to a value that the evaluator's stands for, and the heaps go on side by side -/
def ValOk (P : Program) (φ : Phi) (w0 : Base) (w : World) (h : LH) (s : Sem Value) (v : LV) (h' : LH) : Prop :=
  ∃ ψ X w', Le φ ψ ∧ s.run P w = .ok X w' ∧ inst ψ v = some X ∧ Rel ψ w0 w' h' ∧ h'.lo = h.lo ∧ h.nx ≤ h'.nx

theorem ValOk.pure (hr : Rel φ w0 w h) {s : Sem Value} {v : LV} {X : Value} (hs : s.run P w = .ok X w) (hv : inst φ v = some X) : ValOk P φ w0 w h s v h :=
  ⟨φ, X, w, Le.refl _, hs, hv, hr, rfl, Nat.le_refl _⟩

theorem loadV_ok (hT : Tabs E P) (hr : Rel φ w0 w h) {t : TypeId} {b o : Nat} {v : LV} {k : Blk} (hk : φ b = some k) (hl : loadV E h t b o = some v) :
    ∃ X, (loadVar t ⟨k.R, k.o + o, none⟩).run P w = .ok X w ∧ inst φ v = some X := by
  unfold loadV at hl
  rw [obind_some] at hl
  obtain ⟨d, hd, hl⟩ := hl
  cases ha : aggOf d with
  | true =>
    rw [ha, cond_true, obind_some] at hl
    obtain ⟨n, hn, hl⟩ := hl
    rw [obind_some] at hl
    obtain ⟨cs, hcs, hl⟩ := hl
    simp only [Option.some.injEq] at hl; subst hl
    obtain ⟨xs, h1, _, h3, _⟩ := hr.loads_run (P := P) hk hcs
    exact ⟨.agg ⟨xs⟩, by simp [loadVar, aggOf_isAgg hT hd, ha, sizeOf_run hT hn, h3], by simp [inst, h1]⟩
  | false =>
    rw [ha, cond_false] at hl
    obtain ⟨x, h1, h2⟩ := hr.cell hl hk
    exact ⟨x, by simp [loadVar, aggOf_isAgg hT hd, ha, h1], h2⟩

theorem inst_ptr {b o : Nat} {X : Value} (hx : inst φ (.ptr (some (b, o))) = some X) : ∃ k, φ b = some k ∧ X = .pointer (some ⟨k.R, k.o + o, none⟩) := by
  simp only [inst] at hx
  cases hk : φ b with
  | none => simp [hk] at hx
  | some k => rw [hk] at hx; exact ⟨k, rfl, (Option.some.inj hx).symm⟩
theorem inst_ptr_mk {b o : Nat} {k : Blk} (hk : φ b = some k) : inst φ (.ptr (some (b, o))) = some (.pointer (some ⟨k.R, k.o + o, none⟩)) := by simp [inst, hk]

theorem load_ok (hT : Tabs E P) (hr : Rel φ w0 w h) {t : TypeId} {b o : Nat} {v : LV} {X : Value} (hx : inst φ (.ptr (some (b, o))) = some X) (hl : loadV E h t b o = some v) :
    ValOk P φ w0 w h (Instr.loadAt t X) v h := by
  obtain ⟨k, hk, rfl⟩ := inst_ptr hx
  obtain ⟨Y, h1, h2⟩ := loadV_ok hT hr hk hl
  exact .pure hr (by simpa [Instr.loadAt, Instr.sureAddr] using h1) h2

theorem store_ok (hT : Tabs E P) (hr : Rel φ w0 w h) {t : TypeId} {b o n : Nat} {v : LV} {X V : Value} (hx : inst φ (.ptr (some (b, o))) = some X) (hv : inst φ v = some V)
    (hn : sizeOf E t = some n) (hlen : Nat.beq v.cells.length n = true) (hs : storeCells b v.cells o h = some h') :
    ∃ w', (Instr.storeAt t X V).run P w = .ok () w' ∧ Rel φ w0 w' h' ∧ h'.lo = h.lo ∧ h'.nx = h.nx := by
  obtain ⟨k, hk, rfl⟩ := inst_ptr hx
  have hc := inst_cells hv
  obtain ⟨w', g1, g2, g3, g4⟩ := Rel.stores (P := P) (w0 := w0) hk v.cells o 0 V.cells.toList h h' w hr (by simpa using hs) hc
  refine ⟨w', ?_, g2, g4, g3⟩
  have hsz : V.cells.size = n := by
    have := insts_length hc
    rw [Nat.eq_of_beq_eq_true hlen] at this
    simpa using this
  simp only [Instr.storeAt, Instr.sureAddr, storeVar, Sem.run_bind, Sem.run_pure, Result.andThen_ok, sizeOf_run hT hn, hsz]
  simpa using g1

theorem new_ok (hr : Rel φ w0 w h) (hlo : h.lo ≤ h.nx) {cs : List LV} {xs : List Value} {v : LV} (hx : insts φ cs = some xs) (hn : newCells h cs = some (v, h')) (e : TypeId) :
    ∃ ψ, Le φ ψ ∧ inst ψ v = some (.pointer (some ⟨w.heap.size, 0, none⟩)) ∧ Rel ψ w0 (w.alloc (.cells ⟨xs⟩ e)) h' ∧ h'.lo = h.lo ∧ h.nx ≤ h'.nx := by
  simp only [newCells, mkCells_eq, LH.alloc_eq, Option.some.injEq, Prod.mk.injEq] at hn
  obtain ⟨rfl, rfl⟩ := hn
  refine ⟨φ.put h.nx ⟨w.heap.size, 0, 0, 0⟩, hr.le_put _, inst_ptr_mk (Phi.put_same _ _ _), hr.alloc hlo _ _ _ _ fun ψ hle => ?_, rfl, Nat.le_succ _⟩
  have := objRel_new (ψ := ψ) (w := w) (ys := []) (e := e) (own := none) (C := 0) (sz := 0) (fr := (0, 0)) (insts_mono hle _ _ hx) (.inl rfl) (fun s hs => by cases hs)
  simpa using this

theorem box_ok (hr : Rel φ w0 w h) (hlo : h.lo ≤ h.nx) {x v : LV} {X : Value} (hx : inst φ x = some X) (hn : newCells h x.cells = some (v, h')) (e : TypeId) : ValOk P φ w0 w h (Instr.box e X) v h' := by
  obtain ⟨ψ, h1, h2, h3, h4, h5⟩ := new_ok hr hlo (inst_cells hx) hn e
  exact ⟨ψ, _, _, h1, by simp [Instr.box, newVar, newRow], h2, h3, h4, h5⟩

theorem alloc_ok (hT : Tabs E P) (hr : Rel φ w0 w h) (hlo : h.lo ≤ h.nx) {e : TypeId} {v : LV} (hn : oAlloc E h e = some (v, h')) : ValOk P φ w0 w h (Instr.alloc e true (.tuple #[])) v h' := by
  unfold oAlloc at hn
  rw [obind_some] at hn
  obtain ⟨z, hz, hn⟩ := hn
  obtain ⟨i, Z, hi, hZ, _, hzs⟩ := zeroCells_ok hT hz (φ := φ)
  obtain ⟨ψ, h1, h2, h3, h4, h5⟩ := new_ok hr hlo hzs hn e
  exact ⟨ψ, _, _, h1, by simp [Instr.alloc, zeroValue, typeInfo, hi, hZ, newVar, newRow], h2, h3, h4, h5⟩

theorem overL_length : ∀ (o : Nat) (vs cs : List LV), o + vs.length ≤ cs.length → (overL o vs cs).length = cs.length
  | 0, vs, cs, h => by simp at h; simp [overL]; omega
  | o + 1, vs, c :: cs, h => by simp only [overL, List.length_cons]; rw [overL_length o vs cs (by simp at h; omega)]
  | o + 1, vs, [], h => by simp at h

theorem overL_ok : ∀ (o : Nat) (vs cs : List LV) (xs ys : List Value), o + vs.length ≤ cs.length → insts φ vs = some xs → insts φ cs = some ys → insts φ (overL o vs cs) = some (ys.take o ++ xs ++ ys.drop (o + xs.length))
  | 0, vs, cs, xs, ys, h, hx, hy => by
    simp only [overL, List.take_zero, List.nil_append, Nat.zero_add]
    have := insts_length hx
    rw [this]
    exact insts_append hx (insts_drop _ hy)
  | o + 1, vs, c :: cs, xs, ys, h, hx, hy => by
    obtain ⟨y, ys, h1, h2, rfl⟩ := insts_cons.1 hy
    have := overL_ok o vs cs xs ys (by simp at h; omega) hx h2
    simp only [overL]
    refine insts_cons.2 ⟨y, _, h1, this, ?_⟩
    rw [Nat.add_right_comm o 1]
    simp
  | o + 1, vs, [], xs, ys, h, hx, hy => by simp at h

theorem foldl_over (off : Nat) : ∀ (xs : List Value) (j : Nat) (cs : List Value), off + j + xs.length ≤ cs.length →
    (xs.zipIdx j).foldl (fun (cs : Array Value) (p : Value × Nat) => cs.setIfInBounds (off + p.2) p.1) ⟨cs⟩ = ⟨cs.take (off + j) ++ xs ++ cs.drop (off + j + xs.length)⟩
  | [], j, cs, h => by simp
  | x :: xs, j, cs, h => by
    simp only [List.zipIdx_cons, List.foldl_cons, List.length_cons] at h ⊢
    have e : (⟨cs⟩ : Array Value).setIfInBounds (off + j) x = ⟨cs.set (off + j) x⟩ := by simp
    rw [e, foldl_over off xs (j + 1) (cs.set (off + j) x) (by simp; omega)]
    congr 1
    have hlt : off + j < cs.length := by omega
    have e1 : (cs.set (off + j) x).take (off + (j + 1)) = cs.take (off + j) ++ [x] := by
      rw [← Nat.add_assoc, List.take_succ_eq_append_getElem (by simpa using hlt)]
      simp [List.take_set_of_le]
    have e2 : (cs.set (off + j) x).drop (off + (j + 1) + xs.length) = cs.drop (off + j + (xs.length + 1)) := by
      rw [List.drop_set_of_lt (by omega)]
      congr 1
      omega
    rw [e1, e2]
    simp

theorem fill_ok {place : Nat → Option (Nat × Nat)} : ∀ (ps : List (Nat × LV)) (cs out : List LV) (Ps : List (Nat × Value)) (Cs : List Value), instPs φ ps Ps → insts φ cs = some Cs → fillL place ps cs = some out →
    ∃ Out, Instr.fill place ⟨Cs⟩ Ps = some ⟨Out⟩ ∧ insts φ out = some Out
  | [], cs, out, Ps, Cs, hp, hc, h => by
    simp only [instPs] at hp; subst hp
    simp only [fillL, Option.some.injEq] at h; subst h
    exact ⟨Cs, rfl, hc⟩
  | (i, v) :: ps, cs, out, Ps, Cs, hp, hc, h => by
    obtain ⟨x, r, hx, rfl, hr⟩ := hp
    simp only [fillL, obind_some] at h
    obtain ⟨⟨off, sz⟩, hpl, h⟩ := h
    simp only at h
    change (bif Nat.beq v.cells.length sz && Nat.ble (off + sz) cs.length then fillL place ps (overL off v.cells cs) else none) = some out at h
    cases hb : (Nat.beq v.cells.length sz && Nat.ble (off + sz) cs.length) with
    | false => simp [hb] at h
    | true =>
      rw [hb, cond_true] at h
      simp only [Bool.and_eq_true] at hb
      have e1 := Nat.eq_of_beq_eq_true hb.1
      have e2 := Nat.le_of_ble_eq_true hb.2
      have hxc := inst_cells hx
      have hl := insts_length hxc
      have hlc := insts_length hc
      have hov := overL_ok off v.cells cs _ Cs (by omega) hxc hc
      obtain ⟨Out, h1, h2⟩ := fill_ok ps _ out r _ hr hov h
      refine ⟨Out, ?_, h2⟩
      have hs : x.cells.size = sz := by simpa [e1] using hl
      have hfo := foldl_over off x.cells.toList 0 Cs (by omega)
      simp only [Instr.fill, hpl, hs]
      rw [if_neg (by simp; omega)]
      have hz : x.cells.zipIdx.foldl (fun (cs : Array Value) (p : Value × Nat) => cs.setIfInBounds (off + p.2) p.1) ⟨Cs⟩ = ⟨Cs.take off ++ x.cells.toList ++ Cs.drop (off + x.cells.toList.length)⟩ := by
        rw [← Array.foldl_toList, Array.toList_zipIdx, hfo]; rfl
      rw [hz]
      exact h1

end Go.Ev
