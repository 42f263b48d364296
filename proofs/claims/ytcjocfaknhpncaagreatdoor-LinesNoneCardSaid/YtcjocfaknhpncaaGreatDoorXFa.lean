/- The evaluator once more, for the kernel: what can be told of the code ahead is told once. -/
/- Numbers, for the kernel; one operation. -/
import Derived.Test.YtcjocfaknhpncaaGreatDoorXEr
namespace Go.Ev
open Go

/-- the way to a number in a trie -/
inductive Pa where
  | e
  | l (p : Pa)
  | r (p : Pa)
def paF : Nat → Nat → Pa
  | 0, _ => .e
  | f + 1, i => bif Nat.beq i 0 then .e else bif Nat.beq (Nat.mod i 2) 1 then .l (paF f (Nat.div i 2)) else .r (paF f (Nat.div i 2 - 1))
def paOf (i : Nat) : Pa := paF (Nat.succ i) i

noncomputable def T.getP {α : Type} (p : Pa) : T α → Option α :=
  Pa.rec (motive := fun _ => T α → Option α) (fun t => T.rec (motive := fun _ => Option α) none (fun v _ _ _ _ => v) t)
    (fun _ ih t => T.rec (motive := fun _ => Option α) none (fun _ l _ _ _ => ih l) t)
    (fun _ ih t => T.rec (motive := fun _ => Option α) none (fun _ _ r _ _ => ih r) t) p
noncomputable def T.setP {α β : Type} (x : α) (p : Pa) : T α → (T α → β) → β :=
  Pa.rec (motive := fun _ => T α → (T α → β) → β)
    (fun t k => T.rec (motive := fun _ => β) (k (.node (some x) .nil .nil)) (fun _ l r _ _ => k (.node (some x) l r)) t)
    (fun _ ih t k => T.rec (motive := fun _ => β) (ih .nil fun l => k (.node none l .nil)) (fun v l r _ _ => ih l fun l => k (.node v l r)) t)
    (fun _ ih t k => T.rec (motive := fun _ => β) (ih .nil fun r => k (.node none .nil r)) (fun v l r _ _ => ih r fun r => k (.node v l r)) t) p

theorem T.getP_eq {α : Type} : ∀ (f i : Nat) (t : T α), i < f → T.getP (paF f i) t = t.get i
  | 0, i, t, h => by omega
  | f + 1, i, t, h => by
    simp only [paF]
    cases t with
    | nil =>
      cases Nat.beq i 0
      · cases Nat.beq (Nat.mod i 2) 1 <;> rfl
      · rfl
    | node v l r =>
      rw [T.get_node]
      have d2 : Nat.div i 2 = i / 2 := rfl
      cases h0 : Nat.beq i 0
      · have : i ≠ 0 := by rintro rfl; simp at h0
        cases Nat.beq (Nat.mod i 2) 1
        · exact T.getP_eq f _ r (by omega)
        · exact T.getP_eq f _ l (by omega)
      · rfl

theorem T.setP_eq {α β : Type} (x : α) : ∀ (f i : Nat) (t : T α) (k : T α → β), i < f → T.setP x (paF f i) t k = k (T.setF (some x) f t i)
  | 0, i, t, k, h => by omega
  | f + 1, i, t, k, h => by
    simp only [paF]
    have d2 : Nat.div i 2 = i / 2 := rfl
    cases t with
    | nil =>
      simp only [T.setF]
      cases h0 : Nat.beq i 0
      · have : i ≠ 0 := by rintro rfl; simp at h0
        cases Nat.beq (Nat.mod i 2) 1
        · exact T.setP_eq x f _ .nil _ (by omega)
        · exact T.setP_eq x f _ .nil _ (by omega)
      · rfl
    | node v l r =>
      simp only [T.setF]
      cases h0 : Nat.beq i 0
      · have : i ≠ 0 := by rintro rfl; simp at h0
        cases Nat.beq (Nat.mod i 2) 1
        · exact T.setP_eq x f _ r _ (by omega)
        · exact T.setP_eq x f _ l _ (by omega)
      · rfl
theorem T.getP_of {α : Type} (i : Nat) (t : T α) : T.getP (paOf i) t = t.get i := T.getP_eq _ _ _ (Nat.lt_succ_self _)
theorem T.setP_of {α β : Type} (x : α) (i : Nat) (t : T α) (k : T α → β) : T.setP x (paOf i) t k = k (t.set i x) :=
  (T.setP_eq x _ _ _ _ (Nat.lt_succ_self _)).trans (congrArg k (T.setK_eq (some x) t (Nat.succ i) i (fun t => t) (Nat.lt_succ_self _)).symm)

/-- an operand -/
inductive CO where
  | t (p : Pa)
  | c (v : LV)
  | no
/-- where the answer goes -/
inductive CD where
  | no
  | to (p : Pa)
  | bad
/-- an operation -/
inductive CI where
  | mv (x : CO)
  | bin (op : BinOp) (ty : TypeId) (c : Bool) (x y : CO)
  | ld (x : CO)
  | st (o : Oper) (x y : CO)
  | fa (x : CO) (off : Nat)
  | ia (x i : CO) (sz : Nat)
  | ir (x i : CO) (n sz : Nat)
  | nc (o : Oper) (x : CO)
  | cv (k : IntKind) (x : CO)
  | ex (x : CO) (i : Nat)
  | call (x : CO) (args : List CO)
  | dir (f : LH → T LV → Option (LV × LH))
  | slow (o : Oper)
inductive CP where
  | fast (i : CI) (d : CD)
  | slow (o : Oper)

section
variable (E : Env)

noncomputable def compO (x : Operand) : CO := match x with
  | .tmp i => .t (paOf i)
  | .const v => match ofV v with
    | some v => .c v
    | none => .no
  | .global g => bif Nat.blt g E.ng then .c (.ptr (some (g, 0))) else .no
  | .func f => .c (.fn (.func f) [] [])

noncomputable def gO {β : Type} (x : CO) (t : T LV) (z : β) (k : LV → β) : β :=
  CO.rec (motive := fun _ => β) (fun p => Option.rec (motive := fun _ => β) (k .undef) k (T.getP p t)) k z x

theorem gO_eq {β : Type} (x : Operand) (t : T LV) (z : β) (k : LV → β) : gO (compO E x) t z k = match evalO E t x with | some v => k v | none => z := by
  cases x with
  | tmp i =>
    show Option.rec (motive := fun _ => β) _ _ (T.getP (paOf i) t) = _
    rw [T.getP_of]
    simp only [evalO]
    cases t.get i <;> rfl
  | const v =>
    simp only [compO, evalO]
    cases ofV v <;> rfl
  | global g =>
    simp only [compO, evalO]
    cases Nat.blt g E.ng <;> rfl
  | func f => rfl

noncomputable def LV.forceR {β : Type} (v : LV) (c : LV → β) : β :=
  LV.rec (motive_1 := fun _ => β) (motive_2 := fun _ => PUnit)
    (fun b => fBool b fun b => c (.bool b)) (fun k n => fInt n fun n => c (.int k n)) (fun s => c (.str s)) (fun a => fAddr a fun a => c (.ptr a))
    (fun a l k o => fAddr a fun a => fNat l fun l => fON o fun o => c (.sl a l k o)) (fun r => c (.map r)) (fun f a b _ _ => c (.fn f a b)) (c .nilFn) (fun t v _ => c (.iface t v)) (c .nilIface)
    (fun cs _ => c (.agg cs)) (fun vs _ => c (.tup vs)) PUnit.unit (fun _ _ _ _ => PUnit.unit) v
theorem LV.forceR_eq {β : Type} (v : LV) (c : LV → β) : v.forceR c = c v := by
  cases v <;> first | rfl | simp [LV.forceR]

noncomputable def compD (nt : Nat) (d : Option Tmp) : CD := match d with
  | none => .no
  | some d => bif Nat.blt d nt then .to (paOf d) else .bad
noncomputable def putR (d : CD) (t : T LV) (v : LV) (k : T LV → Res) : Res :=
  CD.rec (motive := fun _ => Res) (k t) (fun p => v.forceR fun v => T.setP v p t k) .stuck d
theorem putR_eq (nt : Nat) (d : Option Tmp) (t : T LV) (v : LV) (k : T LV → Res) : putR (compD nt d) t v k = match put t nt d v with | some t => k t | none => .stuck := by
  cases d with
  | none => rfl
  | some d =>
    simp only [compD, put]
    cases Nat.blt d nt with
    | false => rfl
    | true =>
      show v.forceR (fun v => T.setP v (paOf d) t k) = _
      rw [LV.forceR_eq, T.setP_of]
      simp

/-! what values are -/
noncomputable def asPtr {β : Type} (v : LV) (z : β) (k : Nat → Nat → β) : β :=
  LV.rec (motive_1 := fun _ => β) (motive_2 := fun _ => PUnit)
    (fun _ => z) (fun _ _ => z) (fun _ => z) (fun a => Option.rec (motive := fun _ => β) z (fun p => Prod.rec (motive := fun _ => β) k p) a)
    (fun _ _ _ _ => z) (fun _ => z) (fun _ _ _ _ _ => z) z (fun _ _ _ => z) z (fun _ _ => z) (fun _ _ => z) PUnit.unit (fun _ _ _ _ => PUnit.unit) v
noncomputable def asInt {β : Type} (v : LV) (z : β) (k : IntKind → Int → β) : β :=
  LV.rec (motive_1 := fun _ => β) (motive_2 := fun _ => PUnit)
    (fun _ => z) k (fun _ => z) (fun _ => z)
    (fun _ _ _ _ => z) (fun _ => z) (fun _ _ _ _ _ => z) z (fun _ _ _ => z) z (fun _ _ => z) (fun _ _ => z) PUnit.unit (fun _ _ _ _ => PUnit.unit) v
noncomputable def asSl {β : Type} (v : LV) (z : β) (k : Nat → Nat → Nat → β) : β :=
  LV.rec (motive_1 := fun _ => β) (motive_2 := fun _ => PUnit)
    (fun _ => z) (fun _ _ => z) (fun _ => z) (fun _ => z)
    (fun a n _ _ => Option.rec (motive := fun _ => β) z (fun p => Prod.rec (motive := fun _ => β) (fun b o => k b o n) p) a) (fun _ => z) (fun _ _ _ _ _ => z) z (fun _ _ _ => z) z (fun _ _ => z) (fun _ _ => z) PUnit.unit (fun _ _ _ _ => PUnit.unit) v
noncomputable def asTup {β : Type} (v : LV) (z : β) (k : List LV → β) : β :=
  LV.rec (motive_1 := fun _ => β) (motive_2 := fun _ => PUnit)
    (fun _ => z) (fun _ _ => z) (fun _ => z) (fun _ => z)
    (fun _ _ _ _ => z) (fun _ => z) (fun _ _ _ _ _ => z) z (fun _ _ _ => z) z (fun _ _ => z) (fun vs _ => k vs) PUnit.unit (fun _ _ _ _ => PUnit.unit) v

noncomputable def LH.cellR {β : Type} (h : LH) (b o : Nat) (z : β) (k : LV → β) : β :=
  Option.rec (motive := fun _ => β) z (fun ob => LObj.rec (motive := fun _ => β) (fun c _ _ => Option.rec (motive := fun _ => β) z k (c.get o)) (fun _ _ => z) (fun _ _ _ _ _ _ _ => z) z ob) (h.m.get b)
theorem LH.cellR_eq {β : Type} (h : LH) (b o : Nat) (z : β) (k : LV → β) : h.cellR b o z k = match h.cell b o with | some v => k v | none => z := by
  unfold LH.cellR LH.cell
  cases h.m.get b with
  | none => rfl
  | some ob =>
    cases ob with
    | cells c n w => simp only; cases c.get o <;> rfl
    | map es c => rfl
    | loop a b c d e f g => rfl
    | defd => rfl

/-- no row of values -/
noncomputable def plainR {β : Type} (v : LV) (z k : β) : β :=
  LV.rec (motive_1 := fun _ => β) (motive_2 := fun _ => PUnit)
    (fun _ => k) (fun _ _ => k) (fun _ => k) (fun _ => k)
    (fun _ _ _ _ => k) (fun _ => k) (fun _ _ _ _ _ => k) k (fun _ _ _ => k) k (fun _ _ => z) (fun _ _ => z) PUnit.unit (fun _ _ _ _ => PUnit.unit) v
theorem plainR_eq {β : Type} (v : LV) (z k : β) : plainR v z k = bif v.plain then k else z := by cases v <;> rfl

noncomputable def LH.setR (h : LH) (b o : Nat) (v : LV) (k : LH → Res) : Res :=
  Option.rec (motive := fun _ => Res) .stuck (fun ob => LObj.rec (motive := fun _ => Res)
    (fun c n w => Bool.rec (motive := fun _ => Res) .stuck (Bool.rec (motive := fun _ => Res) .stuck (plainR v .stuck
      (T.setK (some v) c o fun c => T.setK (some (.cells c n w)) h.m b fun m => k ⟨m, h.nx, h.lo⟩)) (Nat.ble h.lo b)) (Nat.blt o n))
    (fun _ _ => .stuck) (fun _ _ _ _ _ _ _ => .stuck) .stuck ob) (h.m.get b)
theorem LH.setR_eq (h : LH) (b o : Nat) (v : LV) (k : LH → Res) : h.setR b o v k = match h.setCell b o v with | some h => k h | none => .stuck := by
  unfold LH.setR LH.setCell
  cases h.m.get b with
  | none => rfl
  | some ob =>
    cases ob with
    | cells c n w =>
      simp only
      cases Nat.blt o n with
      | false => rfl
      | true =>
        cases Nat.ble h.lo b with
        | false => rfl
        | true =>
          show plainR v _ _ = _
          rw [plainR_eq]
          cases v.plain with
          | false => rfl
          | true =>
            simp only [cond_true, T.force_eq, T.setK_set]
    | map es c => rfl
    | loop a b c d e f g => rfl
    | defd => rfl

end
end Go.Ev
namespace Go.Ev
open Go

/-! numbers -/
noncomputable def forceI {β : Type} (n : Int) (k : Int → β) : β := Int.rec (motive := fun _ => β) (fun m => fNat m fun m => k (.ofNat m)) (fun m => fNat m fun m => k (.negSucc m)) n
theorem forceI_eq {β : Type} (n : Int) (k : Int → β) : forceI n k = k n := by cases n <;> simp [forceI]

/-- what of a number from 0 on is left over in a kind without signs -/
noncomputable def wrapU (ki : IntKind) (m : Nat) (k : Int → Res) : Res :=
  Bool.rec (motive := fun _ => Res) (fNat (Nat.mod m (Nat.succ (maxN ki))) fun m => k (.ofNat m)) (forceI (ki.wrap (.ofNat m)) k) ki.signed
theorem wrapU_eq (ki : IntKind) (m : Nat) (k : Int → Res) : wrapU ki m k = k (ki.wrap (.ofNat m)) := by
  have un : ki.signed = false → ki.wrap (.ofNat m) = .ofNat (Nat.mod m (Nat.succ (maxN ki))) := by
    intro h
    cases ki <;> first | (cases h; done) | (simp only [IntKind.wrap, maxN, IntKind.bits]; show _ = ((m % _ : Nat) : Int); simp [IntKind.signed])
  show Bool.rec (motive := fun _ => Res) _ _ _ = _
  cases h : ki.signed
  · show fNat _ _ = _
    rw [fNat_eq, un h]
  · exact forceI_eq _ _
noncomputable def wrapR (ki : IntKind) (n : Int) (k : Int → Res) : Res :=
  Int.rec (motive := fun _ => Res) (fun m => Bool.rec (motive := fun _ => Res) (wrapU ki m k) (k (.ofNat m)) (Nat.ble m (maxN ki))) (fun m => forceI (ki.wrap (.negSucc m)) k) n
theorem wrapR_eq (ki : IntKind) (n : Int) (k : Int → Res) : wrapR ki n k = k (wrapF ki n) := by
  cases n with
  | ofNat m =>
    show Bool.rec (motive := fun _ => Res) _ _ _ = _
    simp only [wrapF]
    cases Nat.ble m (maxN ki)
    · exact wrapU_eq _ _ _
    · rfl
  | negSucc m => exact forceI_eq _ _

noncomputable def addR (ki : IntKind) (x y : Int) (k : LV → Res) : Res :=
  Int.rec (motive := fun _ => Res) (fun a => Int.rec (motive := fun _ => Res) (fun b => fNat (Nat.add a b) fun c => wrapR ki (.ofNat c) fun n => k (.int ki n)) (fun b => wrapR ki (Int.add (.ofNat a) (.negSucc b)) fun n => k (.int ki n)) y)
    (fun a => wrapR ki (Int.add (.negSucc a) y) fun n => k (.int ki n)) x
theorem addR_eq (ki : IntKind) (x y : Int) (k : LV → Res) : addR ki x y k = k (.int ki (wrapF ki (Int.add x y))) := by
  cases x with
  | ofNat a =>
    cases y with
    | ofNat b =>
      exact (fNat_eq (Nat.add a b) fun c => wrapR ki (.ofNat c) fun n => k (.int ki n)).trans (wrapR_eq ki (.ofNat (Nat.add a b)) fun n => k (.int ki n))
    | negSucc b => exact wrapR_eq ki (Int.add (.ofNat a) (.negSucc b)) fun n => k (.int ki n)
  | negSucc a => exact wrapR_eq ki (Int.add (.negSucc a) y) fun n => k (.int ki n)

noncomputable def subR (ki : IntKind) (x y : Int) (k : LV → Res) : Res :=
  Int.rec (motive := fun _ => Res) (fun a => Int.rec (motive := fun _ => Res) (fun b => Bool.rec (motive := fun _ => Res) (wrapR ki (Int.sub (.ofNat a) (.ofNat b)) fun n => k (.int ki n)) (fNat (Nat.sub a b) fun c => wrapR ki (.ofNat c) fun n => k (.int ki n)) (Nat.ble b a)) (fun b => wrapR ki (Int.sub (.ofNat a) (.negSucc b)) fun n => k (.int ki n)) y)
    (fun a => wrapR ki (Int.sub (.negSucc a) y) fun n => k (.int ki n)) x
theorem subR_eq (ki : IntKind) (x y : Int) (k : LV → Res) : subR ki x y k = k (.int ki (wrapF ki (Int.sub x y))) := by
  cases x with
  | ofNat a =>
    cases y with
    | ofNat b =>
      show Bool.rec (motive := fun _ => Res) _ _ _ = _
      cases h : Nat.ble b a
      · exact wrapR_eq ki (Int.sub (.ofNat a) (.ofNat b)) fun n => k (.int ki n)
      · refine (fNat_eq (Nat.sub a b) fun c => wrapR ki (.ofNat c) fun n => k (.int ki n)).trans ((wrapR_eq ki (.ofNat (Nat.sub a b)) fun n => k (.int ki n)).trans ?_)
        have hle := Nat.le_of_ble_eq_true h
        have : Int.sub (.ofNat a) (.ofNat b) = .ofNat (Nat.sub a b) := by
          show (a : Int) - (b : Int) = ((a - b : Nat) : Int)
          omega
        rw [this]
    | negSucc b => exact wrapR_eq ki (Int.sub (.ofNat a) (.negSucc b)) fun n => k (.int ki n)
  | negSucc a => exact wrapR_eq ki (Int.sub (.negSucc a) y) fun n => k (.int ki n)

noncomputable def boolR (b : Bool) (k : LV → Res) : Res := Bool.rec (motive := fun _ => Res) (k (.bool false)) (k (.bool true)) b
theorem boolR_eq (b : Bool) (k : LV → Res) : boolR b k = k (.bool b) := by cases b <;> rfl
noncomputable def ltR (x y : Int) : Bool := Int.rec (motive := fun _ => Bool) (fun a => Int.rec (motive := fun _ => Bool) (fun b => Nat.ble (Nat.succ a) b) (fun _ => false) y) (fun a => Int.rec (motive := fun _ => Bool) (fun _ => true) (fun b => Nat.ble (Nat.succ b) a) y) x
theorem ltR_eq (x y : Int) : ltR x y = ltI x y := by cases x <;> cases y <;> rfl
noncomputable def eqR (x y : Int) : Bool := Int.rec (motive := fun _ => Bool) (fun a => Int.rec (motive := fun _ => Bool) (fun b => Nat.beq a b) (fun _ => false) y) (fun a => Int.rec (motive := fun _ => Bool) (fun _ => false) (fun b => Nat.beq b a) y) x
theorem eqR_eq (x y : Int) : eqR x y = eqI x y := by cases x <;> cases y <;> rfl

/-- what the slow way answers, handed on -/
noncomputable def orStuck (v : Option LV) (k : LV → Res) : Res := Option.rec (motive := fun _ => Res) .stuck k v
theorem orStuck_eq (v : Option LV) (k : LV → Res) : orStuck v k = match v with | some v => k v | none => .stuck := by cases v <;> rfl

noncomputable def bitR (f : Nat → Nat → Nat) (op : BinOp) (ki : IntKind) (x y : Int) (k : LV → Res) : Res :=
  Int.rec (motive := fun _ => Res) (fun a => Int.rec (motive := fun _ => Res)
    (fun b => Bool.rec (motive := fun _ => Res) (orStuck (bitsV op ki (.ofNat a) (.ofNat b)) k) (Bool.rec (motive := fun _ => Res) (orStuck (bitsV op ki (.ofNat a) (.ofNat b)) k) (fNat (f a b) fun c => k (.int ki (.ofNat c))) (Nat.ble b (maxN ki))) (Nat.ble a (maxN ki)))
    (fun b => orStuck (bitsV op ki (.ofNat a) (.negSucc b)) k) y) (fun a => orStuck (bitsV op ki (.negSucc a) y) k) x
theorem bitR_eq {f : Nat → Nat → Nat} {op : BinOp} (hf : ∀ a b, bitsN op a b = some (.ofNat (f a b))) (ki : IntKind) (x y : Int) (k : LV → Res) : bitR f op ki x y k = match bitsV op ki x y with | some v => k v | none => .stuck := by
  cases x with
  | ofNat a =>
    cases y with
    | ofNat b =>
      show Bool.rec (motive := fun _ => Res) _ _ _ = _
      cases h1 : Nat.ble a (maxN ki)
      · exact orStuck_eq _ _
      · show Bool.rec (motive := fun _ => Res) _ _ _ = _
        cases h2 : Nat.ble b (maxN ki)
        · exact orStuck_eq _ _
        · show fNat _ _ = _
          rw [fNat_eq]
          simp [bitsV, bitsI, h1, h2, hf]
    | negSucc b => exact orStuck_eq _ _
  | negSucc a => exact orStuck_eq _ _

noncomputable def shrR (ki : IntKind) (x y : Int) (k : LV → Res) : Res :=
  Int.rec (motive := fun _ => Res) (fun b => Int.rec (motive := fun _ => Res)
    (fun a => Bool.rec (motive := fun _ => Res) (k (shrI ki (.ofNat a) b)) (fNat (Nat.div a (Nat.pow 2 b)) fun c => k (.int ki (.ofNat c))) (Nat.ble b ki.bits)) (fun a => k (shrI ki (.negSucc a) b)) x) (fun _ => .stuck) y
theorem shrR_eq (ki k' : IntKind) (x y : Int) (k : LV → Res) : shrR ki x y k = match intOp .shr ki k' x y with | some v => k v | none => .stuck := by
  cases y with
  | ofNat b =>
    cases x with
    | ofNat a =>
      show Bool.rec (motive := fun _ => Res) _ _ _ = _
      cases h : Nat.ble b ki.bits
      · rfl
      · show fNat _ _ = _
        rw [fNat_eq]
        have hle := Nat.le_of_ble_eq_true h
        have hm : Nat.min b ki.bits = b := Nat.min_eq_left hle
        simp [intOp, shrI, hm]
    | negSucc a => rfl
  | negSucc b => rfl
noncomputable def shlR (ki : IntKind) (x y : Int) (k : LV → Res) : Res :=
  Int.rec (motive := fun _ => Res) (fun b => Int.rec (motive := fun _ => Res)
    (fun a => Bool.rec (motive := fun _ => Res) (k (shlI ki (.ofNat a) b)) (fNat (Nat.mul a (Nat.pow 2 b)) fun c => wrapR ki (.ofNat c) fun n => k (.int ki n)) (Nat.ble b ki.bits)) (fun a => k (shlI ki (.negSucc a) b)) x) (fun _ => .stuck) y
theorem shlR_eq (ki k' : IntKind) (x y : Int) (k : LV → Res) : shlR ki x y k = match intOp .shl ki k' x y with | some v => k v | none => .stuck := by
  cases y with
  | ofNat b =>
    cases x with
    | ofNat a =>
      show Bool.rec (motive := fun _ => Res) _ _ _ = _
      cases h : Nat.ble b ki.bits
      · rfl
      · show fNat _ _ = _
        rw [fNat_eq, wrapR_eq]
        have hle := Nat.le_of_ble_eq_true h
        have hm : Nat.min b ki.bits = b := Nat.min_eq_left hle
        simp only [intOp, shlI, hm]
        rfl
    | negSucc a => rfl
  | negSucc b => rfl

noncomputable def quoR (ki : IntKind) (x y : Int) (k : LV → Res) : Res :=
  Int.rec (motive := fun _ => Res) (fun a => Int.rec (motive := fun _ => Res)
    (fun b => Bool.rec (motive := fun _ => Res) (fNat (Nat.div a b) fun c => wrapR ki (.ofNat c) fun n => k (.int ki n)) .stuck (Nat.beq b 0))
    (fun b => orStuck (arith .quo ki (.ofNat a) (.negSucc b)) k) y) (fun a => orStuck (arith .quo ki (.negSucc a) y) k) x
theorem quoR_eq (ki : IntKind) (x y : Int) (k : LV → Res) : quoR ki x y k = match arith .quo ki x y with | some v => k v | none => .stuck := by
  cases x with
  | ofNat a =>
    cases y with
    | ofNat b =>
      show Bool.rec (motive := fun _ => Res) _ _ _ = _
      cases h : Nat.beq b 0
      · show fNat _ _ = _
        rw [fNat_eq, wrapR_eq]
        have he : eqI (Int.ofNat b) 0 = false := h
        simp only [arith, he, cond_false]
        rfl
      · have he : eqI (Int.ofNat b) 0 = true := h
        simp only [arith, he, cond_true]
    | negSucc b => exact orStuck_eq (arith .quo ki (.ofNat a) (.negSucc b)) k
  | negSucc a => exact orStuck_eq (arith .quo ki (.negSucc a) y) k
noncomputable def remR (ki : IntKind) (x y : Int) (k : LV → Res) : Res :=
  Int.rec (motive := fun _ => Res) (fun a => Int.rec (motive := fun _ => Res)
    (fun b => Bool.rec (motive := fun _ => Res) (fNat (Nat.mod a b) fun c => k (.int ki (.ofNat c))) .stuck (Nat.beq b 0))
    (fun b => orStuck (arith .rem ki (.ofNat a) (.negSucc b)) k) y) (fun a => orStuck (arith .rem ki (.negSucc a) y) k) x
theorem remR_eq (ki : IntKind) (x y : Int) (k : LV → Res) : remR ki x y k = match arith .rem ki x y with | some v => k v | none => .stuck := by
  cases x with
  | ofNat a =>
    cases y with
    | ofNat b =>
      show Bool.rec (motive := fun _ => Res) _ _ _ = _
      cases h : Nat.beq b 0
      · show fNat _ _ = _
        rw [fNat_eq]
        have he : eqI (Int.ofNat b) 0 = false := h
        simp only [arith, he, cond_false]
        rfl
      · have he : eqI (Int.ofNat b) 0 = true := h
        simp only [arith, he, cond_true]
    | negSucc b => exact orStuck_eq (arith .rem ki (.ofNat a) (.negSucc b)) k
  | negSucc a => exact orStuck_eq (arith .rem ki (.negSucc a) y) k

/-- two numbers of one kind -/
noncomputable def sameK (f : IntKind → Int → Int → (LV → Res) → Res) (k1 k2 : IntKind) (x y : Int) (k : LV → Res) : Res := Bool.rec (motive := fun _ => Res) .stuck (f k1 x y k) (Nat.beq (kIdx k1) (kIdx k2))

noncomputable def arithR (op : BinOp) (k1 k2 : IntKind) (x y : Int) (k : LV → Res) : Res := orStuck (intOp op k1 k2 x y) k
noncomputable def intR (op : BinOp) : IntKind → IntKind → Int → Int → (LV → Res) → Res := match op with
  | .add => sameK addR
  | .sub => sameK subR
  | .eql => sameK fun _ x y k => boolR (eqR x y) k
  | .neq => sameK fun _ x y k => boolR (Bool.rec (motive := fun _ => Bool) true false (eqR x y)) k
  | .lss => sameK fun _ x y k => boolR (ltR x y) k
  | .leq => sameK fun _ x y k => boolR (Bool.rec (motive := fun _ => Bool) true false (ltR y x)) k
  | .gtr => sameK fun _ x y k => boolR (ltR y x) k
  | .geq => sameK fun _ x y k => boolR (Bool.rec (motive := fun _ => Bool) true false (ltR x y)) k
  | .and => sameK (bitR Nat.land .and)
  | .or => sameK (bitR Nat.lor .or)
  | .xor => sameK (bitR Nat.xor .xor)
  | .quo => sameK quoR
  | .rem => sameK remR
  | .shr => fun k1 _ x y k => shrR k1 x y k
  | .shl => fun k1 _ x y k => shlR k1 x y k
  | op => arithR op

theorem notR (b : Bool) : Bool.rec (motive := fun _ => Bool) true false b = !b := by cases b <;> rfl
theorem intR_eq (op : BinOp) (k1 k2 : IntKind) (x y : Int) (k : LV → Res) : intR op k1 k2 x y k = match intOp op k1 k2 x y with | some v => k v | none => .stuck := by
  have same : ∀ (f : IntKind → Int → Int → (LV → Res) → Res) (o : BinOp), (intOp o k1 k2 x y = bif Nat.beq (kIdx k1) (kIdx k2) then arith o k1 x y else none) → (f k1 x y k = match arith o k1 x y with | some v => k v | none => .stuck) →
      sameK f k1 k2 x y k = match intOp o k1 k2 x y with | some v => k v | none => .stuck := by
    intro f o h1 h2
    rw [h1]
    show Bool.rec (motive := fun _ => Res) _ _ _ = _
    cases Nat.beq (kIdx k1) (kIdx k2)
    · rfl
    · exact h2
  cases op with
  | add => exact same _ .add rfl (addR_eq _ _ _ _)
  | sub => exact same _ .sub rfl (subR_eq _ _ _ _)
  | eql => exact same (fun _ x y k => boolR (eqR x y) k) .eql rfl (by simp only [boolR_eq, eqR_eq]; rfl)
  | neq => exact same (fun _ x y k => boolR (Bool.rec (motive := fun _ => Bool) true false (eqR x y)) k) .neq rfl (by simp only [boolR_eq, notR, eqR_eq]; rfl)
  | lss => exact same (fun _ x y k => boolR (ltR x y) k) .lss rfl (by simp only [boolR_eq, ltR_eq]; rfl)
  | leq => exact same (fun _ x y k => boolR (Bool.rec (motive := fun _ => Bool) true false (ltR y x)) k) .leq rfl (by simp only [boolR_eq, notR, ltR_eq]; rfl)
  | gtr => exact same (fun _ x y k => boolR (ltR y x) k) .gtr rfl (by simp only [boolR_eq, ltR_eq]; rfl)
  | geq => exact same (fun _ x y k => boolR (Bool.rec (motive := fun _ => Bool) true false (ltR x y)) k) .geq rfl (by simp only [boolR_eq, notR, ltR_eq]; rfl)
  | and => exact same _ .and rfl (bitR_eq (fun _ _ => rfl) _ _ _ _)
  | or => exact same _ .or rfl (bitR_eq (fun _ _ => rfl) _ _ _ _)
  | xor => exact same _ .xor rfl (bitR_eq (fun _ _ => rfl) _ _ _ _)
  | quo => exact same _ .quo rfl (quoR_eq _ _ _ _)
  | rem => exact same _ .rem rfl (remR_eq _ _ _ _)
  | shr => exact shrR_eq _ _ _ _ _
  | shl => exact shlR_eq _ _ _ _ _
  | _ => exact orStuck_eq _ _

end Go.Ev
