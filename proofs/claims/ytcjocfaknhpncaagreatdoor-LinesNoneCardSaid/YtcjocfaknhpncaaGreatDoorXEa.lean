/- A trie of values by numbers, with its two laws: what was laid is there, and the rest stays. -/
/- The logical heap, and the evaluator of one operation: what it answers hangs on no capacity that the tape chooses. -/
import GoSem.Dispatch
namespace Go.Ev
open Go

inductive T (α : Type) where
  | nil
  | node (v : Option α) (l r : T α)

/-- hand the node on evaluated -/
noncomputable def T.force {α β : Type} (t : T α) (c : T α → β) : β := T.rec (motive := fun _ => β) (c .nil) (fun v l r _ _ => c (.node v l r)) t

@[simp] theorem T.force_eq {α β : Type} (t : T α) (c : T α → β) : t.force c = c t := by cases t <;> rfl

noncomputable def T.get {α : Type} (t : T α) : Nat → Option α :=
  T.rec (motive := fun _ => Nat → Option α) (fun _ => none)
    (fun v _ _ ihl ihr i => Bool.rec (motive := fun _ => Option α)
      (Bool.rec (motive := fun _ => Option α) (ihr (Nat.sub (Nat.div i 2) 1)) (ihl (Nat.div i 2)) (Nat.beq (Nat.mod i 2) 1)) v (Nat.beq i 0)) t

noncomputable def T.mkK {α β : Type} (x : Option α) (f : Nat) : Nat → (T α → β) → β :=
  Nat.rec (motive := fun _ => Nat → (T α → β) → β) (fun _ k => k .nil)
    (fun _ ih i k => Bool.rec (motive := fun _ => β)
      (Bool.rec (motive := fun _ => β) (ih (Nat.sub (Nat.div i 2) 1) fun r => k (.node none .nil r)) (ih (Nat.div i 2) fun l => k (.node none l .nil)) (Nat.beq (Nat.mod i 2) 1))
      (k (.node x .nil .nil)) (Nat.beq i 0)) f
noncomputable def T.setK {α β : Type} (x : Option α) (t : T α) : Nat → (T α → β) → β :=
  T.rec (motive := fun _ => Nat → (T α → β) → β) (fun i k => T.mkK x (Nat.succ i) i k)
    (fun v l r ihl ihr i k => Bool.rec (motive := fun _ => β)
      (Bool.rec (motive := fun _ => β) (ihr (Nat.sub (Nat.div i 2) 1) fun r => k (.node v l r)) (ihl (Nat.div i 2) fun l => k (.node v l r)) (Nat.beq (Nat.mod i 2) 1))
      (k (.node x l r)) (Nat.beq i 0)) t

noncomputable def T.set {α : Type} (t : T α) (i : Nat) (x : α) : T α := T.setK (some x) t i fun t => t
noncomputable def T.del {α : Type} (t : T α) (i : Nat) : T α := T.setK none t i fun t => t

theorem T.get_nil {α : Type} (i : Nat) : (T.nil : T α).get i = none := rfl
theorem T.get_node {α : Type} (v : Option α) (l r : T α) (i : Nat) : (T.node v l r).get i = bif Nat.beq i 0 then v else bif Nat.beq (Nat.mod i 2) 1 then l.get (Nat.div i 2) else r.get (Nat.div i 2 - 1) := by
  show Bool.rec (motive := fun _ => Option α) _ _ _ = _
  cases Nat.beq i 0
  · show Bool.rec (motive := fun _ => Option α) _ _ _ = _
    cases Nat.beq (Nat.mod i 2) 1 <;> rfl
  · rfl

/-- the same without the rest that comes behind -/
def T.setF {α : Type} (x : Option α) : Nat → T α → Nat → T α
  | 0, t, _ => t
  | f + 1, t, i => match t with
    | .nil => bif Nat.beq i 0 then .node x .nil .nil else bif Nat.beq (Nat.mod i 2) 1 then .node none (T.setF x f .nil (Nat.div i 2)) .nil else .node none .nil (T.setF x f .nil (Nat.div i 2 - 1))
    | .node v l r => bif Nat.beq i 0 then .node x l r else bif Nat.beq (Nat.mod i 2) 1 then .node v (T.setF x f l (Nat.div i 2)) r else .node v l (T.setF x f r (Nat.div i 2 - 1))

theorem T.mkK_eq {α β : Type} (x : Option α) : ∀ (f' f i : Nat) (k : T α → β), i < f' → i < f → T.mkK x f' i k = k (T.setF x f .nil i)
  | 0, _, _, _, h, _ => by omega
  | _ + 1, 0, _, _, _, h => by omega
  | f' + 1, f + 1, i, k, h1, h2 => by
    show Bool.rec (motive := fun _ => β) _ _ _ = _
    simp only [T.setF]
    have d2 : Nat.div i 2 = i / 2 := rfl
    have d3 : Nat.sub (Nat.div i 2) 1 = i / 2 - 1 := rfl
    cases h0 : Nat.beq i 0
    · have : i ≠ 0 := by rintro rfl; simp at h0
      show Bool.rec (motive := fun _ => β) _ _ _ = _
      cases Nat.beq (Nat.mod i 2) 1
      · exact T.mkK_eq x f' f _ _ (by omega) (by omega)
      · exact T.mkK_eq x f' f _ _ (by omega) (by omega)
    · rfl
theorem T.setK_eq {α β : Type} (x : Option α) : ∀ (t : T α) (f i : Nat) (k : T α → β), i < f → T.setK x t i k = k (T.setF x f t i)
  | .nil, f, i, k, h => T.mkK_eq x (Nat.succ i) f i k (Nat.lt_succ_self _) h
  | .node v l r, 0, i, k, h => by omega
  | .node v l r, f + 1, i, k, h => by
    show Bool.rec (motive := fun _ => β) _ _ _ = _
    simp only [T.setF]
    have d2 : Nat.div i 2 = i / 2 := rfl
    have d3 : Nat.sub (Nat.div i 2) 1 = i / 2 - 1 := rfl
    cases h0 : Nat.beq i 0
    · have : i ≠ 0 := by rintro rfl; simp at h0
      show Bool.rec (motive := fun _ => β) _ _ _ = _
      cases Nat.beq (Nat.mod i 2) 1
      · exact T.setK_eq x r f _ _ (by omega)
      · exact T.setK_eq x l f _ _ (by omega)
    · rfl
theorem T.setK_set {α β : Type} (x : α) (t : T α) (i : Nat) (k : T α → β) : T.setK (some x) t i k = k (t.set i x) := by
  rw [T.setK_eq (some x) t (Nat.succ i) i k (Nat.lt_succ_self _)]
  exact congrArg k (T.setK_eq (some x) t (Nat.succ i) i (fun t => t) (Nat.lt_succ_self _)).symm

theorem T.get_setF {α : Type} (x : Option α) : ∀ (f : Nat) (t : T α) (i j : Nat), i < f → (T.setF x f t i).get j = if j = i then x else t.get j := by
  intro f
  induction f with
  | zero => intro t i j h; omega
  | succ f ih =>
    intro t i j h
    have e0 : ∀ n : Nat, Nat.beq n 0 = decide (n = 0) := fun n => by rw [Bool.eq_iff_iff]; simp
    have e1 : ∀ n : Nat, Nat.beq (Nat.mod n 2) 1 = decide (n % 2 = 1) := fun n => by rw [Bool.eq_iff_iff]; simp; rfl
    have d2 : ∀ n : Nat, Nat.div n 2 = n / 2 := fun _ => rfl
    cases t with
    | nil =>
      simp only [T.setF, e0, e1, d2]
      by_cases hi : i = 0
      · subst hi
        by_cases hj : j = 0
        · simp [T.get_node, hj]
        · simp only [decide_true, cond_true, T.get_node, e0, e1, hj, decide_false, cond_false, if_false, T.get_nil]
          cases decide (j % 2 = 1) <;> rfl
      · by_cases hm : i % 2 = 1
        · simp only [hi, hm, decide_false, decide_true, cond_false, cond_true, T.get_node, e0, e1, d2]
          rw [ih _ _ _ (by omega)]
          by_cases hj : j = 0
          · simp [hj, T.get_nil]; intro h0; omega
          · by_cases hmj : j % 2 = 1
            · simp only [hj, hmj, decide_false, decide_true, cond_false, cond_true, T.get_nil]
              by_cases hji : j = i
              · simp [hji]
              · rw [if_neg (by omega), if_neg hji]
            · simp only [hj, hmj, decide_false, cond_false, T.get_nil]
              rw [if_neg (by rintro rfl; exact hmj hm)]
        · simp only [hi, hm, decide_false, cond_false, T.get_node, e0, e1, d2]
          rw [ih _ _ _ (by omega)]
          by_cases hj : j = 0
          · simp [hj, T.get_nil]; intro h0; omega
          · by_cases hmj : j % 2 = 1
            · simp only [hj, hmj, decide_false, decide_true, cond_false, cond_true, T.get_nil]
              rw [if_neg (by rintro rfl; exact hm hmj)]
            · simp only [hj, hmj, decide_false, cond_false, T.get_nil]
              by_cases hji : j = i
              · simp [hji]
              · rw [if_neg (by omega), if_neg hji]
    | node v l r =>
      simp only [T.setF, e0, e1, d2]
      by_cases hi : i = 0
      · subst hi
        by_cases hj : j = 0
        · simp [T.get_node, hj]
        · simp only [decide_true, cond_true, T.get_node, e0, e1, hj, decide_false, cond_false, if_false]
      · by_cases hm : i % 2 = 1
        · simp only [hi, hm, decide_false, decide_true, cond_false, cond_true, T.get_node, e0, e1, d2]
          rw [ih _ _ _ (by omega)]
          by_cases hj : j = 0
          · simp [hj]; intro h0; omega
          · by_cases hmj : j % 2 = 1
            · simp only [hj, hmj, decide_false, decide_true, cond_false, cond_true]
              by_cases hji : j = i
              · simp [hji]
              · rw [if_neg (by omega), if_neg hji]
            · simp only [hj, hmj, decide_false, cond_false]
              rw [if_neg (by rintro rfl; exact hmj hm)]
        · simp only [hi, hm, decide_false, cond_false, T.get_node, e0, e1, d2]
          rw [ih _ _ _ (by omega)]
          by_cases hj : j = 0
          · simp [hj]; intro h0; omega
          · by_cases hmj : j % 2 = 1
            · simp only [hj, hmj, decide_false, decide_true, cond_false, cond_true]
              rw [if_neg (by rintro rfl; exact hm hmj)]
            · simp only [hj, hmj, decide_false, cond_false]
              by_cases hji : j = i
              · simp [hji]
              · rw [if_neg (by omega), if_neg hji]

theorem T.get_set {α : Type} (t : T α) (i j : Nat) (x : α) : (t.set i x).get j = if j = i then some x else t.get j :=
  (congrArg (fun t => T.get t j) (T.setK_eq _ t (Nat.succ i) i (fun t => t) (Nat.lt_succ_self _))).trans (T.get_setF _ _ _ _ _ (Nat.lt_succ_self _))
theorem T.get_del {α : Type} (t : T α) (i j : Nat) : (t.del i).get j = if j = i then none else t.get j :=
  (congrArg (fun t => T.get t j) (T.setK_eq _ t (Nat.succ i) i (fun t => t) (Nat.lt_succ_self _))).trans (T.get_setF _ _ _ _ _ (Nat.lt_succ_self _))
@[simp] theorem T.get_set_same {α : Type} (t : T α) (i : Nat) (x : α) : (t.set i x).get i = some x := by rw [T.get_set, if_pos rfl]
theorem T.get_set_ne {α : Type} (t : T α) {i j : Nat} (x : α) (h : j ≠ i) : (t.set i x).get j = t.get j := by rw [T.get_set, if_neg h]

noncomputable def T.ofListFrom {α : Type} (xs : List α) : Nat → T α → T α :=
  List.rec (motive := fun _ => Nat → T α → T α) (fun _ t => t) (fun x _ ih i t => (t.set i x).force fun t => fNat' (Nat.succ i) fun i => ih i t) xs
  where
  fNat' {β : Type} (n : Nat) (c : Nat → β) : β := Nat.rec (motive := fun _ => β) (c 0) (fun m _ => c (Nat.succ m)) n
theorem T.fNat'_eq {β : Type} (n : Nat) (c : Nat → β) : T.ofListFrom.fNat' n c = c n := by cases n <;> rfl
theorem T.ofListFrom_nil {α : Type} (i : Nat) (t : T α) : T.ofListFrom [] i t = t := rfl
theorem T.ofListFrom_cons {α : Type} (x : α) (xs : List α) (i : Nat) (t : T α) : T.ofListFrom (x :: xs) i t = T.ofListFrom xs (Nat.succ i) (t.set i x) := by
  show (t.set i x).force (fun t => T.ofListFrom.fNat' (Nat.succ i) fun i => T.ofListFrom xs i t) = _
  rw [T.force_eq, T.fNat'_eq]

theorem T.get_ofListFrom {α : Type} : ∀ (xs : List α) (i : Nat) (t : T α) (j : Nat), (T.ofListFrom xs i t).get j = if i ≤ j ∧ j < i + xs.length then xs[j - i]? else t.get j
  | [], i, t, j => by simp [T.ofListFrom_nil]; intro h1 h2; omega
  | x :: xs, i, t, j => by
    simp only [T.ofListFrom_cons, List.length_cons]
    rw [T.get_ofListFrom xs (Nat.succ i) (t.set i x) j, T.get_set]
    by_cases h : j = i
    · subst h
      rw [if_neg (by omega), if_pos rfl, if_pos (by omega)]
      simp
    · rw [if_neg h]
      by_cases h2 : Nat.succ i ≤ j ∧ j < Nat.succ i + xs.length
      · rw [if_pos h2, if_pos (by omega)]
        obtain ⟨k, rfl⟩ : ∃ k, j = i + 1 + k := ⟨j - (i + 1), by omega⟩
        rw [show i + 1 + k - Nat.succ i = k by omega, show i + 1 + k - i = k + 1 by omega]
        simp
      · rw [if_neg h2, if_neg (by omega)]

theorem T.get_ofList {α : Type} (xs : List α) (j : Nat) : (T.ofListFrom xs 0 .nil).get j = xs[j]? := by
  rw [T.get_ofListFrom]
  by_cases h : j < xs.length
  · rw [if_pos (by omega)]; simp
  · rw [if_neg (by omega)]; simp [T.get_nil, List.getElem?_eq_none (Nat.le_of_not_lt h)]

noncomputable def fNat {β : Type} (n : Nat) (c : Nat → β) : β := Nat.rec (motive := fun _ => β) (c 0) (fun m _ => c (Nat.succ m)) n
@[simp] theorem fNat_eq {β : Type} (n : Nat) (c : Nat → β) : fNat n c = c n := by cases n <;> rfl
noncomputable def fInt {β : Type} (n : Int) (c : Int → β) : β := Int.rec (motive := fun _ => β) (fun m => fNat m fun m => c (.ofNat m)) (fun m => fNat m fun m => c (.negSucc m)) n
@[simp] theorem fInt_eq {β : Type} (n : Int) (c : Int → β) : fInt n c = c n := by cases n <;> simp [fInt]
noncomputable def fBool {β : Type} (n : Bool) (c : Bool → β) : β := Bool.rec (motive := fun _ => β) (c false) (c true) n
@[simp] theorem fBool_eq {β : Type} (n : Bool) (c : Bool → β) : fBool n c = c n := by cases n <;> rfl
noncomputable def fAddr {β : Type} (a : Option (Nat × Nat)) (c : Option (Nat × Nat) → β) : β :=
  Option.rec (motive := fun _ => β) (c none) (fun p => Prod.rec (motive := fun _ => β) (fun b o => fNat b fun b => fNat o fun o => c (some (b, o))) p) a
@[simp] theorem fAddr_eq {β : Type} (a : Option (Nat × Nat)) (c : Option (Nat × Nat) → β) : fAddr a c = c a := by
  cases a with
  | none => rfl
  | some p => simp [fAddr]
noncomputable def fON {β : Type} (a : Option Nat) (c : Option Nat → β) : β := Option.rec (motive := fun _ => β) (c none) (fun b => fNat b fun b => c (some b)) a
@[simp] theorem fON_eq {β : Type} (a : Option Nat) (c : Option Nat → β) : fON a c = c a := by cases a <;> simp [fON]

noncomputable def obind {α β : Type} (x : Option α) (f : α → Option β) : Option β := Option.rec (motive := fun _ => Option β) none f x
theorem obind_some {α β : Type} {x : Option α} {f : α → Option β} {b : β} : obind x f = some b ↔ ∃ a, x = some a ∧ f a = some b := by
  cases x <;> simp [obind]
@[simp] theorem obind_none {α β : Type} (f : α → Option β) : obind none f = none := rfl
@[simp] theorem obind_val {α β : Type} (a : α) (f : α → Option β) : obind (some a) f = f a := rfl

end Go.Ev
namespace Go.Ev
open Go

inductive LV where
  | bool (b : Bool)
  | int (k : IntKind) (n : Int)
  | str (s : List UInt8)
  | ptr (a : Option (Nat × Nat))
  | sl (a : Option (Nat × Nat)) (len cap : Nat) (own : Option Nat)
  | map (r : Option Nat)
  | fn (f : Fn) (first cap : List LV)
  | nilFn
  | iface (t : TypeId) (v : LV)
  | nilIface
  | agg (cs : List LV)
  | tup (vs : List LV)
  deriving Inhabited

abbrev LV.undef : LV := .tup []

noncomputable def LV.force {β : Type} (v : LV) (c : LV → β) : β := match v with
  | .bool b => fBool b fun b => c (.bool b)
  | .int k n => fInt n fun n => c (.int k n)
  | .ptr a => fAddr a fun a => c (.ptr a)
  | .sl a l k o => fAddr a fun a => fNat l fun l => fNat k fun k => fON o fun o => c (.sl a l k o)
  | v => c v
@[simp] theorem LV.force_eq {β : Type} (v : LV) (c : LV → β) : v.force c = c v := by
  cases v <;> simp [LV.force]

inductive LObj where
  | cells (c : T LV) (n : Nat) (own : Option Nat)
  | map (es : List (LV × LV × Nat)) (clock : Nat)
  | loop (state : LoopState) (pending : Option Code) (nt : Nat) (tmps : T LV) (params : List Tmp) (assign body : Code)
  | defd

structure LH where
  m : T LObj
  nx : Nat
  lo : Nat

structure Env where
  types : T TypeInfo
  funcs : T Func
  orac : T (LH → List LV → Option (LV × LH))
  flat : T Unit
  ng : Nat

inductive Ex where
  | normal | exit (id : Nat) | ret

/-- what is deferred: a loop's mark; a function's call -/
inductive DI where
  | mark (D : Nat)
  | call (f : FuncId) (args cap : List LV)

structure St where
  t : T LV
  h : LH
  d : List DI

mutual
noncomputable def ofV : Value → Option LV
  | .bool b => some (.bool b)
  | .int k n => some (.int k n)
  | .string s => some (.str s.data.toList)
  | .pointer none => some (.ptr none)
  | .slice none 0 0 => some (.sl none 0 0 none)
  | .map none => some (.map none)
  | .nilFunc => some .nilFn
  | .iface t v => match ofV v with | some v => some (.iface t v) | none => none
  | .nilIface => some .nilIface
  | .agg ⟨cs⟩ => match ofVs cs with | some v => some (.agg v) | none => none
  | .tuple ⟨cs⟩ => match ofVs cs with | some v => some (.tup v) | none => none
  | _ => none
noncomputable def ofVs : List Value → Option (List LV)
  | [] => some []
  | v :: vs => match ofV v with
    | some v => match ofVs vs with | some vs => some (v :: vs) | none => none
    | none => none
end

section
variable (E : Env)

noncomputable def evalO (t : T LV) : Operand → Option LV
  | .tmp i => match t.get i with
    | some v => some v
    | none => some .undef
  | .const v => ofV v
  | .global g => bif Nat.blt g E.ng then some (.ptr (some (g, 0))) else none
  | .func f => some (.fn (.func f) [] [])

noncomputable def desc (t : TypeId) : Option TypeDesc := match E.types.get t with
  | some i => match i.desc with
    | .named _ u => match E.types.get u with
      | some j => some j.desc
      | none => none
    | d => some d
  | none => none
noncomputable def sizeOf (t : TypeId) : Option Nat := match E.types.get t with
  | some i => some i.size
  | none => none
/-- the cells of a type's zero value, of a type whose values have few bytes -/
noncomputable def zeroCells (t : TypeId) : Option (List LV) := match E.types.get t with
  | some i => bif Nat.ble i.bytes 4096 then match i.zero with
    | some (.agg ⟨cs⟩) => ofVs cs
    | some v => match ofV v with | some v => some [v] | none => none
    | none => none
    else none
  | none => none
noncomputable def aggOf : TypeDesc → Bool
  | .struct _ => true
  | .array .. => true
  | _ => false

noncomputable def LV.cells : LV → List LV
  | .agg cs => cs
  | v => [v]
noncomputable def LV.plain : LV → Bool
  | .agg _ => false
  | .tup _ => false
  | _ => true

noncomputable def LH.cell (h : LH) (b o : Nat) : Option LV := match h.m.get b with
  | some (.cells c _ _) => c.get o
  | _ => none
noncomputable def LH.setCell (h : LH) (b o : Nat) (v : LV) : Option LH := match h.m.get b with
  | some (.cells c n w) => bif Nat.blt o n then bif Nat.ble h.lo b then bif v.plain then
      (c.set o v).force fun c => (h.m.set b (.cells c n w)).force fun m => some ⟨m, h.nx, h.lo⟩
    else none else none else none
  | _ => none
noncomputable def LH.alloc {β : Type} (h : LH) (o : LObj) (c : Nat → LH → β) : β :=
  (h.m.set h.nx o).force fun m => fNat (Nat.succ h.nx) fun n => c h.nx ⟨m, n, h.lo⟩
noncomputable def mkCells {β : Type} (cs : List LV) (w : Option Nat) (c : LObj → β) : β := (T.ofListFrom cs 0 .nil).force fun t => fNat cs.length fun n => c (.cells t n w)
noncomputable def loadCells (h : LH) (b : Nat) : Nat → Nat → Option (List LV)
  | _, 0 => some []
  | o, n + 1 => obind (h.cell b o) fun v => obind (loadCells h b (Nat.succ o) n) fun r => some (v :: r)
noncomputable def storeCells (b : Nat) : List LV → Nat → LH → Option LH
  | [], _, h => some h
  | v :: vs, o, h => obind (h.setCell b o v) fun h => storeCells b vs (Nat.succ o) h

noncomputable def maxN : IntKind → Nat
  | .i8 => 127 | .i16 => 32767 | .i32 => 2147483647 | .i64 => 9223372036854775807
  | .u8 => 255 | .u16 => 65535 | .u32 => 4294967295 | .u64 => 18446744073709551615
noncomputable def wrapF (k : IntKind) (n : Int) : Int := match n with
  | .ofNat m => bif Nat.ble m (maxN k) then .ofNat m else k.wrap (.ofNat m)
  | .negSucc m => k.wrap (.negSucc m)
noncomputable def kIdx : IntKind → Nat
  | .i8 => 0 | .i16 => 1 | .i32 => 2 | .i64 => 3 | .u8 => 4 | .u16 => 5 | .u32 => 6 | .u64 => 7
noncomputable def ltI (x y : Int) : Bool := match x, y with
  | .ofNat a, .ofNat b => Nat.blt a b
  | .negSucc _, .ofNat _ => true
  | .ofNat _, .negSucc _ => false
  | .negSucc a, .negSucc b => Nat.blt b a
noncomputable def eqI (x y : Int) : Bool := match x, y with
  | .ofNat a, .ofNat b => Nat.beq a b
  | .negSucc a, .negSucc b => Nat.beq b a
  | _, _ => false

noncomputable def bitsB (op : BinOp) (k : IntKind) (x y : BitVec k.bits) : Option Int := match op with
  | .and => some (k.wrap ((x &&& y).toNat))
  | .or => some (k.wrap ((x ||| y).toNat))
  | .xor => some (k.wrap ((x ^^^ y).toNat))
  | .andNot => some (k.wrap ((x &&& ~~~ y).toNat))
  | _ => none
noncomputable def bitsN (op : BinOp) (a b : Nat) : Option Int := match op with
  | .and => some (.ofNat (Nat.land a b))
  | .or => some (.ofNat (Nat.lor a b))
  | .xor => some (.ofNat (Nat.xor a b))
  | _ => none
/-- the fast way: two numbers that the kind has, from 0 on -/
noncomputable def bitsI (op : BinOp) (k : IntKind) (x y : Int) : Option Int := match x with
  | .ofNat a => match y with
    | .ofNat b => bif (Nat.ble a (maxN k) && Nat.ble b (maxN k)) then match bitsN op a b with
        | some r => some r
        | none => bitsB op k (BitVec.ofInt k.bits (.ofNat a)) (BitVec.ofInt k.bits (.ofNat b))
      else bitsB op k (BitVec.ofInt k.bits (.ofNat a)) (BitVec.ofInt k.bits (.ofNat b))
    | y => bitsB op k (BitVec.ofInt k.bits (.ofNat a)) (BitVec.ofInt k.bits y)
  | x => bitsB op k (BitVec.ofInt k.bits x) (BitVec.ofInt k.bits y)

noncomputable def bitsV (op : BinOp) (k : IntKind) (x y : Int) : Option LV := match bitsI op k x y with
  | some r => some (.int k r)
  | none => none

noncomputable def arith (op : BinOp) (k : IntKind) (x y : Int) : Option LV :=
  match op with
  | .add => some (.int k (wrapF k (Int.add x y)))
  | .sub => some (.int k (wrapF k (Int.sub x y)))
  | .mul => some (.int k (wrapF k (Int.mul x y)))
  | .quo => bif eqI y 0 then none else some (.int k (wrapF k (x.tdiv y)))
  | .rem => bif eqI y 0 then none else some (.int k (x.tmod y))
  | .eql => some (.bool (eqI x y))
  | .neq => some (.bool (!(eqI x y)))
  | .lss => some (.bool (ltI x y))
  | .leq => some (.bool (!(ltI y x)))
  | .gtr => some (.bool (ltI y x))
  | .geq => some (.bool (!(ltI x y)))
  | .and => bitsV .and k x y
  | .or => bitsV .or k x y
  | .xor => bitsV .xor k x y
  | .andNot => bitsV .andNot k x y
  | _ => none

noncomputable def eqL : List UInt8 → List UInt8 → Bool
  | [], [] => true
  | a :: x, b :: y => bif Nat.beq a.toNat b.toNat then eqL x y else false
  | _, _ => false
noncomputable def ltL : List UInt8 → List UInt8 → Bool
  | _, [] => false
  | [], _ :: _ => true
  | a :: x, b :: y => bif Nat.blt a.toNat b.toNat then true else bif Nat.beq a.toNat b.toNat then ltL x y else false

/-- how many things append takes at most -/
noncomputable def bigN : Nat := 4294967296

noncomputable def strOp (op : BinOp) (x y : List UInt8) : Option LV :=
  match op with
  | .add => bif Nat.ble (Nat.add x.length y.length) bigN then some (.str (x ++ y)) else none
  | .eql => some (.bool (eqL x y))
  | .neq => some (.bool (!(eqL x y)))
  | .lss => some (.bool (ltL x y))
  | .leq => some (.bool (ltL x y || eqL x y))
  | .gtr => some (.bool (!(ltL x y || eqL x y)))
  | .geq => some (.bool (!(ltL x y)))
  | _ => none

noncomputable def partV (t : TypeId) (cs : List LV) (off : Nat) : Option LV := obind (desc E t) fun d => bif aggOf d then
    obind (sizeOf E t) fun n => bif Nat.ble (Nat.add off n) cs.length then some (.agg ((cs.drop off).take n)) else none
  else cs[off]?

noncomputable def eqFs (eq : TypeId → LV → LV → Option Bool) (xs ys : List LV) : List Field → Option Bool
  | [] => some true
  | f :: fs => obind (partV E f.type xs f.offset) fun a => obind (partV E f.type ys f.offset) fun b => match eq f.type a b with
    | some true => eqFs eq xs ys fs
    | some false => some false
    | none => none
noncomputable def eqIs (eq : TypeId → LV → LV → Option Bool) (e : TypeId) (sz : Nat) (xs ys : List LV) : List Nat → Option Bool
  | [] => some true
  | i :: is => obind (partV E e xs (Nat.mul i sz)) fun a => obind (partV E e ys (Nat.mul i sz)) fun b => match eq e a b with
    | some true => eqIs eq e sz xs ys is
    | some false => some false
    | none => none
noncomputable def comparable (t : TypeId) : Bool := match E.types.get t with
  | some i => i.comparable
  | none => false
noncomputable def eqD (eq : TypeId → LV → LV → Option Bool) (t : TypeId) (d : TypeDesc) (x y : LV) : Option Bool := match d with
  | .bool => match x, y with | .bool a, .bool b => some (a == b) | _, _ => none
  | .int _ => match x, y with | .int k a, .int k' b => bif Nat.beq (kIdx k) (kIdx k') then some (eqI a b) else none | _, _ => none
  | .string => match x, y with | .str a, .str b => some (eqL a b) | _, _ => none
  | .pointer _ => match x, y with | .ptr none, .ptr b => some b.isNone | .ptr (some _), .ptr none => some false | _, _ => none
  | .interface _ => match x, y with
    | .nilIface, .iface .. => some false
    | .iface .., .nilIface => some false
    | .iface tx vx, .iface ty vy => bif Nat.beq tx ty then bif comparable E tx then eq tx vx vy else none else some false
    | _, _ => none
  | .struct fs => match x, y with
    | .agg xs, .agg ys => bif (E.flat.get t).isSome then eqFs E eq xs ys fs.toList else none
    | _, _ => none
  | .array n e => match x, y with
    | .agg xs, .agg ys => obind (sizeOf E e) fun sz => eqIs E eq e sz xs ys (List.range n)
    | _, _ => none
  | .slice _ => match x, y with | .sl none _ _ _, .sl b _ _ _ => some b.isNone | .sl (some _) _ _ _, .sl none _ _ _ => some false | _, _ => none
  | .map .. => match x, y with | .map none, .map b => some b.isNone | .map (some _), .map none => some false | _, _ => none
  | .func .. => match x, y with | .nilFn, .nilFn => some true | .nilFn, .fn .. => some false | .fn .., .nilFn => some false | _, _ => none
  | _ => none
noncomputable def eqT : Nat → TypeId → LV → LV → Option Bool
  | 0, _, _, _ => none
  | n + 1, t, x, y => obind (desc E t) fun d => eqD E (eqT n) t d x y

noncomputable def shlI (k : IntKind) (a : Int) (b : Nat) : LV := .int k (wrapF k (Int.mul a (.ofNat (Nat.pow 2 (Nat.min b k.bits)))))
noncomputable def shrI (k : IntKind) (a : Int) (b : Nat) : LV := match a with
  | .ofNat a => .int k (.ofNat (Nat.div a (Nat.pow 2 (Nat.min b k.bits))))
  | a => .int k (a.fdiv (2 ^ (Nat.min b k.bits)))

noncomputable def intOp (op : BinOp) (k k' : IntKind) (a b : Int) : Option LV := match op with
  | .shl => match b with
    | .ofNat b => some (shlI k a b)
    | _ => none
  | .shr => match b with
    | .ofNat b => some (shrI k a b)
    | _ => none
  | op => bif Nat.beq (kIdx k) (kIdx k') then arith op k a b else none

/-- '==', '!=' of what is no number and no text; of structs and arrays only where the type is listed -/
noncomputable def eqOp (op : BinOp) (t : TypeId) (c : Bool) (x y : LV) : Option LV := match op with
  | .eql => match eqQ t c x y with
    | some b => some (.bool b)
    | none => none
  | .neq => match eqQ t c x y with
    | some b => some (.bool (!b))
    | none => none
  | _ => none
  where
  eqQ (t : TypeId) (c : Bool) (x y : LV) : Option Bool := match x with
    | .nilIface => match y with
      | .nilIface => bif c then match desc E t with | some (.interface _) => some true | _ => none else none
      | y => eqT E 8 t .nilIface y
    | .agg a => bif (E.flat.get t).isSome then eqT E 8 t (.agg a) y else none
    | x => eqT E 8 t x y

noncomputable def isConst : Operand → Bool
  | .const _ => true
  | _ => false

noncomputable def binOpV (op : BinOp) (t : TypeId) (c : Bool) (x y : LV) : Option LV :=
  match x with
  | .int k a => match y with
    | .int k' b => intOp op k k' a b
    | _ => none
  | .str a => match y with
    | .str b => strOp op a b
    | _ => none
  | x => eqOp E op t c x y

noncomputable def unOpV (op : UnOp) (x : LV) : Option LV :=
  match x with
  | .int k n => match op with
    | .neg => arith .sub k 0 n
    | .xor => arith .xor k (if k.signed then -1 else k.max) n
    | _ => none
  | .bool b => match op with
    | .not => some (.bool (!b))
    | _ => none
  | _ => none

noncomputable def evalP (t : T LV) : List (Nat × Operand) → Option (List (Nat × LV))
  | [] => some []
  | (i, x) :: r => obind (evalO E t x) fun v => obind (evalP t r) fun vs => some ((i, v) :: vs)
noncomputable def evalOs (t : T LV) : List Operand → Option (List LV)
  | [] => some []
  | x :: r => obind (evalO E t x) fun v => obind (evalOs t r) fun vs => some (v :: vs)
noncomputable def evalOO (t : T LV) : Option Operand → Option (Option LV)
  | none => some none
  | some x => match evalO E t x with
    | some v => some (some v)
    | none => none

/-- write cells over a list of cells -/
noncomputable def overL : Nat → List LV → List LV → List LV
  | 0, vs, cs => vs ++ cs.drop vs.length
  | o + 1, vs, c :: cs => c :: overL o vs cs
  | _ + 1, _, [] => []

/-- lay parts into cells; each part must have its place's size -/
noncomputable def fillL (place : Nat → Option (Nat × Nat)) : List (Nat × LV) → List LV → Option (List LV)
  | [], cs => some cs
  | (i, v) :: r, cs => obind (place i) fun (off, sz) =>
    bif Nat.beq v.cells.length sz && Nat.ble (Nat.add off sz) cs.length then fillL place r (overL off v.cells cs) else none

noncomputable def placesL : List Field → Option (List (Nat × Nat))
  | [] => some []
  | f :: fs => obind (sizeOf E f.type) fun s => obind (placesL fs) fun r => some ((f.offset, s) :: r)
noncomputable def placeA (sz : Nat) (i : Nat) : Option (Nat × Nat) := some (Nat.mul i sz, sz)

noncomputable def buildV (t : TypeId) (parts : List (Nat × LV)) : Option LV :=
  obind (zeroCells E t) fun z => obind (desc E t) fun d => match d with
  | .struct fields => obind (placesL E fields.toList) fun pl => obind (fillL (fun i => pl[i]?) parts z) fun cs => some (.agg cs)
  | .array _ e => obind (sizeOf E e) fun s => obind (fillL (placeA s) parts z) fun cs => some (.agg cs)
  | _ => none

noncomputable def repl (z : List LV) : Nat → List LV
  | 0 => []
  | n + 1 => z ++ repl z n

noncomputable def idx (i : LV) (n : Nat) : Option Nat := match i with
  | .int _ (.ofNat i) => bif Nat.blt i n then some i else none
  | _ => none
noncomputable def bnd (i : LV) (n : Nat) : Option Nat := match i with
  | .int _ (.ofNat i) => bif Nat.ble i n then some i else none
  | _ => none
noncomputable def bndO (i : Option LV) (n d : Nat) : Option Nat := match i with
  | some v => bnd v n
  | none => some d

noncomputable def moveA (a : Option (Nat × Nat)) (k : Nat) : Option (Nat × Nat) := match a with
  | some (b, o) => some (b, Nat.add o k)
  | none => none

noncomputable def sliceStr (s : List UInt8) (lo hi : Option LV) : Option LV :=
  obind (bndO hi s.length s.length) fun hi' => obind (bndO lo hi' 0) fun lo' => some (.str ((s.take hi').drop lo'))
noncomputable def okMx (hi mx : Option LV) : Bool := match mx with
  | none => true
  | some _ => hi.isSome
/-- is the block one that was made to be appended to, of elements of so many cells? -/
noncomputable def ownSz (h : LH) (b sz : Nat) : Bool := match h.m.get b with
  | some (.cells _ _ (some s)) => Nat.beq s sz && Nat.ble h.lo b
  | _ => false
noncomputable def sliceOwn (h : LH) (sz : Nat) (a : Option (Nat × Nat)) (w lo' hi' m : Nat) : Option (LV × LH) := match a with
  | none => none
  | some (b, o) => bif and (ownSz h b sz) (Nat.ble hi' m) then
      bif Nat.beq m lo' then bif Nat.beq hi' lo' then fNat (Nat.succ h.nx) fun n => some (.sl (some (h.nx, 0)) 0 0 (some 0), ⟨h.m, n, h.lo⟩) else none
      else some (.sl (some (b, Nat.add o (Nat.mul lo' sz))) (Nat.sub hi' lo') (Nat.sub m lo') (some (Nat.add w lo')), h)
    else none
noncomputable def sliceSl (h : LH) (sz : Nat) (a : Option (Nat × Nat)) (len cap : Nat) (own : Option Nat) (lo hi mx : Option LV) : Option (LV × LH) :=
  bif okMx hi mx then obind (bndO mx cap cap) fun m => obind (bndO hi m len) fun hi' => obind (bndO lo hi' 0) fun lo' =>
  match own with
  | none => some (.sl (bif Nat.beq m lo' then a else moveA a (Nat.mul lo' sz)) (Nat.sub hi' lo') (Nat.sub m lo') none, h)
  | some w => match mx with
    | some _ => some (.sl (bif Nat.beq m lo' then a else moveA a (Nat.mul lo' sz)) (Nat.sub hi' lo') (Nat.sub m lo') none, h)
    | none => sliceOwn h sz a w lo' hi' m
  else none
noncomputable def sliceArr (sz n b o : Nat) (lo hi mx : Option LV) : Option LV :=
  bif okMx hi mx then obind (bndO mx n n) fun m => obind (bndO hi m n) fun hi' => obind (bndO lo hi' 0) fun lo' =>
  some (.sl (some (b, bif Nat.beq m lo' then o else Nat.add o (Nat.mul lo' sz))) (Nat.sub hi' lo') (Nat.sub m lo') none) else none

noncomputable def sliceV (h : LH) (td : TypeDesc) (x : LV) (lo hi mx : Option LV) : Option (LV × LH) :=
  match td with
  | .string => match x with
    | .str s => match mx with
      | none => obind (sliceStr s lo hi) fun v => some (v, h)
      | _ => none
    | _ => none
  | .slice e => match x with
    | .sl a len cap own => obind (sizeOf E e) fun sz => sliceSl h sz a len cap own lo hi mx
    | _ => none
  | .array n e => match x with
    | .ptr (some (b, o)) => obind (sizeOf E e) fun sz => obind (sliceArr sz n b o lo hi mx) fun v => some (v, h)
    | _ => none
  | _ => none

noncomputable def bytesV : List UInt8 → List LV
  | [] => []
  | b :: r => .int .u8 (.ofNat b.toNat) :: bytesV r
noncomputable def ofBytes : List LV → Option (List UInt8)
  | [] => some []
  | .int .u8 (.ofNat n) :: r => obind (ofBytes r) fun r => some (UInt8.ofNat n :: r)
  | _ => none

noncomputable def srcCells (h : LH) (sz n : Nat) : LV → Option (List LV)
  | .sl none _ _ _ => some []
  | .sl (some (b, o)) _ _ _ => loadCells h b o (Nat.mul n sz)
  | .str s => bif Nat.beq sz 1 then some (bytesV (s.take n)) else none
  | _ => none
noncomputable def lenV : LV → Option Nat
  | .sl _ n _ _ => some n
  | .str s => some s.length
  | _ => none

/-- the old row of a slice that is appended to, where it may be written on -/
noncomputable def dropOwn (h : LH) (sz : Nat) (base : Option (Nat × Nat)) (own : Option Nat) : Option LH := match own with
  | none => some h
  | some _ => match base with
    | none => none
    | some (b, _) => match h.m.get b with
      | some (.cells _ _ (some s)) => bif Nat.beq s sz && Nat.ble h.lo b then (h.m.del b).force fun m => some ⟨m, h.nx, h.lo⟩ else none
      | _ => none

noncomputable def appendIn (h : LH) (sz need : Nat) (base : Option (Nat × Nat)) (len cap : Nat) (own : Option Nat) (new : List LV) : Option (LV × LH) := match base with
  | some (b, o) => obind (storeCells b new (Nat.add o (Nat.mul len sz)) h) fun h => some (.sl base need cap own, h)
  | none => some (.sl base need cap own, h)
noncomputable def allPlain : List LV → Bool
  | [] => true
  | v :: r => and v.plain (allPlain r)
noncomputable def appendGrow (h : LH) (sz need : Nat) (base : Option (Nat × Nat)) (own : Option Nat) (old new : List LV) : Option (LV × LH) :=
  bif and (Nat.ble need bigN) (allPlain new) then obind (dropOwn h sz base own) fun h =>
    mkCells (old ++ new) (some sz) fun o => h.alloc o fun b h => some (.sl (some (b, 0)) need need (some 0), h)
  else none
noncomputable def appendSl (h : LH) (sz : Nat) (n : Nat) (new : List LV) (base : Option (Nat × Nat)) (len cap : Nat) (own : Option Nat) : Option (LV × LH) :=
  fNat (Nat.add len n) fun need =>
    bif Nat.ble need cap then appendIn h sz need base len cap own new
    else obind (srcCells h sz len (.sl base len cap own)) fun old => appendGrow h sz need base own old new

/-- the new elements: how many, and their cells -/
noncomputable def newOf (h : LH) (zeros : Bool) (z : List LV) (sz : Nat) (x : LV) : Option (Nat × List LV) := match zeros with
  | true => match x with
    | .int _ (.ofNat i) => bif Nat.ble i bigN then some (i, repl z i) else none
    | _ => none
  | false => obind (lenV x) fun n => obind (srcCells h sz n x) fun cs => some (n, cs)

noncomputable def appendV (h : LH) (e : TypeId) (zeros : Bool) (s x : LV) : Option (LV × LH) :=
  match s with
  | .sl base len cap own => obind (sizeOf E e) fun sz => obind (zeroCells E e) fun z =>
    bif Nat.beq z.length sz then obind (newOf h zeros z sz x) fun (n, new) => appendSl h sz n new base len cap own else none
  | _ => none

noncomputable def minmax (big : Bool) : LV → List LV → Option LV
  | x, [] => some x
  | .int k x, .int k' y :: r => bif Nat.beq (kIdx k) (kIdx k') then minmax big (.int k (bif (bif big then ltI x y else ltI y x) then y else x)) r else none
  | _, _ => none

noncomputable def lenB (h : LH) (t : TypeId) (x : LV) : Option Nat := match x with
  | .str s => some s.length
  | .sl _ n _ _ => some n
  | .map none => some 0
  | .map (some r) => match h.m.get r with
    | some (.map es _) => some es.length
    | _ => none
  | _ => match desc E t with
    | some (.array n _) => some n
    | _ => none
/-- what len is asked of must be of a type that fits -/
noncomputable def lenT (t : TypeId) (x : LV) : Bool := match desc E t with
  | some .string => match x with | .str _ => true | _ => false
  | some (.slice _) => match x with | .sl .. => true | _ => false
  | some (.map ..) => match x with | .map _ => true | _ => false
  | some (.array ..) => match x with | .agg _ => true | .ptr _ => true | _ => false
  | _ => false
noncomputable def bLen (h : LH) (ats : Array TypeId) (args : List LV) : Option (LV × LH) := match args with
  | [x] => match ats[0]? with
    | some t => bif lenT E t x then obind (lenB E h t x) fun n => some (.int .i64 (.ofNat n), h) else none
    | none => none
  | _ => none
noncomputable def bCap (h : LH) (ats : Array TypeId) (args : List LV) : Option (LV × LH) := match args with
  | [.sl _ _ n none] => match ats[0]? with
    | some t => match desc E t with
      | some (.slice _) => some (.int .i64 (.ofNat n), h)
      | _ => none
    | none => none
  | _ => none
noncomputable def intType (ats : Array TypeId) : Option Bool := match ats[1]? with
  | some t => match desc E t with
    | some (.int _) => some true
    | some _ => some false
    | none => none
  | none => some false
noncomputable def bAppend (h : LH) (ats : Array TypeId) (args : List LV) : Option (LV × LH) := match args with
  | [s, x] => match ats[0]? with
    | some t => obind (desc E t) fun d => match d with
      | .slice e => obind (intType E ats) fun z => appendV E h e z s x
      | _ => none
    | none => none
  | _ => none
noncomputable def bCopy (h : LH) (ats : Array TypeId) (args : List LV) : Option (LV × LH) := match args with
  | [.sl base n _ _, s] => match ats[0]? with
    | some t => obind (desc E t) fun d => match d with
      | .slice e => obind (sizeOf E e) fun sz => obind (lenV s) fun l => fNat (Nat.min l n) fun k => obind (srcCells h sz k s) fun cs =>
        match base with
        | some (b, o) => obind (storeCells b cs o h) fun h => some (.int .i64 (.ofNat k), h)
        | none => some (.int .i64 (.ofNat k), h)
      | _ => none
    | none => none
  | _ => none
noncomputable def bMin (big : Bool) (h : LH) (args : List LV) : Option (LV × LH) := match args with
  | x :: xs => match minmax big x xs with | some r => some (r, h) | none => none
  | _ => none
noncomputable def builtinV (h : LH) (b : Builtin) (ats : Array TypeId) (args : List LV) : Option (LV × LH) :=
  match b with
  | .len => bLen E h ats args
  | .cap => bCap E h ats args
  | .append => bAppend E h ats args
  | .copy => bCopy E h ats args
  | .min => bMin false h args
  | .max => bMin true h args
  | _ => none

noncomputable def findKey (eq : LV → LV → Option Bool) (k : LV) : List (LV × LV × Nat) → Option (Option LV)
  | [] => some none
  | (a, v, _) :: es => match eq k a with
    | some true => some (some v)
    | some false => findKey eq k es
    | none => none
/-- the same to the bit: whole numbers, texts, rows of whole numbers -/
noncomputable def sameI : LV → LV → Bool
  | .int k a, .int k' b => Nat.beq (kIdx k) (kIdx k') && eqI a b
  | _, _ => false
noncomputable def sameIs : List LV → List LV → Bool
  | [], [] => true
  | a :: x, b :: y => sameI a b && sameIs x y
  | _, _ => false
noncomputable def sameL : LV → LV → Bool
  | .str a, .str b => eqL a b
  | .agg x, .agg y => sameIs x y
  | x, y => sameI x y
noncomputable def setKey (eq : LV → LV → Option Bool) (k x : LV) (c : Nat) : List (LV × LV × Nat) → Option (List (LV × LV × Nat) × Bool)
  | [] => some ([(k, x, c)], true)
  | (a, v, b) :: es => match eq k a with
    | some true => bif sameL a k then some ((k, x, b) :: es, false) else none
    | some false => match setKey eq k x c es with
      | some (r, n) => some ((a, v, b) :: r, n)
      | none => none
    | none => none

noncomputable def loadV (h : LH) (t : TypeId) (b o : Nat) : Option LV := obind (desc E t) fun d => bif aggOf d then
    obind (sizeOf E t) fun n => obind (loadCells h b o n) fun cs => some (.agg cs)
  else h.cell b o

noncomputable def oMove (h : LH) (t : T LV) (x : Operand) : Option (LV × LH) := obind (evalO E t x) fun v => some (v, h)
noncomputable def oPick (h : LH) (t : T LV) (c a b : Operand) : Option (LV × LH) := obind (evalO E t c) fun c => match c with
  | .bool c => bif c then oMove E h t a else oMove E h t b
  | _ => none
noncomputable def newCells (h : LH) (cs : List LV) : Option (LV × LH) := mkCells cs none fun o => h.alloc o fun b h => some (.ptr (some (b, 0)), h)
noncomputable def oAlloc (h : LH) (e : TypeId) : Option (LV × LH) := obind (zeroCells E e) fun z => newCells h z
noncomputable def oBox (h : LH) (t : T LV) (x : Operand) : Option (LV × LH) := obind (evalO E t x) fun v => newCells h v.cells
noncomputable def oBuild (h : LH) (t : T LV) (ty : TypeId) (ps : Array (Nat × Operand)) : Option (LV × LH) := obind (evalP E t ps.toList) fun ps => obind (buildV E ty ps) fun v => some (v, h)
noncomputable def oBuildSlice (h : LH) (t : T LV) (ty : TypeId) (n : Nat) (ps : Array (Nat × Operand)) : Option (LV × LH) := obind (evalP E t ps.toList) fun ps => obind (desc E ty) fun d => match d with
  | .slice e => obind (sizeOf E e) fun sz => obind (zeroCells E e) fun z =>
    bif Nat.ble (Nat.mul n sz) 16777216 && Nat.beq z.length sz then
      obind (fillL (placeA sz) ps (repl z n)) fun cs => mkCells cs none fun o => h.alloc o fun b h => some (.sl (some (b, 0)) n n none, h)
    else none
  | _ => none
noncomputable def oLoad (h : LH) (t : T LV) (ty : TypeId) (a : Operand) : Option (LV × LH) := obind (evalO E t a) fun a => match a with
  | .ptr (some (b, o)) => obind (loadV E h ty b o) fun v => some (v, h)
  | _ => none
noncomputable def oStore (h : LH) (t : T LV) (ty : TypeId) (a x : Operand) : Option (LV × LH) := obind (evalO E t a) fun a => obind (evalO E t x) fun x => match a with
  | .ptr (some (b, o)) => obind (sizeOf E ty) fun sz => bif Nat.beq x.cells.length sz then obind (storeCells b x.cells o h) fun h => some (.undef, h) else none
  | _ => none
noncomputable def oNilCheck (h : LH) (t : T LV) (x : Operand) : Option (LV × LH) := obind (evalO E t x) fun v => match v with
  | .ptr (some a) => some (.ptr (some a), h)
  | .fn (.func f) a b => some (.fn (.func f) a b, h)
  | .fn (.yield f) a b => some (.fn (.yield f) a b, h)
  | _ => none
noncomputable def oBinOp (h : LH) (t : T LV) (op : BinOp) (ty : TypeId) (x y : Operand) : Option (LV × LH) := obind (evalO E t x) fun a => obind (evalO E t y) fun b => obind (binOpV E op ty (isConst x || isConst y) a b) fun v => some (v, h)
noncomputable def oUnOp (h : LH) (t : T LV) (op : UnOp) (x : Operand) : Option (LV × LH) := obind (evalO E t x) fun x => obind (unOpV op x) fun v => some (v, h)
noncomputable def strOf (h : LH) (x : LV) : Option LV := match x with
  | .str s => some (.str s)
  | .sl none _ _ _ => some (.str [])
  | .sl (some (b, o)) n _ _ => obind (loadCells h b o n) fun cs => obind (ofBytes cs) fun s => some (.str s)
  | _ => none
noncomputable def oConvert (h : LH) (t : T LV) (s d : TypeId) (x : Operand) : Option (LV × LH) := obind (evalO E t x) fun x => obind (desc E d) fun dd => match dd with
  | .int k => match x with
    | .int _ n => match desc E s with
      | some _ => some (.int k (wrapF k n), h)
      | none => none
    | _ => none
  | .string => match desc E s with
    | some .string => match x with
      | .str s => some (.str s, h)
      | _ => none
    | some (.slice e) => match desc E e with
      | some (.int .u8) => match x with
        | .str _ => none
        | x => obind (strOf h x) fun v => some (v, h)
      | _ => none
    | _ => none
  | .slice e => match x with
    | .sl (some a) n c none => bif Nat.beq s d then match desc E e with
      | some (.int .u8) => match h.m.get a.1 with
        | some (.cells _ m none) => bif Nat.ble h.lo a.1 && Nat.beq n m && Nat.beq a.2 0 then some (.sl (some a) n c none, h) else none
        | _ => none
      | _ => none
      else none
    | .str s' => match desc E s with
      | some .string => match desc E e with
        | some (.int .u8) => bif Nat.ble s'.length bigN then mkCells (bytesV s') (some 1) fun o => fNat s'.length fun n => h.alloc o fun b h => some (.sl (some (b, 0)) n n (some 0), h) else none
        | _ => none
      | _ => none
    | _ => none
  | _ => none
noncomputable def ifaceT (t : TypeId) : Bool := match desc E t with
  | some (.interface _) => true
  | some _ => false
  | none => true
noncomputable def oMakeInterface (h : LH) (t : T LV) (ty : TypeId) (x : Operand) : Option (LV × LH) := obind (evalO E t x) fun x => bif ifaceT E ty then none else some (.iface ty x, h)
noncomputable def oMakeFunc (h : LH) (t : T LV) (f : Fn) (a c : Array Operand) : Option (LV × LH) := match f with
  | .func k => obind (evalOs E t a.toList) fun a => obind (evalOs E t c.toList) fun c => some (.fn (.func k) a c, h)
  | _ => none
noncomputable def oMakeMap (h : LH) (r : Option Operand) : Option (LV × LH) := match r with
  | none => h.alloc (.map [] 0) fun b h => some (.map (some b), h)
  | _ => none
noncomputable def oMakeSlice (h : LH) (t : T LV) (ty : TypeId) (l c : Operand) : Option (LV × LH) := obind (evalO E t l) fun l => obind (evalO E t c) fun c => obind (desc E ty) fun d => match d with
  | .slice e => obind (sizeOf E e) fun sz => obind (zeroCells E e) fun z => match l with
    | .int _ (.ofNat l) => match c with
      | .int _ (.ofNat c) => bif Nat.ble l c && (Nat.ble c 16777216 && Nat.beq z.length sz) then
          fNat l fun l => fNat c fun c => mkCells (repl z c) none fun o => h.alloc o fun b h => some (.sl (some (b, 0)) l c none, h)
        else none
      | _ => none
    | _ => none
  | _ => none
noncomputable def oSlice (h : LH) (t : T LV) (ty : TypeId) (x : Operand) (lo hi mx : Option Operand) : Option (LV × LH) := obind (evalO E t x) fun x => obind (evalOO E t lo) fun lo => obind (evalOO E t hi) fun hi => obind (evalOO E t mx) fun mx =>
  obind (desc E ty) fun d => sliceV E h d x lo hi mx
noncomputable def oFieldAddr (h : LH) (t : T LV) (s : TypeId) (x : Operand) (f : Nat) : Option (LV × LH) := obind (evalO E t x) fun x => match x with
  | .ptr (some (b, o)) => obind (desc E s) fun d => match d with
    | .struct fs => match fs[f]? with
      | some f => obind (sizeOf E f.type) fun sz => bif Nat.beq sz 0 then none else some (.ptr (some (b, Nat.add o f.offset)), h)
      | none => none
    | _ => none
  | _ => none
noncomputable def oField (h : LH) (t : T LV) (s : TypeId) (x : Operand) (f : Nat) : Option (LV × LH) := obind (evalO E t x) fun x => match x with
  | .agg cs => obind (desc E s) fun d => match d with
    | .struct fs => match fs[f]? with
      | some f => obind (partV E f.type cs f.offset) fun v => some (v, h)
      | none => none
    | _ => none
  | _ => none
noncomputable def oIndexAddr (h : LH) (t : T LV) (ty : TypeId) (x i : Operand) : Option (LV × LH) := obind (evalO E t x) fun x => obind (evalO E t i) fun i => obind (desc E ty) fun d => match d with
  | .slice e => match x with
    | .sl (some (b, o)) n _ _ => obind (idx i n) fun j => obind (sizeOf E e) fun sz => some (.ptr (some (b, Nat.add o (Nat.mul j sz))), h)
    | _ => none
  | .array n e => match x with
    | .ptr (some (b, o)) => obind (idx i n) fun j => obind (sizeOf E e) fun sz => some (.ptr (some (b, Nat.add o (Nat.mul j sz))), h)
    | _ => none
  | _ => none
noncomputable def oIndex (h : LH) (t : T LV) (ty : TypeId) (x i : Operand) : Option (LV × LH) := obind (evalO E t x) fun x => obind (evalO E t i) fun i => obind (desc E ty) fun d => match d with
  | .string => match x with
    | .str s => obind (idx i s.length) fun j => match s[j]? with
      | some c => some (.int .u8 (.ofNat c.toNat), h)
      | none => none
    | _ => none
  | .array n e => match x with
    | .agg cs => obind (idx i n) fun j => obind (sizeOf E e) fun sz => obind (partV E e cs (Nat.mul j sz)) fun v => some (v, h)
    | _ => none
  | _ => none
noncomputable def zeroV (e : TypeId) : Option LV := match E.types.get e with
  | some i => match i.zero with
    | some v => ofV v
    | none => none
  | none => none
noncomputable def entriesOf (h : LH) (r : Option Nat) : Option (List (LV × LV × Nat)) := match r with
  | none => some []
  | some r => match h.m.get r with
    | some (.map es _) => some es
    | _ => none
noncomputable def allInt : List LV → Bool
  | [] => true
  | .int .. :: r => allInt r
  | _ => false
/-- keys: whole numbers, texts, arrays of bytes -/
noncomputable def keyOk (k : TypeId) (v : LV) : Bool := match desc E k with
  | some (.int _) => match v with | .int .. => true | _ => false
  | some .string => match v with | .str _ => true | _ => false
  | some (.array n e) => match desc E e with
    | some (.int _) => match v with | .agg cs => Nat.beq cs.length n && (allInt cs && (match sizeOf E e with | some s => Nat.beq s 1 | none => false)) | _ => false
    | _ => false
  | _ => false
noncomputable def oLookup (h : LH) (t : T LV) (ty : TypeId) (x i : Operand) (ok : Bool) : Option (LV × LH) := obind (evalO E t x) fun x => obind (evalO E t i) fun i => obind (desc E ty) fun d => match d with
  | .map k e => match x with
    | .map r => bif keyOk E k i then obind (entriesOf h r) fun es => obind (zeroV E e) fun z => obind (findKey (eqT E 4 k) i es) fun r => match r with
        | some v => some (bif ok then .tup [v, .bool true] else v, h)
        | none => some (bif ok then .tup [z, .bool false] else z, h)
      else none
    | _ => none
  | _ => none
noncomputable def oMapUpdate (h : LH) (t : T LV) (ty : TypeId) (m k x : Operand) : Option (LV × LH) := obind (evalO E t m) fun m => obind (evalO E t k) fun k => obind (evalO E t x) fun x => obind (desc E ty) fun d => match d with
  | .map kt _ => match m with
    | .map (some r) => match h.m.get r with
      | some (.map es c) => bif Nat.ble h.lo r && keyOk E kt k then match setKey (eqT E 4 kt) k x c es with
        | some (es, true) => fNat (Nat.succ c) fun c => (h.m.set r (.map es c)).force fun m => some (.undef, ⟨m, h.nx, h.lo⟩)
        | some (es, false) => (h.m.set r (.map es c)).force fun m => some (.undef, ⟨m, h.nx, h.lo⟩)
        | none => none
        else none
      | _ => none
    | _ => none
  | _ => none
noncomputable def oTypeAssert (h : LH) (t : T LV) (x : Operand) (a : TypeId) (ok : Bool) : Option (LV × LH) := obind (evalO E t x) fun x => obind (desc E a) fun d => match d with
  | .interface _ => none
  | _ => match x with
    | .iface ty v => bif Nat.beq ty a then some (bif ok then .tup [v, .bool true] else v, h) else none
    | .nilIface => bif ok then obind (zeroV E a) fun z => some (.tup [z, .bool false], h) else none
    | _ => none
noncomputable def oExtract (h : LH) (t : T LV) (x : Operand) (i : Nat) : Option (LV × LH) := obind (evalO E t x) fun x => match x with
  | .tup vs => match vs[i]? with
    | some v => some (v, h)
    | none => none
  | _ => none
noncomputable def oCall (h : LH) (t : T LV) (c : Call) : Option (LV × LH) := match c.callee with
  | .builtin b => obind (evalOs E t c.args.toList) fun args => builtinV E h b c.argTypes args
  | _ => none

noncomputable def step1 (h : LH) (t : T LV) (o : Op) : Option (LV × LH) :=
  match o with
  | .move x => oMove E h t x
  | .assign x => oMove E h t x
  | .pick c a b => oPick E h t c a b
  | .alloc e => oAlloc E h e
  | .box _ x => oBox E h t x
  | .build ty ps => oBuild E h t ty ps
  | .buildSlice ty n ps => oBuildSlice E h t ty n ps
  | .load ty a => oLoad E h t ty a
  | .store ty a x => oStore E h t ty a x
  | .nilCheck x => oNilCheck E h t x
  | .binOp op ty x y _ => oBinOp E h t op ty x y
  | .unOp op _ x => oUnOp E h t op x
  | .convert s d x => oConvert E h t s d x
  | .makeInterface ty x => oMakeInterface E h t ty x
  | .makeFunc f a c => oMakeFunc E h t f a c
  | .makeMap _ r => oMakeMap h r
  | .makeSlice ty l c => oMakeSlice E h t ty l c
  | .slice ty x lo hi mx => oSlice E h t ty x lo hi mx
  | .fieldAddr s x f => oFieldAddr E h t s x f
  | .field s x f => oField E h t s x f
  | .indexAddr ty x i => oIndexAddr E h t ty x i
  | .index ty x i => oIndex E h t ty x i
  | .lookup ty x i ok => oLookup E h t ty x i ok
  | .mapUpdate ty m k x => oMapUpdate E h t ty m k x
  | .typeAssert x _ a ok => oTypeAssert E h t x a ok
  | .extract x i => oExtract E h t x i
  | .call c => oCall E h t c
  | _ => none

end
end Go.Ev
