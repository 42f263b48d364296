/- One operation, for the kernel. -/
/- Code, for the kernel: the evaluator's equal. -/
import Derived.Test.YtcjocfaknhpncaaGreatDoorXFa
namespace Go.Ev
open Go

section
variable (E : Env)

noncomputable def compOs : List Operand → List CO
  | [] => []
  | x :: xs => compO E x :: compOs xs

/-- an operation that is carried out as it is told, but told ahead which it is -/
noncomputable def dirB (c : Call) : Option (LH → T LV → Option (LV × LH)) := match c.callee with
  | .builtin b => match b with
    | .len => some fun h t => obind (evalOs E t c.args.toList) fun args => bLen E h c.argTypes args
    | .append => some fun h t => obind (evalOs E t c.args.toList) fun args => bAppend E h c.argTypes args
    | .copy => some fun h t => obind (evalOs E t c.args.toList) fun args => bCopy E h c.argTypes args
    | b => some fun h t => obind (evalOs E t c.args.toList) fun args => builtinV E h b c.argTypes args
  | _ => none
noncomputable def dirOf (op : Op) : Option (LH → T LV → Option (LV × LH)) := match op with
  | .pick c a b => some fun h t => oPick E h t c a b
  | .alloc e => some fun h _ => oAlloc E h e
  | .box _ x => some fun h t => oBox E h t x
  | .build ty ps => some fun h t => oBuild E h t ty ps
  | .buildSlice ty n ps => some fun h t => oBuildSlice E h t ty n ps
  | .load ty a => some fun h t => oLoad E h t ty a
  | .store ty a x => some fun h t => oStore E h t ty a x
  | .unOp op _ x => some fun h t => oUnOp E h t op x
  | .convert s d x => some fun h t => oConvert E h t s d x
  | .makeInterface ty x => some fun h t => oMakeInterface E h t ty x
  | .makeFunc f a c => some fun h t => oMakeFunc E h t f a c
  | .makeMap _ r => some fun h _ => oMakeMap h r
  | .makeSlice ty l c => some fun h t => oMakeSlice E h t ty l c
  | .slice ty x lo hi mx => some fun h t => oSlice E h t ty x lo hi mx
  | .field s x f => some fun h t => oField E h t s x f
  | .index ty x i => some fun h t => oIndex E h t ty x i
  | .lookup ty x i ok => some fun h t => oLookup E h t ty x i ok
  | .mapUpdate ty m k x => some fun h t => oMapUpdate E h t ty m k x
  | .typeAssert x _ a ok => some fun h t => oTypeAssert E h t x a ok
  | .call c => dirB E c
  | _ => none
theorem dirOf_eq {op : Op} {f : LH → T LV → Option (LV × LH)} (hf : dirOf E op = some f) (h : LH) (t : T LV) : step1 E h t op = f h t ∧ ∀ c g, op = .call c → c.callee ≠ .value g := by
  cases op <;> simp only [dirOf, Option.some.injEq, reduceCtorEq] at hf <;> try (subst hf; exact ⟨rfl, by simp⟩)
  rename_i c
  unfold dirB at hf
  split at hf
  · rename_i b hb
    have main : step1 E h t (.call c) = obind (evalOs E t c.args.toList) fun args => builtinV E h b c.argTypes args := by simp only [step1, oCall, hb]
    refine ⟨?_, fun c' g hc => by cases hc; rw [hb]; simp⟩
    rw [main]
    split at hf
    all_goals (simp only [Option.some.injEq] at hf; subst hf; rfl)
  · cases hf
noncomputable def dirI (o : Oper) : CI := match dirOf E o.op with
  | some f => .dir f
  | none => .slow o

noncomputable def compI (o : Oper) : CI := match o.op with
  | .move x => .mv (compO E x)
  | .assign x => .mv (compO E x)
  | .binOp op ty x y _ => .bin op ty (isConst x || isConst y) (compO E x) (compO E y)
  | .load ty a => match desc E ty with
    | some d => bif aggOf d then dirI E o else .ld (compO E a)
    | none => dirI E o
  | .store ty a x => match sizeOf E ty with
    | some 1 => .st o (compO E a) (compO E x)
    | _ => dirI E o
  | .fieldAddr s x f => match desc E s with
    | some (.struct fs) => match fs[f]? with
      | some f => match sizeOf E f.type with
        | some sz => bif Nat.beq sz 0 then dirI E o else .fa (compO E x) f.offset
        | none => dirI E o
      | none => dirI E o
    | _ => dirI E o
  | .indexAddr ty x i => match desc E ty with
    | some (.slice e) => match sizeOf E e with
      | some sz => .ia (compO E x) (compO E i) sz
      | none => dirI E o
    | some (.array n e) => match sizeOf E e with
      | some sz => .ir (compO E x) (compO E i) n sz
      | none => dirI E o
    | _ => dirI E o
  | .nilCheck x => .nc o (compO E x)
  | .convert s d x => match desc E d with
    | some (.int k) => match desc E s with
      | some _ => .cv k (compO E x)
      | none => dirI E o
    | _ => dirI E o
  | .extract x i => .ex (compO E x) i
  | .call c => match c.callee with
    | .value g => .call (compO E g) (compOs E c.args.toList)
    | _ => dirI E o
  | _ => dirI E o

/-- the slow way -/
noncomputable def slowI (rec : Task → Res) (o : Oper) (t : T LV) (h : LH) (k : LV → LH → Res) : Res := opVal E rec o t h k
noncomputable def slowB (op : BinOp) (ty : TypeId) (c : Bool) (a b : LV) (k : LV → Res) : Res := orStuck (binOpV E op ty c a b) k

noncomputable def binR (op : BinOp) (ty : TypeId) (c : Bool) (a b : LV) (k : LV → Res) : Res :=
  asInt a (slowB E op ty c a b k) fun k1 x => asInt b (slowB E op ty c a b k) fun k2 y => intR op k1 k2 x y k
theorem binR_eq (op : BinOp) (ty : TypeId) (c : Bool) (a b : LV) (k : LV → Res) : binR E op ty c a b k = match binOpV E op ty c a b with | some v => k v | none => .stuck := by
  cases a <;> try exact orStuck_eq (binOpV E op ty c _ b) k
  rename_i k1 x
  cases b with
  | int k2 y => exact intR_eq op k1 k2 x y k
  | _ => rfl

noncomputable def gOs {β : Type} (xs : List CO) (t : T LV) (z : β) : (List LV → β) → β :=
  List.rec (motive := fun _ => (List LV → β) → β) (fun k => k []) (fun x _ ih k => gO x t z fun v => ih fun vs => k (v :: vs)) xs
theorem gOs_eq {β : Type} (t : T LV) (z : β) : ∀ (xs : List Operand) (k : List LV → β), gOs (compOs E xs) t z k = match evalOs E t xs with | some vs => k vs | none => z
  | [], k => rfl
  | x :: xs, k => by
    show gO (compO E x) t z (fun v => gOs (compOs E xs) t z fun vs => k (v :: vs)) = _
    rw [gO_eq]
    simp only [evalOs]
    cases evalO E t x with
    | none => rfl
    | some v =>
      simp only [gOs_eq t z xs]
      cases evalOs E t xs <;> rfl

/-- an index that is there -/
noncomputable def idxR (i : LV) (n : Nat) (k : Nat → Res) : Res :=
  asInt i .stuck fun _ i => Int.rec (motive := fun _ => Res) (fun i => Bool.rec (motive := fun _ => Res) .stuck (k i) (Nat.blt i n)) (fun _ => .stuck) i
theorem idxR_eq (i : LV) (n : Nat) (k : Nat → Res) : idxR i n k = match idx i n with | some j => k j | none => .stuck := by
  cases i <;> try rfl
  rename_i kk m
  cases m with
  | ofNat m =>
    show Bool.rec (motive := fun _ => Res) _ _ _ = _
    simp only [idx]
    cases Nat.blt m n <;> rfl
  | negSucc m => rfl

noncomputable def fMv (x : CO) (t : T LV) (h : LH) (k : LV → LH → Res) : Res := gO x t .stuck fun v => k v h
noncomputable def fBin (op : BinOp) (ty : TypeId) (c : Bool) (x y : CO) (t : T LV) (h : LH) (k : LV → LH → Res) : Res := gO x t .stuck fun a => gO y t .stuck fun b => binR E op ty c a b fun v => k v h
noncomputable def fLd (x : CO) (t : T LV) (h : LH) (k : LV → LH → Res) : Res := gO x t .stuck fun a => asPtr a .stuck fun b o => h.cellR b o .stuck fun v => k v h
noncomputable def fSt (rec : Task → Res) (o : Oper) (x y : CO) (t : T LV) (h : LH) (k : LV → LH → Res) : Res :=
  gO x t .stuck fun a => gO y t .stuck fun v => plainR v (slowI E rec o t h k) (asPtr a .stuck fun b o => h.setR b o v fun h => k .undef h)
noncomputable def fFa (x : CO) (off : Nat) (t : T LV) (h : LH) (k : LV → LH → Res) : Res := gO x t .stuck fun a => asPtr a .stuck fun b o => k (.ptr (some (b, Nat.add o off))) h
noncomputable def fIa (x i : CO) (sz : Nat) (t : T LV) (h : LH) (k : LV → LH → Res) : Res := gO x t .stuck fun a => gO i t .stuck fun i => asSl a .stuck fun b o n => idxR i n fun j => k (.ptr (some (b, Nat.add o (Nat.mul j sz)))) h
noncomputable def fIr (x i : CO) (n sz : Nat) (t : T LV) (h : LH) (k : LV → LH → Res) : Res := gO x t .stuck fun a => gO i t .stuck fun i => asPtr a .stuck fun b o => idxR i n fun j => k (.ptr (some (b, Nat.add o (Nat.mul j sz)))) h
noncomputable def fNc (rec : Task → Res) (o : Oper) (x : CO) (t : T LV) (h : LH) (k : LV → LH → Res) : Res := gO x t .stuck fun a => asPtr a (slowI E rec o t h k) fun b o => k (.ptr (some (b, o))) h
noncomputable def fCv (ki : IntKind) (x : CO) (t : T LV) (h : LH) (k : LV → LH → Res) : Res := gO x t .stuck fun a => asInt a .stuck fun _ n => wrapR ki n fun n => k (.int ki n) h
noncomputable def fEx (x : CO) (i : Nat) (t : T LV) (h : LH) (k : LV → LH → Res) : Res := gO x t .stuck fun a => asTup a .stuck fun vs => orStuck vs[i]? fun v => k v h
noncomputable def fCall (rec : Task → Res) (x : CO) (args : List CO) (t : T LV) (h : LH) (k : LV → LH → Res) : Res := gO x t .stuck fun g => gOs args t .stuck fun args => opRec k (rec (.call h g args))
noncomputable def fDir (f : LH → T LV → Option (LV × LH)) (t : T LV) (h : LH) (k : LV → LH → Res) : Res :=
  Option.rec (motive := fun _ => Res) .stuck (fun p => Prod.rec (motive := fun _ => Res) k p) (f h t)
noncomputable def fop (rec : Task → Res) (i : CI) : T LV → LH → (LV → LH → Res) → Res :=
  CI.rec (motive := fun _ => T LV → LH → (LV → LH → Res) → Res) fMv (fBin E) fLd (fSt E rec) fFa fIa fIr (fNc E rec) fCv fEx (fCall rec) fDir (slowI E rec) i

theorem fop_mv (rec : Task → Res) (x : CO) (t : T LV) (h : LH) (k : LV → LH → Res) : fop E rec (.mv x) t h k = fMv x t h k := rfl
theorem fop_bin (rec : Task → Res) (op : BinOp) (ty : TypeId) (c : Bool) (x : CO) (y : CO) (t : T LV) (h : LH) (k : LV → LH → Res) : fop E rec (.bin op ty c x y) t h k = fBin E op ty c x y t h k := rfl
theorem fop_ld (rec : Task → Res) (x : CO) (t : T LV) (h : LH) (k : LV → LH → Res) : fop E rec (.ld x) t h k = fLd x t h k := rfl
theorem fop_st (rec : Task → Res) (o : Oper) (x : CO) (y : CO) (t : T LV) (h : LH) (k : LV → LH → Res) : fop E rec (.st o x y) t h k = fSt E rec o x y t h k := rfl
theorem fop_fa (rec : Task → Res) (x : CO) (n : Nat) (t : T LV) (h : LH) (k : LV → LH → Res) : fop E rec (.fa x n) t h k = fFa x n t h k := rfl
theorem fop_ia (rec : Task → Res) (x : CO) (i : CO) (n : Nat) (t : T LV) (h : LH) (k : LV → LH → Res) : fop E rec (.ia x i n) t h k = fIa x i n t h k := rfl
theorem fop_ir (rec : Task → Res) (x : CO) (i : CO) (n : Nat) (m : Nat) (t : T LV) (h : LH) (k : LV → LH → Res) : fop E rec (.ir x i n m) t h k = fIr x i n m t h k := rfl
theorem fop_nc (rec : Task → Res) (o : Oper) (x : CO) (t : T LV) (h : LH) (k : LV → LH → Res) : fop E rec (.nc o x) t h k = fNc E rec o x t h k := rfl
theorem fop_cv (rec : Task → Res) (ki : IntKind) (x : CO) (t : T LV) (h : LH) (k : LV → LH → Res) : fop E rec (.cv ki x) t h k = fCv ki x t h k := rfl
theorem fop_ex (rec : Task → Res) (x : CO) (n : Nat) (t : T LV) (h : LH) (k : LV → LH → Res) : fop E rec (.ex x n) t h k = fEx x n t h k := rfl
theorem fop_call (rec : Task → Res) (x : CO) (xs : List CO) (t : T LV) (h : LH) (k : LV → LH → Res) : fop E rec (.call x xs) t h k = fCall rec x xs t h k := rfl

theorem opVal_step {rec : Task → Res} {o : Oper} {t : T LV} {h : LH} {k : LV → LH → Res} (hc : ∀ c g, o.op = .call c → c.callee ≠ .value g) : opVal E rec o t h k = match step1 E h t o.op with | some (v, h) => k v h | none => .stuck := by
  unfold opVal
  split
  · rename_i c ho
    split
    · rename_i g hg; exact absurd hg (hc c g ho)
    · rfl
  · rfl

theorem fop_eq (rec : Task → Res) (o : Oper) (t : T LV) (h : LH) (k : LV → LH → Res) : fop E rec (compI E o) t h k = opVal E rec o t h k := by
  have step : ∀ {op : Op}, o.op = op → (∀ c g, op = .call c → c.callee ≠ .value g) → opVal E rec o t h k = match step1 E h t op with | some (v, h) => k v h | none => .stuck := by
    intro op ho hc
    rw [opVal_step E fun c g h1 => hc c g (ho ▸ h1), ho]
  have slow : fop E rec (dirI E o) t h k = opVal E rec o t h k := by
    unfold dirI
    cases hd : dirOf E o.op with
    | none => rfl
    | some f =>
      obtain ⟨h1, h2⟩ := dirOf_eq E hd h t
      rw [step rfl h2, h1]
      show Option.rec (motive := fun _ => Res) _ _ _ = _
      cases f h t <;> rfl
  unfold compI
  split
  · rename_i x ho
    rw [step ho (by simp)]
    rw [fop_mv, fMv, gO_eq]; simp only [step1, oMove]; cases evalO E t x <;> rfl
  · rename_i x ho
    rw [step ho (by simp)]
    rw [fop_mv, fMv, gO_eq]; simp only [step1, oMove]; cases evalO E t x <;> rfl
  · rename_i op ty x y g ho
    rw [step ho (by simp)]
    rw [fop_bin, fBin, gO_eq]; simp only [step1, oBinOp]
    cases evalO E t x with
    | none => rfl
    | some a =>
      simp only [obind_val, gO_eq]
      cases evalO E t y with
      | none => rfl
      | some b =>
        simp only [obind_val, binR_eq]
        cases binOpV E op ty (isConst x || isConst y) a b <;> rfl
  · rename_i ty a ho
    split
    · rename_i d hd
      cases hag : aggOf d with
      | true => exact slow
      | false =>
        rw [cond_false, step ho (by simp)]
        rw [fop_ld, fLd, gO_eq]; simp only [step1, oLoad]
        cases evalO E t a with
        | none => rfl
        | some v =>
          simp only [obind_val]
          cases v <;> try rfl
          rename_i p
          cases p with
          | none => rfl
          | some p =>
            obtain ⟨b, o'⟩ := p
            show h.cellR b o' _ _ = _
            rw [LH.cellR_eq]
            simp only [loadV, hd, obind_val, hag, cond_false]
            cases h.cell b o' <;> rfl
    · exact slow
  · rename_i ty a x ho
    split
    · rename_i hs
      have hstep := step ho (by simp)
      rw [fop_st, fSt, gO_eq]
      cases ha : evalO E t a with
      | none => rw [hstep]; simp [step1, oStore, ha]
      | some u =>
        simp only [gO_eq]
        cases hx : evalO E t x with
        | none => rw [hstep]; simp [step1, oStore, ha, hx]
        | some v =>
          simp only [plainR_eq]
          cases hp : v.plain with
          | false => rfl
          | true =>
            rw [cond_true, hstep]
            have hcs : v.cells = [v] := by cases v <;> first | rfl | cases hp
            simp only [step1, oStore, ha, hx, obind_val]
            cases u <;> try rfl
            rename_i p
            cases p with
            | none => rfl
            | some p =>
              obtain ⟨b, o'⟩ := p
              show h.setR b o' v _ = _
              rw [LH.setR_eq]
              simp only [hs, obind_val, hcs, storeCells]
              show _ = (match (bif Nat.beq 1 1 then _ else none) with | some (v, h) => k v h | none => Res.stuck)
              cases h.setCell b o' v <;> rfl
    · exact slow
  · rename_i s x f ho
    split
    · rename_i fs hd
      split
      · rename_i fl hf
        split
        · rename_i sz hs
          cases hz : Nat.beq sz 0 with
          | true => exact slow
          | false =>
            rw [cond_false, step ho (by simp)]
            rw [fop_fa, fFa, gO_eq]; simp only [step1, oFieldAddr]
            cases evalO E t x with
            | none => rfl
            | some v =>
              simp only [obind_val]
              cases v <;> try rfl
              rename_i p
              cases p with
              | none => rfl
              | some p =>
                obtain ⟨b, o'⟩ := p
                simp only [hd, obind_val, hf, hs, hz, cond_false]
                rfl
        · exact slow
      · exact slow
    · exact slow
  · rename_i ty x i ho
    split
    · rename_i e hd
      split
      · rename_i sz hs
        rw [step ho (by simp)]
        rw [fop_ia, fIa, gO_eq]; simp only [step1, oIndexAddr]
        cases evalO E t x with
        | none => rfl
        | some v =>
          simp only [obind_val, gO_eq]
          cases evalO E t i with
          | none => rfl
          | some j =>
            simp only [obind_val, hd]
            cases v <;> try rfl
            rename_i p n c w
            cases p with
            | none => rfl
            | some p =>
              obtain ⟨b, o'⟩ := p
              show idxR j n _ = _
              rw [idxR_eq]
              simp only
              cases idx j n with
              | none => rfl
              | some m => simp only [obind_val, hs]
      · exact slow
    · rename_i n e hd
      split
      · rename_i sz hs
        rw [step ho (by simp)]
        rw [fop_ir, fIr, gO_eq]; simp only [step1, oIndexAddr]
        cases evalO E t x with
        | none => rfl
        | some v =>
          simp only [obind_val, gO_eq]
          cases evalO E t i with
          | none => rfl
          | some j =>
            simp only [obind_val, hd]
            cases v <;> try rfl
            rename_i p
            cases p with
            | none => rfl
            | some p =>
              obtain ⟨b, o'⟩ := p
              show idxR j n _ = _
              rw [idxR_eq]
              simp only
              cases idx j n with
              | none => rfl
              | some m => simp only [obind_val, hs]
      · exact slow
    · exact slow
  · rename_i x ho
    have hstep := step ho (by simp)
    rw [fop_nc, fNc, gO_eq]
    cases hx : evalO E t x with
    | none => rw [hstep]; simp [step1, oNilCheck, hx]
    | some v =>
      cases v <;> try rfl
      rename_i p
      cases p with
      | none => rfl
      | some p =>
        obtain ⟨b, o'⟩ := p
        rw [hstep]; simp only [step1, oNilCheck, hx, obind_val]
        rfl
  · rename_i s d x ho
    split
    · rename_i ki hd
      split
      · rename_i dd hs
        rw [step ho (by simp)]
        rw [fop_cv, fCv, gO_eq]; simp only [step1, oConvert]
        cases evalO E t x with
        | none => rfl
        | some v =>
          simp only [obind_val, hd]
          cases v <;> try rfl
          rename_i k1 n
          show wrapR ki n _ = _
          rw [wrapR_eq]
          simp only [hs]
      · exact slow
    · exact slow
  · rename_i x i ho
    rw [step ho (by simp)]
    rw [fop_ex, fEx, gO_eq]; simp only [step1, oExtract]
    cases evalO E t x with
    | none => rfl
    | some v =>
      simp only [obind_val]
      cases v <;> try rfl
      rename_i vs
      show orStuck _ _ = _
      rw [orStuck_eq]
      simp only
      cases vs[i]? <;> rfl
  · rename_i c ho
    split
    · rename_i g hg
      rw [fop_call, fCall, gO_eq]
      unfold opVal
      rw [ho]
      simp only [hg]
      cases evalO E t g with
      | none => rfl
      | some G =>
        simp only [gOs_eq]
        cases evalOs E t c.args.toList <;> rfl
    · exact slow
  · exact slow

end
end Go.Ev
namespace Go.Ev
open Go

/-- an operation of a region: with a guard, or one that is carried out as it is told -/
inductive CQ where
  | fast (i : CI) (d : CD)
  | gard (o : Oper) (i : CI) (d : CD)
  | slow (o : Oper)

inductive CC where
  | skip
  | reg (l : List CQ) (ops : Array Oper)
  | draw (ops : Array Oper)
  | seq (a b : CC)
  | cond (c : CO) (a b : CC)
  | block (id : Nat) (c : CC)
  | loop (c : CC)
  | exit (id : Nat)
  | ret
  | scope (c : CC)
  | slow (c : Code)

inductive FT where
  | code (ro : Option Nat) (nt : Nat) (c : CC) (s : St)
  | call (h : LH) (g : LV) (args : List LV)
  | fn (h : LH) (k : FuncId) (args : List LV)
  | ret (h : LH)
  | slow (t : Task)

section
variable (E : Env)

noncomputable def compP (nt : Nat) (o : Oper) : CQ := match o.op with
  | .defer _ => .slow o
  | _ => match o.guard with
    | some _ => .gard o (compI E o) (compD nt o.dst)
    | none => .fast (compI E o) (compD nt o.dst)
noncomputable def compL (nt : Nat) (os : List Oper) : List CQ := List.rec (motive := fun _ => List CQ) [] (fun o _ ih => compP E nt o :: ih) os
noncomputable def comp (nt : Nat) (c : Code) : CC := match c with
  | .skip => .skip
  | .label _ => .skip
  | .region _ ops draw => match draw with
    | true => .draw ops
    | false => .reg (compL E nt ops.toList) ops
  | .seq a b => .seq (comp nt a) (comp nt b)
  | .cond c a b => .cond (compO E c) (comp nt a) (comp nt b)
  | .block id c => .block id (comp nt c)
  | .loop c => .loop (comp nt c)
  | .exit id => .exit id
  | .scope c => .scope (comp nt c)
  | .ret => .ret
  | c => .slow c

noncomputable def fPut (d : CD) (dl : List DI) (t : T LV) (k : St → Res) (v : LV) (h : LH) : Res := putR d t v fun t => k ⟨t, h, dl⟩
noncomputable def fP (ro : Option Nat) (rec : Task → Res) (nt : Nat) (ops : Array Oper) (p : CQ) : St → (St → Res) → Res :=
  CQ.rec (motive := fun _ => St → (St → Res) → Res) (fun i d s k => fop E rec i s.t s.h (fPut d s.d s.t k))
    (fun o i d s k => Bool.rec (motive := fun _ => Res) (fPut d s.d s.t k .undef s.h) (fop E rec i s.t s.h (fPut d s.d s.t k)) (wanted ops s.t o)) (fun o s k => opS E ro rec nt ops o s k) p
noncomputable def fops (ro : Option Nat) (rec : Task → Res) (nt : Nat) (ops : Array Oper) (l : List CQ) : St → Res :=
  List.rec (motive := fun _ => St → Res) (fun s => .code .normal s) (fun p _ ih s => fP E ro rec nt ops p s ih) l

theorem fP_eq (ro : Option Nat) (rec : Task → Res) (nt : Nat) (ops : Array Oper) (o : Oper) (s : St) (k : St → Res) : fP E ro rec nt ops (compP E nt o) s k = opS E ro rec nt ops o s k := by
  have hp : fPut (compD nt o.dst) s.d s.t k = opPut nt o s.d s.t k := by
    funext v h
    unfold fPut opPut
    rw [putR_eq]
    cases put s.t nt o.dst v <;> rfl
  have fast : (∀ c, o.op ≠ .defer c) → fP E ro rec nt ops (match o.guard with | some _ => .gard o (compI E o) (compD nt o.dst) | none => .fast (compI E o) (compD nt o.dst)) s k = opS E ro rec nt ops o s k := by
    intro hd
    have body : fop E rec (compI E o) s.t s.h (fPut (compD nt o.dst) s.d s.t k) = opVal E rec o s.t s.h (opPut nt o s.d s.t k) := by rw [fop_eq, hp]
    have ops' : opS E ro rec nt ops o s k = bif wanted ops s.t o then opVal E rec o s.t s.h (opPut nt o s.d s.t k) else opPut nt o s.d s.t k .undef s.h := by
      unfold opS
      split
      · rename_i c hc; exact absurd hc (hd c)
      · rfl
    rw [ops']
    cases hg : o.guard with
    | none =>
      have hw : wanted ops s.t o = true := by simp [wanted, hg]
      rw [hw, cond_true]
      exact body
    | some g =>
      show Bool.rec (motive := fun _ => Res) (fPut (compD nt o.dst) s.d s.t k .undef s.h) (fop E rec (compI E o) s.t s.h (fPut (compD nt o.dst) s.d s.t k)) (wanted ops s.t o) = _
      cases wanted ops s.t o with
      | false => rw [hp]; rfl
      | true => exact body
  unfold compP
  cases ho : o.op <;> first | rfl | exact fast (by simp [ho])
theorem fops_eq (ro : Option Nat) (rec : Task → Res) (nt : Nat) (ops : Array Oper) : ∀ (os : List Oper) (s : St), fops E ro rec nt ops (compL E nt os) s = opsS E ro rec nt ops os s
  | [], s => rfl
  | o :: os, s => by
    show fP E ro rec nt ops (compP E nt o) s (fun s => fops E ro rec nt ops (compL E nt os) s) = _
    rw [fP_eq, opsS_cons]
    congr 1
    funext s
    exact fops_eq ro rec nt ops os s

noncomputable def compT (t : Task) : FT := match t with
  | .code ro nt c s => .code ro nt (comp E nt c) s
  | .call h g args => .call h g args
  | .fn h k args => .fn h k args
  | .defers ds h => List.rec (motive := fun _ => FT) (.ret h) (fun _ _ _ => .slow (.defers ds h)) ds
  | t => .slow t

/-- the end of a piece of code -/
noncomputable def resR (r : Res) (f : Ex → St → Res) : Res := Res.rec (motive := fun _ => Res) .stuck f (fun _ _ => .stuck) r
noncomputable def exR (e : Ex) (n : Res) (x : Nat → Res) (r : Res) : Res := Ex.rec (motive := fun _ => Res) n x r e

noncomputable def fSeq (ih : FT → Res) (ro : Option Nat) (nt : Nat) (a b : CC) (s : St) : Res :=
  resR (ih (.code ro nt a s)) fun e s => exR e (ih (.code ro nt b s)) (fun i => .code (.exit i) s) (.code .ret s)
noncomputable def fCond (ih : FT → Res) (ro : Option Nat) (nt : Nat) (c : CO) (a b : CC) (s : St) : Res :=
  gO c s.t .stuck fun v => LV.rec (motive_1 := fun _ => Res) (motive_2 := fun _ => PUnit)
    (fun x => Bool.rec (motive := fun _ => Res) (ih (.code ro nt b s)) (ih (.code ro nt a s)) x) (fun _ _ => .stuck) (fun _ => .stuck) (fun _ => .stuck)
    (fun _ _ _ _ => .stuck) (fun _ => .stuck) (fun _ _ _ _ _ => .stuck) .stuck (fun _ _ _ => .stuck) .stuck (fun _ _ => .stuck) (fun _ _ => .stuck) PUnit.unit (fun _ _ _ _ => PUnit.unit) v
noncomputable def fBlock (ih : FT → Res) (ro : Option Nat) (nt : Nat) (id : Nat) (c : CC) (s : St) : Res :=
  resR (ih (.code ro nt c s)) fun e s => exR e (.code .normal s) (fun i => Bool.rec (motive := fun _ => Res) (.code (.exit i) s) (.code .normal s) (Nat.beq i id)) (.code .ret s)
noncomputable def fCode (ih : FT → Res) (c : CC) : Option Nat → Nat → St → Res :=
  CC.rec (motive := fun _ => Option Nat → Nat → St → Res)
    (fun _ _ s => .code .normal s)
    (fun l ops ro nt s => fops E ro (fun t => ih (compT E t)) nt ops l s)
    (fun ops _ nt s => drawR E (fun t => ih (compT E t)) nt ops s)
    (fun a b _ _ ro nt s => fSeq ih ro nt a b s)
    (fun c a b _ _ ro nt s => fCond ih ro nt c a b s)
    (fun id c _ ro nt s => fBlock ih ro nt id c s)
    (fun c _ ro nt s => fSeq ih ro nt c (.loop c) s)
    (fun id _ _ s => .code (.exit id) s)
    (fun _ _ s => .code .ret s)
    (fun c _ ro nt s => ih (.code ro nt c s))
    (fun c ro nt s => tCode E (fun t => ih (compT E t)) ro nt s c) c

noncomputable def appL (xs ys : List LV) : List LV := List.rec (motive := fun _ => List LV) ys (fun x _ ih => x :: ih) xs
theorem appL_eq : ∀ (xs ys : List LV), appL xs ys = xs ++ ys
  | [], _ => rfl
  | x :: xs, ys => congrArg (x :: ·) (appL_eq xs ys)
noncomputable def fCallT (ih : FT → Res) (h : LH) (g : LV) (args : List LV) : Res :=
  LV.rec (motive_1 := fun _ => Res) (motive_2 := fun _ => PUnit)
    (fun _ => .stuck) (fun _ _ => .stuck) (fun _ => .stuck) (fun _ => .stuck) (fun _ _ _ _ => .stuck) (fun _ => .stuck)
    (fun f first cap _ _ => FnR (fun k => ih (.fn h k (appL first (appL args cap)))) (tCall (fun t => ih (compT E t)) h g args) f)
    .stuck (fun _ _ _ => .stuck) .stuck (fun _ _ => .stuck) (fun _ _ => .stuck) PUnit.unit (fun _ _ _ _ => PUnit.unit) g
  where
  FnR (a : FuncId → Res) (b : Res) (f : Fn) : Res := Fn.casesOn (motive := fun _ => Res) f a (fun _ => b) (fun _ _ => b) (fun _ _ _ _ => b) (fun _ => b)

/-- where a function's answers lie -/
inductive CR where
  | one (p : Pa)
  | many (ps : List Pa)
  | slow
noncomputable def pasOf : List ResultVar → Option (List Pa)
  | [] => some []
  | .tmp i :: r => match pasOf r with | some ps => some (paOf i :: ps) | none => none
  | .cell .. :: _ => none
noncomputable def compR (l : List ResultVar) : CR := match pasOf l with
  | some ps => List.rec (motive := fun _ => CR) (.many ps) (fun p r _ => List.rec (motive := fun _ => CR) (.one p) (fun _ _ _ => .many ps) r) ps
  | none => .slow
noncomputable def undefR (o : Option LV) : LV := Option.rec (motive := fun _ => LV) .undef (fun v => v) o
noncomputable def fRes (fn : Func) (r : CR) : T LV → LH → Res :=
  CR.rec (motive := fun _ => T LV → LH → Res) (fun p t h => Option.rec (motive := fun _ => Res) (.val .undef h) (fun v => .val v h) (T.getP p t))
    (fun ps t h => .val (.tup (List.rec (motive := fun _ => List LV) [] (fun p _ ih => undefR (T.getP p t) :: ih) ps)) h)
    (fun t h => tFn3 h (resultsV E h t fn.results.toList)) r

theorem pasOf_ok (h : LH) (t : T LV) : ∀ (l : List ResultVar) (ps : List Pa), pasOf l = some ps → resultsV E h t l = some (List.rec (motive := fun _ => List LV) [] (fun p _ ih => undefR (T.getP p t) :: ih) ps)
  | [], ps, hp => by simp only [pasOf, Option.some.injEq] at hp; subst hp; rfl
  | .cell a ty :: r, ps, hp => by simp [pasOf] at hp
  | .tmp i :: r, ps, hp => by
    simp only [pasOf] at hp
    cases hr : pasOf r with
    | none => simp [hr] at hp
    | some qs =>
      simp only [hr, Option.some.injEq] at hp
      subst hp
      simp only [resultsV, pasOf_ok h t r qs hr, obind_val, Option.some.injEq]
      congr 1
      rw [T.getP_of]
      cases t.get i <;> rfl
theorem fRes_eq (fn : Func) (t : T LV) (h : LH) : fRes E fn (compR fn.results.toList) t h = tFn3 h (resultsV E h t fn.results.toList) := by
  unfold compR
  cases hp : pasOf fn.results.toList with
  | none => rfl
  | some ps =>
    rw [pasOf_ok E h t _ ps hp]
    cases ps with
    | nil => rfl
    | cons p r =>
      cases r with
      | nil =>
        show Option.rec (motive := fun _ => Res) _ _ (T.getP p t) = Res.val (undefR (T.getP p t)) h
        cases T.getP p t <;> rfl
      | cons q r => rfl

/-- a function, told ahead -/
inductive CF where
  | body (fn : Func) (nt : Nat) (c : CC) (r : CR)
  | slow
noncomputable def compF (k : FuncId) : CF := match E.orac.get k with
  | some _ => .slow
  | none => match E.funcs.get k with
    | some fn => match fn.body with
      | some c => .body fn fn.ntmps (comp E fn.ntmps c) (compR fn.results.toList)
      | none => .slow
    | none => .slow
noncomputable def fFin (ih : FT → Res) (fn : Func) (r : CR) (s : St) : Res :=
  Res.rec (motive := fun _ => Res) .stuck (fun _ _ => .stuck) (fun _ h => fRes E fn r s.t h) (ih (List.rec (motive := fun _ => FT) (.ret s.h) (fun _ _ _ => .slow (.defers s.d s.h)) s.d))
noncomputable def fFn (ih : FT → Res) (h : LH) (k : FuncId) (args : List LV) : Res :=
  CF.rec (motive := fun _ => Res) (fun fn nt c r => resR (ih (.code none nt c ⟨T.ofListFrom args 0 .nil, h, []⟩)) fun e s => exR e (fFin E ih fn r s) (fun _ => .stuck) (fFin E ih fn r s))
    (stepT E (fun t => ih (compT E t)) (.fn h k args)) (compF E k)

noncomputable def fstep (ih : FT → Res) (t : FT) : Res :=
  FT.rec (motive := fun _ => Res) (fun ro nt c s => fCode E ih c ro nt s) (fun h g args => fCallT E ih h g args) (fun h k args => fFn E ih h k args) (fun h => .val .undef h) (fun t => stepT E (fun t => ih (compT E t)) t) t
noncomputable def frun (n : Nat) : FT → Res := Nat.rec (motive := fun _ => FT → Res) (fun _ => .stuck) (fun _ ih t => fstep E ih t) n

theorem frun_eq : ∀ (n : Nat) (t : Task), frun E n (compT E t) = run E n t
  | 0, _ => rfl
  | n + 1, t => by
    have hrec : (fun t => frun E n (compT E t)) = run E n := funext (frun_eq n)
    show fstep E (frun E n) (compT E t) = stepT E (run E n) t
    cases t with
    | call h g args =>
      show fCallT E (frun E n) h g args = tCall (run E n) h g args
      cases g <;> try rfl
      rename_i f first cap
      show fCallT.FnR _ _ f = _
      rw [hrec]
      cases f <;> try rfl
      rename_i k
      show frun E n (.fn h k (appL first (appL args cap))) = run E n (.fn h k (first ++ (args ++ cap)))
      rw [appL_eq, appL_eq]
      exact frun_eq n (.fn h k (first ++ (args ++ cap)))
    | defers ds h =>
      cases ds with
      | nil => rfl
      | cons d ds => exact (by rw [hrec] : stepT E (fun t => frun E n (compT E t)) (.defers (d :: ds) h) = stepT E (run E n) (.defers (d :: ds) h))
    | dcode nt c s => exact (by rw [hrec] : stepT E (fun t => frun E n (compT E t)) (.dcode nt c s) = stepT E (run E n) (.dcode nt c s))
    | dcall h k args => exact (by rw [hrec] : stepT E (fun t => frun E n (compT E t)) (.dcall h k args) = stepT E (run E n) (.dcall h k args))
    | fn h k args =>
      have slow : stepT E (fun t => frun E n (compT E t)) (.fn h k args) = stepT E (run E n) (.fn h k args) := by rw [hrec]
      show fFn E (frun E n) h k args = _
      unfold fFn compF
      cases ho : E.orac.get k with
      | some g => exact slow
      | none =>
        simp only
        cases hf : E.funcs.get k with
        | none => exact slow
        | some fn =>
          simp only
          cases hb : fn.body with
          | none => exact slow
          | some c =>
            show resR (frun E n (compT E (.code none fn.ntmps c ⟨T.ofListFrom args 0 .nil, h, []⟩))) _ = _
            rw [frun_eq n]
            simp only [stepT, ho, tFn, hf, hb]
            have fin : ∀ s, fFin E (frun E n) fn (compR fn.results.toList) s = tFn2 E fn s (run E n (.defers s.d s.h)) := by
              intro s
              rw [← frun_eq n (.defers s.d s.h)]
              show Res.rec (motive := fun _ => Res) _ _ _ (frun E n (compT E (.defers s.d s.h))) = _
              cases frun E n (compT E (.defers s.d s.h)) with
              | stuck => rfl
              | code e s => rfl
              | val v h => exact fRes_eq E fn s.t h
            cases run E n (.code none fn.ntmps c ⟨T.ofListFrom args 0 .nil, h, []⟩) with
            | stuck => rfl
            | val v h => rfl
            | code e s =>
              cases e with
              | normal => exact fin s
              | ret => exact fin s
              | exit i => rfl
    | code ro nt c s =>
      have sub : ∀ (c : Code) (s : St), frun E n (.code ro nt (comp E nt c) s) = run E n (.code ro nt c s) := fun c s => frun_eq n (.code ro nt c s)
      have slow : tCode E (fun t => frun E n (compT E t)) ro nt s c = stepT E (run E n) (.code ro nt c s) := by rw [hrec]; rfl
      have seq : ∀ (a : Code) (b : Code), fSeq (frun E n) ro nt (comp E nt a) (comp E nt b) s = tSeq (run E n) ro nt b (run E n (.code ro nt a s)) := by
        intro a b
        unfold fSeq
        rw [sub]
        cases run E n (.code ro nt a s) with
        | stuck => rfl
        | val v h => rfl
        | code e s1 =>
          cases e with
          | normal => exact sub b s1
          | exit i => rfl
          | ret => rfl
      cases c with
      | skip => rfl
      | label l => rfl
      | region id ops draw =>
        cases draw with
        | true => show drawR E (fun t => frun E n (compT E t)) nt ops s = _; rw [hrec]; rfl
        | false => show fops E ro (fun t => frun E n (compT E t)) nt ops (compL E nt ops.toList) s = _; rw [hrec, fops_eq]; rfl
      | seq a b => exact seq a b
      | cond c a b =>
        show fCond (frun E n) ro nt (compO E c) (comp E nt a) (comp E nt b) s = tCond (run E n) ro nt a b s (evalO E s.t c)
        unfold fCond
        rw [gO_eq]
        cases evalO E s.t c with
        | none => rfl
        | some v =>
          cases v <;> try rfl
          rename_i x
          cases x with
          | true => exact sub a s
          | false => exact sub b s
      | block id c =>
        show fBlock (frun E n) ro nt id (comp E nt c) s = tBlock id (run E n (.code ro nt c s))
        unfold fBlock
        rw [sub]
        cases run E n (.code ro nt c s) with
        | stuck => rfl
        | val v h => rfl
        | code e s1 =>
          cases e with
          | normal => rfl
          | ret => rfl
          | exit i =>
            show Bool.rec (motive := fun _ => Res) _ _ _ = _
            simp only [tBlock]
            cases Nat.beq i id <;> rfl
      | loop c => exact seq c (.loop c)
      | exit id => rfl
      | ret => rfl
      | scope c => exact sub c s
      | rangeFunc g ps as body => exact slow
      | goto l => exact slow
      | refuse w => exact slow

end
end Go.Ev
