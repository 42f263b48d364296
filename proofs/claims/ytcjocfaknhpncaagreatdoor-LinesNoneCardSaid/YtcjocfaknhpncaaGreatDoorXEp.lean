/- Each operation: what the evaluator answers is what the model's operation answers. -/
/- One operation, whichever. -/
import Derived.Test.YtcjocfaknhpncaaGreatDoorXEn
namespace Go.Ev
open Go Go.RowKit

variable {E : Env} {P : Program} {φ : Phi} {w0 : Base} {w : World} {h h' : LH}

theorem setObj_map {r : Nat} {es es2 : Array MapEntry} {c c2 : Nat} (hb : w.heap[r]? = some (.map es c)) : (setObj r (.map es2 c2)).run P w = .ok () { w with heap := w.heap.setIfInBounds r (.map es2 c2) } := by simp [setObj, Sem.run, hb]

theorem mapUpdate_ok (hT : Tabs E P) (hr : Rel φ w0 w h) {t : T LV} {ty : TypeId} {om ok ox : Operand} {m k x : LV} {M K X : Value} {v : LV} (hom : evalO E t om = some m) (hM : inst φ m = some M) (hok : evalO E t ok = some k) (hK : inst φ k = some K)
    (hox : evalO E t ox = some x) (hX : inst φ x = some X) (hv : oMapUpdate E h t ty om ok ox = some (v, h')) :
    v = .undef ∧ ∃ w', (Instr.mapUpdate ty M K X).run P w = .ok () w' ∧ Rel φ w0 w' h' ∧ h'.lo = h.lo ∧ h'.nx = h.nx := by
  unfold oMapUpdate at hv
  rw [hom, hok, hox] at hv
  simp only [obind_some, Option.some.injEq] at hv
  obtain ⟨_, rfl, _, rfl, _, rfl, d, hd, hv⟩ := hv
  have hu := desc_ok hT hd
  split at hv
  · rename_i kt et
    split at hv
    · rename_i r
      split at hv
      · rename_i es c hm
        cases hb : (Nat.ble h.lo r && keyOk E kt k) with
        | false => simp [hb] at hv
        | true =>
          rw [hb, cond_true] at hv
          simp only [Bool.and_eq_true] at hb
          have hlo := Nat.le_of_ble_eq_true hb.1
          have hkey := hb.2
          obtain ⟨kb, hkb, es', g1, g2⟩ := hr.objs r _ hm
          simp only [inst, hkb, Option.some.injEq] at hM; subst hM
          have hck : (Instr.checkKey false 10000 kt K).run P w = .ok () w := checkKey_gen hT hK hkey false w 9998
          have hRl := hr.new r _ kb hm hkb hlo
          have hlt := (Array.getElem?_eq_some_iff.1 g1).1
          have turn : ∀ (es2 : List (LV × LV × Nat)) (es2' : Array MapEntry) (c2 : Nat), instEs φ es2 es2'.toList → Rel φ w0 { w with heap := w.heap.setIfInBounds kb.R (.map es2' c2) } ⟨h.m.set r (.map es2 c2), h.nx, h.lo⟩ := by
            intro es2 es2' c2 h2
            refine hr.turn hm hkb hlo (hr.below.setObj hRl _) (fun R hR => ?_) ⟨es2', ?_, h2⟩
            · show (w.heap.setIfInBounds _ _)[R]? = _
              rw [Array.getElem?_setIfInBounds_ne (Ne.symm hR)]
            · show (w.heap.setIfInBounds _ _)[kb.R]? = _
              simp [hlt]
          split at hv
          · rename_i es2 hs
            simp only [fNat_eq, T.force_eq, Option.some.injEq, Prod.mk.injEq] at hv
            obtain ⟨rfl, rfl⟩ := hv
            obtain ⟨q1, q2⟩ := (setKey_ok hK hX es es2 es'.toList true g2 hs).1 rfl
            obtain ⟨r', f1, _, f3⟩ := find_ok hT hK hkey w g2 q1
            have := f3 rfl; subst this
            refine ⟨rfl, _, ?_, turn es2 (es'.push { key := K, val := X, born := c }) (c + 1) (by simpa using q2), rfl, rfl⟩
            simp only [Instr.mapUpdate, Sem.run_bind, run_underlying hu, Result.andThen_ok, getObj_map g1, hck, f1, setObj_map g1]
          · rename_i es2 hs
            simp only [T.force_eq, Option.some.injEq, Prod.mk.injEq] at hv
            obtain ⟨rfl, rfl⟩ := hv
            obtain ⟨i, u, e0, q0, q1, q2, q3, q4, q5⟩ := (setKey_ok hK hX es es2 es'.toList false g2 hs).2 rfl
            obtain ⟨r', f1, f2, _⟩ := find_ok hT hK hkey w g2 q1
            obtain ⟨j, V, rfl, hV, hj⟩ := f2 u rfl
            have := FirstAt.unique q0 hj; subst this
            have hi : es'[i]? = some e0 := by simpa using q2
            refine ⟨rfl, _, ?_, turn es2 (es'.modify i fun e => { e with key := K, val := X }) c (by simpa using q4), rfl, rfl⟩
            simp only [Instr.mapUpdate, Sem.run_bind, run_underlying hu, Result.andThen_ok, getObj_map g1, hck, f1, Nat.zero_add, hi, Option.map_some, Option.getD_some, Instr.keyThatStays, q3, if_true, Sem.run_pure, setObj_map g1]
          · cases hv
      · cases hv
    · cases hv
  · cases hv

end Go.Ev
namespace Go.Ev
open Go Go.RowKit

variable {E : Env} {P : Program} {φ : Phi} {w0 : Base} {w : World} {h h' : LH}

def skips : Op → Bool
  | .store .. => true
  | .mapUpdate .. => true
  | _ => false

def OpOk (P : Program) (φ : Phi) (w0 : Base) (w : World) (h : LH) (s : Sem Next) (sk : Bool) (v : LV) (h' : LH) : Prop :=
  ∃ ψ X w', Le φ ψ ∧ s.run P w = .ok (bif sk then .skip else .value X) w' ∧ inst ψ v = some X ∧ Rel ψ w0 w' h' ∧ h'.lo = h.lo ∧ h.nx ≤ h'.nx ∧ (sk = true → X = .tuple #[])

theorem ValOk.op {s : Sem Value} {v : LV} (hv : ValOk P φ w0 w h s v h') : OpOk P φ w0 w h (s >>= fun x => Pure.pure (Next.value x)) false v h' := by
  obtain ⟨ψ, X, w', h1, h2, h3, h4, h5, h6⟩ := hv
  exact ⟨ψ, X, w', h1, by simp [h2], h3, h4, h5, h6, fun h => by cases h⟩

theorem op_val (hr : Rel φ w0 w h) {v : LV} {X : Value} (hx : inst φ v = some X) : OpOk P φ w0 w h (pure (.value X)) false v h :=
  ⟨φ, X, w, Le.refl _, rfl, hx, hr, rfl, Nat.le_refl _, fun h => by cases h⟩

theorem instOO_ok {nt : Nat} {t : T LV} {a : Act} (ht : TmpsRel φ nt t a.tmps) (hg : Glob φ E.ng) {x : Option Operand} {v : Option LV} (hx : evalOO E t x = some v) : instO φ v (x.map a.eval) := by
  cases x with
  | none => simp only [evalOO, Option.some.injEq] at hx; subst hx; rfl
  | some x =>
    simp only [evalOO] at hx
    cases hv : evalO E t x with
    | none => simp [hv] at hx
    | some u => simp only [hv, Option.some.injEq] at hx; subst hx; exact ⟨_, evalO_ok ht hg hv, rfl⟩

theorem map_eval {a : Act} (xs : Array Operand) : xs.map a.eval = ⟨xs.toList.map a.eval⟩ := by
  apply Array.ext'; simp

theorem builtOk (hT : Tabs E P) (hr : Rel φ w0 w h) (hlo : h.lo ≤ h.nx) {b : Builtin} {ats : Array TypeId} {ty : TypeId} {cs : Array Bool} {args : List LV} {Args : List Value} {v : LV} (ha : insts φ args = some Args)
    (hv : builtinV E h b ats args = some (v, h')) : OpOk P φ w0 w h (builtin b ats ty cs ⟨Args⟩) false v h' := by
  cases b <;> simp only [builtinV] at hv <;> try (cases hv; done)
  case append =>
    refine ValOk.op ?_
    unfold bAppend at hv
    split at hv
    · rename_i s x
      obtain ⟨S, r, hS, hr1, rfl⟩ := insts_cons.1 ha
      obtain ⟨X, r', hX, hr2, rfl⟩ := insts_cons.1 hr1
      simp only [insts, Option.some.injEq] at hr2; subst hr2
      split at hv
      · rename_i t h0
        rw [obind_some] at hv
        obtain ⟨d, hd, hv⟩ := hv
        split at hv
        · rename_i e
          rw [obind_some] at hv
          obtain ⟨z, hz, hv⟩ := hv
          exact appendV_ok hT hr hlo h0 hd hz hS hX hv
        · cases hv
      · cases hv
    · cases hv
  case cap => exact (cap_ok hT hr ha hv).op
  case copy => exact (copy_ok hT hr ha hv).op
  case len => exact (len_ok hT hr ha hv).op
  case max =>
    unfold bMin at hv
    split at hv
    · rename_i x xs
      split at hv
      · rename_i r hm
        simp only [Option.some.injEq, Prod.mk.injEq] at hv
        obtain ⟨rfl, rfl⟩ := hv
        obtain ⟨X, R, hX, hR, rfl⟩ := insts_cons.1 ha
        obtain ⟨V, h1, h2⟩ := max_ok (P := P) (w := w) xs x r X R hX hR hm
        exact (ValOk.pure hr (X := V) (by simpa [Builtin.max_] using h1) h2).op
      · cases hv
    · cases hv
  case min =>
    unfold bMin at hv
    split at hv
    · rename_i x xs
      split at hv
      · rename_i r hm
        simp only [Option.some.injEq, Prod.mk.injEq] at hv
        obtain ⟨rfl, rfl⟩ := hv
        obtain ⟨X, R, hX, hR, rfl⟩ := insts_cons.1 ha
        obtain ⟨V, h1, h2⟩ := min_ok (P := P) (w := w) xs x r X R hX hR hm
        exact (ValOk.pure hr (X := V) (by simpa [Builtin.min_] using h1) h2).op
      · cases hv
    · cases hv

theorem oMove_some {t : T LV} {x : Operand} {v : LV} (hv : oMove E h t x = some (v, h')) : evalO E t x = some v ∧ h' = h := by
  simp only [oMove, obind_some, Option.some.injEq, Prod.mk.injEq] at hv
  obtain ⟨u, h1, rfl, rfl⟩ := hv
  exact ⟨h1, rfl⟩

theorem step1_ok (hT : Tabs E P) (hr : Rel φ w0 w h) (hlo : h.lo ≤ h.nx) (hg : Glob φ E.ng) {nt : Nat} {a : Act} {t : T LV} (ht : TmpsRel φ nt t a.tmps) {o : Oper} {v : LV} (hv : step1 E h t o.op = some (v, h')) :
    OpOk P φ w0 w h (execOp a.eval o) (skips o.op) v h' := by
  have ev : ∀ {x : Operand} {u : LV}, evalO E t x = some u → inst φ u = some (a.eval x) := fun hx => evalO_ok ht hg hx
  unfold execOp
  generalize o.type = oty
  generalize o.op = op at *
  cases op <;> simp only [step1] at hv <;> try (cases hv; done)
  all_goals dsimp only
  case move x => obtain ⟨h1, rfl⟩ := oMove_some hv; exact op_val hr (ev h1)
  case assign x => obtain ⟨h1, rfl⟩ := oMove_some hv; exact op_val hr (ev h1)
  case pick c x y =>
    simp only [oPick, obind_some] at hv
    obtain ⟨c', hc, hv⟩ := hv
    split at hv
    · rename_i b
      have hcb := inst_bool (ev hc)
      cases b with
      | true =>
        rw [cond_true] at hv
        obtain ⟨h1, rfl⟩ := oMove_some hv
        exact ⟨φ, _, w, Le.refl _, by simp [hcb, asBool, skips], ev h1, hr, rfl, Nat.le_refl _, fun h => by cases h⟩
      | false =>
        rw [cond_false] at hv
        obtain ⟨h1, rfl⟩ := oMove_some hv
        exact ⟨φ, _, w, Le.refl _, by simp [hcb, asBool, skips], ev h1, hr, rfl, Nat.le_refl _, fun h => by cases h⟩
    · cases hv
  case alloc e => exact (alloc_ok hT hr hlo hv).op
  case box e x =>
    simp only [oBox, obind_some] at hv
    obtain ⟨u, h1, hv⟩ := hv
    exact (box_ok hr hlo (ev h1) hv e).op
  case build ty ps =>
    simp only [oBuild, obind_some, Option.some.injEq, Prod.mk.injEq] at hv
    obtain ⟨pv, h1, u, h2, rfl, rfl⟩ := hv
    have := (buildV_ok (P := P) (w := w) hT hr (evalP_ok ht hg h1) h2).op
    have he : (ps.map fun (i, x) => (i, a.eval x)) = ⟨ps.toList.map fun p => (p.1, a.eval p.2)⟩ := by apply Array.ext'; simp
    simp only [he]
    exact this
  case buildSlice ty n ps =>
    simp only [oBuildSlice, obind_some] at hv
    obtain ⟨pv, h1, d, hd, hv⟩ := hv
    split at hv
    · rename_i e
      simp only [obind_some] at hv
      obtain ⟨sz, hsz, z, hz, hv⟩ := hv
      cases hb : (Nat.ble (Nat.mul n sz) 16777216 && Nat.beq z.length sz) with
      | false => simp only [hb, cond_false] at hv; cases hv
      | true =>
        simp only [hb, cond_true, obind_some, mkCells_eq, LH.alloc_eq, Option.some.injEq, Prod.mk.injEq] at hv
        obtain ⟨cs, hcs, rfl, rfl⟩ := hv
        simp only [Bool.and_eq_true] at hb
        have := (buildSlice_ok (P := P) (w := w) hT hr hlo (evalP_ok ht hg h1) hd hsz hz (Nat.le_of_ble_eq_true hb.1) (Nat.eq_of_beq_eq_true hb.2) hcs).op
        have he : (ps.map fun (i, x) => (i, a.eval x)) = ⟨ps.toList.map fun p => (p.1, a.eval p.2)⟩ := by apply Array.ext'; simp
        simp only [he]
        exact this
    · cases hv
  case load ty x =>
    simp only [oLoad, obind_some] at hv
    obtain ⟨u, h1, hv⟩ := hv
    split at hv
    · rename_i b o'
      simp only [obind_some, Option.some.injEq, Prod.mk.injEq] at hv
      obtain ⟨r, h2, rfl, rfl⟩ := hv
      exact (load_ok hT hr (ev h1) h2).op
    · cases hv
  case store ty x y =>
    simp only [oStore, obind_some] at hv
    obtain ⟨u, h1, y', h2, hv⟩ := hv
    split at hv
    · rename_i b o'
      simp only [obind_some] at hv
      obtain ⟨sz, hsz, hv⟩ := hv
      cases hb : Nat.beq y'.cells.length sz with
      | false => simp [hb] at hv
      | true =>
        simp only [hb, cond_true, obind_some, Option.some.injEq, Prod.mk.injEq] at hv
        obtain ⟨h3, hst, rfl, rfl⟩ := hv
        obtain ⟨w', g1, g2, g3, g4⟩ := store_ok (P := P) hT hr (ev h1) (ev h2) hsz hb hst
        exact ⟨φ, .tuple #[], w', Le.refl _, by simp [g1, skips], rfl, g2, g3, Nat.le_of_eq g4.symm, fun _ => rfl⟩
    · cases hv
  case nilCheck x =>
    simp only [oNilCheck, obind_some] at hv
    obtain ⟨u, h1, hv⟩ := hv
    have hx := ev h1
    split at hv
    · rename_i p
      simp only [Option.some.injEq, Prod.mk.injEq] at hv
      obtain ⟨rfl, rfl⟩ := hv
      obtain ⟨A, hA⟩ := inst_ptr_some hx
      rw [hA] at hx
      simpa [hA, skips] using op_val (P := P) hr hx
    · rename_i f fa fc
      simp only [Option.some.injEq, Prod.mk.injEq] at hv
      obtain ⟨rfl, rfl⟩ := hv
      obtain ⟨f', a', c', hA, hf, _⟩ := inst_fn hx
      simp only [instFn, Option.some.injEq] at hf; subst hf
      rw [hA] at hx
      simpa [hA, skips] using op_val (P := P) hr hx
    · rename_i f fa fc
      simp only [Option.some.injEq, Prod.mk.injEq] at hv
      obtain ⟨rfl, rfl⟩ := hv
      obtain ⟨f', a', c', hA, hf, _⟩ := inst_fn hx
      simp only [instFn] at hf
      split at hf
      · simp only [Option.some.injEq] at hf; subst hf
        rw [hA] at hx
        simpa [hA, skips] using op_val (P := P) hr hx
      · cases hf
    · cases hv
  case binOp op ty x y g =>
    simp only [oBinOp, obind_some, Option.some.injEq, Prod.mk.injEq] at hv
    obtain ⟨u, h1, u', h2, r, h3, rfl, rfl⟩ := hv
    obtain ⟨Z, q1, q2⟩ := binOpV_ok (P := P) hT (ev h1) (ev h2) h3 w
    exact (ValOk.pure hr q1 q2).op
  case unOp op ty x =>
    simp only [oUnOp, obind_some, Option.some.injEq, Prod.mk.injEq] at hv
    obtain ⟨u, h1, r, h3, rfl, rfl⟩ := hv
    obtain ⟨Z, q1, q2⟩ := unOpV_ok (P := P) (ev h1) h3 w
    exact (ValOk.pure hr q1 q2).op
  case convert s d x =>
    have hv' := hv
    simp only [oConvert] at hv'
    rw [obind_some] at hv'
    obtain ⟨u, h1, _⟩ := hv'
    exact (convert_ok hT hr hlo h1 (ev h1) hv).op
  case makeInterface ty x =>
    have hv' := hv
    simp only [oMakeInterface] at hv'
    rw [obind_some] at hv'
    obtain ⟨u, h1, _⟩ := hv'
    exact (makeInterface_ok hT hr h1 (ev h1) hv).op
  case makeFunc f x y =>
    unfold oMakeFunc at hv
    split at hv
    · rename_i k
      simp only [obind_some, Option.some.injEq, Prod.mk.injEq] at hv
      obtain ⟨u, h1, u', h2, rfl, rfl⟩ := hv
      refine (ValOk.pure hr (X := .func (.func k) (x.map a.eval) (y.map a.eval)) rfl ?_).op
      simp [inst, instFn, evalOs_ok ht hg h1, evalOs_ok ht hg h2, map_eval]
    · cases hv
  case makeMap ty r =>
    cases r with
    | none =>
      simp only [oMakeMap, LH.alloc_eq, Option.some.injEq, Prod.mk.injEq] at hv
      obtain ⟨rfl, rfl⟩ := hv
      exact (makeMap_ok hr hlo ty).op
    | some r => simp [oMakeMap] at hv
  case makeSlice ty l c =>
    simp only [oMakeSlice, obind_some] at hv
    obtain ⟨u, h1, u', h2, d, hd, hv⟩ := hv
    split at hv
    · rename_i e
      simp only [obind_some] at hv
      obtain ⟨sz, hsz, z, hz, hv⟩ := hv
      split at hv
      · rename_i kl l'
        split at hv
        · rename_i kc c'
          cases hb : (Nat.ble l' c' && (Nat.ble c' 16777216 && Nat.beq z.length sz)) with
          | false => simp only [hb, cond_false] at hv; cases hv
          | true =>
            simp only [hb, cond_true, fNat_eq, mkCells_eq, LH.alloc_eq, Option.some.injEq, Prod.mk.injEq] at hv
            obtain ⟨rfl, rfl⟩ := hv
            simp only [Bool.and_eq_true] at hb
            have e1 := inst_int (ev h1); have e2 := inst_int (ev h2)
            rw [e1, e2]
            exact (makeSlice_ok hT hr hlo hd hsz hz (Nat.le_of_ble_eq_true hb.1) (Nat.le_of_ble_eq_true hb.2.1) (Nat.eq_of_beq_eq_true hb.2.2)).op
        · cases hv
      · cases hv
    · cases hv
  case slice ty x lo hi mx =>
    simp only [oSlice, obind_some] at hv
    obtain ⟨u, h1, lo', h2, hi', h3, mx', h4, d, hd, hv⟩ := hv
    have a2 := instOO_ok ht hg h2; have a3 := instOO_ok ht hg h3; have a4 := instOO_ok ht hg h4
    refine ValOk.op ?_
    have hx := ev h1
    unfold sliceV at hv
    split at hv
    · split at hv
      · rename_i s
        split at hv
        · simp only [obind_some, Option.some.injEq, Prod.mk.injEq] at hv
          obtain ⟨r, hs, rfl, rfl⟩ := hv
          have := inst_str hx
          rw [this]
          simp only [instO] at a4
          rw [a4]
          exact sliceStr_ok hT hr hd a2 a3 hs
        · cases hv
      · cases hv
    · rename_i e
      split at hv
      · rename_i p len cap own
        simp only [obind_some] at hv
        obtain ⟨sz, hsz, hv⟩ := hv
        exact sliceSl_ok hT hr hlo hd hsz hx a2 a3 a4 hv
      · cases hv
    · rename_i n e
      split at hv
      · rename_i b o'
        simp only [obind_some, Option.some.injEq, Prod.mk.injEq] at hv
        obtain ⟨sz, hsz, r, hs, rfl, rfl⟩ := hv
        exact sliceArr_ok hT hr hd hsz hx a2 a3 a4 hs
      · cases hv
    · cases hv
  case fieldAddr s x f =>
    have hv' := hv
    simp only [oFieldAddr] at hv'
    rw [obind_some] at hv'
    obtain ⟨u, h1, _⟩ := hv'
    exact (fieldAddr_ok hT hr h1 (ev h1) hv).op
  case field s x f =>
    have hv' := hv
    simp only [oField] at hv'
    rw [obind_some] at hv'
    obtain ⟨u, h1, _⟩ := hv'
    exact (field_ok hT hr h1 (ev h1) hv).op
  case indexAddr ty x i =>
    have hv' := hv
    simp only [oIndexAddr, obind_some] at hv'
    obtain ⟨u, h1, u', h2, _⟩ := hv'
    exact (indexAddr_ok hT hr h1 (ev h1) h2 (ev h2) hv).op
  case index ty x i =>
    have hv' := hv
    simp only [oIndex, obind_some] at hv'
    obtain ⟨u, h1, u', h2, _⟩ := hv'
    exact (index_ok hT hr h1 (ev h1) h2 (ev h2) hv).op
  case lookup ty x i ok =>
    have hv' := hv
    simp only [oLookup, obind_some] at hv'
    obtain ⟨u, h1, u', h2, _⟩ := hv'
    exact (lookup_ok hT hr h1 (ev h1) h2 (ev h2) hv).op
  case mapUpdate ty m k x =>
    have hv' := hv
    simp only [oMapUpdate, obind_some] at hv'
    obtain ⟨u, h1, u', h2, u'', h3, _⟩ := hv'
    obtain ⟨rfl, w', g1, g2, g3, g4⟩ := mapUpdate_ok (P := P) hT hr h1 (ev h1) h2 (ev h2) h3 (ev h3) hv
    exact ⟨φ, .tuple #[], w', Le.refl _, by simp [g1, skips], rfl, g2, g3, Nat.le_of_eq g4.symm, fun _ => rfl⟩
  case typeAssert x xt ta ok =>
    have hv' := hv
    simp only [oTypeAssert] at hv'
    rw [obind_some] at hv'
    obtain ⟨u, h1, _⟩ := hv'
    exact (typeAssert_ok hT hr h1 (ev h1) hv).op
  case extract x i =>
    have hv' := hv
    simp only [oExtract] at hv'
    rw [obind_some] at hv'
    obtain ⟨u, h1, _⟩ := hv'
    exact (extract_ok hr h1 (ev h1) hv).op
  case call c =>
    obtain ⟨callee, cargs, ats⟩ := c
    cases callee <;> simp only [oCall] at hv <;> try (cases hv; done)
    rename_i b
    rw [obind_some] at hv
    obtain ⟨args, h1, hv⟩ := hv
    have ha := evalOs_ok ht hg h1
    simp only [resolve, invoke, map_eval]
    exact builtOk hT hr hlo ha hv

end Go.Ev
