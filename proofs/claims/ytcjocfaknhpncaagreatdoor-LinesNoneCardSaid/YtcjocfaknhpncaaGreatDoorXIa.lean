/- What the model itself answers of bytealg, as oracles. -/
/- What slices.Sorted(maps.Keys(m)) answers, as an oracle: out of a contract on the function. -/
import Derived.Test.YtcjocfaknhpncaaGreatDoorXGa
import Derived.Lib.Bytealg
import Derived.Sort.KeysCollected
namespace Go.Ev
open Go Go.RowKit

noncomputable def idxB (c : Nat) (l : List UInt8) : Int := List.rec (motive := fun _ => Nat → Int) (fun _ => .negSucc 0) (fun x _ ih i => Bool.rec (motive := fun _ => Int) (ih (Nat.add i 1)) (.ofNat i) (Nat.beq x.toNat c)) l 0
noncomputable def cntB (c : Nat) (l : List UInt8) : Nat := List.rec (motive := fun _ => Nat) 0 (fun x _ ih => Bool.rec (motive := fun _ => Nat) ih (Nat.succ ih) (Nat.beq x.toNat c)) l
noncomputable def oIdx (h : LH) (args : List LV) : Option (LV × LH) := match args with
  | [.str s, .int .u8 (.ofNat c)] => bif Nat.blt c 256 then some (.int .i64 (idxB c s), h) else none
  | _ => none
noncomputable def oCnt (h : LH) (args : List LV) : Option (LV × LH) := match args with
  | [.str s, .int .u8 (.ofNat c)] => bif Nat.blt c 256 then some (.int .i64 (.ofNat (cntB c s)), h) else none
  | _ => none

theorem toNat_beq {c : Nat} (hc : c < 256) (x : UInt8) : Nat.beq x.toNat c = (x == c.toUInt8) := by
  rw [Bool.eq_iff_iff]
  simp only [beq_iff_eq, Nat.beq_eq]
  constructor
  · rintro rfl; simp
  · rintro rfl; simp; omega

theorem idxB_from {c : Nat} (hc : c < 256) : ∀ (l : List UInt8) (i : Nat), List.rec (motive := fun _ => Nat → Int) (fun _ => .negSucc 0) (fun x _ ih i => Bool.rec (motive := fun _ => Int) (ih (Nat.add i 1)) (.ofNat i) (Nat.beq x.toNat c)) l i = if Lib.indexByte l c.toUInt8 = -1 then -1 else Lib.indexByte l c.toUInt8 + i
  | [], i => by simp [Lib.indexByte]
  | x :: l, i => by
    show Bool.rec (motive := fun _ => Int) (List.rec (motive := fun _ => Nat → Int) (fun _ => .negSucc 0) (fun x _ ih i => Bool.rec (motive := fun _ => Int) (ih (Nat.add i 1)) (.ofNat i) (Nat.beq x.toNat c)) l (Nat.add i 1)) (.ofNat i) (Nat.beq x.toNat c) = _
    rw [toNat_beq hc, idxB_from hc l (Nat.add i 1)]
    have hcons : Lib.indexByte (x :: l) c.toUInt8 = if x == c.toUInt8 then 0 else if Lib.indexByte l c.toUInt8 == -1 then -1 else Lib.indexByte l c.toUInt8 + 1 := rfl
    rw [hcons]
    cases hx : (x == c.toUInt8)
    · have hge := Lib.indexByte_ge l c.toUInt8
      simp only [Bool.false_eq_true, if_false]
      by_cases h1 : Lib.indexByte l c.toUInt8 = -1
      · simp [h1]
      · have h2 : (Lib.indexByte l c.toUInt8 == -1) = false := by simpa using h1
        rw [if_neg h1, h2]
        simp only [Bool.false_eq_true, if_false]
        rw [if_neg (by omega)]
        show _ + ((i + 1 : Nat) : Int) = _
        omega
    · simp
theorem idxB_eq {c : Nat} (hc : c < 256) (l : List UInt8) : idxB c l = Lib.indexByte l c.toUInt8 := by
  unfold idxB
  rw [idxB_from hc l 0]
  split
  · rename_i h; exact h.symm
  · simp
theorem cntB_eq {c : Nat} (hc : c < 256) : ∀ (l : List UInt8), cntB c l = Lib.countByte l c.toUInt8
  | [] => rfl
  | x :: l => by
    show Bool.rec (motive := fun _ => Nat) (cntB c l) (Nat.succ (cntB c l)) (Nat.beq x.toNat c) = _
    rw [toNat_beq hc, cntB_eq hc l]
    unfold Lib.countByte
    rw [List.count_cons]
    cases hx : (x == c.toUInt8)
    · simp
    · simp

variable {P : Program} {k : FuncId} {fn : Func}

theorem str_args {φ : Phi} {s : List UInt8} {c : Nat} {Args : List Value} (ha : insts φ [.str s, .int .u8 (.ofNat c)] = some Args) : Args = [.string ⟨⟨s⟩⟩, .int .u8 (c : Int)] := by
  simp only [insts, inst, Option.some.injEq] at ha
  exact ha.symm

theorem oIdx_ok (hf : P.funcs[k]? = some fn) (hname : (fn.name == "runtime.NumGoroutine") = false) (hb : fn.body.isNone = true) (hn : Extern.findNext fn = none) (he : Extern.find fn = some Extern.BytealgIndexByte.indexByte)
    {E : Env} (hs : (E.orac.get k).isSome = true) {h h' : LH} {args : List LV} {v : LV} (ho : oIdx h args = some (v, h')) : FnOk E P h k args v h' := by
  unfold oIdx at ho
  split at ho
  · rename_i s c
    cases hc : Nat.blt c 256 with
    | false => rw [hc] at ho; cases ho
    | true =>
      rw [hc, cond_true] at ho
      simp only [Option.some.injEq, Prod.mk.injEq] at ho
      obtain ⟨rfl, rfl⟩ := ho
      have hc : c < 256 := by simpa [Nat.blt_eq] using hc
      intro φ w0 w Args hsit ha
      rw [str_args ha]
      refine .inr ⟨hs, .int .i64 (idxB c s), w, ?_, φ, Le.refl _, rfl, hsit, rfl, Nat.le_refl _⟩
      rw [run_callFunc_extern hf hname hb hn he]
      have := Lib.run_indexByteString (P := P) ⟨⟨s⟩⟩ (c : Int) w
      rw [this, idxB_eq hc]
      rfl
  · cases ho
theorem oCnt_ok (hf : P.funcs[k]? = some fn) (hname : (fn.name == "runtime.NumGoroutine") = false) (hb : fn.body.isNone = true) (hn : Extern.findNext fn = none) (he : Extern.find fn = some Extern.BytealgCount.count)
    {E : Env} (hs : (E.orac.get k).isSome = true) {h h' : LH} {args : List LV} {v : LV} (ho : oCnt h args = some (v, h')) : FnOk E P h k args v h' := by
  unfold oCnt at ho
  split at ho
  · rename_i s c
    cases hc : Nat.blt c 256 with
    | false => rw [hc] at ho; cases ho
    | true =>
      rw [hc, cond_true] at ho
      simp only [Option.some.injEq, Prod.mk.injEq] at ho
      obtain ⟨rfl, rfl⟩ := ho
      have hc : c < 256 := by simpa [Nat.blt_eq] using hc
      intro φ w0 w Args hsit ha
      rw [str_args ha]
      refine .inr ⟨hs, .int .i64 (cntB c s : Int), w, ?_, φ, Le.refl _, rfl, hsit, rfl, Nat.le_refl _⟩
      rw [run_callFunc_extern hf hname hb hn he]
      have := Lib.run_countString (P := P) ⟨⟨s⟩⟩ (c : Int) w
      rw [this, cntB_eq hc]
      rfl
  · cases ho

end Go.Ev
namespace Go.Ev
open Go Go.RowKit

noncomputable def insS (x : List UInt8) (l : List (List UInt8)) : List (List UInt8) := List.rec (motive := fun _ => List (List UInt8)) [x] (fun y ys ih => Bool.rec (motive := fun _ => List (List UInt8)) (y :: ih) (x :: y :: ys) (ltL x y)) l
noncomputable def sortS (l : List (List UInt8)) : List (List UInt8) := List.rec (motive := fun _ => List (List UInt8)) [] (fun x _ ih => insS x ih) l
theorem insS_perm (x : List UInt8) : ∀ l, (insS x l).Perm (x :: l)
  | [] => List.Perm.refl _
  | y :: l => by
    show (Bool.rec (motive := fun _ => List (List UInt8)) (y :: insS x l) (x :: y :: l) (ltL x y)).Perm _
    cases ltL x y
    · exact ((insS_perm x l).cons y).trans (List.Perm.swap x y l)
    · exact List.Perm.refl _
theorem sortS_perm : ∀ l, (sortS l).Perm l
  | [] => List.Perm.refl _
  | x :: l => (insS_perm x (sortS l)).trans ((sortS_perm l).cons x)

/-- each below all behind it -/
noncomputable def belowAll (x : List UInt8) (l : List (List UInt8)) : Bool := List.rec (motive := fun _ => Bool) true (fun y _ ih => bAnd (ltL x y) ih) l
noncomputable def rising (l : List (List UInt8)) : Bool := List.rec (motive := fun _ => Bool) true (fun x xs ih => bAnd (belowAll x xs) ih) l
theorem belowAll_ok {x : List UInt8} : ∀ {l : List (List UInt8)}, belowAll x l = true → ∀ y ∈ l, ltL x y = true
  | [], _, y, hy => by simp at hy
  | z :: l, h, y, hy => by
    obtain ⟨h1, h2⟩ := bAnd_ok (show bAnd (ltL x z) (belowAll x l) = true from h)
    rcases List.mem_cons.1 hy with rfl | hy
    · exact h1
    · exact belowAll_ok h2 y hy
theorem rising_ok : ∀ {l : List (List UInt8)}, rising l = true → l.Pairwise fun x y => ltL x y = true
  | [], _ => List.Pairwise.nil
  | x :: l, h => by
    obtain ⟨h1, h2⟩ := bAnd_ok (show bAnd (belowAll x l) (rising l) = true from h)
    exact List.Pairwise.cons (belowAll_ok h1) (rising_ok h2)

theorem ltL_lt : ∀ {a b : List UInt8}, ltL a b = true → a < b
  | [], [], h => by cases h
  | [], b :: y, _ => List.Lex.nil
  | _ :: _, [], h => by cases h
  | a :: x, b :: y, h => by
    simp only [ltL] at h
    cases h1 : Nat.blt a.toNat b.toNat with
    | true =>
      have : a.toNat < b.toNat := by simpa [Nat.blt_eq] using h1
      exact List.Lex.rel (UInt8.lt_iff_toNat_lt.2 this)
    | false =>
      rw [h1, cond_false] at h
      cases h2 : Nat.beq a.toNat b.toNat with
      | false => rw [h2] at h; cases h
      | true =>
        rw [h2, cond_true] at h
        have : a = b := UInt8.toNat_inj.1 (Nat.eq_of_beq_eq_true h2)
        subst this
        exact List.Lex.cons (ltL_lt h)

noncomputable def keyOfE (e : LV × LV × Nat) : Option (List UInt8) := match e.1 with
  | .str s => bif Nat.ble s.length 65536 then some s else none
  | _ => none
noncomputable def keysOf : List (LV × LV × Nat) → Option (List (List UInt8))
  | [] => some []
  | e :: es => match keyOfE e with
    | some s => match keysOf es with
      | some ss => some (s :: ss)
      | none => none
    | none => none
/-- the entries' numbers rise -/
noncomputable def bornAll (c : Nat) : List (LV × LV × Nat) → Nat → Bool
  | [], _ => true
  | e :: es, lo => bAnd (Nat.ble lo e.2.2) (bAnd (Nat.blt e.2.2 c) (bornAll c es (Nat.succ e.2.2)))

/-- g: the iterator of maps.Keys -/
noncomputable def oSorted (g : FuncId) (h : LH) (args : List LV) : Option (LV × LH) := match args with
  | [.fn (.func g') [] [.ptr (some (b, 0))]] => bif bAnd (Nat.beq g' g) (Nat.ble h.lo b) then match h.m.get b with
    | some (.cells c _ none) => match c.get 0 with
      | some (.map (some r)) => match h.m.get r with
        | some (.map es clock) => match keysOf es with
          | some ks => bif bAnd (Nat.ble es.length 65536) (bAnd (bornAll clock es 0) (rising (sortS ks))) then
              match ks with
              | [] => some (.sl none 0 0 none, h)
              | _ => mkCells ((sortS ks).map .str) (some 1) fun o => h.alloc o fun b h => fNat ks.length fun n => some (.sl (some (b, 0)) n n (some 0), h)
            else none
          | none => none
        | _ => none
      | _ => none
    | _ => none
    else none
  | _ => none

/-- what is asked of the function -/
def SortedSays (P : Program) (k g : FuncId) (kt : TypeId) : Prop :=
  ∀ (R b nn : Nat) (D0 : DataW Unit) (Rd : Value → Option (DataW Unit × List MemPlace)) (w : World), w.cell? ⟨R, 0, none⟩ = some (.map (some b)) → R < w.heap.size → w.ownsMap P kt Rd b nn D0 → Maps.size D0 ≤ maxLen → Maps.size D0 * 16 ≤ 140737488355328 →
    CallsIn Fence.wide 0 P k #[.func (.func g) #[] #[.pointer (some ⟨R, 0, none⟩)]] w fun e w' => ∃ (v : Value) (ss : List (List UInt8)), e = .returned v ∧ ss.Perm (strKeys D0) ∧
      w'.ownsRow w.heap.size kt 1 v ss.length ((ss.mergeSort (fun x y => decide (x ≤ y))).map fun l => Value.string ⟨l.toArray⟩) ∧ (v = .slice none 0 0 ↔ ss = []) ∧ Below w.heap.size w w'

theorem keysOf_ok {φ : Phi} : ∀ {es : List (LV × LV × Nat)} {ks : List (List UInt8)} {es' : List MapEntry}, keysOf es = some ks → instEs φ es es' → es'.map (·.key) = ks.map (fun l => Value.string ⟨⟨l⟩⟩) ∧ (∀ s ∈ ks, s.length ≤ 65536) ∧ es'.map (·.born) = es.map (·.2.2)
  | [], ks, es', hk, hi => by
    simp only [keysOf, Option.some.injEq] at hk; subst hk
    simp only [instEs] at hi; subst hi
    exact ⟨rfl, by simp, rfl⟩
  | (k, v, b) :: es, ks, es', hk, hi => by
    obtain ⟨x, y, r, h1, h2, rfl, h4⟩ := hi
    simp only [keysOf] at hk
    cases he : keyOfE (k, v, b) with
    | none => simp [he] at hk
    | some s =>
      cases hr : keysOf es with
      | none => simp [he, hr] at hk
      | some ss =>
        simp only [he, hr, Option.some.injEq] at hk; subst hk
        obtain ⟨g1, g2, g3⟩ := keysOf_ok hr h4
        cases k with
        | str s' =>
          have he : (bif Nat.ble s'.length 65536 then some s' else none) = some s := he
          cases hb : Nat.ble s'.length 65536 with
          | false => rw [hb] at he; cases he
          | true =>
            rw [hb, cond_true] at he
            simp only [Option.some.injEq] at he; subst he
            simp only [inst, Option.some.injEq] at h1; subst h1
            refine ⟨by simp [g1], fun s hs => ?_, by simp [g3]⟩
            rcases List.mem_cons.1 hs with rfl | hs
            · exact Nat.le_of_ble_eq_true hb
            · exact g2 s hs
        | _ => cases he

theorem bornAll_ok {c : Nat} : ∀ {es : List (LV × LV × Nat)} {lo : Nat}, bornAll c es lo = true → (∀ b ∈ es.map (·.2.2), lo ≤ b ∧ b < c) ∧ (es.map (·.2.2)).Nodup
  | [], _, _ => ⟨by simp, List.nodup_nil⟩
  | e :: es, lo, h => by
    obtain ⟨h1, h⟩ := bAnd_ok (show bAnd (Nat.ble lo e.2.2) (bAnd (Nat.blt e.2.2 c) (bornAll c es (Nat.succ e.2.2))) = true from h)
    obtain ⟨h2, h3⟩ := bAnd_ok h
    have h1 := Nat.le_of_ble_eq_true h1
    have h2 : e.2.2 < c := by simpa [Nat.blt_eq] using h2
    obtain ⟨g1, g2⟩ := bornAll_ok h3
    refine ⟨fun b hb => ?_, ?_⟩
    · simp only [List.map_cons, List.mem_cons] at hb
      rcases hb with rfl | hb
      · exact ⟨h1, h2⟩
      · have := g1 b hb; omega
    · rw [List.map_cons, List.nodup_cons]
      refine ⟨fun hin => ?_, g2⟩
      have := g1 _ hin; omega

theorem oSorted_ok {P : Program} {k g : FuncId} {kt : TypeId} {fn : Func} {c : Code} {E : Env} (hT : Tabs E P) (hf : E.funcs.get k = some fn) (hb : fn.body = some c) (hkt : P.underlying kt = some .string) (hS : SortedSays P k g kt)
    {h h' : LH} {args : List LV} {v : LV} (ho : oSorted g h args = some (v, h')) : FnIn E P h k args v h' := by
  unfold oSorted at ho
  split at ho
  · rename_i g' b
    cases hg : bAnd (Nat.beq g' g) (Nat.ble h.lo b) with
    | false => rw [hg] at ho; cases ho
    | true =>
      rw [hg, cond_true] at ho
      obtain ⟨hg, hlob⟩ := bAnd_ok hg
      have hlob := Nat.le_of_ble_eq_true hlob
      have := Nat.eq_of_beq_eq_true hg; subst this
      split at ho
      · rename_i cc n hbo
        split at ho
        · rename_i r hc0
          split at ho
          · rename_i es clock hro
            cases hks : keysOf es with
            | none => simp [hks] at ho
            | some ks =>
              simp only [hks] at ho
              cases hcond : bAnd (Nat.ble es.length 65536) (bAnd (bornAll clock es 0) (rising (sortS ks))) with
              | false => simp [hcond] at ho
              | true =>
                rw [hcond, cond_true] at ho
                obtain ⟨c1, hcond⟩ := bAnd_ok hcond
                obtain ⟨c2, c3⟩ := bAnd_ok hcond
                have c1 := Nat.le_of_ble_eq_true c1
                have c3 := rising_ok c3
                intro φ w0 w Args hs ha
                obtain ⟨X, rest, hX, hrest, rfl⟩ := insts_cons.1 ha
                simp only [insts, Option.some.injEq] at hrest; subst hrest
                obtain ⟨kb, hkb, rc, et, fr, d1, d2, d3, d4, d5, d6⟩ := hs.rel.objs b _ hbo
                obtain ⟨kr, hkr, es', e1, e2⟩ := hs.rel.objs r _ hro
                have hX' : X = .func (.func g') #[] #[.pointer (some ⟨kb.R, 0, none⟩)] := by
                  simp only [inst, instFn, insts, hkb, d6 (decide_eq_true hlob) rfl, Option.some.injEq] at hX
                  exact hX.symm
                subst hX'
                obtain ⟨y, hy1, hy2⟩ := d2 0 _ hc0
                rw [d6 (decide_eq_true hlob) rfl] at hy1
                have hcell : w.cell? ⟨kb.R, 0, none⟩ = some (.map (some kr.R)) := by
                  rw [cell_of_heap d1]
                  simp only [inst, hkr, Option.some.injEq] at hy2
                  rw [hy2]; simpa using hy1
                have hlt : kb.R < w.heap.size := (Array.getElem?_eq_some_iff.1 d1).1
                obtain ⟨k1, k2, k3⟩ := keysOf_ok hks e2
                have hnd : (sortS ks).Nodup := by
                  refine c3.imp fun {x y} hxy he => ?_
                  subst he
                  exact absurd (ltL_lt hxy) (List.lt_irrefl x)
                have hndk : ks.Nodup := (sortS_perm ks).nodup_iff.1 hnd
                obtain ⟨b1, b2⟩ := bornAll_ok c2
                let Rd : Value → Option (DataW Unit × List MemPlace) := fun _ => some (.nil, [])
                have hreads : ∀ x ∈ es'.toList, ∃ s ∈ ks, WideElems.rd P kt Rd x = some (.string s, .nil) ∧ x.key = .string ⟨⟨s⟩⟩ := by
                  intro x hx
                  have : x.key ∈ es'.toList.map (·.key) := List.mem_map_of_mem hx
                  rw [k1] at this
                  obtain ⟨s, hs1, hs2⟩ := List.mem_map.1 this
                  refine ⟨s, hs1, ?_, hs2.symm⟩
                  obtain ⟨xk, xv, xb⟩ := x
                  simp only at hs2
                  subst hs2
                  exact WideElems.rd_mk (R := Rd) (yv := (.nil, [])) (WideMaps.keyOf_string_mk hkt (s := ⟨⟨s⟩⟩) (by
                    have := k2 s hs1
                    show s.length ≤ maxLen
                    exact Nat.le_trans this (by decide))) rfl
                have hlen : es'.size = es.length := by
                  have := instEs_length e2
                  simpa using this
                have hfit : WideElems.Fit P kt Rd es' clock := by
                  refine ⟨by rw [hlen]; exact Nat.le_trans c1 (by decide), ⟨fun x hx => ?_, by rw [k3]; exact b2, ?_⟩, fun x hx => ?_⟩
                  · have : x.born ∈ es'.toList.map (·.born) := List.mem_map_of_mem hx
                    rw [k3] at this
                    exact (b1 _ this).2
                  · rw [k1]
                    refine List.pairwise_map.2 (hndk.imp fun {a b} hne he => hne ?_)
                    simpa using he
                  · obtain ⟨s, _, h1, _⟩ := hreads x hx
                    exact ⟨_, h1⟩
                have hkeys : (es'.toList.map (WideElems.rg P kt Rd)).map (fun p => Go.strOf p.1) = ks := by
                  have h1 : ∀ x ∈ es'.toList, Value.string ⟨⟨Go.strOf (WideElems.rg P kt Rd x).1⟩⟩ = x.key := by
                    intro x hx
                    obtain ⟨s, _, h1, h2⟩ := hreads x hx
                    rw [h2]
                    simp [WideElems.rg, h1, Go.strOf]
                  have h2 : ((es'.toList.map (WideElems.rg P kt Rd)).map (fun p => Go.strOf p.1)).map (fun l => Value.string ⟨⟨l⟩⟩) = ks.map fun l => Value.string ⟨⟨l⟩⟩ := by
                    rw [← k1, List.map_map, List.map_map]
                    exact List.map_congr_left fun x hx => h1 x hx
                  have h3 := congrArg (List.map fun v => match v with | Value.string s => s.data.toList | _ => []) h2
                  have h4 : ((fun v => match v with | Value.string s => s.data.toList | _ => []) ∘ fun l => Value.string ⟨⟨l⟩⟩) = fun l : List UInt8 => l := by funext l; rfl
                  have h5 : ∀ l : List (List UInt8), (l.map fun l => Value.string ⟨⟨l⟩⟩).map (fun v => match v with | Value.string s => s.data.toList | _ => []) = l := fun l => by
                    rw [List.map_map, h4]; simp
                  rw [h5, h5] at h3
                  exact h3
                let D0 : DataW Unit := .map ((es'.toList.map (WideElems.rg P kt Rd)).foldr DataW.insert [])
                have hown : w.ownsMap P kt Rd kr.R es'.size D0 := ⟨es', clock, e1, hfit, Nat.le_refl _, rfl⟩
                have hsize : Maps.size D0 = es'.size := by
                  show ((es'.toList.map (WideElems.rg P kt Rd)).foldr DataW.insert []).length = _
                  rw [(WideShapes.sorted_perm _).length_eq]; simp
                have hperm : (strKeys D0).Perm ks := by
                  rw [← hkeys]
                  exact (WideShapes.sorted_perm _).map _
                have hsz : es'.size ≤ 65536 := by rw [hlen]; exact c1
                refine ⟨callFunc_enter hT hf hb _ w, (hS kb.R kr.R es'.size D0 Rd w hcell hlt hown (by rw [hsize]; exact Nat.le_trans hsz (by decide)) (by rw [hsize]; omega)).mono fun e w' hq => ?_⟩
                obtain ⟨X, ss, rfl, q1, q2, q3, q4⟩ := hq
                have hsort : ss.mergeSort (fun x y => decide (x ≤ y)) = sortS ks := by
                  have h1 := mergeSort_of_perm ((q1.trans hperm).trans (sortS_perm ks).symm)
                  refine h1.trans (List.mergeSort_of_pairwise ?_)
                  exact c3.imp fun {x y} hxy => by simpa using List.le_of_lt (ltL_lt hxy)
                have hslen : ss.length = ks.length := (q1.trans hperm).length_eq
                rw [hsort] at q2
                have below : Kept w0 w' := hs.rel.below.step q4.os q4.tape q4.output q4.size fun R hR => q4.block R (Nat.lt_of_lt_of_le (w0.bd R hR) hs.rel.below.size)
                -- what was there stands
                have hrel : Rel φ w0 w' h := ⟨below, hs.rel.dom, hs.rel.new, fun b o hb => by
                    obtain ⟨k1, h1, h2⟩ := hs.rel.objs b o hb
                    exact ⟨k1, h1, h2.world (q4.block _ h2.lt)⟩, hs.rel.old, hs.rel.res, hs.rel.inj⟩
                refine ⟨X, rfl, ?_⟩
                cases ks with
                | nil =>
                  simp only [Option.some.injEq, Prod.mk.injEq] at ho
                  obtain ⟨rfl, rfl⟩ := ho
                  have : ss = [] := List.eq_nil_of_length_eq_zero (by simpa using hslen)
                  have := q3.2 this
                  subst this
                  exact ⟨φ, Le.refl _, rfl, ⟨hrel, hs.lo, hs.glob⟩, rfl, Nat.le_refl _⟩
                | cons s0 ks0 =>
                  simp only [mkCells_eq, LH.alloc_eq, fNat_eq, Option.some.injEq, Prod.mk.injEq] at ho
                  obtain ⟨rfl, rfl⟩ := ho
                  obtain ⟨p1, p2⟩ := q2
                  rcases p2 with ⟨rfl, p2⟩ | ⟨gb, cap, cur, rfl, p2, p3, p4, p5, p6, p7⟩
                  · rw [hslen] at p2; simp at p2
                  · have hnew : ∀ R, R < w.heap.size → R ≠ gb := fun R hR he => by omega
                    have hle := hs.rel.le_put ⟨gb, 0, cap, 1⟩
                    refine ⟨φ.put h.nx ⟨gb, 0, cap, 1⟩, hle, ?_, hs.trans (hrel.lay ⟨gb, 0, cap, 1⟩ _ hs.lo (fun hB => hnew _ (Nat.lt_of_lt_of_le (w0.bd _ hB) hs.rel.below.size) rfl) (fun b ob kb hb hkb he => ?_) ?_) hle rfl (Nat.le_succ _), rfl, Nat.le_succ _⟩
                    · simp only [inst, Phi.put_same]
                      rw [if_pos ⟨trivial, by rw [hslen] at p4; simpa using p4⟩, hslen]
                      rfl
                    · obtain ⟨k1, h1, h2⟩ := hs.rel.objs b ob hb
                      rw [hkb] at h1; cases h1
                      exact hnew _ h2.lt he
                    · refine ⟨cur, kt, (0, 0), p3, fun i u hu => ?_, ?_, fun _ => .inl rfl, fun s hs' => ?_, fun _ hn => by cases hn⟩
                      · rw [T.get_ofList] at hu
                        rw [List.getElem?_map] at hu
                        cases hsi : (sortS (s0 :: ks0))[i]? with
                        | none => simp [hsi] at hu
                        | some l =>
                          simp only [hsi, Option.map_some, Option.some.injEq] at hu
                          subst hu
                          have hcur : (cur.toList.take (ss.length * 1))[i]? = some (Value.string ⟨⟨l⟩⟩) := by
                            rw [p7, List.getElem?_map, hsi]; rfl
                          refine ⟨.string ⟨⟨l⟩⟩, ?_, rfl⟩
                          rw [List.getElem?_take] at hcur
                          split at hcur
                          · simpa using hcur
                          · cases hcur
                      · have := (sortS_perm (s0 :: ks0)).length_eq
                        simp only [List.length_map, Nat.zero_add, this]
                        have hl := hslen
                        simp only [List.length_cons] at hl ⊢
                        omega
                      · simp only [Option.some.injEq] at hs'
                        subst hs'
                        exact ⟨rfl, rfl, by simp only; omega⟩
          · cases ho
        · cases ho
      · cases ho
  · cases ho

end Go.Ev
