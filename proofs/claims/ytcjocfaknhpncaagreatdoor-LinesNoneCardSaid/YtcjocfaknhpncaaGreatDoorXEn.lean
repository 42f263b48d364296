/- Places, parts, interfaces. -/
/- Maps. -/
import Derived.Test.YtcjocfaknhpncaaGreatDoorXEl
namespace Go.Ev
open Go Go.RowKit

variable {E : Env} {P : Program} {φ : Phi} {w0 : Base} {w : World} {h h' : LH}

theorem idx_ok {i : LV} {I : Value} {n j : Nat} (hi : inst φ i = some I) (h : idx i n = some j) : ∃ k, I = .int k (j : Int) ∧ j < n := by
  unfold idx at h
  split at h
  · rename_i k m
    cases hb : Nat.blt m n with
    | false => simp [hb] at h
    | true =>
      simp only [hb, cond_true, Option.some.injEq] at h; subst h
      exact ⟨k, inst_int hi, by simpa [Nat.blt_eq] using hb⟩
  · cases h

theorem fieldAddr_ok (hT : Tabs E P) (hr : Rel φ w0 w h) {t : T LV} {s : TypeId} {o : Operand} {f : Nat} {x : LV} {X : Value} {v : LV} (ho : evalO E t o = some x) (hX : inst φ x = some X)
    (hv : oFieldAddr E h t s o f = some (v, h')) : ValOk P φ w0 w h (Instr.fieldAt s X f) v h' := by
  unfold oFieldAddr at hv
  rw [ho] at hv
  simp only [obind_some, Option.some.injEq] at hv
  obtain ⟨x', rfl, hv⟩ := hv
  split at hv
  · rename_i b o'
    simp only [obind_some] at hv
    obtain ⟨d, hd, hv⟩ := hv
    have hu := desc_ok hT hd
    split at hv
    · rename_i fs
      split at hv
      · rename_i fd hf
        rw [obind_some] at hv
        obtain ⟨sz, hsz, hv⟩ := hv
        cases h0 : Nat.beq sz 0 with
        | true => simp [h0] at hv
        | false =>
          simp only [h0, cond_false, Option.some.injEq, Prod.mk.injEq] at hv
          obtain ⟨rfl, rfl⟩ := hv
          obtain ⟨k, hk, rfl⟩ := inst_ptr hX
          have hne : sz ≠ 0 := by rintro rfl; simp at h0
          refine .pure hr (X := .pointer (some ⟨k.R, k.o + (o' + fd.offset), none⟩)) ?_ (inst_ptr_mk hk)
          simp [Instr.fieldAt, run_underlying hu, hf, Instr.sureAddr, fieldPlace, sizeOf_run hT hsz, hne, addr_add, Nat.add_assoc]
      · cases hv
    · cases hv
  · cases hv

theorem field_ok (hT : Tabs E P) (hr : Rel φ w0 w h) {t : T LV} {s : TypeId} {o : Operand} {f : Nat} {x : LV} {X : Value} {v : LV} (ho : evalO E t o = some x) (hX : inst φ x = some X)
    (hv : oField E h t s o f = some (v, h')) : ValOk P φ w0 w h (Instr.field s X f) v h' := by
  unfold oField at hv
  rw [ho] at hv
  simp only [obind_some, Option.some.injEq] at hv
  obtain ⟨x', rfl, hv⟩ := hv
  split at hv
  · rename_i cs
    simp only [obind_some] at hv
    obtain ⟨d, hd, hv⟩ := hv
    have hu := desc_ok hT hd
    split at hv
    · rename_i fs
      split at hv
      · rename_i fd hf
        rw [obind_some] at hv
        obtain ⟨u, hu', hv⟩ := hv
        simp only [Option.some.injEq, Prod.mk.injEq] at hv
        obtain ⟨rfl, rfl⟩ := hv
        obtain ⟨xs, rfl, hxs⟩ := inst_agg hX
        obtain ⟨Y, h1, h2⟩ := partV_ok hT hxs hu' w
        refine .pure hr (X := Y) ?_ h2
        simp [Instr.field, run_underlying hu, hf, asAgg, h1]
      · cases hv
    · cases hv
  · cases hv

theorem indexAddr_ok (hT : Tabs E P) (hr : Rel φ w0 w h) {t : T LV} {ty : TypeId} {o oi : Operand} {x i : LV} {X I : Value} {v : LV} (ho : evalO E t o = some x) (hX : inst φ x = some X) (hoi : evalO E t oi = some i) (hI : inst φ i = some I)
    (hv : oIndexAddr E h t ty o oi = some (v, h')) : ValOk P φ w0 w h (Instr.indexAt ty X I) v h' := by
  unfold oIndexAddr at hv
  rw [ho, hoi] at hv
  simp only [obind_some, Option.some.injEq] at hv
  obtain ⟨x', rfl, i', rfl, d, hd, hv⟩ := hv
  have hu := desc_ok hT hd
  split at hv
  · rename_i e
    split at hv
    · rename_i b o' n c own
      simp only [obind_some, Option.some.injEq, Prod.mk.injEq] at hv
      obtain ⟨j, hj, sz, hsz, rfl, rfl⟩ := hv
      obtain ⟨ki, rfl, hjn⟩ := idx_ok hI hj
      obtain ⟨k, c', hk, rfl, _⟩ := inst_sl hX
      refine .pure hr (X := .pointer (some ⟨k.R, k.o + (o' + j * sz), none⟩)) ?_ (inst_ptr_mk hk)
      have h1 : (0 : Int) ≤ (j : Int) ∧ (j : Int) < (n : Int) := by omega
      simp [Instr.indexAt, asIntOf, run_underlying hu, h1, sizeOf_run hT hsz, addr_add, Nat.add_assoc]
      intro hc; omega
    · cases hv
  · rename_i n e
    split at hv
    · rename_i b o'
      simp only [obind_some, Option.some.injEq, Prod.mk.injEq] at hv
      obtain ⟨j, hj, sz, hsz, rfl, rfl⟩ := hv
      obtain ⟨ki, rfl, hjn⟩ := idx_ok hI hj
      obtain ⟨k, hk, rfl⟩ := inst_ptr hX
      refine .pure hr (X := .pointer (some ⟨k.R, k.o + (o' + j * sz), none⟩)) ?_ (inst_ptr_mk hk)
      have h1 : (0 : Int) ≤ (j : Int) ∧ (j : Int) < (n : Int) := by omega
      simp [Instr.indexAt, asIntOf, Instr.sureAddr, run_underlying hu, h1, sizeOf_run hT hsz, addr_add, Nat.add_assoc]
      intro hc; omega
    · cases hv
  · cases hv

theorem byteArray_get (s : List UInt8) (j : Nat) : (ByteArray.mk ⟨s⟩)[j]? = s[j]? := by
  by_cases hj : j < s.length
  · have : j < (ByteArray.mk ⟨s⟩).size := hj
    rw [ByteArray.getElem?_lt' _ _ this, List.getElem?_eq_getElem hj]
    rfl
  · have : ¬ j < (ByteArray.mk ⟨s⟩).size := hj
    rw [ByteArray.getElem?_ge' _ _ this, List.getElem?_eq_none (by omega)]

theorem index_ok (hT : Tabs E P) (hr : Rel φ w0 w h) {t : T LV} {ty : TypeId} {o oi : Operand} {x i : LV} {X I : Value} {v : LV} (ho : evalO E t o = some x) (hX : inst φ x = some X) (hoi : evalO E t oi = some i) (hI : inst φ i = some I)
    (hv : oIndex E h t ty o oi = some (v, h')) : ValOk P φ w0 w h (Instr.index ty X I) v h' := by
  unfold oIndex at hv
  rw [ho, hoi] at hv
  simp only [obind_some, Option.some.injEq] at hv
  obtain ⟨x', rfl, i', rfl, d, hd, hv⟩ := hv
  have hu := desc_ok hT hd
  split at hv
  · split at hv
    · rename_i s
      rw [obind_some] at hv
      obtain ⟨j, hj, hv⟩ := hv
      obtain ⟨ki, rfl, hjn⟩ := idx_ok hI hj
      have := inst_str hX; subst this
      split at hv
      · rename_i c hc
        simp only [Option.some.injEq, Prod.mk.injEq] at hv
        obtain ⟨rfl, rfl⟩ := hv
        refine .pure hr (X := .int .u8 c.toNat) ?_ rfl
        have h1 : (0 : Int) ≤ (j : Int) := by omega
        simp [Instr.index, asIntOf, run_underlying hu, h1, byteArray_get, hc]
      · cases hv
    · cases hv
  · rename_i n e
    split at hv
    · rename_i cs
      simp only [obind_some, Option.some.injEq, Prod.mk.injEq] at hv
      obtain ⟨j, hj, sz, hsz, u, hpu, rfl, rfl⟩ := hv
      obtain ⟨ki, rfl, hjn⟩ := idx_ok hI hj
      obtain ⟨xs, rfl, hxs⟩ := inst_agg hX
      obtain ⟨Y, h1, h2⟩ := partV_ok hT hxs hpu w
      refine .pure hr (X := Y) ?_ h2
      have h3 : (0 : Int) ≤ (j : Int) ∧ (j : Int) < (n : Int) := by omega
      have h1' : (part e ⟨xs⟩ (j * sz)).run P w = .ok Y w := h1
      simp [Instr.index, asIntOf, run_underlying hu, h3, sizeOf_run hT hsz, h1']
      intro hc; omega
    · cases hv
  · cases hv

theorem zeroV_ok (hT : Tabs E P) {e : TypeId} {z : LV} (hz : zeroV E e = some z) (w : World) : ∃ Z, (zeroValue e).run P w = .ok Z w ∧ inst φ z = some Z := by
  unfold zeroV at hz
  split at hz
  · rename_i i hi
    split at hz
    · rename_i v hv
      exact ⟨v, by simp [zeroValue, typeInfo, hT.types _ _ hi, hv], ofV_inst φ v z hz⟩
    · cases hz
  · cases hz

theorem typeAssert_ok (hT : Tabs E P) (hr : Rel φ w0 w h) {t : T LV} {o : Operand} {xt a : TypeId} {ok : Bool} {x : LV} {X : Value} {v : LV} (ho : evalO E t o = some x) (hX : inst φ x = some X)
    (hv : oTypeAssert E h t o a ok = some (v, h')) : ValOk P φ w0 w h (Instr.typeAssert X xt a ok) v h' := by
  unfold oTypeAssert at hv
  rw [ho] at hv
  simp only [obind_some, Option.some.injEq] at hv
  obtain ⟨x', rfl, d, hd, hv⟩ := hv
  have hu := desc_ok hT hd
  split at hv
  · cases hv
  · rename_i hni
    split at hv
    · rename_i ty u
      cases hb : Nat.beq ty a with
      | false => simp [hb] at hv
      | true =>
        have := Nat.eq_of_beq_eq_true hb; subst this
        simp only [hb, cond_true, Option.some.injEq, Prod.mk.injEq] at hv
        obtain ⟨rfl, rfl⟩ := hv
        obtain ⟨V, rfl, hV⟩ := inst_iface hX
        refine .pure hr (X := if ok then .tuple #[V, .bool true] else V) ?_ ?_
        · cases d <;> first | exact absurd rfl (hni _) | simp [Instr.typeAssert, run_underlying hu]
        · cases ok
          · exact hV
          · simp only [cond_true, if_true, inst]
            have : insts φ [u, .bool true] = some [V, .bool true] := insts_cons.2 ⟨_, _, hV, rfl, rfl⟩
            rw [this]
    · cases ok with
      | false => cases hv
      | true =>
        rw [cond_true, obind_some] at hv
        obtain ⟨z, hz, hv⟩ := hv
        simp only [Option.some.injEq, Prod.mk.injEq] at hv
        obtain ⟨rfl, rfl⟩ := hv
        obtain ⟨Z, hZ, hzi⟩ := zeroV_ok (P := P) (φ := φ) hT hz w
        simp only [inst, Option.some.injEq] at hX; subst hX
        refine .pure hr (X := .tuple #[Z, .bool false]) ?_ ?_
        · cases d <;> first | exact absurd rfl (hni _) | simp [Instr.typeAssert, run_underlying hu, hZ]
        · have : insts φ [z, .bool false] = some [Z, .bool false] := insts_cons.2 ⟨_, _, hzi, rfl, rfl⟩
          simp [inst, this]
    · cases hv

theorem extract_ok (hr : Rel φ w0 w h) {t : T LV} {o : Operand} {i : Nat} {x : LV} {X : Value} {v : LV} (ho : evalO E t o = some x) (hX : inst φ x = some X)
    (hv : oExtract E h t o i = some (v, h')) : ValOk P φ w0 w h (Instr.extract X i) v h' := by
  unfold oExtract at hv
  rw [ho] at hv
  simp only [obind_some, Option.some.injEq] at hv
  obtain ⟨x', rfl, hv⟩ := hv
  split at hv
  · rename_i vs
    split at hv
    · rename_i u hu
      simp only [Option.some.injEq, Prod.mk.injEq] at hv
      obtain ⟨rfl, rfl⟩ := hv
      obtain ⟨xs, rfl, hxs⟩ := inst_tup hX
      obtain ⟨Y, h1, h2⟩ := insts_get hxs i u hu
      refine .pure hr (X := Y) ?_ h2
      simp [Instr.extract, h1]
    · cases hv
  · cases hv

theorem makeInterface_ok (hT : Tabs E P) (hr : Rel φ w0 w h) {t : T LV} {o : Operand} {ty : TypeId} {x : LV} {X : Value} {v : LV} (ho : evalO E t o = some x) (hX : inst φ x = some X)
    (hv : oMakeInterface E h t ty o = some (v, h')) : ValOk P φ w0 w h (Instr.makeInterface ty X) v h' := by
  unfold oMakeInterface at hv
  rw [ho] at hv
  simp only [obind_some, Option.some.injEq] at hv
  obtain ⟨x', rfl, hv⟩ := hv
  cases hi : ifaceT E ty with
  | true => simp [hi] at hv
  | false =>
    simp only [hi, cond_false, Option.some.injEq, Prod.mk.injEq] at hv
    obtain ⟨rfl, rfl⟩ := hv
    unfold ifaceT at hi
    split at hi <;> try (cases hi; done)
    rename_i d hd hni
    have hu := desc_ok hT hni
    refine .pure hr (X := .iface ty X) ?_ (by simp [inst, hX])
    cases d <;> first | exact absurd rfl (hd _) | simp [Instr.makeInterface, run_underlying hu]

end Go.Ev
namespace Go.Ev
open Go Go.RowKit

variable {E : Env} {P : Program} {φ : Phi} {w0 : Base} {w : World} {h h' : LH}

theorem eqI_refl_of {a b : Int} (h : eqI a b = true) : a = b := by rw [eqI_eq] at h; simpa using h

theorem byteArray_beq (x y : List UInt8) : ((ByteArray.mk ⟨x⟩) == (ByteArray.mk ⟨y⟩)) = (x == y) := by
  rw [Bool.eq_iff_iff]
  show ((⟨x⟩ : Array UInt8) == ⟨y⟩) = true ↔ _
  simp

/-- how keys are held against one another: at once, or by '==' -/
def nowK : TypeDesc → Bool
  | .int _ => true
  | .string => true
  | _ => false

theorem keyStep (hT : Tabs E P) {kt : TypeId} {kd : TypeDesc} (hd : desc E kt = some kd) {k a : LV} {K A : Value} {b : Bool} (hk : inst φ k = some K) (ha : inst φ a = some A) (hkey : keyOk E kt k = true) (he : eqT E 4 kt k a = some b) (w : World) :
    (nowK kd = true → Instr.sameNow kd K A = some b) ∧ (nowK kd = false → Instr.sameNow kd K A = none ∧ (Op.equal kt K A).run P w = .ok b w) := by
  have hrun : (Op.equal kt K A).run P w = .ok b w := eqT_ok hT 4 kt k a K A b 10000 w (by decide) hk ha he
  simp only [eqT, hd] at he
  rw [obind_some] at he
  obtain ⟨d', hd', he⟩ := he
  cases hd'
  unfold keyOk at hkey
  rw [hd] at hkey
  cases kd <;> simp only at hkey <;> try (cases hkey; done)
  case int q =>
    refine ⟨fun _ => ?_, fun hn => by simp [nowK] at hn⟩
    simp only [eqD] at he
    split at he
    · rename_i k1 x k2 y
      cases hb : Nat.beq (kIdx k1) (kIdx k2) with
      | false => simp [hb] at he
      | true =>
        simp only [hb, cond_true, Option.some.injEq] at he; subst he
        have := kIdx_inj hb; subst this
        have h1 := inst_int hk; have h2 := inst_int ha
        subst h1; subst h2
        simp [Instr.sameNow, eqI_eq]
    · cases he
  case string =>
    refine ⟨fun _ => ?_, fun hn => by simp [nowK] at hn⟩
    simp only [eqD] at he
    split at he
    · rename_i x y
      simp only [Option.some.injEq] at he; subst he
      have h1 := inst_str hk; have h2 := inst_str ha
      subst h1; subst h2
      simp only [Instr.sameNow, eqL_eq, byteArray_beq]
    · cases he
  case array n e =>
    refine ⟨fun hn => by simp [nowK] at hn, fun _ => ⟨?_, hrun⟩⟩
    simp [Instr.sameNow]

theorem keyOk_desc {kt : TypeId} {k : LV} (hkey : keyOk E kt k = true) : ∃ kd, desc E kt = some kd := by
  unfold keyOk at hkey
  cases hd : desc E kt with
  | none => simp [hd] at hkey
  | some kd => exact ⟨kd, rfl⟩

/-- where the first key is that is the same -/
def FirstAt (eq : LV → LV → Option Bool) (k : LV) : List (LV × LV × Nat) → Nat → Prop
  | [], _ => False
  | (a, _, _) :: _, 0 => eq k a = some true
  | (a, _, _) :: es, j + 1 => eq k a = some false ∧ FirstAt eq k es j
theorem FirstAt.unique {eq : LV → LV → Option Bool} {k : LV} : ∀ {es : List (LV × LV × Nat)} {i j : Nat}, FirstAt eq k es i → FirstAt eq k es j → i = j
  | [], _, _, h, _ => h.elim
  | (_, _, _) :: _, 0, 0, _, _ => rfl
  | (_, _, _) :: _, 0, _ + 1, h, h' => by simp only [FirstAt] at h h'; rw [h] at h'; exact absurd h'.1 (by simp)
  | (_, _, _) :: _, _ + 1, 0, h, h' => by simp only [FirstAt] at h h'; rw [h'] at h; exact absurd h.1 (by simp)
  | (_, _, _) :: _, _ + 1, _ + 1, h, h' => by rw [FirstAt.unique h.2 h'.2]

theorem findNow_ok (hT : Tabs E P) {kt : TypeId} {kd : TypeDesc} (hd : desc E kt = some kd) {k : LV} {K : Value} (hk : inst φ k = some K) (hkey : keyOk E kt k = true) (hnow : nowK kd = true) (w : World) :
    ∀ (es : List (LV × LV × Nat)) (es' : List MapEntry) (r : Option LV) (i : Nat), instEs φ es es' → findKey (eqT E 4 kt) k es = some r →
      ∃ r', Instr.findNow kd K es' i = some r' ∧ (∀ v, r = some v → ∃ j X, r' = some (i + j, X) ∧ inst φ v = some X ∧ FirstAt (eqT E 4 kt) k es j) ∧ (r = none → r' = none)
  | [], es', r, i, he, hf => by
    simp only [instEs] at he; subst he
    simp only [findKey, Option.some.injEq] at hf; subst hf
    exact ⟨none, rfl, fun v hv => (nomatch hv), fun _ => rfl⟩
  | (a, v, c) :: es, es', r, i, he, hf => by
    obtain ⟨A, V, r1, hA, hV, rfl, hr1⟩ := he
    simp only [findKey] at hf
    cases hq : eqT E 4 kt k a with
    | none => simp [hq] at hf
    | some b =>
      have hs := (keyStep hT hd hk hA hkey hq w).1 hnow
      rw [hq] at hf
      cases b with
      | true =>
        simp only [Option.some.injEq] at hf; subst hf
        refine ⟨some (i, V), by simp [Instr.findNow, hs], fun u hu => ?_, fun hn => by cases hn⟩
        cases hu; exact ⟨0, V, rfl, hV, hq⟩
      | false =>
        obtain ⟨r', h1, h2, h3⟩ := findNow_ok hT hd hk hkey hnow w es r1 r (i + 1) hr1 hf
        refine ⟨r', by simp [Instr.findNow, hs, h1], fun u hu => ?_, h3⟩
        obtain ⟨j, X, q1, q2, q3⟩ := h2 u hu
        exact ⟨j + 1, X, by rw [q1]; congr 2; omega, q2, hq, q3⟩

theorem findAsk_ok (hT : Tabs E P) {kt : TypeId} {kd : TypeDesc} (hd : desc E kt = some kd) {k : LV} {K : Value} (hk : inst φ k = some K) (hkey : keyOk E kt k = true) (hnow : nowK kd = false) (w : World) :
    ∀ (es : List (LV × LV × Nat)) (es' : List MapEntry) (r : Option LV) (i : Nat), instEs φ es es' → findKey (eqT E 4 kt) k es = some r →
      ∃ r', (Instr.findAsking kt K es' i).run P w = .ok r' w ∧ (∀ v, r = some v → ∃ j X, r' = some (i + j, X) ∧ inst φ v = some X ∧ FirstAt (eqT E 4 kt) k es j) ∧ (r = none → r' = none)
  | [], es', r, i, he, hf => by
    simp only [instEs] at he; subst he
    simp only [findKey, Option.some.injEq] at hf; subst hf
    exact ⟨none, rfl, fun v hv => (by cases hv), fun _ => rfl⟩
  | (a, v, c) :: es, es', r, i, he, hf => by
    obtain ⟨A, V, r1, hA, hV, rfl, hr1⟩ := he
    simp only [findKey] at hf
    cases hq : eqT E 4 kt k a with
    | none => simp [hq] at hf
    | some b =>
      have hs := ((keyStep hT hd hk hA hkey hq w).2 hnow).2
      rw [hq] at hf
      cases b with
      | true =>
        simp only [Option.some.injEq] at hf; subst hf
        refine ⟨some (i, V), by simp [Instr.findAsking, hs], fun u hu => ?_, fun hn => by cases hn⟩
        cases hu; exact ⟨0, V, rfl, hV, hq⟩
      | false =>
        obtain ⟨r', h1, h2, h3⟩ := findAsk_ok hT hd hk hkey hnow w es r1 r (i + 1) hr1 hf
        refine ⟨r', by simp [Instr.findAsking, hs, h1], fun u hu => ?_, h3⟩
        obtain ⟨j, X, q1, q2, q3⟩ := h2 u hu
        exact ⟨j + 1, X, by rw [q1]; congr 2; omega, q2, hq, q3⟩

theorem find_ok (hT : Tabs E P) {kt : TypeId} {k : LV} {K : Value} (hk : inst φ k = some K) (hkey : keyOk E kt k = true) (w : World) {es : List (LV × LV × Nat)} {es' : List MapEntry} {r : Option LV}
    (he : instEs φ es es') (hf : findKey (eqT E 4 kt) k es = some r) :
    ∃ r', (Instr.findKey kt K es').run P w = .ok r' w ∧ (∀ v, r = some v → ∃ j X, r' = some (0 + j, X) ∧ inst φ v = some X ∧ FirstAt (eqT E 4 kt) k es j) ∧ (r = none → r' = none) := by
  obtain ⟨kd, hd⟩ := keyOk_desc hkey
  have hu := desc_ok hT hd
  cases hnow : nowK kd with
  | true =>
    obtain ⟨r', h1, h2⟩ := findNow_ok hT hd hk hkey hnow w es es' r 0 he hf
    exact ⟨r', by simp [Instr.findKey, run_underlying hu, h1], h2⟩
  | false =>
    obtain ⟨r', h1, h2⟩ := findAsk_ok hT hd hk hkey hnow w es es' r 0 he hf
    cases es' with
    | nil =>
      refine ⟨r', ?_, h2⟩
      simp [Instr.findAsking] at h1
      simp [Instr.findKey, run_underlying hu, Instr.findNow, h1]
    | cons e0 es0 =>
      refine ⟨r', ?_, h2⟩
      cases es with
      | nil => simp [instEs] at he
      | cons a es =>
        obtain ⟨a, v, c⟩ := a
        obtain ⟨A, V, r1, hA, hV, he0, hr1⟩ := he
        cases he0
        simp only [findKey] at hf
        cases hq : eqT E 4 kt k a with
        | none => simp [hq] at hf
        | some b =>
          have hs := ((keyStep hT hd hk hA hkey hq w).2 hnow).1
          simp [Instr.findKey, run_underlying hu, Instr.findNow, hs, h1]

theorem allInt_part {φ : Phi} : ∀ {cs : List LV} {xs : List Value}, insts φ cs = some xs → allInt cs = true → ∀ i, i < xs.length → ∃ k n, xs[i]? = some (.int k n)
  | [], xs, h, _, i, hi => by simp [insts] at h; subst h; simp at hi
  | c :: cs, xs, h, ha, i, hi => by
    obtain ⟨y, ys, h1, h2, rfl⟩ := insts_cons.1 h
    cases c <;> try (simp [allInt] at ha; done)
    rename_i k n
    cases i with
    | zero => have := inst_int h1; subst this; exact ⟨k, n, rfl⟩
    | succ i => simpa using allInt_part h2 ha i (by simpa using hi)

theorem checkKey_int {n : Nat} {e : TypeId} {q : IntKind} (hu : P.underlying e = some (.int q)) (emp : Bool) (V : Value) (w : World) : (Instr.checkKey emp (n + 1) e V).run P w = .ok () w := by
  simp [Instr.checkKey, run_underlying hu]

theorem checkKey_gen (hT : Tabs E P) {kt : TypeId} {k : LV} {K : Value} (hk : inst φ k = some K) (hkey : keyOk E kt k = true) (emp : Bool) (w : World) (N : Nat) : (Instr.checkKey emp (N + 2) kt K).run P w = .ok () w := by
  obtain ⟨kd, hd⟩ := keyOk_desc hkey
  have hu := desc_ok hT hd
  unfold keyOk at hkey
  rw [hd] at hkey
  cases kd <;> simp only at hkey <;> try (cases hkey; done)
  case int q => simp [Instr.checkKey, run_underlying hu]
  case string => simp [Instr.checkKey, run_underlying hu]
  case array n e =>
    split at hkey
    · rename_i q he
      have hue := desc_ok hT he
      split at hkey
      · rename_i cs
        simp only [Bool.and_eq_true] at hkey
        obtain ⟨hl, hi, hs⟩ := hkey
        have hl := Nat.eq_of_beq_eq_true hl
        cases hsz : sizeOf E e with
        | none => simp [hsz] at hs
        | some sz =>
          rw [hsz] at hs
          have := Nat.eq_of_beq_eq_true hs; subst this
          obtain ⟨xs, rfl, hxs⟩ := inst_agg hk
          have hxl := insts_length hxs
          have hone : ∀ i, i < n → ∃ V, (part e ⟨xs⟩ i).run P w = .ok V w := by
            intro i hin
            obtain ⟨kk, m, hm⟩ := allInt_part hxs hi i (by omega)
            refine ⟨.int kk m, ?_⟩
            have := aggOf_isAgg hT he w
            simp only [aggOf] at this
            simp [part, this, hm]
          have hloop : ∀ (l : List Nat), (∀ i ∈ l, i < n) → (forIn l PUnit.unit (fun i _ => do
              let c ← Go.sizeOf e
              let v ← part e ⟨xs⟩ (i * c)
              Instr.checkKey emp (N + 1) e v
              pure (ForInStep.yield PUnit.unit)) : Sem PUnit).run P w = .ok PUnit.unit w := by
            intro l
            induction l with
            | nil => intro _; simp
            | cons a l ih =>
              intro hl
              obtain ⟨V, hV⟩ := hone a (hl a (by simp))
              have h2 := ih (fun i hi => hl i (by simp [hi]))
              simp only [List.forIn_cons, Sem.run_bind, sizeOf_run hT hsz, Result.andThen_ok, Nat.mul_one, hV, checkKey_int hue, Sem.run_pure]
              exact h2
          have := hloop (List.range' 0 n) (fun i hi => by simp [List.mem_range'] at hi; omega)
          rw [Instr.checkKey]
          simp [run_underlying hu, Std.Legacy.Range.forIn_eq_forIn_range']
          simpa using this
      · cases hkey
    · cases hkey


theorem instEs_length {φ : Phi} : ∀ {l : List (LV × LV × Nat)} {l' : List MapEntry}, instEs φ l l' → l'.length = l.length
  | [], l', h => by simp only [instEs] at h; subst h; rfl
  | (_, _, _) :: l, l', ⟨_, _, r, _, _, h3, h4⟩ => by subst h3; simp [instEs_length h4]

theorem lookup_ok (hT : Tabs E P) (hr : Rel φ w0 w h) {t : T LV} {ty : TypeId} {o oi : Operand} {ok : Bool} {x i : LV} {X I : Value} {v : LV} (ho : evalO E t o = some x) (hX : inst φ x = some X) (hoi : evalO E t oi = some i) (hI : inst φ i = some I)
    (hv : oLookup E h t ty o oi ok = some (v, h')) : ValOk P φ w0 w h (Instr.lookup ty X I ok) v h' := by
  unfold oLookup at hv
  rw [ho, hoi] at hv
  simp only [obind_some, Option.some.injEq] at hv
  obtain ⟨x', rfl, i', rfl, d, hd, hv⟩ := hv
  have hu := desc_ok hT hd
  split at hv
  · rename_i kt e
    split at hv
    · rename_i r
      cases hkey : keyOk E kt i with
      | false => simp [hkey] at hv
      | true =>
        rw [hkey, cond_true] at hv
        simp only [obind_some] at hv
        obtain ⟨es, hes, z, hz, f, hf, hv⟩ := hv
        obtain ⟨Z, hZ, hzi⟩ := zeroV_ok (P := P) (φ := φ) hT hz w
        -- the entries
        have hent : ∃ es' : Array MapEntry, instEs φ es es'.toList ∧ (X = .map none ∧ es' = #[] ∨ ∃ R cl, X = .map (some R) ∧ w.heap[R]? = some (.map es' cl)) := by
          cases r with
          | none =>
            simp only [entriesOf, Option.some.injEq] at hes; subst hes
            simp only [inst, Option.some.injEq] at hX; subst hX
            exact ⟨#[], rfl, .inl ⟨rfl, rfl⟩⟩
          | some r =>
            simp only [entriesOf] at hes
            split at hes
            · rename_i es0 cl hm
              simp only [Option.some.injEq] at hes; subst hes
              obtain ⟨k, hk, es', g1, g2⟩ := hr.objs r _ hm
              simp only [inst, hk, Option.some.injEq] at hX; subst hX
              exact ⟨es', g2, .inr ⟨_, _, rfl, g1⟩⟩
            · cases hes
        obtain ⟨es', he1, he2⟩ := hent
        obtain ⟨r', q1, q2, q3⟩ := find_ok hT hI hkey w he1 hf
        have hck : (Instr.checkKey es'.isEmpty 10000 kt I).run P w = .ok () w := checkKey_gen hT hI hkey es'.isEmpty w 9998
        have key : ∀ (V : Value) (b : Bool) (u : LV), inst φ u = some V → v = (bif ok then .tup [u, .bool b] else u) → h' = h → (Instr.lookup ty X I ok).run P w = .ok (if ok then .tuple #[V, .bool b] else V) w → ValOk P φ w0 w h (Instr.lookup ty X I ok) v h' := by
          intro V b u hV hve hhe hrun
          subst hve; subst hhe
          refine .pure hr hrun ?_
          cases ok
          · exact hV
          · simp only [cond_true, if_true, inst]
            have : insts φ [u, .bool b] = some [V, .bool b] := insts_cons.2 ⟨_, _, hV, rfl, rfl⟩
            rw [this]
        cases f with
        | some u =>
          simp only [Option.some.injEq, Prod.mk.injEq] at hv
          obtain ⟨hv1, rfl⟩ := hv
          obtain ⟨j, V, rfl, hV, _⟩ := q2 u rfl
          refine key V true u hV hv1.symm rfl ?_
          unfold Instr.lookup
          rcases he2 with ⟨rfl, rfl⟩ | ⟨R, cl, rfl, g1⟩
          · simp only [Sem.run_bind, run_underlying hu, Result.andThen_ok, q1, Sem.run_pure, hck]
          · simp only [Sem.run_bind, run_underlying hu, Result.andThen_ok, getObj_map g1, q1, Sem.run_pure, hck]
        | none =>
          simp only [Option.some.injEq, Prod.mk.injEq] at hv
          obtain ⟨hv1, rfl⟩ := hv
          have := q3 rfl; subst this
          refine key Z false z hzi hv1.symm rfl ?_
          unfold Instr.lookup
          rcases he2 with ⟨rfl, rfl⟩ | ⟨R, cl, rfl, g1⟩
          · simp only [Sem.run_bind, run_underlying hu, Result.andThen_ok, q1, Sem.run_pure, hck, hZ]
          · simp only [Sem.run_bind, run_underlying hu, Result.andThen_ok, getObj_map g1, q1, Sem.run_pure, hck, hZ]
    · cases hv
  · cases hv

theorem sameIs_ok {φ : Phi} (n : Nat) : ∀ {a b : List LV} {A B : List Value}, sameIs a b = true → insts φ a = some A → insts φ b = some B → A.length = B.length ∧ ((A.zip B).all fun p => Instr.sameBits n p.1 p.2) = true
  | [], [], A, B, _, ha, hb => by
    simp only [insts, Option.some.injEq] at ha hb; subst ha; subst hb; simp
  | [], _ :: _, _, _, h, _, _ => by simp [sameIs] at h
  | _ :: _, [], _, _, h, _, _ => by simp [sameIs] at h
  | x :: a, y :: b, A, B, h, ha, hb => by
    obtain ⟨X, A', hX, hA, rfl⟩ := insts_cons.1 ha
    obtain ⟨Y, B', hY, hB, rfl⟩ := insts_cons.1 hb
    simp only [sameIs, Bool.and_eq_true] at h
    obtain ⟨h1, h2⟩ := sameIs_ok n h.2 hA hB
    refine ⟨by simp [h1], ?_⟩
    simp only [List.zip_cons_cons, List.all_cons, h2, Bool.and_true]
    have hs := h.1
    unfold sameI at hs
    split at hs
    · rename_i k m k' m'
      simp only [Bool.and_eq_true] at hs
      have := kIdx_inj hs.1; subst this
      have := eqI_refl_of hs.2; subst this
      have := inst_int hX; subst this
      have := inst_int hY; subst this
      unfold Instr.sameBits; simp
    · cases hs

theorem sameL_ok {φ : Phi} {a b : LV} {A B : Value} (h : sameL a b = true) (ha : inst φ a = some A) (hb : inst φ b = some B) (n : Nat) : Instr.sameBits (n + 1) A B = true := by
  unfold sameL at h
  split at h
  · rename_i x y
    rw [eqL_eq] at h
    have : x = y := by simpa using h
    subst this
    have := inst_str ha; subst this
    have := inst_str hb; subst this
    simp [Instr.sameBits, byteArray_beq]
  · rename_i x y
    obtain ⟨xs, rfl, hxs⟩ := inst_agg ha
    obtain ⟨ys, rfl, hys⟩ := inst_agg hb
    obtain ⟨h1, h2⟩ := sameIs_ok n h hxs hys
    simp only [Instr.sameBits, List.size_toArray, h1, beq_self_eq_true, Bool.true_and]
    exact h2
  · unfold sameI at h
    split at h
    · rename_i k m k' m' _ _
      simp only [Bool.and_eq_true] at h
      have := kIdx_inj h.1; subst this
      have := eqI_refl_of h.2; subst this
      have := inst_int ha; subst this
      have := inst_int hb; subst this
      simp [Instr.sameBits]
    · cases h

/-- what setKey finds is what find finds; what it makes of the entries -/
theorem setKey_ok {φ : Phi} {eq : LV → LV → Option Bool} {k x : LV} {K V : Value} {c : Nat} (hK : inst φ k = some K) (hV : inst φ x = some V) : ∀ (es es2 : List (LV × LV × Nat)) (es' : List MapEntry) (b : Bool), instEs φ es es' → setKey eq k x c es = some (es2, b) →
    (b = true → findKey eq k es = some none ∧ instEs φ es2 (es' ++ [{ key := K, val := V, born := c }])) ∧
    (b = false → ∃ i u e0, FirstAt eq k es i ∧ findKey eq k es = some (some u) ∧ es'[i]? = some e0 ∧ Instr.sameBits 10000 e0.key K = true ∧ instEs φ es2 (es'.modify i fun e => { e with key := K, val := V }) ∧ i < es'.length)
  | [], es2, es', b, he, hs => by
    simp only [instEs] at he; subst he
    simp only [setKey, Option.some.injEq, Prod.mk.injEq] at hs
    obtain ⟨rfl, rfl⟩ := hs
    refine ⟨fun _ => ⟨rfl, ?_⟩, fun hb => by cases hb⟩
    exact ⟨K, V, [], hK, hV, rfl, rfl⟩
  | (a, v, d) :: es, es2, es', b, he, hs => by
    obtain ⟨A, W, r, hA, hW, rfl, hr⟩ := he
    simp only [setKey] at hs
    cases hq : eq k a with
    | none => simp [hq] at hs
    | some q =>
      rw [hq] at hs
      cases q with
      | true =>
        simp only at hs
        cases hsl : sameL a k with
        | false => simp [hsl] at hs
        | true =>
          simp only [hsl, cond_true, Option.some.injEq, Prod.mk.injEq] at hs
          obtain ⟨rfl, rfl⟩ := hs
          refine ⟨fun hb => (by cases hb), fun _ => ⟨0, v, _, hq, by simp [findKey, hq], rfl, sameL_ok hsl hA hK 9999, ⟨K, V, r, hK, hV, rfl, hr⟩, by simp⟩⟩
      | false =>
        simp only at hs
        cases hsk : setKey eq k x c es with
        | none => simp [hsk] at hs
        | some p =>
          obtain ⟨es3, n⟩ := p
          simp only [hsk, Option.some.injEq, Prod.mk.injEq] at hs
          obtain ⟨rfl, rfl⟩ := hs
          obtain ⟨i1, i2⟩ := setKey_ok hK hV es es3 r n hr hsk
          refine ⟨fun hb => ?_, fun hb => ?_⟩
          · obtain ⟨j1, j2⟩ := i1 hb
            exact ⟨by simp [findKey, hq, j1], ⟨A, W, _, hA, hW, rfl, j2⟩⟩
          · obtain ⟨i, u, e0, j0, j1, j2, j3, j4, j5⟩ := i2 hb
            exact ⟨i + 1, u, e0, ⟨hq, j0⟩, by simp [findKey, hq, j1], by simpa using j2, j3, ⟨A, W, _, hA, hW, by simp, j4⟩, by simpa using j5⟩

end Go.Ev
