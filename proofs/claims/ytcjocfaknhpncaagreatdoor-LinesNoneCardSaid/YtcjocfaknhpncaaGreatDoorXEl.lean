/- append, whole; copy. -/
/- copy, len, cap, min, max; conversions; places; maps; the rest of the operations. -/
import Derived.Test.YtcjocfaknhpncaaGreatDoorXEj
import Derived.Laws.CopyOwn
import Derived.Laws.IdiomStrings
namespace Go.Ev
open Go Go.RowKit

variable {E : Env} {P : Program} {φ : Phi} {w0 : Base} {w : World} {h h' : LH}

theorem allPlain_mem : ∀ {l : List LV}, allPlain l = true → ∀ v ∈ l, v.plain = true
  | [], _, v, hv => by simp at hv
  | u :: l, hl, v, hv => by
    simp only [allPlain, Bool.and_eq_true] at hl
    rcases List.mem_cons.1 hv with rfl | hv
    · exact hl.1
    · exact allPlain_mem hl.2 v hv

theorem inst_sl_len {p : Nat × Nat} {len len' cap c : Nat} {own : Option Nat} {A : Option Addr} (hx : inst φ (.sl (some p) len cap own) = some (.slice A len c)) :
    inst φ (.sl (some p) len' cap own) = some (.slice A len' c) := by
  obtain ⟨b, o⟩ := p
  cases own with
  | none =>
    simp only [inst] at hx ⊢
    cases hk : φ b with
    | none => simp [hk] at hx
    | some k => simp [hk] at hx ⊢; exact hx
  | some w =>
    simp only [inst] at hx ⊢
    cases hk : φ b with
    | none => simp [hk] at hx
    | some k =>
      rw [hk] at hx
      simp only at hx ⊢
      split at hx
      · rename_i hc; simp at hx; rw [if_pos hc]; simp [hx]
      · cases hx

/-- a block goes, and its place in the world may have changed -/
theorem Rel.drop (hr : Rel φ w0 w h) {b : Nat} {ob : LObj} {k : Blk} (hb : h.m.get b = some ob) (hk : φ b = some k) (hlo : h.lo ≤ b) {w' : World}
    (hbel : Kept w0 w') (hsame : ∀ R, R ≠ k.R → w'.heap[R]? = w.heap[R]?) :
    Rel φ w0 w' ⟨h.m.del b, h.nx, h.lo⟩ ∧ ∀ c oc kc, (h.m.del b).get c = some oc → φ c = some kc → kc.R ≠ k.R := by
  have hof : ∀ c o, (h.m.del b).get c = some o → c ≠ b ∧ h.m.get c = some o := by
    intro c o hc
    rw [T.get_del] at hc
    split at hc
    · cases hc
    · rename_i hne; exact ⟨hne, hc⟩
  have hne : ∀ c oc kc, (h.m.del b).get c = some oc → φ c = some kc → kc.R ≠ k.R := by
    intro c oc kc hc hkc he
    obtain ⟨h1, h2⟩ := hof c oc hc
    exact h1 (hr.inj b c ob oc k kc hb h2 hk hkc hlo he.symm).symm
  refine ⟨⟨hbel, hr.dom, fun c o kc hc => hr.new c o kc (hof c o hc).2, fun c o hc => ?_, hr.old, hr.res, fun c c' o o' kc kc' hc hc' => hr.inj c c' o o' kc kc' (hof c o hc).2 (hof c' o' hc').2⟩, hne⟩
  obtain ⟨kc, hkc, hoc⟩ := hr.objs c o (hof c o hc).2
  exact ⟨kc, hkc, hoc.world (hsame _ (hne c o kc hc hkc))⟩

theorem drew_eq (w : World) : w.drew = { w with drawn := w.drawn + 1 } := rfl

/-- append into a new row -/
theorem grow_new (hr : Rel φ w0 w h) (hlo : h.lo ≤ h.nx) {e : TypeId} {old new : List LV} {olds news : List Value} {Z : Value} {need c sz : Nat}
    (ho : insts φ old = some olds) (hn : insts φ new = some news) (hl : olds.length + news.length = need * sz) (hZ : Z.cells.size = sz) :
    ∃ ψ, Le φ ψ ∧ inst ψ (.sl (some (h.nx, 0)) need need (some 0)) = some (.slice (some ⟨w.heap.size, 0, none⟩) need (grownCap w need c e)) ∧
      Rel ψ w0 (w.drew.alloc (.cells (⟨olds⟩ ++ (⟨news⟩ ++ Builtin.zeroCells Z.cells (grownCap w need c e - need))) e)) ⟨h.m.set h.nx (.cells (T.ofListFrom (old ++ new) 0 .nil) (old ++ new).length (some sz)), Nat.succ h.nx, h.lo⟩ := by
  have hge := grownCap_ge w need c e
  have hr' : Rel φ w0 w.drew h := hr.drew _
  refine ⟨φ.put h.nx ⟨w.drew.heap.size, 0, grownCap w need c e, sz⟩, hr.le_put _, ?_, hr'.alloc hlo _ _ _ _ fun ψ hle => ?_⟩
  · simp only [inst, Phi.put_same, Nat.zero_mul, Nat.zero_add, Nat.add_zero, Nat.sub_zero]
    rw [if_pos ⟨trivial, hge⟩]
    rfl
  · have := objRel_new (ψ := ψ) (w := w.drew) (cs := old ++ new) (xs := olds ++ news) (ys := (Builtin.zeroCells Z.cells (grownCap w need c e - need)).toList) (e := e) (own := some sz) (C := grownCap w need c e) (sz := sz) (fr := (0, 0))
      (insts_append (insts_mono hle _ _ ho) (insts_mono hle _ _ hn)) (.inl rfl) (fun s hs => by
        cases hs
        refine ⟨rfl, ?_⟩
        simp only [List.length_append, Array.length_toList, size_zeroCells, hZ, hl, ← Nat.add_mul]
        apply Nat.mul_le_mul_right
        omega)
    have he : (⟨olds⟩ ++ (⟨news⟩ ++ Builtin.zeroCells Z.cells (grownCap w need c e - need)) : Array Value) = ⟨olds ++ news ++ (Builtin.zeroCells Z.cells (grownCap w need c e - need)).toList⟩ := by
      apply Array.ext'; simp
    rw [he]
    exact this

theorem appendV_ok (hT : Tabs E P) (hr : Rel φ w0 w h) (hlo : h.lo ≤ h.nx) {ats : Array TypeId} {ty t e : TypeId} {zs : Bool} {s x v : LV} {S X : Value} (h0 : ats[0]? = some t) (hd : desc E t = some (.slice e)) (hzs : intType E ats = some zs)
    (hs : inst φ s = some S) (hx : inst φ x = some X) (hv : appendV E h e zs s x = some (v, h')) : ValOk P φ w0 w h (Builtin.append_ ats ty #[S, X]) v h' := by
  have hu := desc_ok hT hd
  unfold appendV at hv
  split at hv
  · rename_i base len cap own
    simp only [obind_some] at hv
    obtain ⟨sz, hsz, z, hz, hv⟩ := hv
    cases hzl : Nat.beq z.length sz with
    | false => simp [hzl] at hv
    | true =>
      rw [hzl, cond_true, obind_some] at hv
      obtain ⟨⟨n, new⟩, hnew, hv⟩ := hv
      obtain ⟨i, Z, hi, hZ, hby, hzi⟩ := zeroCells_ok hT hz (φ := φ)
      obtain ⟨i', hi', his⟩ := sizeOf_info hT hsz
      rw [hi] at hi'; cases hi'
      obtain ⟨news, hni, hnl, hN⟩ := newOf_ok (P := P) (w := w) hT hr hzs hx his hby hzi (Nat.eq_of_beq_eq_true hzl) hnew
      have hZs : Z.cells.size = sz := by have := insts_length hzi; rw [Nat.eq_of_beq_eq_true hzl] at this; simpa using this
      simp only [appendSl, fNat_eq] at hv
      change (bif Nat.ble (len + n) cap then _ else _) = _ at hv
      cases hroom : Nat.ble (len + n) cap with
      | true =>
        rw [hroom, cond_true] at hv
        have hroom := Nat.le_of_ble_eq_true hroom
        cases base with
        | none =>
          simp only [appendIn, Option.some.injEq, Prod.mk.injEq] at hv
          obtain ⟨rfl, rfl⟩ := hv
          have hX := inst_sl_none hs; subst hX
          simp only [inst] at hs
          split at hs
          · rename_i hc
            obtain ⟨rfl, rfl⟩ := hc
            have hrun := run_append_room' (P := P) (w := w) (w' := w) (ty := ty) (B := none) h0 hu hi hZ hN (len := 0) (c := 0) hroom rfl
            refine .pure hr hrun ?_
            have : 0 + n = 0 := by omega
            simp only [inst]
            rw [if_pos ⟨this, trivial⟩]
            rw [this]
          · cases hs
        | some p =>
          obtain ⟨b, o⟩ := p
          obtain ⟨k, c, hk, rfl, hcc, _, _⟩ := inst_sl hs
          simp only [appendIn, obind_some, Option.some.injEq, Prod.mk.injEq] at hv
          obtain ⟨h1, hst, rfl, rfl⟩ := hv
          obtain ⟨w', g1, g2, g3, g4⟩ := Rel.stores (P := P) (w0 := w0) hk new (o + len * sz) 0 news h h1 w hr (by simpa using hst) hni
          have hrun := run_append_room' (P := P) (w := w) (w' := w') (ty := ty) (B := some ⟨k.R, k.o + o, none⟩) h0 hu hi hZ hN (len := len) (c := c) (by omega) (by
            simp only [addr_add, his]
            rw [Nat.add_assoc]; exact g1)
          exact ⟨φ, _, w', Le.refl _, hrun, inst_sl_len hs, g2, g4, Nat.le_of_eq g3.symm⟩
      | false =>
        rw [hroom, cond_false, obind_some] at hv
        have hroom : ¬ (len + n ≤ cap) := by intro hc; rw [Nat.ble_eq_true_of_le hc] at hroom; cases hroom
        obtain ⟨old, hold, hv⟩ := hv
        simp only [appendGrow, Nat.add_eq] at hv
        cases hbig : and (Nat.ble (len + n) bigN) (allPlain new) with
        | false => simp [hbig] at hv
        | true =>
          rw [hbig, cond_true, obind_some] at hv
          simp only [Bool.and_eq_true] at hbig
          have hneed : len + n ≤ 4294967296 := Nat.le_of_ble_eq_true hbig.1
          obtain ⟨h1, hdrop, hv⟩ := hv
          simp only [mkCells_eq, LH.alloc_eq, Option.some.injEq, Prod.mk.injEq] at hv
          obtain ⟨rfl, rfl⟩ := hv
          obtain ⟨olds, hoi, hol, hof, _⟩ := src_ok (P := P) hr hs (L := len) (n := len) rfl (Nat.le_refl _) hold
          have hlen : olds.length + news.length = (len + n) * sz := by rw [hol, hnl, Nat.add_mul]
          -- a new row, whatever went before
          have fresh : ∀ (B : Option Addr) (c : Nat) (h1 : LH), S = .slice B len c → c < len + n → Rel φ w0 w h1 → h1.lo = h.lo → h1.nx = h.nx →
              ValOk P φ w0 w h (Builtin.append_ ats ty #[S, X]) (.sl (some (h1.nx, 0)) (len + n) (len + n) (some 0)) ⟨h1.m.set h1.nx (.cells (T.ofListFrom (old ++ new) 0 .nil) (old ++ new).length (some sz)), Nat.succ h1.nx, h1.lo⟩ := by
            intro B c h1 hS hc hr1 e1 e2
            subst hS
            have hrun := run_append_grow' (P := P) (w := w) (ty := ty) (B := B) (olds := olds) h0 hu hi hZ hN (len := len) (c := c) hc hneed hby (by rw [his]; exact hof _)
            obtain ⟨ψ, a1, a2, a3⟩ := grow_new hr1 (by omega) (e := e) (Z := Z) (c := c) hoi hni hlen hZs
            exact ⟨ψ, _, _, a1, hrun, a2, a3, e1, by rw [← e2]; exact Nat.le_succ _⟩
          cases own with
          | none =>
            simp only [dropOwn, Option.some.injEq] at hdrop
            subst hdrop
            cases base with
            | none =>
              have hX := inst_sl_none hs; subst hX
              simp only [inst] at hs
              split at hs
              · rename_i hc
                obtain ⟨rfl, rfl⟩ := hc
                exact fresh none 0 h rfl (by omega) hr rfl rfl
              · cases hs
            | some p =>
              obtain ⟨b, o⟩ := p
              obtain ⟨k, c, hk, hS, _, hcc, _⟩ := inst_sl hs
              exact fresh _ c h hS (by have := hcc rfl; omega) hr rfl rfl
          | some w' =>
            cases base with
            | none => simp [dropOwn] at hdrop
            | some p =>
              obtain ⟨b, o⟩ := p
              obtain ⟨k, c, hk, hS, _, _, hcw⟩ := inst_sl hs
              obtain ⟨ho, hwc, hc⟩ := hcw w' rfl
              simp only [dropOwn] at hdrop
              split at hdrop
              · rename_i cs m s hb
                cases hbb : (Nat.beq s sz && Nat.ble h.lo b) with
                | false => simp [hbb] at hdrop
                | true =>
                  simp only [hbb, cond_true, T.force_eq, Option.some.injEq] at hdrop
                  subst hdrop
                  simp only [Bool.and_eq_true] at hbb
                  have hss := Nat.eq_of_beq_eq_true hbb.1
                  subst hss
                  have hlb := Nat.le_of_ble_eq_true hbb.2
                  by_cases hreal : len + n ≤ c
                  · obtain ⟨k', hk', rc, et, fr, g1, g2, g3, g4, g5, g6⟩ := hr.objs b _ hb
                    rw [hk] at hk'; cases hk'
                    obtain ⟨_, hks, hkC⟩ := g5 s rfl
                    rw [hks] at ho
                    subst ho
                    have hCs : (w' + len + n) * s ≤ k.C * s := Nat.mul_le_mul_right _ (by omega)
                    rw [Nat.add_mul, Nat.add_mul] at hCs
                    obtain ⟨cs', a1, a2, a3, a4⟩ := run_stores_row P k.R (k.o + w' * s + len * s) et fr news 0 rc w g1 (by have := g4 (decide_eq_true hlb); exact this) (by rw [hnl]; omega) (allPlain_ok hni (allPlain_mem hbig.2))
                    have hrun := run_append_room' (P := P) (w := w) (w' := w.setRow k.R cs') (ty := ty) (B := some ⟨k.R, k.o + w' * s, none⟩) h0 hu hi hZ hN (len := len) (c := c) hreal (by
                      simp only [addr_add, his]; exact a1)
                    subst hS
                    have hlR := hr.new b _ k hb hk hlb
                    obtain ⟨hr1, hne⟩ := hr.drop hb hk hlb (w' := w.setRow k.R cs') (hr.below.setRow hlR cs') (fun R hR => by rw [setRow_get g1, if_neg hR])
                    have hle := hr1.le_put ⟨k.R, k.o + w' * s, k.C - w', s⟩
                    refine ⟨_, _, _, hle, hrun, ?_, hr1.lay ⟨k.R, k.o + w' * s, k.C - w', s⟩ _ hlo hlR hne ?_, rfl, Nat.le_succ _⟩
                    · simp only [inst, Phi.put_same, Nat.zero_mul, Nat.zero_add, Nat.add_zero, Nat.sub_zero]
                      rw [if_pos ⟨trivial, by omega⟩, hc]
                    · refine ⟨cs', et, fr, by rw [setRow_get g1, if_pos rfl], fun j u hj => ?_, ?_, fun _ => by rw [a2]; exact g4 (decide_eq_true hlb), fun s' hs' => ?_, fun _ hn => by cases hn⟩
                      · rw [T.get_ofList] at hj
                        obtain ⟨x, hx1, hx2⟩ := insts_get (insts_append (insts_mono hle _ _ hoi) (insts_mono hle _ _ hni)) j u hj
                        refine ⟨x, ?_, hx2⟩
                        show cs'[k.o + w' * s + j]? = some x
                        by_cases hjl : j < olds.length
                        · rw [List.getElem?_append_left hjl] at hx1
                          obtain ⟨xs', q1, _, _, q4⟩ := hr.loads_run (P := P) hk (by simpa [srcCells] using hold)
                          have : olds = xs' := by rw [hoi] at q1; exact Option.some.inj q1
                          subst this
                          have q := q4 j x hx1
                          rw [cell_of_heap g1] at q
                          rw [a3 _ (by rw [hol] at hjl; omega)]
                          exact q
                        · rw [List.getElem?_append_right (by omega)] at hx1
                          have q := a4 _ _ hx1
                          rwa [show k.o + w' * s + len * s + 0 + (j - olds.length) = k.o + w' * s + j by rw [hol] at hjl ⊢; omega] at q
                      · have := insts_length (insts_append hoi hni)
                        rw [← this, List.length_append, hlen, a2, Nat.add_mul]
                        show k.o + w' * s + _ ≤ _
                        omega
                      · cases hs'
                        refine ⟨rfl, rfl, ?_⟩
                        show k.o + w' * s + (k.C - w') * s ≤ _
                        rw [a2, Nat.sub_mul]
                        omega
                  · exact fresh _ c _ hS (by omega) (hr.del b) rfl rfl
              · cases hdrop
  · cases hv

end Go.Ev
namespace Go.Ev
open Go Go.RowKit

variable {E : Env} {P : Program} {φ : Phi} {w0 : Base} {w : World} {h h' : LH}

theorem getObj_map {r : Nat} {es : Array MapEntry} {c : Nat} (hb : w.heap[r]? = some (.map es c)) : (getObj r).run P w = .ok (.map es c) w := by simp [getObj, Sem.run, hb]

theorem inst_int {k : IntKind} {n : Int} {X : Value} (hx : inst φ (.int k n) = some X) : X = .int k n := by simpa [inst] using hx.symm
theorem inst_str {s : List UInt8} {X : Value} (hx : inst φ (.str s) = some X) : X = .string ⟨⟨s⟩⟩ := by simpa [inst] using hx.symm
theorem inst_bool {s : Bool} {X : Value} (hx : inst φ (.bool s) = some X) : X = .bool s := by simpa [inst] using hx.symm

theorem inst_sl_any {a : Option (Nat × Nat)} {len cap : Nat} {own : Option Nat} {X : Value} (hx : inst φ (.sl a len cap own) = some X) : ∃ A c, X = .slice A len c ∧ (own = none → c = cap) := by
  cases a with
  | none =>
    have hX := inst_sl_none hx
    simp only [inst] at hx
    split at hx
    · rename_i hc; obtain ⟨rfl, rfl⟩ := hc; exact ⟨none, 0, hX, fun _ => rfl⟩
    · cases hx
  | some p => obtain ⟨b, o⟩ := p; obtain ⟨k, c, _, rfl, _, hc, _⟩ := inst_sl hx; exact ⟨_, c, rfl, hc⟩

theorem copy_ok (hT : Tabs E P) (hr : Rel φ w0 w h) {ats : Array TypeId} {ty : TypeId} {args : List LV} {Args : List Value} {v : LV} (ha : insts φ args = some Args)
    (hv : bCopy E h ats args = some (v, h')) : ValOk P φ w0 w h (Builtin.copy_ ats ty ⟨Args⟩) v h' := by
  unfold bCopy at hv
  split at hv
  · rename_i base n cap own s
    obtain ⟨S, r, hS, hr1, rfl⟩ := insts_cons.1 ha
    obtain ⟨X, r', hX, hr2, rfl⟩ := insts_cons.1 hr1
    simp only [insts, Option.some.injEq] at hr2; subst hr2
    split at hv
    · rename_i t h0
      rw [obind_some] at hv
      obtain ⟨d, hd, hv⟩ := hv
      cases d <;> simp only at hv <;> try (cases hv; done)
      rename_i e
      simp only [obind_some, fNat_eq] at hv
      obtain ⟨sz, hsz, L, hL, cs, hcs, hv⟩ := hv
      have hu := desc_ok hT hd
      obtain ⟨xs, q1, q2, q3, q4⟩ := src_ok (P := P) hr hX hL (Nat.min_le_left _ _) hcs
      have q3' : (Builtin.firstCells sz (Nat.min L n) X).run P w = .ok ⟨xs⟩ w := q3 w.drawn
      cases base with
      | none =>
        simp only [Option.some.injEq, Prod.mk.injEq] at hv
        obtain ⟨rfl, rfl⟩ := hv
        obtain ⟨A, c, hSe, _⟩ := inst_sl_any hS
        have hS' := inst_sl_none hS
        rw [hSe] at hS'
        simp only [Value.slice.injEq] at hS'
        obtain ⟨rfl, rfl, rfl⟩ := hS'
        subst hSe
        refine .pure hr (X := goInt (Nat.min L 0)) ?_ rfl
        simp only [Builtin.copy_, h0, List.getElem?_toArray, List.getElem?_cons_zero, List.getElem?_cons_succ, Sem.run_bind, run_underlying hu, Result.andThen_ok, q4, sizeOf_run hT hsz, q3', Sem.run_pure]
      | some p =>
        obtain ⟨b, o⟩ := p
        simp only [obind_some, Option.some.injEq, Prod.mk.injEq] at hv
        obtain ⟨h1, hst, rfl, rfl⟩ := hv
        obtain ⟨k, c, hk, rfl, _⟩ := inst_sl hS
        obtain ⟨w', g1, g2, g3, g4⟩ := Rel.stores (P := P) (w0 := w0) hk cs o 0 xs h h1 w hr (by simpa using hst) q1
        refine ⟨φ, goInt (Nat.min L n), w', Le.refl _, ?_, rfl, g2, g4, Nat.le_of_eq g3.symm⟩
        simp only [Builtin.copy_, h0, List.getElem?_toArray, List.getElem?_cons_zero, List.getElem?_cons_succ, Sem.run_bind, run_underlying hu, Result.andThen_ok, q4, sizeOf_run hT hsz, q3', Sem.run_pure, g1]
    · cases hv
  · cases hv

theorem len_ok (hT : Tabs E P) (hr : Rel φ w0 w h) {ats : Array TypeId} {ty : TypeId} {args : List LV} {Args : List Value} {v : LV} (ha : insts φ args = some Args)
    (hv : bLen E h ats args = some (v, h')) : ValOk P φ w0 w h (Builtin.len_ ats ty ⟨Args⟩) v h' := by
  unfold bLen at hv
  split at hv
  · rename_i x
    obtain ⟨X, r, hX, hr1, rfl⟩ := insts_cons.1 ha
    simp only [insts, Option.some.injEq] at hr1; subst hr1
    split at hv
    case h_2 => cases hv
    rename_i t h0'
    cases hl : lenT E t x with
    | false => rw [hl, cond_false] at hv; cases hv
    | true =>
      rw [hl, cond_true, obind_some] at hv
      obtain ⟨n, hn, hv⟩ := hv
      simp only [Option.some.injEq, Prod.mk.injEq] at hv
      obtain ⟨rfl, rfl⟩ := hv
      unfold lenT at hl
      split at hl <;> try (cases hl; done)
      · rename_i hd
        have hu := desc_ok hT hd
        split at hl <;> try (cases hl; done)
        rename_i s
        have hX := inst_str hX; subst hX
        simp only [lenB, Option.some.injEq] at hn; subst hn
        refine .pure hr (X := goInt s.length) ?_ rfl
        simp [Builtin.len_, h0', run_underlying hu]
        rfl
      · rename_i e hd
        have hu := desc_ok hT hd
        split at hl <;> try (cases hl; done)
        obtain ⟨A, c, rfl, _⟩ := inst_sl_any hX
        simp only [lenB, Option.some.injEq] at hn; subst hn
        refine .pure hr (X := goInt _) ?_ rfl
        simp [Builtin.len_, h0', run_underlying hu]
      · rename_i a b hd
        have hu := desc_ok hT hd
        split at hl <;> try (cases hl; done)
        rename_i r
        cases r with
        | none =>
          simp only [inst, Option.some.injEq] at hX; subst hX
          simp only [lenB, Option.some.injEq] at hn; subst hn
          refine .pure hr (X := goInt 0) ?_ rfl
          simp [Builtin.len_, h0', run_underlying hu]
        | some r =>
          simp only [lenB] at hn
          split at hn
          · rename_i es cl hm
            simp only [Option.some.injEq] at hn; subst hn
            obtain ⟨k, hk, es', g1, g2⟩ := hr.objs r _ hm
            simp only [inst, hk, Option.some.injEq] at hX; subst hX
            have hlen : ∀ (l : List (LV × LV × Nat)) (l' : List MapEntry), instEs φ l l' → l'.length = l.length := by
              intro l
              induction l with
              | nil => intro l' h; simp only [instEs] at h; subst h; rfl
              | cons a l ih => intro l' h; obtain ⟨a1, a2, a3⟩ := a; obtain ⟨_, _, r, _, _, rfl, h4⟩ := h; simp [ih r h4]
            refine .pure hr (X := goInt es.length) ?_ rfl
            have hs : es'.size = es.length := by simpa using hlen _ _ g2
            simp [Builtin.len_, h0', run_underlying hu, getObj_map g1, hs]
          · cases hn
      · rename_i m e hd
        have hu := desc_ok hT hd
        split at hl <;> try (cases hl; done)
        all_goals
          simp only [lenB, hd, Option.some.injEq] at hn; subst hn
          refine .pure hr (X := goInt m) ?_ rfl
          simp [Builtin.len_, h0', run_underlying hu]
  · cases hv


theorem cap_ok (hT : Tabs E P) (hr : Rel φ w0 w h) {ats : Array TypeId} {ty : TypeId} {args : List LV} {Args : List Value} {v : LV} (ha : insts φ args = some Args)
    (hv : bCap E h ats args = some (v, h')) : ValOk P φ w0 w h (Builtin.cap_ ats ty ⟨Args⟩) v h' := by
  unfold bCap at hv
  split at hv
  · rename_i a l n
    obtain ⟨X, r, hX, hr1, rfl⟩ := insts_cons.1 ha
    simp only [insts, Option.some.injEq] at hr1; subst hr1
    split at hv
    case h_2 => cases hv
    rename_i t h0'
    split at hv
    · rename_i e hd
      have hu := desc_ok hT hd
      simp only [Option.some.injEq, Prod.mk.injEq] at hv
      obtain ⟨rfl, rfl⟩ := hv
      obtain ⟨A, c, rfl, hc⟩ := inst_sl_any hX
      have := hc rfl; subst this
      refine .pure hr (X := goInt c) ?_ rfl
      simp [Builtin.cap_, h0', run_underlying hu]
    · cases hv
  · cases hv

theorem min_ok : ∀ (r : List LV) (x v : LV) (X : Value) (R : List Value), inst φ x = some X → insts φ r = some R → minmax false x r = some v → ∃ V, (R.foldlM Builtin.min2 X).run P w = .ok V w ∧ inst φ v = some V
  | [], x, v, X, R, hx, hr, hv => by
    simp only [minmax, Option.some.injEq] at hv; subst hv
    simp only [insts, Option.some.injEq] at hr; subst hr
    exact ⟨X, rfl, hx⟩
  | y :: r, x, v, X, R, hx, hr, hv => by
    obtain ⟨Y, R', hY, hR, rfl⟩ := insts_cons.1 hr
    cases x <;> try (simp [minmax] at hv; done)
    rename_i k a
    cases y <;> try (simp [minmax] at hv; done)
    rename_i k' b
    simp only [minmax] at hv
    cases hk : Nat.beq (kIdx k) (kIdx k') with
    | false => simp [hk] at hv
    | true =>
      rw [hk, cond_true] at hv
      have hx := inst_int hx; have hY := inst_int hY
      subst hx; subst hY
      obtain ⟨V, h1, h2⟩ := min_ok r _ v (.int k (if b < a then b else a)) R' (by simp [inst, ltI_eq, Bool.cond_decide]) hR hv
      exact ⟨V, by simpa [List.foldlM_cons, Builtin.min2] using h1, h2⟩

theorem max_ok : ∀ (r : List LV) (x v : LV) (X : Value) (R : List Value), inst φ x = some X → insts φ r = some R → minmax true x r = some v → ∃ V, (R.foldlM Builtin.max2 X).run P w = .ok V w ∧ inst φ v = some V
  | [], x, v, X, R, hx, hr, hv => by
    simp only [minmax, Option.some.injEq] at hv; subst hv
    simp only [insts, Option.some.injEq] at hr; subst hr
    exact ⟨X, rfl, hx⟩
  | y :: r, x, v, X, R, hx, hr, hv => by
    obtain ⟨Y, R', hY, hR, rfl⟩ := insts_cons.1 hr
    cases x <;> try (simp [minmax] at hv; done)
    rename_i k a
    cases y <;> try (simp [minmax] at hv; done)
    rename_i k' b
    simp only [minmax] at hv
    cases hk : Nat.beq (kIdx k) (kIdx k') with
    | false => simp [hk] at hv
    | true =>
      rw [hk, cond_true] at hv
      have hx := inst_int hx; have hY := inst_int hY
      subst hx; subst hY
      obtain ⟨V, h1, h2⟩ := max_ok r _ v (.int k (if a < b then b else a)) R' (by simp [inst, ltI_eq, Bool.cond_decide]) hR hv
      exact ⟨V, by simpa [List.foldlM_cons, Builtin.max2] using h1, h2⟩

theorem ofBytes_ok : ∀ {cs : List LV} {s : List UInt8} {xs : List Value}, ofBytes cs = some s → insts φ cs = some xs → ∃ ns : List Int, xs = ns.map (Value.int .u8) ∧ ns.map (fun n => UInt8.ofNat n.toNat) = s
  | [], s, xs, h, hx => by
    simp only [ofBytes, Option.some.injEq] at h; subst h
    simp only [insts, Option.some.injEq] at hx; subst hx
    exact ⟨[], rfl, rfl⟩
  | c :: cs, s, xs, h, hx => by
    obtain ⟨y, ys, h1, h2, rfl⟩ := insts_cons.1 hx
    unfold ofBytes at h
    split at h
    · rename_i heq; cases heq
    · rename_i n r heq
      cases heq
      rw [obind_some] at h
      obtain ⟨r', hr', h⟩ := h
      simp only [Option.some.injEq] at h; subst h
      obtain ⟨ns, rfl, rfl⟩ := ofBytes_ok hr' h2
      have := inst_int h1; subst this
      exact ⟨(n : Int) :: ns, rfl, by simp⟩
    · cases h

theorem foldl_push : ∀ (ns : List Int) (r : ByteArray), ns.foldl (fun r n => r.push (UInt8.ofNat n.toNat)) r = ⟨r.data ++ (ns.map (fun n => UInt8.ofNat n.toNat)).toArray⟩
  | [], r => by simp
  | b :: l, r => by
    simp only [List.map_cons, List.foldl_cons]
    rw [foldl_push l]
    simp [ByteArray.push]

theorem convert_ok (hT : Tabs E P) (hr : Rel φ w0 w h) (hlo : h.lo ≤ h.nx) {t : T LV} {s d : TypeId} {o : Operand} {x : LV} {X : Value} {v : LV} (ho : evalO E t o = some x) (hX : inst φ x = some X)
    (hv : oConvert E h t s d o = some (v, h')) : ValOk P φ w0 w h (convert s d X) v h' := by
  unfold oConvert at hv
  rw [ho] at hv
  simp only [obind_some, Option.some.injEq] at hv
  obtain ⟨x', rfl, dd, hd, hv⟩ := hv
  have hud := desc_ok hT hd
  cases dd <;> simp only at hv <;> try (cases hv; done)
  case int k =>
    split at hv
    · rename_i k' n
      split at hv
      · rename_i ds hds
        have hus := desc_ok hT hds
        simp only [Option.some.injEq, Prod.mk.injEq] at hv
        obtain ⟨rfl, rfl⟩ := hv
        have := inst_int hX; subst this
        refine .pure hr (X := .int k (k.wrap n)) ?_ (by simp [inst, wrapF_eq])
        simp [convert, run_underlying hus, run_underlying hud, Conv.intToInt]
      · cases hv
    · cases hv
  case string =>
    split at hv
    · rename_i hds
      have hus := desc_ok hT hds
      split at hv
      · rename_i s'
        simp only [Option.some.injEq, Prod.mk.injEq] at hv
        obtain ⟨rfl, rfl⟩ := hv
        have := inst_str hX; subst this
        refine .pure hr ?_ hX
        simp [convert, run_underlying hus, run_underlying hud]
      · cases hv
    · rename_i e hds
      have hus := desc_ok hT hds
      split at hv
      · rename_i he
        have hue := desc_ok hT he
        split at hv
        · cases hv
        · rename_i hns
          rw [obind_some] at hv
          obtain ⟨v', hv', hv⟩ := hv
          simp only [Option.some.injEq, Prod.mk.injEq] at hv
          obtain ⟨rfl, rfl⟩ := hv
          unfold strOf at hv'
          split at hv'
          · exact absurd rfl (hns _)
          · have := inst_sl_none hX; subst this
            simp only [Option.some.injEq] at hv'; subst hv'
            refine .pure hr (X := .string .empty) ?_ rfl
            simp [convert, run_underlying hus, run_underlying hud, run_underlying hue, Conv.bytesToString]
          · rename_i b o n c w'
            simp only [obind_some, Option.some.injEq] at hv'
            obtain ⟨cs, hcs, s', hs', rfl⟩ := hv'
            obtain ⟨k, c', hk, rfl, _⟩ := inst_sl hX
            obtain ⟨xs, q1, q2, q3, _⟩ := hr.loads_run (P := P) hk hcs
            obtain ⟨ns, rfl, rfl⟩ := ofBytes_ok hs' q1
            refine .pure hr (X := .string ⟨⟨ns.map (fun n => UInt8.ofNat n.toNat)⟩⟩) ?_ rfl
            rw [run_convert_bytes_string w s d e _ n c' hus hue hud, run_bytesToString w _ n c' ns q3, foldl_push]
            congr 1
            have he0 : ByteArray.empty.data = #[] := rfl
            rw [he0]
            simp
          · cases hv'
      · cases hv
    · cases hv
  case slice e =>
    split at hv
    · rename_i a n c
      obtain ⟨b, o'⟩ := a
      cases hsd : Nat.beq s d with
      | false => simp [hsd] at hv
      | true =>
        rw [hsd, cond_true] at hv
        have := Nat.eq_of_beq_eq_true hsd; subst this
        split at hv
        · rename_i he
          have hue := desc_ok hT he
          split at hv
          · rename_i cc m hb
            cases hc : (Nat.ble h.lo b && Nat.beq n m && Nat.beq o' 0) with
            | false => simp [hc] at hv
            | true =>
              rw [hc, cond_true] at hv
              simp only [Option.some.injEq, Prod.mk.injEq] at hv
              obtain ⟨rfl, rfl⟩ := hv
              simp only [Bool.and_eq_true] at hc
              have hlb := Nat.le_of_ble_eq_true hc.1.1
              obtain ⟨k, c', hk, rfl, _⟩ := inst_sl hX
              obtain ⟨k', hk', rc, et, fr, g1, g2, g3, g4, g5, g6⟩ := hr.objs b _ hb
              rw [hk] at hk'; cases hk'
              obtain ⟨fl, fh⟩ := fr
              have hshape : w.shape? k.R = some (et, rc.size) := by simp [World.shape?, g1]
              have hfz : ∀ R, (w.freeze ⟨k.R, rc.size, none⟩ 1).heap[R]? = if R = k.R then some (.cells rc et (if fl == fh then (rc.size, rc.size + 1) else (min fl rc.size, max fh (rc.size + 1)))) else w.heap[R]? := by
                intro R
                unfold World.freeze
                rw [if_neg (by decide)]
                simp only [Array.getElem?_modify]
                by_cases hR : R = k.R
                · subst hR; simp [g1]
                · simp [hR, Ne.symm hR]
              have hRl := hr.new b _ k hb hk hlb
              have hbel : Kept w0 (w.freeze ⟨k.R, rc.size, none⟩ 1) := by
                refine ⟨?_, ?_, ?_, ?_, fun i hi => ?_⟩
                · simp only [World.freeze]; exact hr.below.os
                · simp only [World.freeze]; exact hr.below.tape
                · simp only [World.freeze]; exact hr.below.output
                · simp only [World.freeze]; simpa using hr.below.size
                · rw [hfz, if_neg (by rintro rfl; exact hRl hi)]; exact hr.below.block i hi
              have hr' := hr.turn (w' := w.freeze ⟨k.R, rc.size, none⟩ 1) (ob' := .cells cc m none) hb hk hlb hbel (fun R hR => by rw [hfz, if_neg hR]) (by
                refine ⟨rc, et, _, by rw [hfz, if_pos rfl], g2, g3, fun _ => .inr ?_, (fun s hs => by cases hs), fun _ => g6 (decide_eq_true hlb)⟩
                have := g4 (decide_eq_true hlb)
                by_cases hq : fl = fh
                · simp [hq]
                · simp only [Prod.mk.injEq] at this
                  simp [hq]; omega)
              have hkeep : ∀ c oc, h.m.get c = some oc → (h.m.set b (.cells cc m none)).get c = some oc := by
                intro c oc hco
                have hb' : h.m.get b = _ := hb
                rw [T.get_set]
                by_cases hcb : c = b
                · rw [hcb] at hco ⊢; rw [if_pos rfl]; rw [hb'] at hco; exact hco
                · rw [if_neg hcb]; exact hco
              refine ⟨φ, _, _, Le.refl _, ?_, hX, ⟨hr'.below, hr'.dom, fun c oc k hc => hr'.new c oc k (hkeep c oc hc), fun c oc hc => hr'.objs c oc (hkeep c oc hc), hr'.old, hr'.res, fun c c1 oc o1 kc kc1 hc hc1 => hr'.inj c c1 oc o1 kc kc1 (hkeep c oc hc) (hkeep c1 o1 hc1)⟩, rfl, Nat.le_refl _⟩
              simp [convert, run_underlying hud, run_underlying hue, markStringish, hshape]
          · cases hv
        · cases hv
    · rename_i s'
      split at hv
      · rename_i hds
        have hus := desc_ok hT hds
        split at hv
        · rename_i he
          have hue := desc_ok hT he
          cases hbig : Nat.ble s'.length bigN with
          | false => simp [hbig] at hv
          | true =>
            simp only [hbig, cond_true, mkCells_eq, fNat_eq, LH.alloc_eq, Option.some.injEq, Prod.mk.injEq] at hv
            obtain ⟨rfl, rfl⟩ := hv
            have := inst_str hX; subst this
            have hrun := run_bytes_of_string (P := P) w s d e ⟨⟨s'⟩⟩ hus hud hue
            have hsz : (ByteArray.mk ⟨s'⟩).size = s'.length := rfl
            rw [hsz] at hrun
            have hge := grownCap_ge w s'.length 0 e
            have hr' : Rel φ w0 w.drew h := hr.drew _
            refine ⟨φ.put h.nx ⟨w.drew.heap.size, 0, grownCap w s'.length 0 e, 1⟩, _, _, hr.le_put _, hrun, ?_, hr'.alloc hlo _ _ _ _ fun ψ hle => ?_, rfl, Nat.le_succ _⟩
            · simp only [inst, Phi.put_same, Nat.zero_mul, Nat.zero_add, Nat.add_zero, Nat.sub_zero]
              rw [if_pos ⟨trivial, hge⟩]
              rfl
            · have hrow : bytesRow ⟨⟨s'⟩⟩ (grownCap w s'.length 0 e) = ⟨(s'.map fun b => Value.int .u8 b.toNat) ++ List.replicate (grownCap w s'.length 0 e - s'.length) (.int .u8 0)⟩ := by
                apply Array.ext'
                simp [bytesRow, hsz]
              rw [hrow]
              exact objRel_new (ψ := ψ) (w := w.drew) (cs := bytesV s') (xs := s'.map fun b => Value.int .u8 b.toNat) (ys := List.replicate (grownCap w s'.length 0 e - s'.length) (.int .u8 0)) (e := e) (own := some 1) (C := grownCap w s'.length 0 e) (sz := 1)
                (bytesV_inst _) (.inr (by simp)) (fun q hq => by
                  cases hq
                  refine ⟨rfl, ?_⟩
                  simp; omega)
        · cases hv
      · cases hv
    · cases hv

end Go.Ev
