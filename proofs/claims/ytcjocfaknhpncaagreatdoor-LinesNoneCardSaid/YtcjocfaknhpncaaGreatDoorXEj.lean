/- New rows: literals, make; slices of slices. -/
/- append: in place, or into a new row; the old row is lost where it may have been written on. -/
import Derived.Test.YtcjocfaknhpncaaGreatDoorXEh
namespace Go.Ev
open Go Go.RowKit

variable {E : Env} {P : Program} {φ : Phi} {w0 : Base} {w : World} {h h' : LH}

theorem range_repl (z : Array Value) : ∀ n, ((Array.range (n * z.size)).map (fun i => z[i % z.size]!)).toList = (List.replicate n z.toList).flatten
  | 0 => by simp
  | n + 1 => by
    have ih := range_repl z n
    simp only [Array.toList_map, Array.toList_range] at ih ⊢
    rw [List.replicate_succ', List.flatten_concat, Nat.succ_mul, List.range_add, List.map_append, ih]
    congr 1
    rw [List.map_map]
    apply List.ext_getElem?
    intro i
    simp only [List.getElem?_map]
    by_cases hi : i < z.size
    · simp [hi, Nat.mod_eq_of_lt hi, Nat.add_comm (n * z.size) i]
    · simp [hi]

theorem zeroes_eq {z : Array Value} {n m sz : Nat} (hz : z.size = sz) (hm : m = n * sz) : (Array.range m).map (fun i => z[i % z.size]!) = ⟨(List.replicate n z.toList).flatten⟩ := by
  subst hz; subst hm
  apply Array.ext'
  rw [range_repl]

theorem placesL_ok (hT : Tabs E P) : ∀ (fs : List Field) (pl : List (Nat × Nat)), placesL E fs = some pl → ∀ w, (fs.mapM fun f => do pure (f.offset, ← Go.sizeOf f.type) : Sem (List (Nat × Nat))).run P w = .ok pl w
  | [], pl, h, w => by simp only [placesL, Option.some.injEq] at h; subst h; rfl
  | f :: fs, pl, h, w => by
    simp only [placesL, obind_some, Option.some.injEq] at h
    obtain ⟨s, hs, r, hr, rfl⟩ := h
    have ih := placesL_ok hT fs r hr w
    simp only [List.mapM_cons, Sem.run_bind, sizeOf_run hT hs, Result.andThen_ok, Sem.run_pure] at ih ⊢
    rw [ih]; rfl

theorem buildV_ok (hT : Tabs E P) (hr : Rel φ w0 w h) {t : TypeId} {ps : List (Nat × LV)} {Ps : List (Nat × Value)} {v : LV} (hp : instPs φ ps Ps) (hb : buildV E t ps = some v) : ValOk P φ w0 w h (Instr.build t ⟨Ps⟩) v h := by
  unfold buildV at hb
  rw [obind_some] at hb
  obtain ⟨z, hz, hb⟩ := hb
  rw [obind_some] at hb
  obtain ⟨d, hd, hb⟩ := hb
  obtain ⟨i, Z, hi, hZ, _, hzs⟩ := zeroCells_ok hT hz (φ := φ)
  have hu := desc_ok hT hd
  cases d <;> simp only at hb <;> try (cases hb; done)
  case array n e =>
    rw [obind_some] at hb
    obtain ⟨s, hs, hb⟩ := hb
    rw [obind_some] at hb
    obtain ⟨cs, hcs, hb⟩ := hb
    simp only [Option.some.injEq] at hb; subst hb
    obtain ⟨Out, h1, h2⟩ := fill_ok ps z cs Ps _ hp hzs hcs
    refine .pure hr (X := .agg ⟨Out⟩) ?_ (by simp [inst, h2])
    have h1' : Instr.fill (fun i => some (i * s, s)) Z.cells Ps = some ⟨Out⟩ := h1
    simp [Instr.build, zeroValue, typeInfo, hi, hZ, run_underlying hu, sizeOf_run hT hs, h1']
  case struct fs =>
    rw [obind_some] at hb
    obtain ⟨pl, hpl, hb⟩ := hb
    rw [obind_some] at hb
    obtain ⟨cs, hcs, hb⟩ := hb
    simp only [Option.some.injEq] at hb; subst hb
    obtain ⟨Out, h1, h2⟩ := fill_ok ps z cs Ps _ hp hzs hcs
    refine .pure hr (X := .agg ⟨Out⟩) ?_ (by simp [inst, h2])
    have hm : (fs.mapM fun f => do pure (f.offset, ← Go.sizeOf f.type) : Sem (Array (Nat × Nat))).run P w = .ok ⟨pl⟩ w := by
      rw [Array.mapM_eq_mapM_toList, Sem.run_map, placesL_ok hT _ _ hpl w]; rfl
    have h1' : Instr.fill (fun i => (⟨pl⟩ : Array (Nat × Nat))[i]?) Z.cells Ps = some ⟨Out⟩ := by simpa using h1
    simp only [Instr.build, zeroValue, typeInfo, hi, hZ, run_underlying hu, Sem.run_bind, run_program, Result.andThen_ok, Sem.run_pure, hm, h1']


theorem buildSlice_ok (hT : Tabs E P) (hr : Rel φ w0 w h) (hlo : h.lo ≤ h.nx) {ty : TypeId} {n : Nat} {ps : List (Nat × LV)} {Ps : List (Nat × Value)} {e : TypeId} {sz : Nat} {z cs : List LV} (hp : instPs φ ps Ps)
    (hd : desc E ty = some (.slice e)) (hs : sizeOf E e = some sz) (hz : zeroCells E e = some z) (hle : n * sz ≤ 16777216) (hzl : z.length = sz) (hf : fillL (placeA sz) ps (repl z n) = some cs) :
    ValOk P φ w0 w h (Instr.buildSlice ty n ⟨Ps⟩) (.sl (some (h.nx, 0)) n n none) ⟨h.m.set h.nx (.cells (T.ofListFrom cs 0 .nil) cs.length none), Nat.succ h.nx, h.lo⟩ := by
  obtain ⟨i, Z, hi, hZ, _, hzs⟩ := zeroCells_ok hT hz (φ := φ)
  have hu := desc_ok hT hd
  have hZl : Z.cells.size = sz := by have := insts_length hzs; simpa [hzl] using this
  obtain ⟨Out, h1, h2⟩ := fill_ok ps _ cs Ps _ hp (insts_repl hzs n) hf
  have h1' : Instr.fill (fun i => some (i * sz, sz)) ⟨(List.replicate n Z.cells.toList).flatten⟩ Ps = some ⟨Out⟩ := h1
  refine ⟨φ.put h.nx ⟨w.heap.size, 0, 0, 0⟩, .slice (some ⟨w.heap.size, 0, none⟩) n n, w.alloc (.cells ⟨Out⟩ e), hr.le_put _, ?_, ?_, hr.alloc hlo _ _ _ _ fun ψ hle => ?_, rfl, Nat.le_succ _⟩
  · have hn : ¬ 2 ^ 24 < n * sz := by omega
    by_cases h0 : n * sz = 0
    · have hz0 : (List.replicate n Z.cells.toList).flatten = [] := by
        apply List.eq_nil_of_length_eq_zero
        simp [hZl, h0]
      rw [hz0] at h1'
      simp [Instr.buildSlice, run_underlying hu, sizeOf_run hT hs, h0, newRow, Array.range_zero', h1']
    · have hze := zeroes_eq hZl (n := n) (m := n * sz) rfl
      simp [Instr.buildSlice, run_underlying hu, sizeOf_run hT hs, hn, h0, zeroValue, typeInfo, hi, hZ, newRow, hze, h1']
  · simp [inst, Phi.put_same]
  · have := objRel_new (ψ := ψ) (w := w) (ys := []) (e := e) (own := none) (C := 0) (sz := 0) (fr := (0, 0)) (insts_mono hle _ _ h2) (.inl rfl) (fun s hs => by cases hs)
    simpa using this

theorem makeSlice_ok (hT : Tabs E P) (hr : Rel φ w0 w h) (hlo : h.lo ≤ h.nx) {ty : TypeId} {l c : Nat} {kl kc : IntKind} {e : TypeId} {sz : Nat} {z : List LV}
    (hd : desc E ty = some (.slice e)) (hs : sizeOf E e = some sz) (hz : zeroCells E e = some z) (hlc : l ≤ c) (hle : c ≤ 16777216) (hzl : z.length = sz) :
    ValOk P φ w0 w h (Instr.makeSlice ty (.int kl (.ofNat l)) (.int kc (.ofNat c))) (.sl (some (h.nx, 0)) l c none) ⟨h.m.set h.nx (.cells (T.ofListFrom (repl z c) 0 .nil) (repl z c).length none), Nat.succ h.nx, h.lo⟩ := by
  obtain ⟨i, Z, hi, hZ, hby, hzs⟩ := zeroCells_ok hT hz (φ := φ)
  have hu := desc_ok hT hd
  have hZl : Z.cells.size = sz := by have := insts_length hzs; simpa [hzl] using this
  obtain ⟨i', hi', hsz⟩ := sizeOf_info hT hs
  rw [hi] at hi'; cases hi'
  have hrun := run_make (P := P) w ty e i Z hu hi hZ kl kc (l : Int) (c : Int) (by omega) (by omega) (by
    have : i.bytes * c ≤ 4096 * 16777216 := Nat.mul_le_mul hby hle
    have h2 : ((i.bytes * c : Nat) : Int) ≤ 281474976710656 := by omega
    rwa [Int.natCast_mul] at h2) (by omega)
  simp only [Int.toNat_natCast] at hrun
  have hze := zeroes_eq hZl (n := c) (m := c * i.size) (by rw [hsz])
  refine ⟨φ.put h.nx ⟨w.heap.size, 0, 0, 0⟩, .slice (some ⟨w.heap.size, 0, none⟩) l c, w.alloc (.cells ⟨(List.replicate c Z.cells.toList).flatten⟩ e), hr.le_put _, ?_, ?_, hr.alloc hlo _ _ _ _ fun ψ hle => ?_, rfl, Nat.le_succ _⟩
  · rw [madeCells, hze] at hrun; exact hrun
  · simp [inst, Phi.put_same]
  · have := objRel_new (ψ := ψ) (w := w) (ys := []) (e := e) (own := none) (C := 0) (sz := 0) (fr := (0, 0)) (insts_mono hle _ _ (insts_repl hzs c)) (.inl rfl) (fun s hs => by cases hs)
    simpa using this

theorem makeMap_ok (hr : Rel φ w0 w h) (hlo : h.lo ≤ h.nx) (t : TypeId) : ValOk P φ w0 w h (Instr.makeMap t none) (.map (some h.nx)) ⟨h.m.set h.nx (.map [] 0), Nat.succ h.nx, h.lo⟩ := by
  refine ⟨φ.put h.nx ⟨w.heap.size, 0, 0, 0⟩, .map (some w.heap.size), w.alloc (.map #[] 0), hr.le_put _, ?_, by simp [inst, Phi.put_same], hr.alloc hlo _ _ _ _ fun ψ hle => ?_, rfl, Nat.le_succ _⟩
  · simp [Instr.makeMap]
  · exact ⟨#[], by show (w.heap.push _)[w.heap.size]? = _; simp, rfl⟩

theorem bnd_ok {v : LV} {X : Value} {n i : Nat} (hx : inst φ v = some X) (hb : bnd v n = some i) (w : World) : i ≤ n ∧ ∀ n', n ≤ n' → ∀ code, (Instr.sliceBound X n' code).run P w = .ok i w := by
  cases v <;> simp only [bnd] at hb <;> try (cases hb; done)
  rename_i k m
  cases m with
  | negSucc m => cases hb
  | ofNat m =>
    simp only at hb
    cases hm : Nat.ble m n with
    | false => simp [hm] at hb
    | true =>
      simp only [hm, cond_true, Option.some.injEq] at hb; subst hb
      have hle := Nat.le_of_ble_eq_true hm
      simp only [inst, Option.some.injEq] at hx; subst hx
      refine ⟨hle, fun n' hn code => ?_⟩
      have : (0 : Int) ≤ (m : Int) ∧ (m : Int) ≤ (n' : Int) := by omega
      simp [Instr.sliceBound, asIntOf, this]

/-- an operand that may be left out -/
def instO (φ : Phi) : Option LV → Option Value → Prop
  | none, x => x = none
  | some v, x => ∃ X, inst φ v = some X ∧ x = some X

theorem bounds_ok {isS : Bool} {len cap cap' : Nat} {lo hi mx : Option LV} {Lo Hi Mx : Option Value} {m hi' lo' : Nat} (hlo : instO φ lo Lo) (hhi : instO φ hi Hi) (hmx : instO φ mx Mx) (hc : cap ≤ cap')
    (h1 : bndO mx cap cap = some m) (h2 : bndO hi m len = some hi') (h3 : bndO lo hi' 0 = some lo') (hx : okMx hi mx = true) (w : World) :
    (Instr.sliceBounds isS len cap' Lo Hi Mx).run P w = .ok (lo', hi', if mx.isSome then m else cap') w ∧ m ≤ cap ∧ lo' ≤ hi' ∧ (hi.isSome = true → hi' ≤ m) ∧ (hi = none → hi' = len) ∧ (mx = none → m = cap) := by
  cases mx with
  | none =>
    simp only [instO] at hmx; subst hmx
    simp only [bndO, Option.some.injEq] at h1; subst h1
    cases hi with
    | none =>
      simp only [instO] at hhi; subst hhi
      simp only [bndO, Option.some.injEq] at h2; subst h2
      cases lo with
      | none =>
        simp only [instO] at hlo; subst hlo
        simp only [bndO, Option.some.injEq] at h3; subst h3
        exact ⟨by simp [Instr.sliceBounds], Nat.le_refl _, Nat.zero_le _, by simp, by simp, by simp⟩
      | some v =>
        obtain ⟨X, hX, rfl⟩ := hlo
        obtain ⟨b1, a1⟩ := bnd_ok (P := P) hX h3 w
        exact ⟨by simp [Instr.sliceBounds, a1 _ (Nat.le_refl _)], Nat.le_refl _, b1, by simp, by simp, by simp⟩
    | some u =>
      obtain ⟨U, hU, rfl⟩ := hhi
      obtain ⟨b2, a2⟩ := bnd_ok (P := P) hU h2 w
      cases lo with
      | none =>
        simp only [instO] at hlo; subst hlo
        simp only [bndO, Option.some.injEq] at h3; subst h3
        exact ⟨by simp [Instr.sliceBounds, a2 _ hc], Nat.le_refl _, Nat.zero_le _, fun _ => b2, by simp, by simp⟩
      | some v =>
        obtain ⟨X, hX, rfl⟩ := hlo
        obtain ⟨b1, a1⟩ := bnd_ok (P := P) hX h3 w
        exact ⟨by simp [Instr.sliceBounds, a1 _ (Nat.le_refl _), a2 _ hc], Nat.le_refl _, b1, fun _ => b2, by simp, by simp⟩
  | some q =>
    obtain ⟨Q, hQ, rfl⟩ := hmx
    obtain ⟨b0, a0⟩ := bnd_ok (P := P) hQ h1 w
    cases hi with
    | none => simp [okMx] at hx
    | some u =>
      obtain ⟨U, hU, rfl⟩ := hhi
      obtain ⟨b2, a2⟩ := bnd_ok (P := P) hU h2 w
      cases lo with
      | none =>
        simp only [instO] at hlo; subst hlo
        simp only [bndO, Option.some.injEq] at h3; subst h3
        exact ⟨by simp [Instr.sliceBounds, a0 _ hc, a2 _ (Nat.le_refl _)], b0, Nat.zero_le _, fun _ => b2, by simp, by simp⟩
      | some v =>
        obtain ⟨X, hX, rfl⟩ := hlo
        obtain ⟨b1, a1⟩ := bnd_ok (P := P) hX h3 w
        exact ⟨by simp [Instr.sliceBounds, a0 _ hc, a1 _ (Nat.le_refl _), a2 _ (Nat.le_refl _)], b0, b1, fun _ => b2, by simp, by simp⟩

theorem instStr (l : List UInt8) (a b : Nat) : (ByteArray.mk ⟨l⟩).extract a b = ByteArray.mk ⟨(l.take b).drop a⟩ := by
  apply ByteArray.ext
  rw [ByteArray.data_extract]
  apply Array.ext'
  simp [List.drop_take]

theorem sliceStr_ok (hT : Tabs E P) (hr : Rel φ w0 w h) {ty : TypeId} {s : List UInt8} {lo hi : Option LV} {Lo Hi : Option Value} {v : LV} (hd : desc E ty = some .string) (hlo : instO φ lo Lo) (hhi : instO φ hi Hi)
    (hv : sliceStr s lo hi = some v) : ValOk P φ w0 w h (Instr.sliceAt ty (.string ⟨⟨s⟩⟩) Lo Hi none) v h := by
  have hu := desc_ok hT hd
  simp only [sliceStr, obind_some, Option.some.injEq] at hv
  obtain ⟨hi', h2, lo', h3, rfl⟩ := hv
  have hb := (bounds_ok (P := P) (isS := false) (mx := none) (Mx := none) (cap := s.length) hlo hhi rfl (Nat.le_refl _) rfl h2 h3 rfl w).1
  simp only [Option.isSome_none, Bool.false_eq_true, if_false] at hb
  refine .pure hr (X := .string ((ByteArray.mk ⟨s⟩).extract lo' hi')) ?_ (by simp only [inst]; rw [instStr])
  have hsz : (ByteArray.mk ⟨s⟩).size = s.length := rfl
  simp [Instr.sliceAt, Instr.slice, run_underlying hu, hsz, hb]


theorem sliceArr_ok (hT : Tabs E P) (hr : Rel φ w0 w h) {ty : TypeId} {n b o : Nat} {e : TypeId} {sz : Nat} {X : Value} {lo hi mx : Option LV} {Lo Hi Mx : Option Value} {v : LV} (hd : desc E ty = some (.array n e)) (hs : sizeOf E e = some sz)
    (hx : inst φ (.ptr (some (b, o))) = some X) (hlo : instO φ lo Lo) (hhi : instO φ hi Hi) (hmx : instO φ mx Mx) (hv : sliceArr sz n b o lo hi mx = some v) : ValOk P φ w0 w h (Instr.sliceAt ty X Lo Hi Mx) v h := by
  have hu := desc_ok hT hd
  obtain ⟨k, hk, rfl⟩ := inst_ptr hx
  unfold sliceArr at hv
  cases hok : okMx hi mx with
  | false => simp [hok] at hv
  | true =>
    rw [hok, cond_true] at hv
    simp only [obind_some, Option.some.injEq] at hv
    obtain ⟨m, h1, hi', h2, lo', h3, rfl⟩ := hv
    obtain ⟨hb, hm, hle, _, _, hmn⟩ := bounds_ok (P := P) (isS := false) hlo hhi hmx (Nat.le_refl n) h1 h2 h3 hok w
    have hmm : (if mx.isSome then m else n) = m := by
      cases mx with
      | none => simp [hmn rfl]
      | some q => simp
    rw [hmm] at hb
    refine .pure hr (X := .slice (some (if m = lo' then ⟨k.R, k.o + o, none⟩ else (⟨k.R, k.o + o, none⟩ : Addr).add (lo' * sz))) (hi' - lo') (m - lo')) ?_ ?_
    · simp [Instr.sliceAt, run_underlying hu, Instr.sureAddr, hb, sizeOf_run hT hs]
    · simp only [inst, hk]
      by_cases hml : m = lo'
      · subst hml; simp
      · have : Nat.beq m lo' = false := by rw [Bool.eq_false_iff]; intro e; exact hml (Nat.eq_of_beq_eq_true e)
        simp [this, hml, addr_add, Nat.add_assoc]

theorem inst_sl {b o len cap : Nat} {own : Option Nat} {X : Value} (hx : inst φ (.sl (some (b, o)) len cap own) = some X) :
    ∃ k c, φ b = some k ∧ X = .slice (some ⟨k.R, k.o + o, none⟩) len c ∧ cap ≤ c ∧ (own = none → c = cap) ∧ ∀ w, own = some w → o = w * k.sz ∧ w + cap ≤ k.C ∧ c = k.C - w := by
  cases own with
  | none =>
    simp only [inst] at hx
    cases hk : φ b with
    | none => simp [hk] at hx
    | some k => rw [hk] at hx; exact ⟨k, cap, rfl, (Option.some.inj hx).symm, Nat.le_refl _, fun _ => rfl, by simp⟩
  | some w =>
    simp only [inst] at hx
    cases hk : φ b with
    | none => simp [hk] at hx
    | some k =>
      rw [hk] at hx
      simp only at hx
      split at hx
      · rename_i hc
        exact ⟨k, k.C - w, rfl, (Option.some.inj hx).symm, by omega, by simp, fun w' e => by cases e; exact ⟨hc.1, hc.2, rfl⟩⟩
      · cases hx

theorem ownSz_ok (hr : Rel φ w0 w h) {b sz : Nat} {k : Blk} (hk : φ b = some k) (ho : ownSz h b sz = true) : k.sz = sz ∧ h.lo ≤ b := by
  unfold ownSz at ho
  split at ho
  · rename_i c n s hb
    simp only [Bool.and_eq_true] at ho
    obtain ⟨k', hk', _, _, _, _, _, _, _, h5⟩ := hr.objs b _ hb
    rw [hk] at hk'; cases hk'
    exact ⟨(h5.1 s rfl).2.1.trans (Nat.eq_of_beq_eq_true ho.1), Nat.le_of_ble_eq_true ho.2⟩
  · cases ho

theorem sliceSl_ok (hT : Tabs E P) (hr : Rel φ w0 w h) (hlo0 : h.lo ≤ h.nx) {ty : TypeId} {e : TypeId} {sz : Nat} {a : Option (Nat × Nat)} {len cap : Nat} {own : Option Nat} {X : Value} {lo hi mx : Option LV} {Lo Hi Mx : Option Value} {v : LV}
    (hd : desc E ty = some (.slice e)) (hs : sizeOf E e = some sz) (hx : inst φ (.sl a len cap own) = some X) (hlo : instO φ lo Lo) (hhi : instO φ hi Hi) (hmx : instO φ mx Mx)
    (hv : sliceSl h sz a len cap own lo hi mx = some (v, h')) : ValOk P φ w0 w h (Instr.sliceAt ty X Lo Hi Mx) v h' := by
  have hu := desc_ok hT hd
  unfold sliceSl at hv
  cases hok : okMx hi mx with
  | false => simp [hok] at hv
  | true =>
    rw [hok, cond_true] at hv
    simp only [obind_some] at hv
    obtain ⟨m, h1, hi', h2, lo', h3, hv⟩ := hv
    have run : ∀ (A : Option Addr) (c : Nat), cap ≤ c → (Instr.sliceAt ty (.slice A len c) Lo Hi Mx).run P w =
        .ok (.slice (if (if mx.isSome then m else c) = lo' then A else A.map (·.add (lo' * sz))) (hi' - lo') ((if mx.isSome then m else c) - lo')) w := by
      intro A c hc
      obtain ⟨hb, _⟩ := bounds_ok (P := P) (isS := true) (len := len) hlo hhi hmx hc h1 h2 h3 hok w
      simp only [Instr.sliceAt, Instr.slice, Sem.run_bind, run_underlying hu, Result.andThen_ok, hb, sizeOf_run hT hs, Sem.run_pure]
    obtain ⟨_, hm, hle, hhm, hhn, hmn⟩ := bounds_ok (P := P) (isS := true) (len := len) hlo hhi hmx (Nat.le_refl cap) h1 h2 h3 hok w
    -- what is cut exactly
    have exact_ : ∀ c, cap ≤ c → (own = none → c = cap) → (own = none ∨ mx.isSome = true) → ∀ k b o, a = some (b, o) → φ b = some k → X = .slice (some ⟨k.R, k.o + o, none⟩) len c →
        some (LV.sl (bif Nat.beq m lo' then a else moveA a (Nat.mul lo' sz)) (Nat.sub hi' lo') (Nat.sub m lo') none, h) = some (v, h') → ValOk P φ w0 w h (Instr.sliceAt ty X Lo Hi Mx) v h' := by
      intro c hc hcn hor k b o ha hk hX hv
      simp only [Option.some.injEq, Prod.mk.injEq] at hv
      obtain ⟨rfl, rfl⟩ := hv
      subst hX; subst ha
      have hmm : (if mx.isSome then m else c) = m := by
        cases mx with
        | none => rcases hor with h0 | h0
                  · simp [hmn rfl, hcn h0]
                  · cases h0
        | some q => simp
      have hrun := run (some ⟨k.R, k.o + o, none⟩) c hc
      rw [hmm] at hrun
      refine .pure hr hrun ?_
      by_cases hml : m = lo'
      · subst hml; simp [inst, hk]
      · have : Nat.beq m lo' = false := by rw [Bool.eq_false_iff]; intro e; exact hml (Nat.eq_of_beq_eq_true e)
        simp [this, hml, addr_add, moveA, inst, hk, Nat.add_assoc]
    cases a with
    | none =>
      have hX := inst_sl_none hx; subst hX
      simp only [inst] at hx
      split at hx
      · rename_i hc
        obtain ⟨rfl, rfl⟩ := hc
        have hm0 : m = 0 := by omega
        subst hm0
        have hh0 : hi' = 0 := by
          cases hi with
          | none => exact hhn rfl
          | some u => have := hhm rfl; omega
        subst hh0
        have hl0 : lo' = 0 := by omega
        subst hl0
        have hrun := run none 0 (Nat.le_refl _)
        simp only [ite_self, Option.map_none] at hrun
        have fin : some (LV.sl none 0 0 none, h) = some (v, h') → ValOk P φ w0 w h (Instr.sliceAt ty (.slice none 0 0) Lo Hi Mx) v h' := by
          intro hv
          simp only [Option.some.injEq, Prod.mk.injEq] at hv
          obtain ⟨rfl, rfl⟩ := hv
          exact .pure hr hrun (by simp [inst])
        cases own with
        | none => exact fin (by simpa using hv)
        | some w' =>
          cases mx with
          | some q => exact fin (by simpa using hv)
          | none => simp [sliceOwn] at hv
      · cases hx
    | some p =>
      obtain ⟨b, o⟩ := p
      obtain ⟨k, c, hk, hX, hc, hcn, hown⟩ := inst_sl hx
      cases own with
      | none => exact exact_ c hc hcn (.inl rfl) k b o rfl hk hX hv
      | some w' =>
        cases mx with
        | some q => exact exact_ c hc hcn (.inr rfl) k b o rfl hk hX hv
        | none =>
          obtain ⟨e1, e2, e3⟩ := hown w' rfl
          simp only [sliceOwn] at hv
          cases ho : and (ownSz h b sz) (Nat.ble hi' m) with
          | false => simp [ho] at hv
          | true =>
            rw [ho, cond_true] at hv
            simp only [Bool.and_eq_true] at ho
            have hhm' := Nat.le_of_ble_eq_true ho.2
            obtain ⟨hsz, hlb⟩ := ownSz_ok hr hk ho.1
            have hmc := hmn rfl
            subst hmc
            subst hX
            have hrun := run (some ⟨k.R, k.o + o, none⟩) c hc
            simp only [Option.isSome_none, Bool.false_eq_true, if_false, Option.map_some, addr_add] at hrun
            cases hb : Nat.beq m lo' with
            | true =>
              cases hb2 : Nat.beq hi' lo' with
              | false => simp [hb, hb2] at hv
              | true =>
                simp only [hb, hb2, cond_true, fNat_eq, Option.some.injEq, Prod.mk.injEq] at hv
                obtain ⟨rfl, rfl⟩ := hv
                have hml : m = lo' := Nat.eq_of_beq_eq_true hb
                have hhl : hi' = lo' := Nat.eq_of_beq_eq_true hb2
                subst hml; subst hhl
                rw [Nat.sub_self] at hrun
                refine ⟨φ.put h.nx ⟨k.R, if c = hi' then k.o + o else k.o + o + hi' * sz, c - hi', 0⟩, _, w, hr.le_put _, hrun, ?_, hr.name _ hlo0, rfl, Nat.le_succ _⟩
                simp only [inst, Phi.put_same]
                by_cases hch : c = hi'
                · simp [hch]
                · simp [hch]
            | false =>
              simp only [hb, cond_false, Option.some.injEq, Prod.mk.injEq] at hv
              obtain ⟨rfl, rfl⟩ := hv
              have hml : m ≠ lo' := by intro e; subst e; simp at hb
              have hlm : lo' ≤ m := Nat.le_trans hle hhm'
              refine .pure hr hrun ?_
              have hcl : c ≠ lo' := by omega
              simp only [hcl, if_false, inst, hk]
              rw [if_pos]
              · simp [e3, Nat.add_assoc]; omega
              · refine ⟨?_, ?_⟩
                · show o + lo' * sz = (w' + lo') * k.sz
                  rw [Nat.add_mul, hsz, e1, hsz]
                · show w' + lo' + (m - lo') ≤ k.C
                  omega

end Go.Ev
namespace Go.Ev
open Go Go.RowKit

variable {E : Env} {P : Program} {φ : Phi} {w0 : Base} {w : World} {h h' : LH}

theorem bytesV_inst : ∀ (l : List UInt8), insts φ (bytesV l) = some (l.map fun b => Value.int .u8 b.toNat)
  | [] => rfl
  | _ :: l => insts_cons.2 ⟨_, _, rfl, bytesV_inst l, rfl⟩

/-- what is read of a source, at any later count of draws -/
theorem src_ok (hr : Rel φ w0 w h) {sz n L : Nat} {x : LV} {X : Value} {cs : List LV} (hx : inst φ x = some X) (hL : lenV x = some L) (hn : n ≤ L) (hc : srcCells h sz n x = some cs) :
    ∃ xs, insts φ cs = some xs ∧ xs.length = n * sz ∧ (∀ d, (Builtin.firstCells sz n X).run P { w with drawn := d } = .ok ⟨xs⟩ { w with drawn := d }) ∧ (Builtin.lenOf X).run P w = .ok L w := by
  cases x <;> try (simp [lenV] at hL; done)
  case str s =>
    simp only [inst, Option.some.injEq] at hx; subst hx
    simp only [lenV, Option.some.injEq] at hL; subst hL
    simp only [srcCells] at hc
    cases hb : Nat.beq sz 1 with
    | false => simp [hb] at hc
    | true =>
      rw [hb] at hc
      simp only [cond_true, Option.some.injEq] at hc; subst hc
      have := Nat.eq_of_beq_eq_true hb; subst this
      refine ⟨_, bytesV_inst _, by simp; omega, fun d => ?_, rfl⟩
      simp only [Builtin.firstCells, Sem.run_pure, instStr]
      simp
  case sl a len cap own =>
    simp only [lenV, Option.some.injEq] at hL; subst hL
    cases a with
    | none =>
      have hX := inst_sl_none hx; subst hX
      simp only [inst] at hx
      split at hx
      · rename_i h0
        obtain ⟨rfl, rfl⟩ := h0
        have : n = 0 := by omega
        subst this
        simp only [srcCells, Option.some.injEq] at hc; subst hc
        exact ⟨[], rfl, by simp, fun d => by simp [Builtin.firstCells], rfl⟩
      · cases hx
    | some p =>
      obtain ⟨b, o⟩ := p
      obtain ⟨k, c, hk, rfl, _⟩ := inst_sl hx
      simp only [srcCells] at hc
      change Go.Ev.loadCells h b o (n * sz) = some cs at hc
      obtain ⟨xs, h1, h2, _, h4⟩ := hr.loads_run (P := P) hk hc
      refine ⟨xs, h1, h2, fun d => ?_, rfl⟩
      exact run_firstCells_some (P := P) _ sz n _ len c xs h2 (fun j u hj => by rw [addr_add]; exact h4 j u hj)

theorem setRow_get {w : World} {g : Nat} {cur : Array Value} {t : TypeId} {fr : Nat × Nat} (hg : w.heap[g]? = some (.cells cur t fr)) (cs : Array Value) (R : Nat) :
    (w.setRow g cs).heap[R]? = if R = g then some (.cells cs t fr) else w.heap[R]? := by
  by_cases hR : R = g
  · subst hR; rw [if_pos rfl]; exact setRow_heap w R cur cs t fr hg
  · rw [if_neg hR]; exact setRow_other w g R cs hR

/-- a row is written on, whatever part of it is known -/
theorem run_stores_row (P : Program) (g o : Nat) (t : TypeId) (fr : Nat × Nat) : ∀ (vs : List Value) (i : Nat) (cur : Array Value) (w : World), w.heap[g]? = some (.cells cur t fr) → (fr = (0, 0) ∨ cur.size ≤ fr.1) → o + i + vs.length ≤ cur.size → (∀ v ∈ vs, v.oneCell' = true) →
    ∃ cs, (Go.storeCells ⟨g, o, none⟩ vs i).run P w = .ok () (w.setRow g cs) ∧ cs.size = cur.size ∧ (∀ j, j < o + i → cs[j]? = cur[j]?) ∧ ∀ j v, vs[j]? = some v → cs[o + i + j]? = some v
  | [], i, cur, w, hg, _, _, _ => ⟨cur, by rw [setRow_self w g cur t fr hg]; rfl, rfl, fun _ _ => rfl, by simp⟩
  | v :: rest, i, cur, w, hg, hfr, hl, h1 => by
    have hi : o + i < cur.size := by simp at hl; omega
    have hcell : w.cell? ⟨g, o + i, none⟩ = some cur[o + i] := by simp [World.cell?, hg, hi]
    have hfro : w.frozen? ⟨g, o + i, none⟩ = false := by
      simp only [World.frozen?, hg]
      rcases hfr with rfl | hfr
      · simp
      · simp; omega
    have hst : (Go.store ((⟨g, o, none⟩ : Addr).add i) v).run P w = .ok () (w.setRow g (cur.setIfInBounds (o + i) v)) := by
      rw [addr_add, run_store P w _ v _ (h1 v (by simp)), hcell]
      simp [hfro, setCell_eq_setRow w g (o + i) cur t fr v hg]
    obtain ⟨cs, a1, a2, a3, a4⟩ := run_stores_row P g o t fr rest (i + 1) (cur.setIfInBounds (o + i) v) (w.setRow g (cur.setIfInBounds (o + i) v)) (setRow_heap w g cur _ t fr hg) (by simpa using hfr) (by simp at hl ⊢; omega) (fun x hx => h1 x (by simp [hx]))
    refine ⟨cs, ?_, by simpa using a2, fun j hj => ?_, fun j u hj => ?_⟩
    · simp only [Go.storeCells, Sem.run_bind, hst, Result.andThen_ok, a1, setRow_setRow]
    · rw [a3 j (by omega), Array.getElem?_setIfInBounds_ne (by omega)]
    · cases j with
      | zero =>
        simp at hj; subst hj
        rw [Nat.add_zero, a3 (o + i) (by omega)]
        simp [hi]
      | succ j =>
        have := a4 j u (by simpa using hj)
        rwa [show o + (i + 1) + j = o + i + (j + 1) by omega] at this

/-- what append adds: how many, and of which kind its second argument is -/
def NewOk (P : Program) (w : World) (ats : Array TypeId) (i : TypeInfo) (Z : Value) (zs : Bool) (X : Value) (n : Nat) (news : List Value) : Prop :=
  (zs = false ∧ (ats[1]? = none ∨ ∃ u d, ats[1]? = some u ∧ P.underlying u = some d ∧ ∀ k, d ≠ .int k) ∧ (∀ v, (Builtin.lenOf X).run P v = .ok n v) ∧ ∀ d, (Builtin.firstCells i.size n X).run P { w with drawn := d } = .ok ⟨news⟩ { w with drawn := d }) ∨
  (zs = true ∧ (∃ u k, ats[1]? = some u ∧ P.underlying u = some (.int k)) ∧ (∃ k, X = .int k (n : Int)) ∧ n ≤ 4294967296 ∧ i.bytes ≤ 4096 ∧ news = (Builtin.zeroCells Z.cells n).toList ∧ Z.cells.size = i.size)

theorem i64_wrap_small {n : Nat} (h : n ≤ 4294967296) : IntKind.i64.wrap (n : Int) = n := by
  apply wrap_le; simp only [maxN]; omega

theorem zero_bytes_le {n b : Nat} (h : n ≤ 4294967296) (hb : b ≤ 4096) : (n : Int) * (b : Int) ≤ 281474976710656 := by
  have : n * b ≤ 4294967296 * 4096 := Nat.mul_le_mul h hb
  have h2 : ((n * b : Nat) : Int) ≤ 281474976710656 := by omega
  simpa using h2

theorem zeroCells_nil {z : Array Value} {n : Nat} (h : n * z.size = 0) : Builtin.zeroCells z n = #[] := by simp [Builtin.zeroCells, h]

theorem run_append_room' {ats : Array TypeId} {ty t e : TypeId} {i : TypeInfo} {Z X : Value} {B : Option Addr} {len c n : Nat} {zs : Bool} {news : List Value} {w' : World}
    (h0 : ats[0]? = some t) (ht : P.underlying t = some (.slice e)) (hi : P.info? e = some i) (hz : i.zero = some Z) (hn : NewOk P w ats i Z zs X n news) (hroom : len + n ≤ c)
    (hst : (match B with | some a => Go.storeCells (a.add (len * i.size)) news | none => pure ()).run P w = .ok () w') :
    (Builtin.append_ ats ty #[.slice B len c, X]).run P w = .ok (.slice B (len + n) c) w' := by
  rcases hn with ⟨rfl, hu, hl, hf⟩ | ⟨rfl, ⟨u, k, hu, hk⟩, ⟨kk, rfl⟩, hn32, hby, rfl, hZs⟩
  · have hf' : (Builtin.firstCells i.size n X).run P w = .ok ⟨news⟩ w := hf w.drawn
    rcases hu with hu | ⟨u, d, hu, hd, hk⟩
    · cases B with
      | none => simp at hst; subst hst; simp [Builtin.append_, h0, hu, run_underlying ht, Go.sizeOf, typeInfo, hi, hl, hroom, hf']
      | some a => simp at hst; simp [Builtin.append_, h0, hu, run_underlying ht, Go.sizeOf, typeInfo, hi, hl, hroom, hf', hst]
    · cases B with
      | none => simp at hst; subst hst; simp [Builtin.append_, h0, hu, run_underlying ht, run_underlying hd, Go.sizeOf, typeInfo, hi, hl, hroom, hf']
      | some a => simp at hst; simp [Builtin.append_, h0, hu, run_underlying ht, run_underlying hd, Go.sizeOf, typeInfo, hi, hl, hroom, hf', hst]
  · have hw := i64_wrap_small hn32
    have hb := zero_bytes_le hn32 hby
    have hnn : ¬ ((n : Int) < 0) := by omega
    have hbb : ¬ (281474976710656 < (n : Int) * (i.bytes : Int)) := by omega
    by_cases hz0 : n * i.size = 0
    · rw [zeroCells_nil (by rw [hZs]; exact hz0)] at hst
      cases B with
      | none => simp at hst; subst hst; simp [Builtin.append_, h0, hu, run_underlying ht, run_underlying hk, Go.sizeOf, typeInfo, hi, hw, hroom, hz0, hnn, hbb, asInt, asIntOf]
      | some a => simp at hst; simp [Builtin.append_, h0, hu, run_underlying ht, run_underlying hk, Go.sizeOf, typeInfo, hi, hw, hroom, hz0, hst, hnn, hbb, asInt, asIntOf]
    · cases B with
      | none => simp at hst; subst hst; simp [Builtin.append_, h0, hu, run_underlying ht, run_underlying hk, Go.sizeOf, typeInfo, zeroValue, hi, hz, hw, hroom, hnn, hbb, asInt, asIntOf]
      | some a => simp at hst; simp [Builtin.append_, h0, hu, run_underlying ht, run_underlying hk, Go.sizeOf, typeInfo, zeroValue, hi, hz, hw, hroom, hz0, hst, hnn, hbb, asInt, asIntOf]

theorem run_append_grow' {ats : Array TypeId} {ty t e : TypeId} {i : TypeInfo} {Z X : Value} {B : Option Addr} {len c n : Nat} {zs : Bool} {news olds : List Value}
    (h0 : ats[0]? = some t) (ht : P.underlying t = some (.slice e)) (hi : P.info? e = some i) (hz : i.zero = some Z) (hn : NewOk P w ats i Z zs X n news) (hg : c < len + n) (hneed : len + n ≤ 4294967296) (hby : i.bytes ≤ 4096)
    (hold : (Builtin.firstCells i.size len (.slice B len c)).run P w.drew = .ok ⟨olds⟩ w.drew) :
    (Builtin.append_ ats ty #[.slice B len c, X]).run P w =
      .ok (.slice (some ⟨w.heap.size, 0, none⟩) (len + n) (grownCap w (len + n) c e)) (w.drew.alloc (.cells (⟨olds⟩ ++ (⟨news⟩ ++ Builtin.zeroCells Z.cells (grownCap w (len + n) c e - (len + n)))) e)) := by
  have hroom : ¬ (len + n ≤ c) := by omega
  have h63 : ¬ (9223372036854775807 < ((len : Int) + (n : Int))) := by omega
  have hb : (len + n) * i.bytes ≤ 4294967296 * 4096 := Nat.mul_le_mul hneed hby
  have h48 : ¬ (281474976710656 < Builtin.nextslicecap (len + n) c * i.bytes) := by
    have := growslice_fits (need := len + n) (old := c) (bytes := i.bytes) (by omega) (by omega)
    omega
  rcases hn with ⟨rfl, hu, hl, hf⟩ | ⟨rfl, ⟨u, k, hu, hk⟩, ⟨kk, rfl⟩, hn32, hby, rfl, hZs⟩
  · have hf' : (Builtin.firstCells i.size n X).run P w.drew = .ok ⟨news⟩ w.drew := hf _
    rcases hu with hu | ⟨u, d, hu, hd, hk⟩
    · simp [Builtin.append_, h0, hu, run_underlying ht, Go.sizeOf, typeInfo, zeroValue, hi, hz, hl, hroom, h63, h48, hf', hold, Question.forced, newRow, grownCap]
    · simp [Builtin.append_, h0, hu, run_underlying ht, run_underlying hd, Go.sizeOf, typeInfo, zeroValue, hi, hz, hl, hroom, h63, h48, hf', hold, Question.forced, newRow, grownCap]
  · have hw := i64_wrap_small hn32
    have hb := zero_bytes_le hn32 hby
    have hnn : ¬ ((n : Int) < 0) := by omega
    have hbb : ¬ (281474976710656 < (n : Int) * (i.bytes : Int)) := by omega
    by_cases hz0 : n * i.size = 0
    · rw [zeroCells_nil (by rw [hZs]; exact hz0)]
      simp [Builtin.append_, h0, hu, run_underlying ht, run_underlying hk, Go.sizeOf, typeInfo, zeroValue, hi, hz, hw, hroom, hz0, h63, h48, hnn, hbb, asInt, asIntOf, hold, Question.forced, newRow, grownCap]
    · simp [Builtin.append_, h0, hu, run_underlying ht, run_underlying hk, Go.sizeOf, typeInfo, zeroValue, hi, hz, hw, hroom, hz0, h63, h48, hnn, hbb, asInt, asIntOf, hold, Question.forced, newRow, grownCap]

theorem newOf_ok (hT : Tabs E P) (hr : Rel φ w0 w h) {ats : Array TypeId} {zs : Bool} {x : LV} {X : Value} {n sz : Nat} {z new : List LV} {i : TypeInfo} {Z : Value} (hzs : intType E ats = some zs)
    (hx : inst φ x = some X) (hi : i.size = sz) (hby : i.bytes ≤ 4096) (hz : insts φ z = some Z.cells.toList) (hzl : z.length = sz) (hn : newOf h zs z sz x = some (n, new)) :
    ∃ news, insts φ new = some news ∧ news.length = n * sz ∧ NewOk P w ats i Z zs X n news := by
  subst hi
  have hZs : Z.cells.size = i.size := by have := insts_length hz; simpa [hzl] using this
  cases zs with
  | false =>
    simp only [newOf, obind_some, Option.some.injEq, Prod.mk.injEq] at hn
    obtain ⟨L, hL, cs, hc, rfl, rfl⟩ := hn
    obtain ⟨xs, h1, h2, h3, h4⟩ := src_ok (P := P) hr hx hL (Nat.le_refl _) hc
    refine ⟨xs, h1, h2, .inl ⟨rfl, ?_, fun v => ?_, h3⟩⟩
    · unfold intType at hzs
      cases hu : ats[1]? with
      | none => exact .inl rfl
      | some u =>
        rw [hu] at hzs
        simp only at hzs
        cases hd : desc E u with
        | none => simp [hd] at hzs
        | some d =>
          refine .inr ⟨u, d, rfl, desc_ok hT hd, fun k => ?_⟩
          rintro rfl
          simp [hd] at hzs
    · cases x <;> try (simp [lenV] at hL; done)
      case str s =>
        simp only [inst, Option.some.injEq] at hx; subst hx
        simp only [lenV, Option.some.injEq] at hL; subst hL; rfl
      case sl a len cap own =>
        simp only [lenV, Option.some.injEq] at hL; subst hL
        cases a with
        | none =>
          have hX := inst_sl_none hx; subst hX
          simp only [inst] at hx
          split at hx
          · rename_i h0; obtain ⟨rfl, rfl⟩ := h0; rfl
          · cases hx
        | some p =>
          obtain ⟨b, o⟩ := p
          obtain ⟨k, c, hk, rfl, _⟩ := inst_sl hx
          rfl
  | true =>
    simp only [newOf] at hn
    split at hn
    · rename_i k m
      cases hb : Nat.ble m bigN with
      | false => simp [hb] at hn
      | true =>
        simp only [hb, cond_true, Option.some.injEq, Prod.mk.injEq] at hn
        obtain ⟨rfl, rfl⟩ := hn
        simp only [inst, Option.some.injEq] at hx; subst hx
        have h1 := insts_repl hz m
        have hle := Nat.le_of_ble_eq_true hb
        refine ⟨_, h1, by simp [hZs], .inr ⟨rfl, ?_, ⟨k, rfl⟩, hle, hby, ?_, hZs⟩⟩
        · unfold intType at hzs
          split at hzs
          · rename_i u hu
            split at hzs
            · rename_i k' hd
              exact ⟨u, k', hu, desc_ok hT hd⟩
            · cases hzs
            · cases hzs
          · cases hzs
        · unfold Builtin.zeroCells
          rw [zeroes_eq rfl rfl]
    · cases hn

theorem oneCell_of_plain {v : LV} {x : Value} (h : inst φ v = some x) (hp : v.plain = true) : x.oneCell' = true := inst_plain h hp

theorem allPlain_ok {φ : Phi} : ∀ {l : List LV} {xs : List Value}, insts φ l = some xs → (∀ v ∈ l, v.plain = true) → ∀ x ∈ xs, x.oneCell' = true
  | [], xs, h, _, x, hx => by simp [insts] at h; subst h; simp at hx
  | v :: vs, xs, h, hp, x, hx => by
    obtain ⟨y, ys, h1, h2, rfl⟩ := insts_cons.1 h
    rcases List.mem_cons.1 hx with rfl | hx
    · exact inst_plain h1 (hp v (by simp))
    · exact allPlain_ok h2 (fun v hv => hp v (by simp [hv])) x hx

end Go.Ev
