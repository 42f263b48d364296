/- What leaves the heap's count alone leaves the heap alone. -/
/- Operations that make a block out of what their operands are: where it lies is no matter. -/
import Derived.Test.YtcjocfaknhpncaaGreatDoorXEw
namespace Go.Ev
open Go Go.RowKit

variable {E : Env} {P : Program}

def Keep (h : LH) (r : Option (LV × LH)) : Prop := ∀ v h', r = some (v, h') → h'.nx = h.nx → h' = h

theorem Keep.bind {α : Type} {h : LH} {o : Option α} {f : α → Option (LV × LH)} (hf : ∀ x, Keep h (f x)) : Keep h (obind o f) := by
  intro v h' hr hn
  rw [obind_some] at hr
  obtain ⟨x, _, hx⟩ := hr
  exact hf x v h' hx hn
theorem Keep.here {h : LH} {v : LV} : Keep h (some (v, h)) := fun v' h' hr _ => by cases hr; rfl
theorem Keep.nothing {h : LH} : Keep h none := fun v' h' hr _ => by cases hr
theorem Keep.cond {h : LH} {c : Bool} {a b : Option (LV × LH)} (ha : Keep h a) (hb : Keep h b) : Keep h (bif c then a else b) := by cases c <;> assumption
theorem Keep.grow {h x : LH} {v : LV} (hx : h.nx < x.nx) : Keep h (some (v, x)) := fun v' h' hr hn => by cases hr; omega
theorem Keep.bind2 {α β : Type} {h : LH} {o : Option (α × β)} {f : α × β → Option (LV × LH)} (hf : ∀ x y, Keep h (f (x, y))) : Keep h (obind o f) := Keep.bind fun p => hf p.1 p.2

theorem keep_newCells {h : LH} {cs : List LV} : Keep h (newCells h cs) := by
  simp only [newCells, mkCells_eq, LH.alloc_eq]
  exact Keep.grow (Nat.lt_succ_self _)

theorem keep_sliceOwn {h : LH} {sz : Nat} {a : Option (Nat × Nat)} {w lo hi m : Nat} : Keep h (sliceOwn h sz a w lo hi m) := by
  unfold sliceOwn
  split
  · exact Keep.nothing
  · refine Keep.cond (Keep.cond (Keep.cond ?_ Keep.nothing) Keep.here) Keep.nothing
    simp only [fNat_eq]
    exact Keep.grow (Nat.lt_succ_self _)

theorem keep_sliceSl {h : LH} {sz : Nat} {a : Option (Nat × Nat)} {len cap : Nat} {own : Option Nat} {lo hi mx : Option LV} : Keep h (sliceSl h sz a len cap own lo hi mx) := by
  unfold sliceSl
  refine Keep.cond (Keep.bind fun m => Keep.bind fun hi' => Keep.bind fun lo' => ?_) Keep.nothing
  split
  · exact Keep.here
  · split
    · exact Keep.here
    · exact keep_sliceOwn

theorem step1_keep {h : LH} {t : T LV} {op : Op} (hc : isCall op = false) : Keep h (step1 E h t op) := by
  cases op <;> simp only [step1] <;> try exact Keep.nothing
  case move x => exact Keep.bind fun _ => Keep.here
  case assign x => exact Keep.bind fun _ => Keep.here
  case pick c x y =>
    refine Keep.bind fun _ => ?_
    split
    · exact Keep.cond (Keep.bind fun _ => Keep.here) (Keep.bind fun _ => Keep.here)
    · exact Keep.nothing
  case alloc e => exact Keep.bind fun _ => keep_newCells
  case box e x => exact Keep.bind fun _ => keep_newCells
  case build ty ps => exact Keep.bind fun _ => Keep.bind fun _ => Keep.here
  case buildSlice ty n ps =>
    refine Keep.bind fun _ => Keep.bind fun _ => ?_
    split
    · refine Keep.bind fun _ => Keep.bind fun _ => Keep.cond (Keep.bind fun _ => ?_) Keep.nothing
      simp only [mkCells_eq, LH.alloc_eq]
      exact Keep.grow (Nat.lt_succ_self _)
    · exact Keep.nothing
  case load ty x =>
    refine Keep.bind fun _ => ?_
    split
    · exact Keep.bind fun _ => Keep.here
    · exact Keep.nothing
  case store => cases hc
  case nilCheck x =>
    refine Keep.bind fun _ => ?_
    split
    · exact Keep.here
    · exact Keep.here
    · exact Keep.here
    · exact Keep.nothing
  case binOp op ty x y g => exact Keep.bind fun _ => Keep.bind fun _ => Keep.bind fun _ => Keep.here
  case unOp op ty x => exact Keep.bind fun _ => Keep.bind fun _ => Keep.here
  case convert s d x =>
    refine Keep.bind fun _ => Keep.bind fun _ => ?_
    split
    · split
      · split
        · exact Keep.here
        · exact Keep.nothing
      · exact Keep.nothing
    · split
      · split
        · exact Keep.here
        · exact Keep.nothing
      · split
        · split
          · exact Keep.nothing
          · exact Keep.bind fun _ => Keep.here
        · exact Keep.nothing
      · exact Keep.nothing
    · split
      · refine Keep.cond ?_ Keep.nothing
        split
        · split
          · exact Keep.cond Keep.here Keep.nothing
          · exact Keep.nothing
        · exact Keep.nothing
      · split
        · split
          · refine Keep.cond ?_ Keep.nothing
            simp only [mkCells_eq, fNat_eq, LH.alloc_eq]
            exact Keep.grow (Nat.lt_succ_self _)
          · exact Keep.nothing
        · exact Keep.nothing
      · exact Keep.nothing
    · exact Keep.nothing
  case makeInterface ty x => exact Keep.bind fun _ => Keep.cond Keep.nothing Keep.here
  case makeFunc f x y =>
    unfold oMakeFunc
    split
    · exact Keep.bind fun _ => Keep.bind fun _ => Keep.here
    · exact Keep.nothing
  case makeMap ty r =>
    unfold oMakeMap
    split
    · simp only [LH.alloc_eq]; exact Keep.grow (Nat.lt_succ_self _)
    · exact Keep.nothing
  case makeSlice ty l c =>
    refine Keep.bind fun _ => Keep.bind fun _ => Keep.bind fun _ => ?_
    split
    · refine Keep.bind fun _ => Keep.bind fun _ => ?_
      split
      · split
        · refine Keep.cond ?_ Keep.nothing
          simp only [mkCells_eq, fNat_eq, LH.alloc_eq]
          exact Keep.grow (Nat.lt_succ_self _)
        · exact Keep.nothing
      · exact Keep.nothing
    · exact Keep.nothing
  case slice ty x lo hi mx =>
    refine Keep.bind fun _ => Keep.bind fun _ => Keep.bind fun _ => Keep.bind fun _ => Keep.bind fun _ => ?_
    unfold sliceV
    split
    · split
      · split
        · exact Keep.bind fun _ => Keep.here
        · exact Keep.nothing
      · exact Keep.nothing
    · split
      · exact Keep.bind fun _ => keep_sliceSl
      · exact Keep.nothing
    · split
      · exact Keep.bind fun _ => Keep.bind fun _ => Keep.here
      · exact Keep.nothing
    · exact Keep.nothing
  case fieldAddr s x f =>
    refine Keep.bind fun _ => ?_
    split
    · refine Keep.bind fun _ => ?_
      split
      · split
        · exact Keep.bind fun _ => Keep.cond Keep.nothing Keep.here
        · exact Keep.nothing
      · exact Keep.nothing
    · exact Keep.nothing
  case field s x f =>
    refine Keep.bind fun _ => ?_
    split
    · refine Keep.bind fun _ => ?_
      split
      · split
        · exact Keep.bind fun _ => Keep.here
        · exact Keep.nothing
      · exact Keep.nothing
    · exact Keep.nothing
  case indexAddr ty x y =>
    refine Keep.bind fun _ => Keep.bind fun _ => Keep.bind fun _ => ?_
    split
    · split
      · exact Keep.bind fun _ => Keep.bind fun _ => Keep.here
      · exact Keep.nothing
    · split
      · exact Keep.bind fun _ => Keep.bind fun _ => Keep.here
      · exact Keep.nothing
    · exact Keep.nothing
  case index ty x y =>
    refine Keep.bind fun _ => Keep.bind fun _ => Keep.bind fun _ => ?_
    split
    · split
      · refine Keep.bind fun _ => ?_
        split
        · exact Keep.here
        · exact Keep.nothing
      · exact Keep.nothing
    · split
      · exact Keep.bind fun _ => Keep.bind fun _ => Keep.bind fun _ => Keep.here
      · exact Keep.nothing
    · exact Keep.nothing
  case lookup ty x y ok =>
    refine Keep.bind fun _ => Keep.bind fun _ => Keep.bind fun _ => ?_
    split
    · split
      · refine Keep.cond (Keep.bind fun _ => Keep.bind fun _ => Keep.bind fun _ => ?_) Keep.nothing
        split
        · exact Keep.here
        · exact Keep.here
      · exact Keep.nothing
    · exact Keep.nothing
  case mapUpdate => cases hc
  case typeAssert x xt a ok =>
    refine Keep.bind fun _ => Keep.bind fun _ => ?_
    split
    · exact Keep.nothing
    · split
      · exact Keep.cond Keep.here Keep.nothing
      · exact Keep.cond (Keep.bind fun _ => Keep.here) Keep.nothing
      · exact Keep.nothing
  case extract x i =>
    refine Keep.bind fun _ => ?_
    split
    · split
      · exact Keep.here
      · exact Keep.nothing
    · exact Keep.nothing
  case call c =>
    obtain ⟨callee, cargs, ats⟩ := c
    cases callee <;> simp only [oCall] <;> try exact Keep.nothing
    rename_i b
    refine Keep.bind fun args => ?_
    cases b <;> simp only [builtinV] <;> try exact Keep.nothing
    case append => cases hc
    case copy => cases hc
    case len =>
      unfold bLen
      split
      · split
        · exact Keep.cond (Keep.bind fun _ => Keep.here) Keep.nothing
        · exact Keep.nothing
      · exact Keep.nothing
    case cap =>
      unfold bCap
      split
      · split
        · split
          · exact Keep.here
          · exact Keep.nothing
        · exact Keep.nothing
      · exact Keep.nothing
    case min =>
      unfold bMin
      split
      · split
        · exact Keep.here
        · exact Keep.nothing
      · exact Keep.nothing
    case max =>
      unfold bMin
      split
      · split
        · exact Keep.here
        · exact Keep.nothing
      · exact Keep.nothing

/-- an operation that reads comes to its value where it is held to it -/
theorem sameAt_ok {h : LH} {r : Rd} (hc : isCall r.o.op = false) (hs : sameAt E h r = true) : step1 E h r.t r.o.op = some (r.v, h) := by
  unfold sameAt at hs
  split at hs
  · rename_i v h' hv
    simp only [Bool.and_eq_true] at hs
    have h1 := LV.beq_ok _ _ hs.1
    have h2 := step1_keep hc v h' hv (Nat.eq_of_beq_eq_true hs.2)
    rw [hv, h1, h2]
  · cases hs

end Go.Ev
namespace Go.Ev
open Go Go.RowKit

variable {E : Env} {P : Program} {φ : Phi} {w0 : Base} {w : World} {h h' : LH}

def MkOk (P : Program) (φ : Phi) (w : World) (s : Sem Next) (ob : LObj) (mv : MV) : Prop :=
  ∃ O X C sz, s.run P w = .ok (.value X) (w.alloc O) ∧ (∀ ψ : Phi, Le φ ψ → ObjRel ψ (w.alloc O) ⟨w.heap.size, 0, C, sz⟩ true ob) ∧
    ∀ (ψ : Phi) (r : Nat), ψ r = some ⟨w.heap.size, 0, C, sz⟩ → inst ψ (mv.at r) = some X

theorem mk_new {cs : List LV} {xs : List Value} (hx : insts φ cs = some xs) (e : TypeId) : ∀ ψ : Phi, Le φ ψ → ObjRel ψ (w.alloc (.cells ⟨xs⟩ e)) ⟨w.heap.size, 0, 0, 0⟩ true (.cells (T.ofListFrom cs 0 .nil) cs.length none) := by
  intro ψ hle
  have := objRel_new (ψ := ψ) (w := w) (ys := []) (e := e) (own := none) (C := 0) (sz := 0) (fr := (0, 0)) (insts_mono hle _ _ hx) (.inl rfl) (fun s hs => by cases hs)
  simpa using this

theorem madeOf_some {cs : List LV} {mv mv' : MV} {ob : LObj} (h : madeOf cs mv = some (ob, mv')) : ob = .cells (T.ofListFrom cs 0 .nil) cs.length none ∧ mv' = mv := by
  simp only [madeOf, mkCells_eq, Option.some.injEq, Prod.mk.injEq] at h
  exact ⟨h.1.symm, h.2.symm⟩

theorem inst_at_ptr {ψ : Phi} {r : Nat} {R : Nat} (h : ψ r = some ⟨R, 0, 0, 0⟩) : inst ψ (MV.ptr.at r) = some (.pointer (some ⟨R, 0, none⟩)) := by simp [MV.at, inst, h]
theorem inst_at_sl {ψ : Phi} {r R l c : Nat} (h : ψ r = some ⟨R, 0, 0, 0⟩) : inst ψ ((MV.sl l c).at r) = some (.slice (some ⟨R, 0, none⟩) l c) := by simp [MV.at, inst, h]
theorem inst_at_map {ψ : Phi} {r R : Nat} (h : ψ r = some ⟨R, 0, 0, 0⟩) : inst ψ (MV.map.at r) = some (.map (some R)) := by simp [MV.at, inst, h]

theorem makeOf_ok (hT : Tabs E P) (hg : Glob φ E.ng) {nt : Nat} {a : Act} {t : T LV} (ht : TmpsRel φ nt t a.tmps) {o : Oper} {ob : LObj} {mv : MV} (hv : makeOf E t o.op = some (ob, mv)) (w : World) :
    MkOk P φ w (execOp a.eval o) ob mv := by
  have ev : ∀ {x : Operand} {u : LV}, evalO E t x = some u → inst φ u = some (a.eval x) := fun hx => evalO_ok ht hg hx
  unfold execOp
  generalize o.type = oty
  generalize o.op = op at *
  cases op <;> simp only [makeOf] at hv <;> try (cases hv; done)
  all_goals dsimp only
  case alloc e =>
    rw [obind_some] at hv
    obtain ⟨z, hz, hv⟩ := hv
    obtain ⟨rfl, rfl⟩ := madeOf_some hv
    obtain ⟨i, Z, hi, hZ, _, hzs⟩ := zeroCells_ok hT hz (φ := φ)
    exact ⟨_, _, 0, 0, by simp [Instr.alloc, zeroValue, typeInfo, hi, hZ, newVar, newRow], mk_new hzs e, fun ψ r hr => inst_at_ptr hr⟩
  case box e x =>
    rw [obind_some] at hv
    obtain ⟨u, h1, hv⟩ := hv
    obtain ⟨rfl, rfl⟩ := madeOf_some hv
    exact ⟨_, _, 0, 0, by simp [Instr.box, newVar, newRow], mk_new (inst_cells (ev h1)) e, fun ψ r hr => inst_at_ptr hr⟩
  case buildSlice ty n ps =>
    simp only [obind_some] at hv
    obtain ⟨pv, h1, d, hd, hv⟩ := hv
    split at hv
    · rename_i e
      simp only [obind_some] at hv
      obtain ⟨sz, hs, z, hz, hv⟩ := hv
      cases hb : (Nat.ble (Nat.mul n sz) 16777216 && Nat.beq z.length sz) with
      | false => simp only [hb, cond_false] at hv; cases hv
      | true =>
        simp only [hb, cond_true, obind_some] at hv
        obtain ⟨cs, hf, hv⟩ := hv
        obtain ⟨rfl, rfl⟩ := madeOf_some hv
        simp only [Bool.and_eq_true] at hb
        have hle := Nat.le_of_ble_eq_true hb.1
        have hzl := Nat.eq_of_beq_eq_true hb.2
        have hp := evalP_ok ht hg h1
        have he : (ps.map fun (i, x) => (i, a.eval x)) = ⟨ps.toList.map fun p => (p.1, a.eval p.2)⟩ := by apply Array.ext'; simp
        simp only [he]
        generalize ps.toList.map (fun p => (p.1, a.eval p.2)) = Ps at *
        obtain ⟨i, Z, hi, hZ, _, hzs⟩ := zeroCells_ok hT hz (φ := φ)
        have hu := desc_ok hT hd
        have hZl : Z.cells.size = sz := by have := insts_length hzs; simpa [hzl] using this
        obtain ⟨Out, h1, h2⟩ := fill_ok _ _ cs Ps _ hp (insts_repl hzs n) hf
        have h1' : Instr.fill (fun i => some (i * sz, sz)) ⟨(List.replicate n Z.cells.toList).flatten⟩ Ps = some ⟨Out⟩ := h1
        refine ⟨.cells ⟨Out⟩ e, .slice (some ⟨w.heap.size, 0, none⟩) n n, 0, 0, ?_, mk_new h2 e, fun ψ r hr => inst_at_sl hr⟩
        have hn : ¬ 2 ^ 24 < n * sz := by have : n * sz ≤ 16777216 := hle; omega
        by_cases h0 : n * sz = 0
        · have hz0 : (List.replicate n Z.cells.toList).flatten = [] := by
            apply List.eq_nil_of_length_eq_zero
            simp [hZl, h0]
          rw [hz0] at h1'
          simp [Instr.buildSlice, run_underlying hu, sizeOf_run hT hs, h0, newRow, Array.range_zero', h1']
        · have hze := zeroes_eq hZl (n := n) (m := n * sz) rfl
          simp [Instr.buildSlice, run_underlying hu, sizeOf_run hT hs, hn, h0, zeroValue, typeInfo, hi, hZ, newRow, hze, h1']
    · cases hv
  case makeMap ty r =>
    cases r with
    | some r => cases hv
    | none =>
      simp only [Option.some.injEq, Prod.mk.injEq] at hv
      obtain ⟨rfl, rfl⟩ := hv
      refine ⟨.map #[] 0, .map (some w.heap.size), 0, 0, by simp [Instr.makeMap], fun ψ hle => ?_, fun ψ r hr => inst_at_map hr⟩
      exact ⟨#[], by show (w.heap.push _)[w.heap.size]? = _; simp, rfl⟩
  case makeSlice ty l c =>
    simp only [obind_some] at hv
    obtain ⟨u, h1, u', h2, d, hd, hv⟩ := hv
    split at hv
    · rename_i e
      simp only [obind_some] at hv
      obtain ⟨sz, hs, z, hz, hv⟩ := hv
      split at hv
      · rename_i kl l'
        split at hv
        · rename_i kc c'
          cases hb : (Nat.ble l' c' && (Nat.ble c' 16777216 && Nat.beq z.length sz)) with
          | false => simp only [hb, cond_false] at hv; cases hv
          | true =>
            simp only [hb, cond_true, fNat_eq] at hv
            obtain ⟨rfl, rfl⟩ := madeOf_some hv
            simp only [Bool.and_eq_true] at hb
            have e1 := inst_int (ev h1); have e2 := inst_int (ev h2)
            rw [e1, e2]
            have hlc := Nat.le_of_ble_eq_true hb.1
            have hle := Nat.le_of_ble_eq_true hb.2.1
            have hzl := Nat.eq_of_beq_eq_true hb.2.2
            obtain ⟨i, Z, hi, hZ, hby, hzs⟩ := zeroCells_ok hT hz (φ := φ)
            have hu := desc_ok hT hd
            have hZl : Z.cells.size = sz := by have := insts_length hzs; simpa [hzl] using this
            obtain ⟨i', hi', hsz⟩ := sizeOf_info hT hs
            rw [hi] at hi'; cases hi'
            have hrun := run_make (P := P) w ty e i Z hu hi hZ kl kc (l' : Int) (c' : Int) (by omega) (by omega) (by
              have : i.bytes * c' ≤ 4096 * 16777216 := Nat.mul_le_mul hby hle
              have h2 : ((i.bytes * c' : Nat) : Int) ≤ 281474976710656 := by omega
              rwa [Int.natCast_mul] at h2) (by omega)
            simp only [Int.toNat_natCast] at hrun
            have hze := zeroes_eq hZl (n := c') (m := c' * i.size) (by rw [hsz])
            refine ⟨.cells ⟨(List.replicate c' Z.cells.toList).flatten⟩ e, .slice (some ⟨w.heap.size, 0, none⟩) l' c', 0, 0, ?_, mk_new (insts_repl hzs c') e, fun ψ r hr => inst_at_sl hr⟩
            rw [madeCells, hze] at hrun
            simp [hrun]
        · cases hv
      · cases hv
    · cases hv

theorem makeOf_congr {t t' : T LV} {op : Op} (ha : Agree t t' op.operands.toList) : makeOf E t op = makeOf E t' op := by
  have ev : ∀ x, x ∈ op.operands.toList → evalO E t x = evalO E t' x := fun x hx => evalO_mem ha hx
  cases op <;> simp only [makeOf]
  case box e x => rw [ev x (by simp [Op.operands])]
  case buildSlice ty n ps => rw [evalP_congr (t' := t')]; simpa [Op.operands] using ha
  case makeSlice ty x y => rw [ev x (by simp [Op.operands]), ev y (by simp [Op.operands])]

/-- a logical number that was kept is given away -/
theorem Rel.give (hr : Rel φ w0 w h) {r : Nat} (k : Blk) (hn : φ r = none) (hlo : h.lo ≤ r) (hnx : r < h.nx) (hz : ¬ w0.Z r) : Le φ (φ.put r k) ∧ Rel (φ.put r k) w0 w h := by
  have hle : Le φ (φ.put r k) := fun b kb hb => by
    unfold Phi.put
    rw [if_neg]
    · exact hb
    · rintro rfl; rw [hn] at hb; cases hb
  have hdom : ∀ b kb, φ.put r k b = some kb → b = r ∧ kb = k ∨ φ b = some kb := by
    intro b kb hb
    unfold Phi.put at hb
    split at hb
    · cases hb; exact .inl ⟨by assumption, rfl⟩
    · exact .inr hb
  refine ⟨hle, hr.below, fun b kb hb => ?_, fun b o kb hb hkb hl => ?_, fun b o hb => ?_, fun b kb hb hl => ?_, fun b hz' => ?_, fun b b' o o' kb kb' hb hb' hkb hkb' hl he => ?_⟩
  · rcases hdom b kb hb with ⟨rfl, _⟩ | hb
    · exact hnx
    · exact hr.dom _ _ hb
  · obtain ⟨k1, hk1, _⟩ := hr.objs b o hb
    have e1 := hle _ _ hk1; rw [hkb] at e1; cases e1
    exact hr.new b o _ hb hk1 hl
  · obtain ⟨kb, hkb, ho⟩ := hr.objs b o hb
    exact ⟨kb, hle _ _ hkb, ho.mono hle⟩
  · rcases hdom b kb hb with ⟨rfl, rfl⟩ | hb
    · omega
    · exact hr.old _ _ hb hl
  · obtain ⟨h1, h2⟩ := hr.res b hz'
    refine ⟨?_, h2⟩
    unfold Phi.put
    rw [if_neg (by rintro rfl; exact hz hz')]; exact h1
  · obtain ⟨k1, hk1, _⟩ := hr.objs b o hb
    obtain ⟨k2, hk2, _⟩ := hr.objs b' o' hb'
    have e1 := hle _ _ hk1; rw [hkb] at e1; cases e1
    have e2 := hle _ _ hk2; rw [hkb'] at e2; cases e2
    exact hr.inj b b' o o' _ _ hb hb' hk1 hk2 hl he

/-- a block that is there, at its number -/
theorem Rel.set (hr : Rel φ w0 w h) {r : Nat} {k : Blk} {o : LObj} (hk : φ r = some k) (hlo : h.lo ≤ r) (hB : ¬ w0.B k.R) (hO : ¬ w0.O k.R)
    (hun : ∀ b ob kb, h.m.get b = some ob → φ b = some kb → h.lo ≤ b → b ≠ r → kb.R ≠ k.R) (ho : ObjRel φ w k true o) : Rel φ w0 w ⟨h.m.set r o, h.nx, h.lo⟩ := by
  have hof : ∀ b ob, (h.m.set r o).get b = some ob → b = r ∧ ob = o ∨ b ≠ r ∧ h.m.get b = some ob := by
    intro b ob hb
    rw [T.get_set] at hb
    by_cases hbn : b = r
    · rw [if_pos hbn] at hb; cases hb; exact .inl ⟨hbn, rfl⟩
    · rw [if_neg hbn] at hb; exact .inr ⟨hbn, hb⟩
  have hun' : ∀ b ob kb, h.m.get b = some ob → φ b = some kb → b ≠ r → kb.R ≠ k.R := by
    intro b ob kb hb hkb hne
    rcases Nat.lt_or_ge b h.lo with hl | hl
    · intro he
      have := hr.old b kb hkb hl
      rw [he] at this; exact hO this
    · exact hun b ob kb hb hkb hl hne
  refine ⟨hr.below, hr.dom, fun b ob kb hb hkb hl => ?_, fun b ob hb => ?_, hr.old, hr.res, fun b b' ob ob' kb kb' hb hb' hkb hkb' hl he => ?_⟩
  · rcases hof b ob hb with ⟨rfl, rfl⟩ | ⟨_, hb⟩
    · rw [hk] at hkb; cases hkb; exact hB
    · exact hr.new b ob kb hb hkb hl
  · rcases hof b ob hb with ⟨rfl, rfl⟩ | ⟨_, hb⟩
    · exact ⟨k, hk, by rw [decide_eq_true hlo]; exact ho⟩
    · exact hr.objs b ob hb
  · rcases hof b ob hb with ⟨rfl, rfl⟩ | ⟨hn, hb1⟩ <;> rcases hof b' ob' hb' with ⟨rfl, rfl⟩ | ⟨hn', hb1'⟩
    · rfl
    · rw [hk] at hkb; cases hkb
      exact absurd he.symm (hun' b' ob' kb' hb1' hkb' hn')
    · rw [hk] at hkb'; cases hkb'
      exact absurd he (hun' b ob kb hb1 hkb hn)
    · exact hr.inj b b' ob ob' kb kb' hb1 hb1' hkb hkb' hl he

/-- fewer blocks are seen -/
theorem Rel.fewer (hr : Rel φ w0 w h) {m : T LObj} (hm : ∀ b o, m.get b = some o → h.m.get b = some o) : Rel φ w0 w ⟨m, h.nx, h.lo⟩ :=
  ⟨hr.below, hr.dom, fun b o k hb => hr.new b o k (hm b o hb), fun b o hb => hr.objs b o (hm b o hb), hr.old, hr.res, fun b b' o o' k k' hb hb' => hr.inj b b' o o' k k' (hm b o hb) (hm b' o' hb')⟩

end Go.Ev
