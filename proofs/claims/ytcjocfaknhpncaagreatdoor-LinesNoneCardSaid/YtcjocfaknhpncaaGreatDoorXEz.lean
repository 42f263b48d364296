/- Regions whose order is drawn: if a plan stands, any order goes. -/
import Derived.Test.YtcjocfaknhpncaaGreatDoorXEy
import Derived.OrdersIn
namespace Go.Ev
open Go Go.RowKit

variable {E : Env} {P : Program}

structure Plan (E : Env) (P : Program) (ro : Option Nat) (nt : Nat) (ops : Array Oper) (s s' : St) (m : Nat → Nat) (tt : Nat → T LV) (hb : Nat → LH) (v : Nat → LV) (wr : Nat → Bool) (mk : Nat → Option (LObj × MV)) (ab : Nat → List Pd) (pdN : List Pd) : Prop where
  edge : ∀ (k : Nat) (o : Oper), ops[k]? = some o → ∀ e ∈ o.after, Region.binds .any e = true → e.on < k
  mask : ∀ (k : Nat) (o : Oper), ops[k]? = some o → ∀ j, bit (m k) j = true → ∃ e ∈ o.after, Region.binds .any e = true ∧ (j = e.on ∨ bit (m e.on) j = true)
  below : ∀ k j, k < ops.size → bit (m k) j = true → j < k
  looks : ∀ (i k : Nat) (oi ok : Oper) (d : Tmp), ops[i]? = some oi → ops[k]? = some ok → i ≠ k → d ∈ oi.looksAt ops → ok.dst = some d → bit (m i) k = true ∨ bit (m k) i = true
  uniq : ∀ (i k : Nat) (oi ok : Oper) (d : Tmp), ops[i]? = some oi → ops[k]? = some ok → oi.dst = some d → ok.dst = some d → i = k
  past : ∀ i, i ≤ ops.size → ∀ (k : Nat) (o : Oper) (d : Tmp), k < i → ops[k]? = some o → o.dst = some d → (tt i).get d = some (v k)
  old : ∀ i, i ≤ ops.size → ∀ (d : Tmp), (∀ (k : Nat) (o : Oper), k < i → ops[k]? = some o → o.dst ≠ some d) → (tt i).get d = s.t.get d
  dsts : ∀ (k : Nat) (o : Oper) (d : Tmp), ops[k]? = some o → o.dst = some d → d < nt
  chain : ∀ j k, j < k → k < ops.size → wr j = true → wr k = true → bit (m k) j = true
  still : ∀ i, i < ops.size → wr i = false → hb (i + 1) = hb i
  hb0 : hb 0 = ⟨s.h.m, s.h.nx + ops.size, s.h.lo⟩
  hbN : s'.h = layP pdN (hb ops.size)
  abs : ∀ j q, j < ops.size → q ∈ ab j → bit (m j) q.i = true ∧ (∃ mv, mk q.i = some (q.ob, mv)) ∧ q.r = s.h.nx + q.i ∧ ∀ j', j' < j → wr j' = true → q ∉ ab j'
  fin : ∀ q ∈ pdN, (∃ mv, mk q.i = some (q.ob, mv)) ∧ q.r = s.h.nx + q.i ∧ q.i < ops.size ∧ ∀ j, j < ops.size → wr j = true → q ∉ ab j
  abp : ∀ j, (ab j).Pairwise fun q q' => q.i ≠ q'.i
  finp : pdN.Pairwise fun q q' => q.i ≠ q'.i
  mkw : ∀ i p, mk i = some p → wr i = false
  make : ∀ (i : Nat) (o : Oper) (ob : LObj) (mv : MV), ops[i]? = some o → mk i = some (ob, mv) → wanted ops (tt i) o = true ∧ v i = mv.at (s.h.nx + i) ∧ ∀ t, Agree (tt i) t o.op.operands.toList → makeOf E t o.op = some (ob, mv) ∧ ∀ c, o.op ≠ .defer c
  ttN : tt ops.size = s'.t
  marks : s'.d = s.d
  unw : ∀ (i : Nat) (o : Oper), ops[i]? = some o → wanted ops (tt i) o = false → v i = .undef ∧ wr i = false ∧ mk i = none
  write : ∀ (i : Nat) (o : Oper), ops[i]? = some o → wanted ops (tt i) o = true → wr i = true → ∀ t, Agree (tt i) t o.op.operands.toList → OpGoes E P ro o t (layP (ab i) (hb i)) (v i) (hb (i + 1))
  read : ∀ (i : Nat) (o : Oper), ops[i]? = some o → wanted ops (tt i) o = true → wr i = false → mk i = none → ∀ p, p ≤ ops.size → (∀ j, j < ops.size → wr j = true → bit (m i) j = true → j < p) → (∀ j, j < ops.size → wr j = true → bit (m j) i = true → p ≤ j) →
    step1 E (hb p) (tt i) o.op = some (v i, hb p)

def unl (listed : Array Bool) : Nat → Nat
  | 0 => 0
  | n + 1 => unl listed n + (if listed.getD n false = true then 0 else 1)
theorem getD_set_same {l : Array Bool} {i : Nat} (h : i < l.size) (d : Bool) : (l.setIfInBounds i true).getD i d = true := by simp [Array.getD_eq_getD_getElem?, h]
theorem getD_set_other {l : Array Bool} {i k : Nat} (h : i ≠ k) (d : Bool) : (l.setIfInBounds i true).getD k d = l.getD k d := by
  rw [Array.getD_eq_getD_getElem?, Array.getD_eq_getD_getElem?, Array.getElem?_setIfInBounds_ne h]
theorem unl_keep {l : Array Bool} {i : Nat} : ∀ n, n ≤ i → unl (l.setIfInBounds i true) n = unl l n
  | 0, _ => rfl
  | n + 1, h => by simp only [unl]; rw [unl_keep n (by omega), getD_set_other (by omega)]
theorem unl_set {l : Array Bool} {i : Nat} (hs : i < l.size) (hu : l.getD i false = false) : ∀ n, i < n → unl (l.setIfInBounds i true) n + 1 = unl l n
  | 0, h => by omega
  | n + 1, h => by
    simp only [unl]
    by_cases hi : i = n
    · subst hi
      rw [unl_keep i (Nat.le_refl _), getD_set_same hs, hu]
      simp
    · have := unl_set hs hu n (by omega)
      rw [getD_set_other hi]
      omega
theorem unl_zero {l : Array Bool} : ∀ n, unl l n = 0 → ∀ k, k < n → l.getD k false = true
  | 0, _, k, h => by omega
  | n + 1, hz, k, h => by
    simp only [unl] at hz
    by_cases hk : k = n
    · subst hk
      by_cases hq : l.getD k false = true
      · exact hq
      · simp [hq] at hz
    · exact unl_zero n (by omega) k (by omega)

/-- the blocks that were made and not laid yet -/
def PoolAt (s : St) (wr : Nat → Bool) (mk : Nat → Option (LObj × MV)) (ab : Nat → List Pd) (listed : Array Bool) (p : Nat) (q : Pd) : Prop :=
  (∃ mv, mk q.i = some (q.ob, mv)) ∧ q.r = s.h.nx + q.i ∧ listed.getD q.i false = true ∧ ∀ j, j < p → wr j = true → q ∉ ab j

def PoolOk (w0 : Base) (w : World) (χ : Phi) (h : LH) (q : Pd) : Prop :=
  ∃ k, χ q.r = some k ∧ ObjRel χ w k true q.ob ∧ ¬ w0.B k.R ∧ ¬ w0.O k.R ∧ ∀ b ob kb, h.m.get b = some ob → χ b = some kb → h.lo ≤ b → kb.R ≠ k.R

structure Inv (E : Env) (P : Program) (nt : Nat) (ops : Array Oper) (s : St) (m : Nat → Nat) (hb : Nat → LH) (v : Nat → LV) (wr : Nat → Bool) (mk : Nat → Option (LObj × MV)) (ab : Nat → List Pd) (φ : Phi) (w0 : Base) (listed : Array Bool) (p : Nat) (ψ : Phi) (t : T LV) (a : Act) (w : World) : Prop where
  size : listed.size = ops.size
  closed : ∀ k, k < ops.size → listed.getD k false = true → ∀ j, bit (m k) j = true → listed.getD j false = true
  pos : p ≤ ops.size
  wrs : ∀ j, j < ops.size → wr j = true → (listed.getD j false = true ↔ j < p)
  le : Le φ ψ
  sit : Sit E P ψ w0 w (hb p)
  lo : (hb p).lo = s.h.lo
  nx : s.h.nx + ops.size ≤ (hb p).nx
  tmps : TmpsRel ψ nt t a.tmps
  got : ∀ (k : Nat) (o : Oper) (d : Tmp), listed.getD k false = true → ops[k]? = some o → o.dst = some d → t.get d = some (v k)
  not : ∀ (d : Tmp), (∀ (k : Nat) (o : Oper), listed.getD k false = true → ops[k]? = some o → o.dst ≠ some d) → t.get d = s.t.get d
  marks : MarksRel ψ s.d a.defers
  pool : ∀ q, PoolAt s wr mk ab listed p q → PoolOk w0 w ψ (hb p) q
  apart : ∀ q q' k k', PoolAt s wr mk ab listed p q → PoolAt s wr mk ab listed p q' → q.i ≠ q'.i → ψ q.r = some k → ψ q'.r = some k' → k.R ≠ k'.R
  free : ∀ i u, mk i = some u → i < ops.size → listed.getD i false = false → ψ (s.h.nx + i) = none

theorem layP_cons (q : Pd) (l : List Pd) (h : LH) : layP (q :: l) h = layP l ⟨h.m.set q.r q.ob, h.nx, h.lo⟩ := by simp [layP]
theorem layP_nx : ∀ (l : List Pd) (h : LH), (layP l h).nx = h.nx ∧ (layP l h).lo = h.lo
  | [], _ => ⟨rfl, rfl⟩
  | q :: l, h => by rw [layP_cons]; exact layP_nx l _
theorem layP_get : ∀ (l : List Pd) (h : LH) (b : Nat) (ob : LObj), (layP l h).m.get b = some ob → h.m.get b = some ob ∨ ∃ q ∈ l, b = q.r
  | [], _, _, _, hb => .inl hb
  | q :: l, h, b, ob, hb => by
    rw [layP_cons] at hb
    rcases layP_get l _ b ob hb with h1 | ⟨q', h1, h2⟩
    · simp only [T.get_set] at h1
      by_cases hbr : b = q.r
      · exact .inr ⟨q, List.mem_cons_self, hbr⟩
      · rw [if_neg hbr] at h1; exact .inl h1
    · exact .inr ⟨q', List.mem_cons_of_mem _ h1, h2⟩

/-- the pool's blocks are laid -/
theorem layP_rel {w0 : Base} {w : World} {ψ : Phi} : ∀ (l : List Pd) (h : LH), Rel ψ w0 w h → (∀ q ∈ l, h.lo ≤ q.r ∧ PoolOk w0 w ψ h q) →
    l.Pairwise (fun q q' => ∀ k k', ψ q.r = some k → ψ q'.r = some k' → k.R ≠ k'.R) → Rel ψ w0 w (layP l h)
  | [], h, hr, _, _ => hr
  | q :: l, h, hr, hok, hap => by
    rw [layP_cons]
    obtain ⟨hlo, k, hk, ho, hB, hO, hun⟩ := hok q List.mem_cons_self
    rw [List.pairwise_cons] at hap
    refine layP_rel l _ (hr.set hk hlo hB hO (fun b ob kb hb hkb hl _ => hun b ob kb hb hkb hl) ho) (fun q' hq' => ?_) hap.2
    obtain ⟨hlo', k', hk', ho', hB', hO', hun'⟩ := hok q' (List.mem_cons_of_mem _ hq')
    refine ⟨hlo', k', hk', ho', hB', hO', fun b ob kb hb hkb hl => ?_⟩
    simp only [T.get_set] at hb
    by_cases hbr : b = q.r
    · subst hbr
      rw [hk] at hkb; cases hkb
      exact hap.1 q' hq' _ _ hk hk'
    · rw [if_neg hbr] at hb
      exact hun' b ob kb hb hkb hl

/-- with the rest of the pool kept out of reach -/
theorem Pool.guard {ψ : Phi} {w0 : Base} {w : World} {h : LH} (hs : Sit E P ψ w0 w h) (L : List Pd) (Q : Pd → Prop) (Zr : Nat → Prop) (hL : ∀ q ∈ L, h.lo ≤ q.r ∧ PoolOk w0 w ψ h q)
    (hLap : L.Pairwise (fun q q' => ∀ k k', ψ q.r = some k → ψ q'.r = some k' → k.R ≠ k'.R)) (hQ : ∀ q, Q q → PoolOk w0 w ψ h q)
    (hap : ∀ q q' k k', Q q → q' ∈ L → ψ q.r = some k → ψ q'.r = some k' → k.R ≠ k'.R) (hZ : ∀ b, Zr b → ψ b = none ∧ b < h.nx) :
    ∃ w1 : Base, Sit E P ψ w1 w (layP L h) ∧ ∀ (χ : Phi) (w' : World) (h' : LH), Le ψ χ → Sit E P χ w1 w' h' → Sit E P χ w0 w' h' ∧ (∀ b, Zr b → χ b = none) ∧ ∀ q, Q q → PoolOk w0 w' χ h' q := by
  have hrel := layP_rel L h hs.rel hL hLap
  obtain ⟨hnx, hlo⟩ := layP_nx L h
  refine ⟨⟨w, fun R => w0.B R ∨ ∃ q k, Q q ∧ ψ q.r = some k ∧ R = k.R, w0.O, fun b => w0.Z b ∨ Zr b, ?_, ?_⟩, ⟨⟨?_, hrel.dom, ?_, hrel.objs, hrel.old, ?_, hrel.inj⟩, by rw [hlo, hnx]; exact hs.lo, hs.glob⟩, ?_⟩
  · rintro R (hB | ⟨q, k, hq, hk, rfl⟩)
    · exact Nat.lt_of_lt_of_le (w0.bd R hB) hs.rel.below.size
    · obtain ⟨k', hk', ho, _⟩ := hQ q hq
      rw [hk] at hk'; cases hk'
      exact ho.lt
  · intro R hO
    exact Nat.lt_of_lt_of_le (w0.od R hO) hs.rel.below.size
  · exact ⟨rfl, rfl, rfl, Nat.le_refl _, fun R _ => rfl⟩
  · rintro b ob kb hb hkb hl (hB | ⟨q, k, hq, hk, he⟩)
    · exact hrel.new b ob kb hb hkb hl hB
    · obtain ⟨k', hk', ho, _, _, hun⟩ := hQ q hq
      rw [hk] at hk'; cases hk'
      rcases layP_get L h b ob hb with h1 | ⟨q', h1, rfl⟩
      · exact hun b ob kb h1 hkb (by rw [← hlo]; exact hl) he
      · exact hap q q' k kb hq h1 hk hkb he.symm
  · rintro b (hz | hz)
    · exact hrel.res b hz
    · obtain ⟨z1, z2⟩ := hZ b hz
      exact ⟨z1, by rw [hnx]; exact z2⟩
  · intro χ w' h' hle hs'
    have hk1 := hs'.rel.below
    refine ⟨⟨⟨?_, hs'.rel.dom, fun b o k hb hk hl hB => hs'.rel.new b o k hb hk hl (.inl hB), hs'.rel.objs, hs'.rel.old, fun b hz => hs'.rel.res b (.inl hz), hs'.rel.inj⟩, hs'.lo, hs'.glob⟩, fun b hz => (hs'.rel.res b (.inr hz)).1, fun q hq => ?_⟩
    · have h0 := hs.rel.below
      exact h0.step hk1.os hk1.tape hk1.output hk1.size fun R hR => hk1.block R (.inl hR)
    · obtain ⟨k, hk, ho, hB, hO, hun⟩ := hQ q hq
      refine ⟨k, hle _ _ hk, (ho.mono hle).world (hk1.block k.R (.inr ⟨q, k, hq, hk, rfl⟩)), hB, hO, fun b ob kb hb hkb hl he => ?_⟩
      exact hs'.rel.new b ob kb hb hkb hl (.inr ⟨q, k, hq, hk, he⟩)

theorem TmpsRel.same {ψ : Phi} {nt : Nat} {t t' : T LV} {a : Array Value} (h : TmpsRel ψ nt t a) (he : ∀ d, t.get d = t'.get d) : TmpsRel ψ nt t' a :=
  ⟨h.size, fun i v hv => h.some i v (by rw [he]; exact hv), fun i hi => h.none i (by rw [he]; exact hi)⟩

section
variable {ro : Option Nat} {nt : Nat} {ops : Array Oper} {s s' : St} {m : Nat → Nat} {tt : Nat → T LV} {hb : Nat → LH} {v : Nat → LV} {wr : Nat → Bool} {mk : Nat → Option (LObj × MV)} {ab : Nat → List Pd} {pdN : List Pd}

theorem Plan.same (pl : Plan E P ro nt ops s s' m tt hb v wr mk ab pdN) {p q : Nat} (hpq : p ≤ q) (hq : q ≤ ops.size) (hno : ∀ j, p ≤ j → j < q → wr j = false) : hb p = hb q := by
  induction q with
  | zero => have : p = 0 := by omega
            rw [this]
  | succ q ih =>
    by_cases he : p = q + 1
    · rw [he]
    · rw [pl.still q (by omega) (hno q (by omega) (by omega))]
      exact ih (by omega) (by omega) fun j h1 h2 => hno j h1 (by omega)

theorem Inv.poolLo {φ ψ : Phi} {w0 : Base} {w : World} {listed : Array Bool} {p : Nat} {t : T LV} {a : Act} (hi : Inv E P nt ops s m hb v wr mk ab φ w0 listed p ψ t a w) (hlo : s.h.lo ≤ s.h.nx) {q : Pd} (hq : PoolAt s wr mk ab listed p q) : (hb p).lo ≤ q.r := by
  rw [hi.lo, hq.2.1]; omega

theorem Inv.all {φ ψ : Phi} {w0 : Base} {w : World} {listed : Array Bool} {p : Nat} {t : T LV} {a : Act} (pl : Plan E P ro nt ops s s' m tt hb v wr mk ab pdN) (hlo0 : s.h.lo ≤ s.h.nx) (hi : Inv E P nt ops s m hb v wr mk ab φ w0 listed p ψ t a w) (hall : ∀ k, k < ops.size → listed.getD k false = true)
    {Q : Exit → Act → World → Prop} (hQ : Left E P φ w0 nt s s' (Q .normal)) : Q .normal a w := by
  have hp : hb p = hb ops.size := by
    exact pl.same hi.pos (Nat.le_refl _) fun j h1 h2 => by
      cases hw : wr j with
      | false => rfl
      | true => have := (hi.wrs j h2 hw).1 (hall j h2); omega
  have hat : ∀ q ∈ pdN, PoolAt s wr mk ab listed p q := fun q hq => by
    obtain ⟨f1, f2, f3, f4⟩ := pl.fin q hq
    exact ⟨f1, f2, hall _ f3, fun j hj hw => f4 j (by have := hi.pos; omega) hw⟩
  have hpair : pdN.Pairwise (fun q q' => ∀ k k', ψ q.r = some k → ψ q'.r = some k' → k.R ≠ k'.R) :=
    pl.finp.imp_of_mem fun {q q'} h1 h2 hne k k' hk hk' => hi.apart q q' k k' (hat q h1) (hat q' h2) hne hk hk'
  have hrel := layP_rel pdN (hb p) hi.sit.rel (fun q hq => ⟨hi.poolLo hlo0 (hat q hq), hi.pool q (hat q hq)⟩) hpair
  obtain ⟨hnx, hlo⟩ := layP_nx pdN (hb p)
  refine hQ ψ a w hi.le ?_ ?_ ?_ (hi.tmps.same fun d => ?_) (pl.marks ▸ hi.marks)
  · rw [pl.hbN, ← hp]
    exact ⟨hrel, by rw [hnx, hlo]; exact hi.sit.lo, hi.sit.glob⟩
  · rw [pl.hbN, ← hp, hlo]; exact hi.lo
  · rw [pl.hbN, ← hp, hnx]; have := hi.nx; omega
  rw [← pl.ttN]
  by_cases hd : ∃ (k : Nat) (o : Oper), ops[k]? = some o ∧ o.dst = some d
  · obtain ⟨k, o, h1, h2⟩ := hd
    have hk : k < ops.size := (Array.getElem?_eq_some_iff.1 h1).1
    rw [hi.got k o d (hall k hk) h1 h2, pl.past ops.size (Nat.le_refl _) k o d hk h1 h2]
  · rw [hi.not d fun k o _ h1 h2 => hd ⟨k, o, h1, h2⟩, pl.old ops.size (Nat.le_refl _) d fun k o _ h1 h2 => hd ⟨k, o, h1, h2⟩]

theorem none_ready {listed : Array Bool} (pl : Plan E P ro nt ops s s' m tt hb v wr mk ab pdN) (hs : listed.size = ops.size) (hr : Region.ready .any ops listed = []) : ∀ k, k < ops.size → listed.getD k false = true := by
  intro k
  induction k using Nat.strongRecOn with
  | _ k ih =>
    intro hk
    by_cases hq : listed.getD k false = true
    · exact hq
    · exfalso
      have hq : listed.getD k false = false := by simpa using hq
      have ho : ops[k]? = some ops[k] := Array.getElem?_eq_getElem hk
      have : k ∈ Region.ready .any ops listed := by
        refine mem_ready.2 ⟨?_, ops[k], ho, fun e he hb => ih e.on (pl.edge k _ ho e he hb) (Nat.lt_trans (pl.edge k _ ho e he hb) hk)⟩
        rw [Array.getD_eq_getD_getElem?] at hq ⊢
        rw [Array.getElem?_eq_getElem (by omega)] at hq ⊢
        exact hq
      rw [hr] at this
      cases this

/-- an operation that is ready sees what it saw in the text's order -/
theorem Inv.sees {φ ψ : Phi} {w0 : Base} {w : World} {listed : Array Bool} {p : Nat} {t : T LV} {a : Act} (pl : Plan E P ro nt ops s s' m tt hb v wr mk ab pdN) (hi : Inv E P nt ops s m hb v wr mk ab φ w0 listed p ψ t a w) {i : Nat} {o : Oper} (ho : ops[i]? = some o)
    (hun : listed.getD i false = false) (hmask : ∀ j, bit (m i) j = true → listed.getD j false = true) : ∀ d, d ∈ o.looksAt ops → (tt i).get d = t.get d := by
  intro d hd
  have hiN : i < ops.size := (Array.getElem?_eq_some_iff.1 ho).1
  have hlist : ∀ k, k < ops.size ∨ listed.getD k false = false := fun k => by
    by_cases hk : k < ops.size
    · exact .inl hk
    · refine .inr ?_
      rw [Array.getD_eq_getD_getElem?, Array.getElem?_eq_none (by rw [hi.size]; omega)]
      rfl
  by_cases hw : ∃ k ok, ops[k]? = some ok ∧ ok.dst = some d ∧ k ≠ i
  · obtain ⟨k, ok, h1, h2, h3⟩ := hw
    have hkN : k < ops.size := (Array.getElem?_eq_some_iff.1 h1).1
    rcases pl.looks i k o ok d ho h1 (Ne.symm h3) hd h2 with hb1 | hb1
    · rw [hi.got k ok d (hmask k hb1) h1 h2, pl.past i (by omega) k ok d (pl.below i k hiN hb1) h1 h2]
    · have hkun : listed.getD k false = false := by
        by_cases hq : listed.getD k false = true
        · have := hi.closed k hkN hq i hb1
          rw [hun] at this; cases this
        · simpa using hq
      have hik := pl.below k i hkN hb1
      rw [hi.not d fun k' o' hl h4 h5 => ?_, pl.old i (by omega) d fun k' o' hl h4 h5 => ?_]
      · have := pl.uniq k k' ok o' d h1 h4 h2 h5; subst this; omega
      · have := pl.uniq k k' ok o' d h1 h4 h2 h5; subst this; rw [hkun] at hl; cases hl
  · have hne : ∀ k ok, ops[k]? = some ok → ok.dst = some d → k = i := fun k ok h1 h2 => by
      by_cases h3 : k = i
      · exact h3
      · exact absurd ⟨k, ok, h1, h2, h3⟩ hw
    rw [hi.not d fun k' o' hl h4 h5 => ?_, pl.old i (by omega) d fun k' o' hl h4 h5 => ?_]
    · have := hne k' o' h4 h5; omega
    · have := hne k' o' h4 h5; subst this; rw [hun] at hl; cases hl

/-- on with one operation more -/
theorem Inv.next {φ ψ χ : Phi} {w0 : Base} {w w' : World} {listed : Array Bool} {p p' : Nat} {t : T LV} {a : Act} (pl : Plan E P ro nt ops s s' m tt hb v wr mk ab pdN) (hi : Inv E P nt ops s m hb v wr mk ab φ w0 listed p ψ t a w) {i : Nat} {o : Oper} (ho : ops[i]? = some o)
    (hun : listed.getD i false = false) (hmask : ∀ j, bit (m i) j = true → listed.getD j false = true) (hle : Le ψ χ) {X : Value} (hX : inst χ (v i) = some X) (hsit : Sit E P χ w0 w' (hb p')) (hlo : (hb p').lo = (hb p).lo) (hnx : (hb p).nx ≤ (hb p').nx)
    (hp' : p' ≤ ops.size) (hw' : ∀ j, j < ops.size → wr j = true → ((listed.setIfInBounds i true).getD j false = true ↔ j < p'))
    (hpool : ∀ q, PoolAt s wr mk ab (listed.setIfInBounds i true) p' q → PoolOk w0 w' χ (hb p') q)
    (hap : ∀ q q' k k', PoolAt s wr mk ab (listed.setIfInBounds i true) p' q → PoolAt s wr mk ab (listed.setIfInBounds i true) p' q' → q.i ≠ q'.i → χ q.r = some k → χ q'.r = some k' → k.R ≠ k'.R)
    (hfree : ∀ j u, mk j = some u → j < ops.size → (listed.setIfInBounds i true).getD j false = false → χ (s.h.nx + j) = none) :
    ∃ t', Inv E P nt ops s m hb v wr mk ab φ w0 (listed.setIfInBounds i true) p' χ t' (a.put o.dst X) w' := by
  have hiN : i < ops.size := (Array.getElem?_eq_some_iff.1 ho).1
  have hsz : i < listed.size := by rw [hi.size]; exact hiN
  have hput : ∃ t', put t nt o.dst (v i) = some t' ∧ (∀ d, o.dst = some d → t'.get d = some (v i)) ∧ ∀ d, o.dst ≠ some d → t'.get d = t.get d := by
    cases hd : o.dst with
    | none => exact ⟨t, rfl, fun d h => (by cases h), fun d _ => rfl⟩
    | some d =>
      have hlt := pl.dsts i o d ho hd
      have hb1 : Nat.blt d nt = true := by simpa [Nat.blt_eq] using hlt
      refine ⟨t.set d (v i), by simp [put, hb1], fun d' h => ?_, fun d' h => ?_⟩
      · cases h; rw [T.get_set, if_pos rfl]
      · rw [T.get_set, if_neg]; rintro rfl; exact h rfl
  obtain ⟨t', h1, h2, h3⟩ := hput
  refine ⟨t', ⟨by simpa using hi.size, fun k hk hl j hj => ?_, hp', hw', hi.le.trans hle, hsit, hlo.trans hi.lo, Nat.le_trans hi.nx hnx, tmpsPut (hi.tmps.mono hle) hX h1, fun k o' d hl ho' hd => ?_, fun d hno => ?_, by rw [put_defers]; exact hi.marks.mono hle, hpool, hap, hfree⟩⟩
  · by_cases hki : i = k
    · subst hki
      by_cases hji : i = j
      · subst hji; exact getD_set_same hsz false
      · rw [getD_set_other hji]; exact hmask j hj
    · rw [getD_set_other hki] at hl
      have := hi.closed k hk hl j hj
      by_cases hji : i = j
      · subst hji; exact getD_set_same hsz false
      · rw [getD_set_other hji]; exact this
  · by_cases hki : i = k
    · subst hki
      rw [ho] at ho'; cases ho'
      exact h2 d hd
    · rw [getD_set_other hki] at hl
      rw [h3 d fun hd' => hki (pl.uniq i k o o' d ho ho' hd' hd)]
      exact hi.got k o' d hl ho' hd
  · rw [h3 d (hno i o (getD_set_same hsz false) ho)]
    refine hi.not d fun k o' hl => hno k o' ?_
    by_cases hki : i = k
    · subst hki; rw [hun] at hl; cases hl
    · rw [getD_set_other hki]; exact hl

/-- on, an operation that makes no block: the pool but for what was laid stays -/
theorem Inv.past {φ ψ χ : Phi} {w0 : Base} {w w' : World} {listed : Array Bool} {p p' : Nat} {t : T LV} {a : Act} (pl : Plan E P ro nt ops s s' m tt hb v wr mk ab pdN) (hi : Inv E P nt ops s m hb v wr mk ab φ w0 listed p ψ t a w) {i : Nat} {o : Oper} (ho : ops[i]? = some o)
    (hun : listed.getD i false = false) (hmask : ∀ j, bit (m i) j = true → listed.getD j false = true) (hle : Le ψ χ) {X : Value} (hX : inst χ (v i) = some X) (hsit : Sit E P χ w0 w' (hb p')) (hlo : (hb p').lo = (hb p).lo) (hnx : (hb p).nx ≤ (hb p').nx)
    (hp' : p' ≤ ops.size) (hpp : p ≤ p') (hw' : ∀ j, j < ops.size → wr j = true → ((listed.setIfInBounds i true).getD j false = true ↔ j < p')) (hmk : mk i = none)
    (hpool : ∀ q, PoolAt s wr mk ab listed p q → (∀ j, j < p' → wr j = true → q ∉ ab j) → PoolOk w0 w' χ (hb p') q)
    (hfree : ∀ b, (∃ j u, mk j = some u ∧ j < ops.size ∧ listed.getD j false = false ∧ b = s.h.nx + j) → χ b = none) :
    ∃ t', Inv E P nt ops s m hb v wr mk ab φ w0 (listed.setIfInBounds i true) p' χ t' (a.put o.dst X) w' := by
  have hat : ∀ q, PoolAt s wr mk ab (listed.setIfInBounds i true) p' q → PoolAt s wr mk ab listed p q := by
    rintro q ⟨⟨mv, h1⟩, h2, h3, h4⟩
    have hne : i ≠ q.i := by rintro rfl; rw [hmk] at h1; cases h1
    rw [getD_set_other hne] at h3
    exact ⟨⟨mv, h1⟩, h2, h3, fun j hj hw => h4 j (by omega) hw⟩
  refine hi.next pl ho hun hmask hle hX hsit hlo hnx hp' hw' (fun q hq => hpool q (hat q hq) hq.2.2.2) (fun q q' k k' hq hq' hne hk hk' => ?_) fun j u hu hj hl => ?_
  · obtain ⟨k1, hk1, _⟩ := hi.pool q (hat q hq)
    obtain ⟨k2, hk2, _⟩ := hi.pool q' (hat q' hq')
    have e1 := hle _ _ hk1; rw [hk] at e1; cases e1
    have e2 := hle _ _ hk2; rw [hk'] at e2; cases e2
    exact hi.apart q q' _ _ (hat q hq) (hat q' hq') hne hk1 hk2
  · have hne : i ≠ j := by rintro rfl; rw [hmk] at hu; cases hu
    rw [getD_set_other hne] at hl
    exact hfree _ ⟨j, u, hu, hj, hl, rfl⟩

theorem plan_any (hT : Tabs E P) {φ : Phi} {w0 : Base} {F : Fence} (hro : RoOk φ ro F) (pl : Plan E P ro nt ops s s' m tt hb v wr mk ab pdN) (hlo0 : s.h.lo ≤ s.h.nx) (hz0 : ∀ b, w0.Z b → b < s.h.nx) {Q : Exit → Act → World → Prop} (hQ : Left E P φ w0 nt s s' (Q .normal)) :
    ∀ (fuel : Nat) (listed : Array Bool) (p : Nat) (ψ : Phi) (t : T LV) (a : Act) (w : World), Inv E P nt ops s m hb v wr mk ab φ w0 listed p ψ t a w → unl listed ops.size ≤ fuel → wpAnyIn F 0 P .any ops Q fuel listed a w
  | 0, listed, p, ψ, t, a, w, hi, hf => by
    have hall := unl_zero (l := listed) ops.size (by omega)
    refine ⟨?_, hi.all pl hlo0 hall hQ⟩
    cases hr : Region.ready .any ops listed with
    | nil => rfl
    | cons i r =>
      obtain ⟨h1, o, h2, _⟩ := mem_ready.1 (show i ∈ Region.ready .any ops listed by rw [hr]; simp)
      have hiN : i < ops.size := (Array.getElem?_eq_some_iff.1 h2).1
      have h3 := hall i hiN
      rw [Array.getD_eq_getD_getElem?, Array.getElem?_eq_getElem (by rw [hi.size]; exact hiN)] at h1 h3
      simp only [Option.getD_some] at h1 h3
      rw [h1] at h3; cases h3
  | fuel + 1, listed, p, ψ, t, a, w, hi, hf => by
    refine ⟨fun hr => hi.all pl hlo0 (none_ready pl hi.size hr) hQ, fun i hr => ?_⟩
    obtain ⟨h1, o, ho, hafter⟩ := mem_ready.1 hr
    have hiN : i < ops.size := (Array.getElem?_eq_some_iff.1 ho).1
    have hsz : i < listed.size := by rw [hi.size]; exact hiN
    have hun : listed.getD i false = false := by
      rw [Array.getD_eq_getD_getElem?, Array.getElem?_eq_getElem hsz] at h1 ⊢
      exact h1
    have hmask : ∀ j, bit (m i) j = true → listed.getD j false = true := by
      intro j hj
      obtain ⟨e, he, hb1, h2⟩ := pl.mask i o ho j hj
      have hl := hafter e he hb1
      rcases h2 with rfl | h2
      · exact hl
      · exact hi.closed e.on (Nat.lt_trans (pl.edge i o ho e he hb1) hiN) hl j h2
    have hsees := hi.sees pl ho hun hmask
    have hopr : Agree (tt i) t o.op.operands.toList := fun d hd => hsees d (List.mem_append_left _ (List.mem_filterMap.2 ⟨.tmp d, hd, rfl⟩))
    have hwant : wanted ops (tt i) o = wanted ops t o := by
      unfold wanted
      cases hg : o.guard with
      | none => rfl
      | some g =>
        obtain ⟨j, want⟩ := g
        simp only
        cases hj : ops[j]? with
        | none => rfl
        | some og =>
          simp only
          cases hd : og.dst with
          | none => rfl
          | some d =>
            simp only
            rw [hsees d (List.mem_append_right _ (by simp [hg, hj, hd]))]
    have hunl := unl_set hsz hun ops.size hiN
    have go : ∀ t' p' χ a' w', Inv E P nt ops s m hb v wr mk ab φ w0 (listed.setIfInBounds i true) p' χ t' a' w' → wpAnyIn F 0 P .any ops Q fuel (listed.setIfInBounds i true) a' w' :=
      fun t' p' χ a' w' hi' => plan_any hT hro pl hlo0 hz0 hQ fuel _ p' χ t' a' w' hi' (by omega)
    -- a reader, or what is not wanted, leaves the place among the writers
    have stay : wr i = false → ∀ j, j < ops.size → wr j = true → ((listed.setIfInBounds i true).getD j false = true ↔ j < p) := by
      intro hwi j hj hwj
      have hij : i ≠ j := by rintro rfl; rw [hwi] at hwj; cases hwj
      rw [getD_set_other hij]; exact hi.wrs j hj hwj
    have hfree0 : ∀ b, (∃ j u, mk j = some u ∧ j < ops.size ∧ listed.getD j false = false ∧ b = s.h.nx + j) → ψ b = none ∧ b < (hb p).nx := by
      rintro b ⟨j, u, h1, h2, h3, rfl⟩
      exact ⟨hi.free j u h1 h2 h3, by have := hi.nx; omega⟩
    unfold wpOpIn
    rw [ho]
    simp only
    rw [wanted_ok hi.tmps ops o]
    cases hw : wanted ops t o with
    | false =>
      simp only [Bool.false_eq_true, if_false]
      obtain ⟨hv, hwi, hmk⟩ := pl.unw i o ho (hwant.trans hw)
      refine ⟨fun f _ => hro.fn f, ?_⟩
      obtain ⟨t', hi'⟩ := hi.past pl ho hun hmask (Le.refl ψ) (X := undef) (by rw [hv]; rfl) hi.sit rfl (Nat.le_refl _) hi.pos (Nat.le_refl _) (stay hwi) hmk (fun q hq _ => hi.pool q hq) (fun b hb => (hfree0 b hb).1)
      exact go t' p ψ _ _ hi'
    | true =>
      simp only [if_true]
      cases hmk : mk i with
      | some u =>
        obtain ⟨ob, mv⟩ := u
        have hwi := pl.mkw i _ hmk
        obtain ⟨_, hv, hmake⟩ := pl.make i o ob mv ho hmk
        obtain ⟨hmk1, hnd⟩ := hmake t hopr
        obtain ⟨O, X, C, sz, r1, r2, r3⟩ := makeOf_ok hT hi.sit.glob hi.tmps hmk1 w
        have hfr := hi.free i _ hmk hiN hun
        obtain ⟨hle, hrel⟩ := hi.sit.rel.give (r := s.h.nx + i) ⟨w.heap.size, 0, C, sz⟩ hfr (by rw [hi.lo]; omega) (by have := hi.nx; omega) (fun hz => by have := hz0 _ hz; omega)
        have hrel' := hrel.more O
        have hsit' : Sit E P (ψ.put (s.h.nx + i) ⟨w.heap.size, 0, C, sz⟩) w0 (w.alloc O) (hb p) := hi.sit.trans hrel' hle rfl (Nat.le_refl _)
        have hX : inst (ψ.put (s.h.nx + i) ⟨w.heap.size, 0, C, sz⟩) (v i) = some X := by rw [hv]; exact r3 _ _ (Phi.put_same _ _ _)
        refine ⟨fun f _ => (hro.mono hi.le).fn f, ?_⟩
        rw [sem_noDefer hnd, r1]
        show wpAnyIn F 0 P .any ops Q fuel (listed.setIfInBounds i true) (a.put o.dst X) (w.alloc O)
        have old : ∀ q, PoolAt s wr mk ab (listed.setIfInBounds i true) p q → q.i ≠ i → PoolAt s wr mk ab listed p q := by
          rintro q ⟨h1, h2, h3, h4⟩ hne
          rw [getD_set_other (Ne.symm hne)] at h3
          exact ⟨h1, h2, h3, h4⟩
        have hput : ∀ j, j ≠ i → (ψ.put (s.h.nx + i) ⟨w.heap.size, 0, C, sz⟩) (s.h.nx + j) = ψ (s.h.nx + j) := by
          intro j hj
          unfold Phi.put
          rw [if_neg (by omega)]
        have hlt : ∀ q, PoolAt s wr mk ab listed p q → ∀ k, ψ q.r = some k → k.R < w.heap.size := by
          intro q hq k hk
          obtain ⟨k', hk', ho', _⟩ := hi.pool q hq
          rw [hk] at hk'; cases hk'
          exact ho'.lt
        refine Exists.elim (hi.next pl ho hun hmask hle hX hsit' rfl (Nat.le_refl _) hi.pos (stay hwi) (fun q hq => ?_) (fun q q' k k' hq hq' hne hk hk' => ?_) (fun j u hu hj hl => ?_)) fun t' hi' => go t' p _ _ _ hi'
        · by_cases hqi : q.i = i
          · obtain ⟨⟨mv', g1⟩, g2, g3, g4⟩ := hq
            rw [hqi, hmk] at g1
            simp only [Option.some.injEq, Prod.mk.injEq] at g1
            obtain ⟨g1, _⟩ := g1
            refine ⟨⟨w.heap.size, 0, C, sz⟩, by rw [g2, hqi]; exact Phi.put_same _ _ _, by rw [← g1]; exact r2 _ hle, hi.sit.rel.below.fresh, fun hO => ?_, fun b ob' kb hb hkb hl he => ?_⟩
            · have := Nat.lt_of_lt_of_le (w0.od _ hO) hi.sit.rel.below.size
              exact Nat.lt_irrefl _ this
            · obtain ⟨k2, hk2, ho2⟩ := hi.sit.rel.objs b ob' hb
              have e2 := hle _ _ hk2; rw [hkb] at e2; cases e2
              have := ho2.lt
              simp only at he; omega
          · obtain ⟨k, hk, ho', hB, hO, hun'⟩ := hi.pool q (old q hq hqi)
            refine ⟨k, hle _ _ hk, (ho'.mono hle).world (Below.heap_alloc _ _ _ ho'.lt), hB, hO, fun b ob' kb hb hkb hl => ?_⟩
            obtain ⟨k2, hk2, _⟩ := hi.sit.rel.objs b ob' hb
            have e2 := hle _ _ hk2; rw [hkb] at e2; cases e2
            exact hun' b ob' _ hb hk2 hl
        · have hnew : ∀ q : Pd, PoolAt s wr mk ab (listed.setIfInBounds i true) p q → q.i = i → ∀ k, (ψ.put (s.h.nx + i) ⟨w.heap.size, 0, C, sz⟩) q.r = some k → k.R = w.heap.size := by
            intro q hq hqi k hk
            rw [hq.2.1, hqi, Phi.put_same] at hk; cases hk; rfl
          have hold : ∀ q : Pd, PoolAt s wr mk ab (listed.setIfInBounds i true) p q → q.i ≠ i → ∀ k, (ψ.put (s.h.nx + i) ⟨w.heap.size, 0, C, sz⟩) q.r = some k → ψ q.r = some k := by
            intro q hq hqi k hk
            rw [hq.2.1, hput _ hqi, ← hq.2.1] at hk; exact hk
          by_cases hqi : q.i = i
          · have hqi' : q'.i ≠ i := fun h => hne (hqi.trans h.symm)
            rw [hnew q hq hqi k hk]
            have := hlt q' (old q' hq' hqi') k' (hold q' hq' hqi' k' hk')
            omega
          · by_cases hqi' : q'.i = i
            · rw [hnew q' hq' hqi' k' hk']
              have := hlt q (old q hq hqi) k (hold q hq hqi k hk)
              omega
            · exact hi.apart q q' k k' (old q hq hqi) (old q' hq' hqi') hne (hold q hq hqi k hk) (hold q' hq' hqi' k' hk')
        · have hne : j ≠ i := by
            rintro rfl
            rw [getD_set_same hsz] at hl; cases hl
          rw [hput j hne]
          rw [getD_set_other (Ne.symm hne)] at hl
          exact hi.free j u hu hj hl
      | none =>
        cases hwi : wr i with
        | false =>
          have hread := pl.read i o ho (hwant.trans hw) hwi hmk p hi.pos (fun j hj hwj hb1 => (hi.wrs j hj hwj).1 (hmask j hb1)) (fun j hj hwj hb1 => by
            rcases Nat.lt_or_ge j p with hlt | hge
            · have := hi.closed j hj ((hi.wrs j hj hwj).2 hlt) i hb1
              rw [hun] at this; cases this
            · exact hge)
          rw [step1_congr hopr] at hread
          obtain ⟨w1, hs1, hback⟩ := Pool.guard hi.sit [] (PoolAt s wr mk ab listed p) _ (fun q hq => by cases hq) List.Pairwise.nil (fun q hq => hi.pool q hq) (fun q q' k k' _ hq' => by cases hq') hfree0
          refine op_step hT hread ψ w1 w nt a F (hro.mono hi.le) hs1 hi.tmps _ Q fun X w' ⟨χ, b1, b2, b3, b4, b5⟩ => ?_
          obtain ⟨c1, c2, c3⟩ := hback χ w' _ b1 b3
          obtain ⟨t', hi'⟩ := hi.past pl ho hun hmask b1 b2 c1 rfl (Nat.le_refl _) hi.pos (Nat.le_refl _) (stay hwi) hmk (fun q hq _ => c3 q hq) c2
          exact go t' p χ _ _ hi'
        | true =>
          have hpi : p ≤ i := by
            rcases Nat.lt_or_ge i p with hlt | hge
            · have := (hi.wrs i hiN hwi).2 hlt
              rw [hun] at this; cases this
            · exact hge
          have hhb : hb p = hb i := pl.same hpi (Nat.le_of_lt hiN) fun j h2 h3 => by
            cases hwj : wr j with
            | false => rfl
            | true =>
              have := (hi.wrs j (by omega) hwj).1 (hmask j (pl.chain j i h3 hiN hwj hwi))
              omega
          have hop := pl.write i o ho (hwant.trans hw) hwi t hopr
          rw [← hhb] at hop
          have hat : ∀ q ∈ ab i, PoolAt s wr mk ab listed p q := fun q hq => by
            obtain ⟨f1, f2, f3, f4⟩ := pl.abs i q hiN hq
            exact ⟨f2, f3, hmask _ f1, fun j hj hwj => f4 j (by omega) hwj⟩
          have hpair : (ab i).Pairwise (fun q q' => ∀ k k', ψ q.r = some k → ψ q'.r = some k' → k.R ≠ k'.R) :=
            (pl.abp i).imp_of_mem fun {q q'} h1 h2 hne k k' hk hk' => hi.apart q q' k k' (hat q h1) (hat q' h2) hne hk hk'
          obtain ⟨w1, hs1, hback⟩ := Pool.guard hi.sit (ab i) (fun q => PoolAt s wr mk ab listed p q ∧ q ∉ ab i) _ (fun q hq => ⟨hi.poolLo hlo0 (hat q hq), hi.pool q (hat q hq)⟩) hpair (fun q hq => hi.pool q hq.1) (fun q q' k k' hq hq' hk hk' => by
            refine hi.apart q q' k k' hq.1 (hat q' hq') (fun he => hq.2 ?_) hk hk'
            obtain ⟨⟨mv1, e1⟩, e2, _⟩ := hq.1
            obtain ⟨⟨mv2, e3⟩, e4, _⟩ := hat q' hq'
            rw [he, e3] at e1
            simp only [Option.some.injEq, Prod.mk.injEq] at e1
            have : q = q' := by
              obtain ⟨qi, qr, qo⟩ := q
              obtain ⟨qi', qr', qo'⟩ := q'
              simp only at he e1 e2 e4
              simp only [Pd.mk.injEq]
              exact ⟨he, by rw [e2, e4, he], e1.1.symm⟩
            rw [this]; exact hq') hfree0
          refine hop ψ w1 w nt a F (hro.mono hi.le) hs1 hi.tmps _ Q fun X w' ⟨χ, b1, b2, b3, b4, b5⟩ => ?_
          obtain ⟨hnx, hlo⟩ := layP_nx (ab i) (hb p)
          obtain ⟨c1, c2, c3⟩ := hback χ w' _ b1 b3
          obtain ⟨t', hi'⟩ := hi.past pl ho hun hmask b1 b2 c1 (b4.trans hlo) (by rw [← hnx]; exact b5) hiN (by omega) (fun j hj hwj => by
            by_cases hij : i = j
            · subst hij
              rw [getD_set_same hsz]
              simp
            · rw [getD_set_other hij, hi.wrs j hj hwj]
              constructor
              · intro h; omega
              · intro h
                rcases Nat.lt_or_ge j p with hlt | hge
                · exact hlt
                · have := (hi.wrs j hj hwj).1 (hmask j (pl.chain j i (by omega) hiN hwj hwi))
                  exact this) hmk (fun q hq hno => c3 q ⟨hq, hno i (Nat.lt_succ_self _) hwi⟩) c2
          exact go t' (i + 1) χ _ _ hi'

theorem plan_ok (hT : Tabs E P) {φ : Phi} {w0 : Base} {w : World} {a : Act} {F : Fence} {id : Nat} (hro : RoOk φ ro F) (pl : Plan E P ro nt ops s s' m tt hb v wr mk ab pdN) (hs : Sit E P φ w0 w s.h) (ht : TmpsRel φ nt s.t a.tmps) (hm : MarksRel φ s.d a.defers) {Q : Exit → Act → World → Prop}
    (hQ : Left E P φ w0 nt s s' (Q .normal)) : (Code.region id ops true).wpIn F 0 P Q a w := by
  refine wpIn_region_any hT.mixed ?_
  have hfalse : ∀ k, (Array.replicate ops.size false).getD k false = false := fun k => by
    simp only [Array.getD_eq_getD_getElem?, Array.getElem?_replicate]
    split <;> rfl
  have hle : unl (Array.replicate ops.size false) ops.size ≤ ops.size := by
    have : ∀ n, unl (Array.replicate ops.size false) n ≤ n := by
      intro n
      induction n with
      | zero => exact Nat.le_refl _
      | succ n ih => simp only [unl]; split <;> omega
    exact this _
  have hr0 := hs.rel.drew (w.drawn + 1)
  have hsit : Sit E P φ w0 w.drew (hb 0) := by
    rw [pl.hb0]
    refine ⟨⟨hr0.below, fun b k hb => Nat.lt_of_lt_of_le (hr0.dom b k hb) (Nat.le_add_right _ _), hr0.new, hr0.objs, hr0.old, fun b hz => ⟨(hr0.res b hz).1, Nat.lt_of_lt_of_le (hr0.res b hz).2 (Nat.le_add_right _ _)⟩, hr0.inj⟩, Nat.le_trans hs.lo (Nat.le_add_right _ _), hs.glob⟩
  have hno : ∀ q, ¬ PoolAt s wr mk ab (Array.replicate ops.size false) 0 q := by
    rintro q ⟨_, _, h3, _⟩
    rw [hfalse] at h3; cases h3
  refine plan_any hT hro pl hs.lo (fun b hz => (hs.rel.res b hz).2) hQ ops.size _ 0 φ s.t a _ ⟨by simp, fun k _ hl => ?_, Nat.zero_le _, fun j hj hw => ?_, Le.refl _, hsit, by rw [pl.hb0], by rw [pl.hb0]; exact Nat.le_refl _, ht, fun k o d hl => ?_, fun _ _ => rfl, hm,
    fun q hq => absurd hq (hno q), fun q q' k k' hq => absurd hq (hno q), fun i u _ hi _ => ?_⟩ hle
  · rw [hfalse] at hl; cases hl
  · rw [hfalse]; simp
  · rw [hfalse] at hl; cases hl
  · cases hk : φ (s.h.nx + i) with
    | none => rfl
    | some k => have := hs.rel.dom _ _ hk; omega

end
end Go.Ev
