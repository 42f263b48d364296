/- How the logical heap lies in the world: the relation, and what its steps do to it. -/
/- The steps of the logical heap, and those of the world beside them: read, write, new blocks. -/
/- Numbers and texts: the evaluator's quick ways are the model's. -/
import Derived.Test.YtcjocfaknhpncaaGreatDoorXEa
import Derived.Laws.IdiomCopy
import Derived.Below
import Derived.Laws.IdiomStrings
import Derived.Laws.AppendOwn
import Derived.Laws.MakeOwn
import Derived.ChangeKeysEq
import Derived.Laws.Cells
import Derived.Laws.Entries
import Derived.Laws.StructEq
namespace Go.Ev
open Go Go.RowKit

/-- where a logical block lies: the block, where in it, how many elements there is room for, of how many cells -/
structure Blk where
  R : Nat
  o : Nat
  C : Nat
  sz : Nat

abbrev Phi := Nat → Option Blk

def instFn (φ : Phi) : Fn → Option Fn
  | .func k => some (.func k)
  | .yield l => match φ l with
    | some k => some (.yield k.R)
    | none => none
  | _ => none

mutual
def inst (φ : Phi) : LV → Option Value
  | .bool b => some (.bool b)
  | .int k n => some (.int k n)
  | .str s => some (.string ⟨⟨s⟩⟩)
  | .ptr none => some (.pointer none)
  | .ptr (some (b, o)) => match φ b with
    | some k => some (.pointer (some ⟨k.R, k.o + o, none⟩))
    | none => none
  | .sl none len cap _ => if len = 0 ∧ cap = 0 then some (.slice none 0 0) else none
  | .sl (some (b, o)) len cap none => match φ b with
    | some k => some (.slice (some ⟨k.R, k.o + o, none⟩) len cap)
    | none => none
  | .sl (some (b, o)) len cap (some w) => match φ b with
    | some k => if o = w * k.sz ∧ w + cap ≤ k.C then some (.slice (some ⟨k.R, k.o + o, none⟩) len (k.C - w)) else none
    | none => none
  | .map none => some (.map none)
  | .map (some r) => match φ r with
    | some k => some (.map (some k.R))
    | none => none
  | .fn f a c => match instFn φ f with
    | some f => match insts φ a with
      | some a => match insts φ c with
        | some c => some (.func f ⟨a⟩ ⟨c⟩)
        | none => none
      | none => none
    | none => none
  | .nilFn => some .nilFunc
  | .iface t v => match inst φ v with
    | some v => some (.iface t v)
    | none => none
  | .nilIface => some .nilIface
  | .agg cs => match insts φ cs with
    | some cs => some (.agg ⟨cs⟩)
    | none => none
  | .tup cs => match insts φ cs with
    | some cs => some (.tuple ⟨cs⟩)
    | none => none
def insts (φ : Phi) : List LV → Option (List Value)
  | [] => some []
  | v :: vs => match inst φ v with
    | some v => match insts φ vs with
      | some vs => some (v :: vs)
      | none => none
    | none => none
end

def Le (φ ψ : Phi) : Prop := ∀ b k, φ b = some k → ψ b = some k
theorem Le.refl (φ : Phi) : Le φ φ := fun _ _ h => h
theorem Le.trans {φ ψ χ : Phi} (h : Le φ ψ) (h' : Le ψ χ) : Le φ χ := fun b k hb => h' b k (h b k hb)

theorem instFn_mono {φ ψ : Phi} (h : Le φ ψ) {f g : Fn} (hf : instFn φ f = some g) : instFn ψ f = some g := by
  cases f <;> simp only [instFn] at hf ⊢ <;> try exact hf
  rename_i l
  cases hl : φ l with
  | none => simp [hl] at hf
  | some k => rw [hl] at hf; rw [h _ _ hl]; exact hf

mutual
theorem inst_mono {φ ψ : Phi} (h : Le φ ψ) : ∀ (v : LV) (x : Value), inst φ v = some x → inst ψ v = some x
  | .bool _, _, hx => hx
  | .int _ _, _, hx => hx
  | .str _, _, hx => hx
  | .ptr none, _, hx => hx
  | .ptr (some (b, o)), x, hx => by
    simp only [inst] at hx ⊢
    cases hb : φ b with
    | none => simp [hb] at hx
    | some k => rw [hb] at hx; rw [h _ _ hb]; exact hx
  | .sl none _ _ _, _, hx => by simpa only [inst] using hx
  | .sl (some (b, o)) _ _ none, x, hx => by
    simp only [inst] at hx ⊢
    cases hb : φ b with
    | none => simp [hb] at hx
    | some k => rw [hb] at hx; rw [h _ _ hb]; exact hx
  | .sl (some (b, o)) _ _ (some w), x, hx => by
    simp only [inst] at hx ⊢
    cases hb : φ b with
    | none => simp [hb] at hx
    | some k => rw [hb] at hx; rw [h _ _ hb]; exact hx
  | .map none, _, hx => hx
  | .map (some b), x, hx => by
    simp only [inst] at hx ⊢
    cases hb : φ b with
    | none => simp [hb] at hx
    | some k => rw [hb] at hx; rw [h _ _ hb]; exact hx
  | .fn f a c, x, hx => by
    simp only [inst] at hx ⊢
    cases hf : instFn φ f with
    | none => simp [hf] at hx
    | some f' =>
      cases ha : insts φ a with
      | none => simp [hf, ha] at hx
      | some a' =>
        cases hc : insts φ c with
        | none => simp [hf, ha, hc] at hx
        | some c' =>
          rw [instFn_mono h hf, insts_mono h a a' ha, insts_mono h c c' hc]
          simpa [hf, ha, hc] using hx
  | .nilFn, _, hx => hx
  | .iface t v, x, hx => by
    simp only [inst] at hx ⊢
    cases hv : inst φ v with
    | none => simp [hv] at hx
    | some v' => rw [inst_mono h v v' hv]; simpa [hv] using hx
  | .nilIface, _, hx => hx
  | .agg cs, x, hx => by
    simp only [inst] at hx ⊢
    cases hv : insts φ cs with
    | none => simp [hv] at hx
    | some v' => rw [insts_mono h cs v' hv]; simpa [hv] using hx
  | .tup cs, x, hx => by
    simp only [inst] at hx ⊢
    cases hv : insts φ cs with
    | none => simp [hv] at hx
    | some v' => rw [insts_mono h cs v' hv]; simpa [hv] using hx
theorem insts_mono {φ ψ : Phi} (h : Le φ ψ) : ∀ (v : List LV) (x : List Value), insts φ v = some x → insts ψ v = some x
  | [], _, hx => hx
  | v :: vs, x, hx => by
    simp only [insts] at hx ⊢
    cases hv : inst φ v with
    | none => simp [hv] at hx
    | some v' =>
      cases hvs : insts φ vs with
      | none => simp [hv, hvs] at hx
      | some vs' => rw [inst_mono h v v' hv, insts_mono h vs vs' hvs]; simpa [hv, hvs] using hx
end

theorem insts_length {φ : Phi} : ∀ {l : List LV} {xs : List Value}, insts φ l = some xs → xs.length = l.length
  | [], xs, h => by simp [insts] at h; simp [← h]
  | v :: vs, xs, h => by
    simp only [insts] at h
    cases hv : inst φ v with
    | none => simp [hv] at h
    | some v' =>
      cases hvs : insts φ vs with
      | none => simp [hv, hvs] at h
      | some vs' => simp [hv, hvs] at h; subst h; simp [insts_length hvs]
theorem insts_nil {φ : Phi} : insts φ [] = some [] := rfl
theorem insts_cons {φ : Phi} {v : LV} {vs : List LV} {x : List Value} : insts φ (v :: vs) = some x ↔ ∃ y ys, inst φ v = some y ∧ insts φ vs = some ys ∧ x = y :: ys := by
  simp only [insts]
  cases inst φ v <;> cases insts φ vs <;> simp [eq_comm]
theorem insts_get {φ : Phi} : ∀ {l : List LV} {xs : List Value}, insts φ l = some xs → ∀ (i : Nat) (v : LV), l[i]? = some v → ∃ x, xs[i]? = some x ∧ inst φ v = some x
  | [], _, _, i, v, hi => by simp at hi
  | u :: us, xs, h, i, v, hi => by
    obtain ⟨y, ys, h1, h2, rfl⟩ := insts_cons.1 h
    cases i with
    | zero => simp at hi; subst hi; exact ⟨y, by simp, h1⟩
    | succ i => simp at hi; obtain ⟨x, hx, hv⟩ := insts_get h2 i v hi; exact ⟨x, by simpa using hx, hv⟩
theorem insts_of_get {φ : Phi} : ∀ {l : List LV} {xs : List Value}, xs.length = l.length → (∀ (i : Nat) (v : LV), l[i]? = some v → ∃ x, xs[i]? = some x ∧ inst φ v = some x) → insts φ l = some xs
  | [], [], _, _ => rfl
  | [], _ :: _, h, _ => by simp at h
  | _ :: _, [], h, _ => by simp at h
  | u :: us, x :: xs, h, hi => by
    obtain ⟨y, hy, hu⟩ := hi 0 u (by simp)
    simp at hy; subst hy
    exact insts_cons.2 ⟨x, xs, hu, insts_of_get (by simpa using h) (fun i v hv => by
      obtain ⟨y, hy, hu⟩ := hi (i + 1) v (by simpa using hv); exact ⟨y, by simpa using hy, hu⟩), rfl⟩
theorem insts_append {φ : Phi} : ∀ {a b : List LV} {xs ys : List Value}, insts φ a = some xs → insts φ b = some ys → insts φ (a ++ b) = some (xs ++ ys)
  | [], b, xs, ys, ha, hb => by simp [insts] at ha; subst ha; simpa using hb
  | v :: vs, b, xs, ys, ha, hb => by
    obtain ⟨y, zs, h1, h2, rfl⟩ := insts_cons.1 ha
    exact insts_cons.2 ⟨y, zs ++ ys, h1, insts_append h2 hb, rfl⟩
theorem insts_take {φ : Phi} : ∀ {a : List LV} {xs : List Value} (n : Nat), insts φ a = some xs → insts φ (a.take n) = some (xs.take n)
  | _, _, 0, _ => by simp [insts]
  | [], xs, n + 1, h => by simp [insts] at h; subst h; simp [insts]
  | v :: vs, xs, n + 1, h => by
    obtain ⟨y, ys, h1, h2, rfl⟩ := insts_cons.1 h
    exact insts_cons.2 ⟨y, ys.take n, h1, insts_take n h2, rfl⟩
theorem insts_drop {φ : Phi} : ∀ {a : List LV} {xs : List Value} (n : Nat), insts φ a = some xs → insts φ (a.drop n) = some (xs.drop n)
  | _, _, 0, h => by simpa using h
  | [], xs, n + 1, h => by simp [insts] at h; subst h; simp [insts]
  | v :: vs, xs, n + 1, h => by
    obtain ⟨y, ys, h1, h2, rfl⟩ := insts_cons.1 h
    exact insts_drop n h2
theorem insts_repl {φ : Phi} {z : List LV} {xs : List Value} (h : insts φ z = some xs) : ∀ n, insts φ (repl z n) = some ((List.replicate n xs).flatten)
  | 0 => rfl
  | n + 1 => by simp only [repl, List.replicate_succ, List.flatten_cons]; exact insts_append h (insts_repl h n)

/-- what a logical value that is no struct stands for has one cell -/
theorem inst_one {φ : Phi} {v : LV} {x : Value} (h : inst φ v = some x) (hv : ∀ cs, v ≠ .agg cs) : x.cells = #[x] := by
  cases v with
  | agg cs => exact absurd rfl (hv cs)
  | ptr a =>
    cases a with
    | none => simp only [inst, Option.some.injEq] at h; subst h; rfl
    | some p => obtain ⟨b, o⟩ := p; simp only [inst] at h; split at h <;> first | (cases h; rfl) | cases h
  | sl a l c w =>
    cases a with
    | none => simp only [inst] at h; split at h <;> first | (cases h; rfl) | cases h
    | some p =>
      obtain ⟨b, o⟩ := p
      cases w with
      | none => simp only [inst] at h; split at h <;> first | (cases h; rfl) | cases h
      | some w => simp only [inst] at h; (repeat' split at h) <;> first | (cases h; rfl) | cases h
  | map a =>
    cases a with
    | none => simp only [inst, Option.some.injEq] at h; subst h; rfl
    | some p => simp only [inst] at h; split at h <;> first | (cases h; rfl) | cases h
  | _ =>
    simp only [inst] at h
    (repeat' split at h) <;> first | (cases h; rfl) | cases h

/-- a value's cells, and its logical cells -/
theorem inst_cells {φ : Phi} {v : LV} {x : Value} (h : inst φ v = some x) : insts φ v.cells = some x.cells.toList := by
  by_cases hv : ∃ cs, v = .agg cs
  · obtain ⟨cs, rfl⟩ := hv
    simp only [inst] at h
    cases hc : insts φ cs with
    | none => simp [hc] at h
    | some c => simp [hc] at h; subst h; simpa [LV.cells, Value.cells] using hc
  · have hv' : ∀ cs, v ≠ .agg cs := fun cs e => hv ⟨cs, e⟩
    have hx := inst_one h hv'
    have hc : v.cells = [v] := by cases v <;> first | rfl | exact absurd rfl (hv' _)
    rw [hx, hc]
    simp [insts, h]

theorem inst_plain {φ : Phi} {v : LV} {x : Value} (h : inst φ v = some x) (hp : v.plain = true) : x.oneCell' = true := by
  cases v with
  | agg cs => simp [LV.plain] at hp
  | tup cs => simp [LV.plain] at hp
  | ptr a =>
    cases a with
    | none => simp only [inst, Option.some.injEq] at h; subst h; rfl
    | some p => obtain ⟨b, o⟩ := p; simp only [inst] at h; split at h <;> first | (cases h; rfl) | cases h
  | sl a l c w =>
    cases a with
    | none => simp only [inst] at h; split at h <;> first | (cases h; rfl) | cases h
    | some p =>
      obtain ⟨b, o⟩ := p
      cases w with
      | none => simp only [inst] at h; split at h <;> first | (cases h; rfl) | cases h
      | some w => simp only [inst] at h; (repeat' split at h) <;> first | (cases h; rfl) | cases h
  | map a =>
    cases a with
    | none => simp only [inst, Option.some.injEq] at h; subst h; rfl
    | some p => simp only [inst] at h; split at h <;> first | (cases h; rfl) | cases h
  | _ =>
    simp only [inst] at h
    (repeat' split at h) <;> first | (cases h; rfl) | cases h

/-- the marks of loops among the deferred calls -/
def MarksRel (φ : Phi) : List DI → List Deferred → Prop
  | [], ds => ds = []
  | .call f args cap :: l, ds => ∃ As Cs r, insts φ args = some As ∧ insts φ cap = some Cs ∧ ds = { target := .fn (.func f) ⟨Cs⟩, args := ⟨As⟩ } :: r ∧ MarksRel φ l r
  | .mark D :: l, ds => ∃ k r, φ D = some k ∧ ds = { target := .collected k.R, args := #[] } :: r ∧ MarksRel φ l r

theorem MarksRel.mono {φ ψ : Phi} (h : Le φ ψ) : ∀ {l : List DI} {ds : List Deferred}, MarksRel φ l ds → MarksRel ψ l ds
  | [], _, hm => hm
  | .call .. :: _, _, ⟨as, cs, r, h1, h2, h3, h4⟩ => ⟨as, cs, r, insts_mono h _ _ h1, insts_mono h _ _ h2, h3, MarksRel.mono h h4⟩
  | .mark _ :: _, _, ⟨k, r, h1, h2, h3⟩ => ⟨k, r, h _ _ h1, h2, MarksRel.mono h h3⟩

structure TmpsRel (φ : Phi) (nt : Nat) (t : T LV) (a : Array Value) : Prop where
  size : nt ≤ a.size
  some : ∀ i v, t.get i = some v → ∃ x, a[i]? = some x ∧ inst φ v = some x
  none : ∀ i, t.get i = none → a.getD i undef = undef

theorem TmpsRel.mono {φ ψ : Phi} (h : Le φ ψ) {nt : Nat} {t : T LV} {a : Array Value} (hr : TmpsRel φ nt t a) : TmpsRel ψ nt t a :=
  ⟨hr.size, fun i v hv => let ⟨x, h1, h2⟩ := hr.some i v hv; ⟨x, h1, inst_mono h _ _ h2⟩, hr.none⟩

def instEs (φ : Phi) : List (LV × LV × Nat) → List MapEntry → Prop
  | [], es => es = []
  | (k, v, b) :: l, es => ∃ x y r, inst φ k = some x ∧ inst φ v = some y ∧ es = { key := x, val := y, born := b } :: r ∧ instEs φ l r

theorem instEs_mono {φ ψ : Phi} (h : Le φ ψ) : ∀ {l : List (LV × LV × Nat)} {es : List MapEntry}, instEs φ l es → instEs ψ l es
  | [], _, hm => hm
  | (_, _, _) :: _, _, ⟨x, y, r, h1, h2, h3, h4⟩ => ⟨x, y, r, inst_mono h _ _ h1, inst_mono h _ _ h2, h3, instEs_mono h h4⟩

def ObjRel (φ : Phi) (w : World) (k : Blk) (nb : Bool) : LObj → Prop
  | .cells c n own => ∃ rc et fr, w.heap[k.R]? = some (.cells rc et fr) ∧ (∀ i v, c.get i = some v → ∃ x, rc[k.o + i]? = some x ∧ inst φ v = some x) ∧ k.o + n ≤ rc.size ∧
      (nb = true → fr = (0, 0) ∨ rc.size ≤ fr.1) ∧ (∀ s, own = some s → nb = true ∧ k.sz = s ∧ k.o + k.C * s ≤ rc.size) ∧ (nb = true → own = none → k.o = 0)
  | .map es clock => ∃ es', w.heap[k.R]? = some (.map es' clock) ∧ instEs φ es es'.toList
  | .loop st pend nt t ps as body => ∃ r, w.heap[k.R]? = some (.loop r) ∧ r.state = st ∧ r.pending = pend ∧ r.params.toList = ps ∧ r.assign = as ∧ r.body = body ∧ TmpsRel φ nt t r.tmps
  | .defd => w.heap[k.R]? = some (.deferred (some []))

theorem ObjRel.mono {φ ψ : Phi} (h : Le φ ψ) {w : World} {k : Blk} {nb : Bool} {o : LObj} (hr : ObjRel φ w k nb o) : ObjRel ψ w k nb o := by
  cases o with
  | cells c n own =>
    obtain ⟨rc, et, fr, h1, h2, h3, h4, h5⟩ := hr
    exact ⟨rc, et, fr, h1, fun i v hv => let ⟨x, a, b⟩ := h2 i v hv; ⟨x, a, inst_mono h _ _ b⟩, h3, h4, h5⟩
  | map es c => obtain ⟨es', h1, h2⟩ := hr; exact ⟨es', h1, instEs_mono h h2⟩
  | loop st pend nt t ps as body => obtain ⟨r, h1, h2, h3, h4, h5, h6, h7⟩ := hr; exact ⟨r, h1, h2, h3, h4, h5, h6, h7.mono h⟩
  | defd => exact hr

/-- what the relation reads of the world is one block -/
theorem ObjRel.world {φ : Phi} {w w' : World} {k : Blk} {nb : Bool} {o : LObj} (hr : ObjRel φ w k nb o) (h : w'.heap[k.R]? = w.heap[k.R]?) : ObjRel φ w' k nb o := by
  cases o <;> simp only [ObjRel] at hr ⊢ <;> rw [h] <;> exact hr

/-- what a call stands on: the world ahead of it, which blocks of that stay as they are, and which logical numbers are kept for others -/
structure Base where
  w : World
  B : Nat → Prop
  O : Nat → Prop
  Z : Nat → Prop
  bd : ∀ R, B R → R < w.heap.size
  od : ∀ R, O R → R < w.heap.size

/-- what was to stay has stayed -/
structure Kept (b : Base) (w : World) : Prop where
  os : w.os = b.w.os
  tape : w.tape = b.w.tape
  output : w.output = b.w.output
  size : b.w.heap.size ≤ w.heap.size
  block : ∀ R, b.B R → w.heap[R]? = b.w.heap[R]?

theorem Kept.step {b : Base} {w w' : World} (h : Kept b w) (h1 : w'.os = w.os) (h2 : w'.tape = w.tape) (h3 : w'.output = w.output) (h4 : w.heap.size ≤ w'.heap.size) (h5 : ∀ R, b.B R → w'.heap[R]? = w.heap[R]?) : Kept b w' :=
  ⟨h1.trans h.os, h2.trans h.tape, h3.trans h.output, Nat.le_trans h.size h4, fun R hR => (h5 R hR).trans (h.block R hR)⟩
theorem Kept.fresh {b : Base} {w : World} (h : Kept b w) : ¬ b.B w.heap.size := fun hB => Nat.lt_irrefl _ (Nat.lt_of_lt_of_le (b.bd _ hB) h.size)
theorem Kept.alloc {b : Base} {w : World} (h : Kept b w) (O : Obj) : Kept b (w.alloc O) :=
  h.step rfl rfl rfl (by simp) fun R hR => Below.heap_alloc _ _ _ (Nat.lt_of_lt_of_le (b.bd _ hR) h.size)

theorem Kept.setCell {b : Base} {w : World} (h : Kept b w) {p : Addr} (hp : ¬ b.B p.block) (u : Value) : Kept b (w.setCell p u) :=
  h.step rfl rfl rfl (by simp [World.setCell]) fun R hR => Below.heap_setCell _ _ _ _ (by rintro rfl; exact hp hR)
theorem Kept.setRow {b : Base} {w : World} (h : Kept b w) {g : Nat} (hp : ¬ b.B g) (cs : Array Value) : Kept b (w.setRow g cs) :=
  h.step rfl rfl rfl (by simp) fun R hR => setRow_other w g R cs (by rintro rfl; exact hp hR)
theorem Kept.setObj {b : Base} {w : World} (h : Kept b w) {r : Nat} (hp : ¬ b.B r) (o : Obj) : Kept b { w with heap := w.heap.setIfInBounds r o } :=
  h.step rfl rfl rfl (by simp) fun R hR => by
    show (w.heap.setIfInBounds r o)[R]? = _
    rw [Array.getElem?_setIfInBounds_ne]
    rintro rfl; exact hp hR

structure Rel (φ : Phi) (w0 : Base) (w : World) (h : LH) : Prop where
  below : Kept w0 w
  dom : ∀ b k, φ b = some k → b < h.nx
  new : ∀ b o k, h.m.get b = some o → φ b = some k → h.lo ≤ b → ¬ w0.B k.R
  objs : ∀ b o, h.m.get b = some o → ∃ k, φ b = some k ∧ ObjRel φ w k (decide (h.lo ≤ b)) o
  old : ∀ b k, φ b = some k → b < h.lo → w0.O k.R
  res : ∀ b, w0.Z b → φ b = none ∧ b < h.nx
  inj : ∀ b b' o o' k k', h.m.get b = some o → h.m.get b' = some o' → φ b = some k → φ b' = some k' → h.lo ≤ b → k.R = k'.R → b = b'

end Go.Ev
namespace Go.Ev
open Go Go.RowKit

variable {P : Program} {φ : Phi} {w0 : Base} {w : World} {h : LH}

theorem addr_add (R o n : Nat) : (⟨R, o, none⟩ : Addr).add n = ⟨R, o + n, none⟩ := by unfold Addr.add; split <;> simp_all

theorem Rel.phi (hr : Rel φ w0 w h) {b : Nat} {o : LObj} (hb : h.m.get b = some o) : ∃ k, φ b = some k ∧ ObjRel φ w k (decide (h.lo ≤ b)) o := hr.objs b o hb

theorem cell_of_heap {w : World} {R : Nat} {rc : Array Value} {et : TypeId} {fr : Nat × Nat} (hw : w.heap[R]? = some (.cells rc et fr)) (o : Nat) : w.cell? ⟨R, o, none⟩ = rc[o]? := by
  simp [World.cell?, hw]

theorem Rel.cell (hr : Rel φ w0 w h) {b o : Nat} {v : LV} (hc : h.cell b o = some v) {k : Blk} (hk : φ b = some k) : ∃ x, w.cell? ⟨k.R, k.o + o, none⟩ = some x ∧ inst φ v = some x := by
  unfold LH.cell at hc
  split at hc
  · rename_i c n own hb
    obtain ⟨k', hk', rc, et, fr, h1, h2, _⟩ := hr.objs b _ hb
    rw [hk] at hk'; cases hk'
    obtain ⟨x, hx, hi⟩ := h2 o v hc
    exact ⟨x, by rw [cell_of_heap h1]; exact hx, hi⟩
  · cases hc

theorem Rel.cell_phi (hr : Rel φ w0 w h) {b o : Nat} {v : LV} (hc : h.cell b o = some v) : ∃ k, φ b = some k := by
  unfold LH.cell at hc
  split at hc
  · rename_i c n own hb
    obtain ⟨k, hk, _⟩ := hr.objs b _ hb
    exact ⟨k, hk⟩
  · cases hc

theorem Rel.loads (hr : Rel φ w0 w h) {b : Nat} {k : Blk} (hk : φ b = some k) : ∀ (n o : Nat) (cs : List LV), loadCells h b o n = some cs →
    ∃ xs, insts φ cs = some xs ∧ xs.length = n ∧ ∀ j u, xs[j]? = some u → w.cell? ⟨k.R, k.o + o + j, none⟩ = some u
  | 0, o, cs, hl => by simp [loadCells] at hl; subst hl; exact ⟨[], rfl, rfl, by simp⟩
  | n + 1, o, cs, hl => by
    simp only [loadCells, obind_some] at hl
    obtain ⟨v, hv, r, hr', rfl'⟩ := hl
    simp only [Option.some.injEq] at rfl'
    subst rfl'
    obtain ⟨x, hx, hi⟩ := hr.cell hv hk
    obtain ⟨xs, h1, h2, h3⟩ := Rel.loads hr hk n (Nat.succ o) r hr'
    refine ⟨x :: xs, insts_cons.2 ⟨x, xs, hi, h1, rfl⟩, by simp [h2], fun j u hj => ?_⟩
    cases j with
    | zero => simp at hj; subst hj; simpa using hx
    | succ j =>
      have := h3 j u (by simpa using hj)
      rwa [show k.o + Nat.succ o + j = k.o + o + (j + 1) by omega] at this

theorem Rel.loads_run (hr : Rel φ w0 w h) {b o n : Nat} {k : Blk} (hk : φ b = some k) {cs : List LV} (hl : loadCells h b o n = some cs) :
    ∃ xs, insts φ cs = some xs ∧ xs.length = n ∧ (Go.loadCells ⟨k.R, k.o + o, none⟩ n).run P w = .ok ⟨xs⟩ w ∧ ∀ j u, xs[j]? = some u → w.cell? ⟨k.R, k.o + o + j, none⟩ = some u := by
  obtain ⟨xs, h1, h2, h3⟩ := hr.loads hk n o cs hl
  refine ⟨xs, h1, h2, ?_, h3⟩
  have := run_loadCells_list (P := P) w ⟨k.R, k.o + o, none⟩ xs (fun j u hj => by rw [addr_add]; exact h3 j u hj)
  rw [h2] at this; exact this

/-- the relation over a world that keeps all blocks but one -/
theorem Rel.turn (hr : Rel φ w0 w h) {b : Nat} {ob : LObj} {k : Blk} (hb : h.m.get b = some ob) (hk : φ b = some k) (hlo : h.lo ≤ b) {w' : World} {ob' : LObj}
    (hbel : Kept w0 w') (hsame : ∀ R, R ≠ k.R → w'.heap[R]? = w.heap[R]?) (hob : ObjRel φ w' k true ob') :
    Rel φ w0 w' ⟨h.m.set b ob', h.nx, h.lo⟩ := by
  refine ⟨hbel, hr.dom, fun c o kc hc hkc hl => ?_, fun c o hc => ?_, hr.old, hr.res, fun c c' o o' kc kc' hc hc' hkc hkc' hl he => ?_⟩
  · simp only [T.get_set] at hc
    by_cases hcb : c = b
    · subst hcb; exact hr.new c ob kc hb hkc hl
    · rw [if_neg hcb] at hc; exact hr.new c o kc hc hkc hl
  · simp only [T.get_set] at hc
    by_cases hcb : c = b
    · subst hcb
      simp only [if_true, Option.some.injEq] at hc
      subst hc
      exact ⟨k, hk, by rw [decide_eq_true hlo]; exact hob⟩
    · rw [if_neg hcb] at hc
      obtain ⟨kc, hkc, hoc⟩ := hr.objs c o hc
      refine ⟨kc, hkc, hoc.world (hsame _ fun he => ?_)⟩
      exact hcb (hr.inj b c ob o k kc hb hc hk hkc hlo he.symm).symm
  · simp only [T.get_set] at hc hc'
    have e1 : ∃ o, h.m.get c = some o := by
      by_cases hcb : c = b
      · subst hcb; exact ⟨_, hb⟩
      · rw [if_neg hcb] at hc; exact ⟨_, hc⟩
    have e2 : ∃ o, h.m.get c' = some o := by
      by_cases hcb : c' = b
      · subst hcb; exact ⟨_, hb⟩
      · rw [if_neg hcb] at hc'; exact ⟨_, hc'⟩
    obtain ⟨o1, h1⟩ := e1
    obtain ⟨o2, h2⟩ := e2
    exact hr.inj c c' o1 o2 kc kc' h1 h2 hkc hkc' hl he

theorem Rel.store (hr : Rel φ w0 w h) {b o : Nat} {v : LV} {h' : LH} {x : Value} {k : Blk} (hs : h.setCell b o v = some h') (hx : inst φ v = some x) (hk : φ b = some k) :
    (w.cell? ⟨k.R, k.o + o, none⟩).isSome = true ∧ w.frozen? ⟨k.R, k.o + o, none⟩ = false ∧ x.oneCell' = true ∧ Rel φ w0 (w.setCell ⟨k.R, k.o + o, none⟩ x) h' ∧ h'.nx = h.nx ∧ h'.lo = h.lo := by
  unfold LH.setCell at hs
  split at hs
  · rename_i c n own hb
    cases h1 : Nat.blt o n with
    | false => simp [h1] at hs
    | true =>
      cases h2 : Nat.ble h.lo b with
      | false => simp [h1, h2] at hs
      | true =>
        cases h3 : v.plain with
        | false => simp [h1, h2, h3] at hs
        | true =>
          simp only [h1, h2, h3, cond_true, T.force_eq, Option.some.injEq] at hs
          subst hs
          have hon : o < n := by simpa [Nat.blt_eq] using h1
          have hlo : h.lo ≤ b := Nat.le_of_ble_eq_true h2
          obtain ⟨k', hk', rc, et, fr, g1, g2, g3, g4, g5, g6⟩ := hr.objs b _ hb
          rw [hk] at hk'; cases hk'
          rw [decide_eq_true hlo] at g4 g5
          have hlt : k.o + o < rc.size := by omega
          have hcell : w.cell? ⟨k.R, k.o + o, none⟩ = some rc[k.o + o] := by rw [cell_of_heap g1]; exact Array.getElem?_eq_getElem hlt
          have hset : ∀ R, (w.setCell ⟨k.R, k.o + o, none⟩ x).heap[R]? = if R = k.R then some (.cells (rc.setIfInBounds (k.o + o) x) et fr) else w.heap[R]? := by
            intro R
            simp only [World.setCell, Array.getElem?_modify]
            by_cases hR : R = k.R
            · subst hR; simp [g1]
            · simp [hR, Ne.symm hR]
          refine ⟨by rw [hcell]; rfl, ?_, inst_plain hx h3, ?_, rfl, rfl⟩
          · simp only [World.frozen?, g1]
            rcases g4 rfl with rfl | hfr
            · simp
            · simp; omega
          · refine hr.turn hb hk hlo (hr.below.setCell (hr.new b _ k hb hk hlo) x) (fun R hR => by rw [hset, if_neg hR]) ?_
            refine ⟨rc.setIfInBounds (k.o + o) x, et, fr, by rw [hset, if_pos rfl], fun i u hu => ?_, by simpa using g3, by simpa using g4, fun s hs => ?_, fun _ => g6 (decide_eq_true hlo)⟩
            · rw [T.get_set] at hu
              by_cases hi : i = o
              · subst hi
                simp only [if_true, Option.some.injEq] at hu
                subst hu
                exact ⟨x, by simp [hlt], hx⟩
              · rw [if_neg hi] at hu
                obtain ⟨y, hy, hyi⟩ := g2 i u hu
                refine ⟨y, ?_, hyi⟩
                rw [Array.getElem?_setIfInBounds_ne (by omega)]; exact hy
            · obtain ⟨a, b', c'⟩ := g5 s hs
              exact ⟨a, b', by simpa using c'⟩
  · cases hs

theorem Rel.stores {b : Nat} {k : Blk} (hk : φ b = some k) : ∀ (vs : List LV) (o i : Nat) (xs : List Value) (h h' : LH) (w : World), Rel φ w0 w h → storeCells b vs (o + i) h = some h' → insts φ vs = some xs →
    ∃ w', (Go.storeCells ⟨k.R, k.o + o, none⟩ xs i).run P w = .ok () w' ∧ Rel φ w0 w' h' ∧ h'.nx = h.nx ∧ h'.lo = h.lo
  | [], o, i, xs, h, h', w, hr, hs, hx => by
    simp [storeCells] at hs; subst hs
    simp [insts] at hx; subst hx
    exact ⟨w, rfl, hr, rfl, rfl⟩
  | v :: vs, o, i, xs, h, h', w, hr, hs, hx => by
    simp only [storeCells, obind_some] at hs
    obtain ⟨h1, hs1, hs2⟩ := hs
    obtain ⟨y, ys, hy, hys, rfl⟩ := insts_cons.1 hx
    obtain ⟨a1, a2, a3, a4, a5, a6⟩ := hr.store hs1 hy hk
    obtain ⟨w', b1, b2, b3, b4⟩ := Rel.stores hk vs o (i + 1) ys h1 h' _ a4 (by simpa [Nat.add_assoc] using hs2) hys
    refine ⟨w', ?_, b2, b3.trans a5, b4.trans a6⟩
    obtain ⟨u, hu⟩ := Option.isSome_iff_exists.1 a1
    have hst : (Go.store ((⟨k.R, k.o + o, none⟩ : Addr).add i) y).run P w = .ok () (w.setCell ⟨k.R, k.o + (o + i), none⟩ y) := by
      rw [addr_add, run_store P w _ y _ a3, show k.o + o + i = k.o + (o + i) by omega]
      simp [hu, a2]
    simp only [Go.storeCells, Sem.run_bind, hst, Result.andThen_ok]
    exact b1

/-- a new block -/
def Phi.put (φ : Phi) (b : Nat) (k : Blk) : Phi := fun c => if c = b then some k else φ c
theorem Phi.put_same (φ : Phi) (b : Nat) (k : Blk) : φ.put b k b = some k := by simp [Phi.put]
theorem Rel.fresh (hr : Rel φ w0 w h) : φ h.nx = none := by
  cases hk : φ h.nx with
  | none => rfl
  | some k => exact absurd (hr.dom _ _ hk) (Nat.lt_irrefl _)
theorem Rel.le_put (hr : Rel φ w0 w h) (k : Blk) : Le φ (φ.put h.nx k) := fun b kb hb => by
  unfold Phi.put
  rw [if_neg]
  · exact hb
  · rintro rfl; rw [hr.fresh] at hb; cases hb

/-- a new logical number that no live block has -/
theorem Rel.name (hr : Rel φ w0 w h) (k : Blk) (hlo : h.lo ≤ h.nx) : Rel (φ.put h.nx k) w0 w ⟨h.m, Nat.succ h.nx, h.lo⟩ := by
  have hle := hr.le_put k
  have hdom : ∀ b kb, φ.put h.nx k b = some kb → b = h.nx ∧ kb = k ∨ φ b = some kb := by
    intro b kb hb
    unfold Phi.put at hb
    split at hb
    · cases hb; exact .inl ⟨by assumption, rfl⟩
    · exact .inr hb
  refine ⟨hr.below, fun b kb hb => ?_, fun b o kb hb hkb hl => ?_, fun b o hb => ?_, fun b kb hb hl => ?_, fun b hz => ?_, fun b b' o o' kb kb' hb hb' hkb hkb' hl he => ?_⟩
  · rcases hdom b kb hb with ⟨rfl, _⟩ | hb
    · exact Nat.lt_succ_self _
    · exact Nat.lt_succ_of_lt (hr.dom _ _ hb)
  · obtain ⟨k1, hk1, _⟩ := hr.objs b o hb
    have e1 := hle _ _ hk1; rw [hkb] at e1; cases e1
    exact hr.new b o _ hb hk1 hl
  · obtain ⟨kb, hkb, ho⟩ := hr.objs b o hb
    exact ⟨kb, hle _ _ hkb, ho.mono hle⟩
  · rcases hdom b kb hb with ⟨rfl, rfl⟩ | hb
    · exact absurd hlo (by simp only at hl; omega)
    · exact hr.old _ _ hb hl
  · obtain ⟨h1, h2⟩ := hr.res b hz
    refine ⟨?_, Nat.lt_succ_of_lt h2⟩
    unfold Phi.put
    rw [if_neg (by omega)]; exact h1
  · obtain ⟨k1, hk1, _⟩ := hr.objs b o hb
    obtain ⟨k2, hk2, _⟩ := hr.objs b' o' hb'
    have e1 := hle _ _ hk1; rw [hkb] at e1; cases e1
    have e2 := hle _ _ hk2; rw [hkb'] at e2; cases e2
    exact hr.inj b b' o o' _ _ hb hb' hk1 hk2 hl he

/-- a live block at a new number: its place in the world belongs to no other live one -/
theorem Rel.lay (hr : Rel φ w0 w h) (k : Blk) (o : LObj) (hlo : h.lo ≤ h.nx) (hR : ¬ w0.B k.R) (hun : ∀ b ob kb, h.m.get b = some ob → φ b = some kb → kb.R ≠ k.R)
    (ho : ObjRel (φ.put h.nx k) w k true o) : Rel (φ.put h.nx k) w0 w ⟨h.m.set h.nx o, Nat.succ h.nx, h.lo⟩ := by
  have h1 := hr.name k hlo
  have hle := hr.le_put k
  have hno : h.m.get h.nx = none := by
    cases hc : h.m.get h.nx with
    | none => rfl
    | some ob => obtain ⟨kb, hkb, _⟩ := hr.objs _ _ hc; rw [hr.fresh] at hkb; cases hkb
  have hof : ∀ b ob, (h.m.set h.nx o).get b = some ob → b = h.nx ∧ ob = o ∨ b ≠ h.nx ∧ h.m.get b = some ob := by
    intro b ob hb
    rw [T.get_set] at hb
    by_cases hbn : b = h.nx
    · rw [if_pos hbn] at hb; cases hb; exact .inl ⟨hbn, rfl⟩
    · rw [if_neg hbn] at hb; exact .inr ⟨hbn, hb⟩
  refine ⟨h1.below, h1.dom, fun b ob kb hb hkb hl => ?_, fun b ob hb => ?_, h1.old, h1.res, fun b b' ob ob' kb kb' hb hb' hkb hkb' hl he => ?_⟩
  · rcases hof b ob hb with ⟨rfl, rfl⟩ | ⟨_, hb⟩
    · rw [Phi.put_same] at hkb; cases hkb; exact hR
    · exact h1.new b ob kb hb hkb hl
  · rcases hof b ob hb with ⟨rfl, rfl⟩ | ⟨_, hb⟩
    · exact ⟨k, Phi.put_same _ _ _, by rw [decide_eq_true hlo]; exact ho⟩
    · exact h1.objs b ob hb
  · rcases hof b ob hb with ⟨rfl, rfl⟩ | ⟨hn, hb1⟩ <;> rcases hof b' ob' hb' with ⟨rfl, rfl⟩ | ⟨hn', hb1'⟩
    · rfl
    · rw [Phi.put_same] at hkb; cases hkb
      obtain ⟨k2, hk2, _⟩ := hr.objs b' ob' hb1'
      have e2 := hle _ _ hk2; rw [hkb'] at e2; cases e2
      exact absurd he.symm (hun b' ob' _ hb1' hk2)
    · rw [Phi.put_same] at hkb'; cases hkb'
      obtain ⟨k2, hk2, _⟩ := hr.objs b ob hb1
      have e2 := hle _ _ hk2; rw [hkb] at e2; cases e2
      exact absurd he (hun b ob _ hb1 hk2)
    · exact h1.inj b b' ob ob' kb kb' hb1 hb1' hkb hkb' hl he

theorem ObjRel.lt {φ : Phi} {w : World} {k : Blk} {nb : Bool} {o : LObj} (hr : ObjRel φ w k nb o) : k.R < w.heap.size := by
  have : ∃ ob, w.heap[k.R]? = some ob := by
    cases o <;> simp only [ObjRel] at hr
    · obtain ⟨_, _, _, h, _⟩ := hr; exact ⟨_, h⟩
    · obtain ⟨_, h, _⟩ := hr; exact ⟨_, h⟩
    · obtain ⟨_, h, _⟩ := hr; exact ⟨_, h⟩
    · exact ⟨_, hr⟩
  obtain ⟨ob, hob⟩ := this
  exact (Array.getElem?_eq_some_iff.1 hob).1

/-- the world has made a block that the logical heap does not see -/
theorem Rel.more (hr : Rel φ w0 w h) (O : Obj) : Rel φ w0 (w.alloc O) h :=
  ⟨hr.below.alloc O, hr.dom, hr.new,
   fun b o hb => let ⟨k, hk, ho⟩ := hr.objs b o hb; ⟨k, hk, ho.world (Below.heap_alloc _ _ _ ho.lt)⟩, hr.old, hr.res, hr.inj⟩

theorem Rel.drew (hr : Rel φ w0 w h) (n : Nat) : Rel φ w0 { w with drawn := n } h :=
  ⟨⟨hr.below.os, hr.below.tape, hr.below.output, hr.below.size, hr.below.block⟩, hr.dom, hr.new, fun b o hb => let ⟨k, hk, ho⟩ := hr.objs b o hb; ⟨k, hk, ho.world rfl⟩, hr.old, hr.res, hr.inj⟩

/-- a new block of the world, at a new number -/
theorem Rel.alloc (hr : Rel φ w0 w h) (hlo : h.lo ≤ h.nx) (O : Obj) (o : LObj) (C sz : Nat)
    (ho : ∀ ψ : Phi, Le φ ψ → ObjRel ψ (w.alloc O) ⟨w.heap.size, 0, C, sz⟩ true o) :
    Rel (φ.put h.nx ⟨w.heap.size, 0, C, sz⟩) w0 (w.alloc O) ⟨h.m.set h.nx o, Nat.succ h.nx, h.lo⟩ :=
  (hr.more O).lay _ o hlo hr.below.fresh (fun b ob kb hb hkb he => by
    obtain ⟨k2, hk2, ho2⟩ := hr.objs b ob hb
    rw [hkb] at hk2; cases hk2
    have := ho2.lt
    simp only at he; omega) (ho _ (hr.le_put _))

/-- a block goes -/
theorem Rel.del (hr : Rel φ w0 w h) (b : Nat) : Rel φ w0 w ⟨h.m.del b, h.nx, h.lo⟩ := by
  have hof : ∀ c o, (h.m.del b).get c = some o → h.m.get c = some o := by
    intro c o hc
    rw [T.get_del] at hc
    split at hc
    · cases hc
    · exact hc
  exact ⟨hr.below, hr.dom, fun c o k hc => hr.new c o k (hof c o hc), fun c o hc => hr.objs c o (hof c o hc), hr.old, hr.res, fun c c' o o' k k' hc hc' => hr.inj c c' o o' k k' (hof c o hc) (hof c' o' hc')⟩

theorem LH.alloc_eq {β : Type} (h : LH) (o : LObj) (c : Nat → LH → β) : h.alloc o c = c h.nx ⟨h.m.set h.nx o, Nat.succ h.nx, h.lo⟩ := by simp [LH.alloc]
theorem mkCells_eq {β : Type} (cs : List LV) (w : Option Nat) (c : LObj → β) : mkCells cs w c = c (.cells (T.ofListFrom cs 0 .nil) cs.length w) := by simp [mkCells]

/-- a row of cells that was just made -/
theorem objRel_new {ψ : Phi} {w : World} {cs : List LV} {xs ys : List Value} {e : TypeId} {own : Option Nat} {C sz : Nat} {fr : Nat × Nat} (hx : insts ψ cs = some xs)
    (hfr : fr = (0, 0) ∨ (xs ++ ys).length ≤ fr.1) (hown : ∀ s, own = some s → sz = s ∧ C * s ≤ (xs ++ ys).length) :
    ObjRel ψ (w.alloc (.cells ⟨xs ++ ys⟩ e fr)) ⟨w.heap.size, 0, C, sz⟩ true (.cells (T.ofListFrom cs 0 .nil) cs.length own) := by
  refine ⟨⟨xs ++ ys⟩, e, fr, (by show (w.heap.push _)[w.heap.size]? = _; simp), fun i v hv => ?_, ?_, fun _ => by simpa using hfr, fun s hs => ⟨rfl, (hown s hs).1, ?_⟩, fun _ _ => rfl⟩
  · rw [T.get_ofList] at hv
    obtain ⟨x, h1, h2⟩ := insts_get hx i v hv
    refine ⟨x, ?_, h2⟩
    have hlt := (List.getElem?_eq_some_iff.1 h1).1
    simp [List.getElem?_append_left hlt, h1]
  · simp [← insts_length hx]
  · have := (hown s hs).2; simpa using this

end Go.Ev
namespace Go.Ev
open Go Go.RowKit

theorem wrapF_eq (k : IntKind) (n : Int) : wrapF k n = k.wrap n := by
  cases n with
  | negSucc m => rfl
  | ofNat m =>
    show (bif Nat.ble m (maxN k) then Int.ofNat m else k.wrap (Int.ofNat m)) = k.wrap (Int.ofNat m)
    cases hm : Nat.ble m (maxN k) with
    | false => rfl
    | true =>
      have h : m ≤ maxN k := Nat.le_of_ble_eq_true hm
      rw [cond_true]
      cases k <;> simp only [maxN] at h <;> simp only [IntKind.wrap, IntKind.bits, IntKind.signed, Int.ofNat_eq_natCast] <;> simp <;> omega

theorem ltI_eq (x y : Int) : ltI x y = decide (x < y) := by
  rw [Bool.eq_iff_iff, decide_eq_true_eq]
  cases x with
  | ofNat a => cases y with
    | ofNat b => simp only [ltI, Nat.blt_eq, Int.ofNat_eq_natCast]; omega
    | negSucc b => simp only [ltI, Int.ofNat_eq_natCast, Int.negSucc_eq]; exact ⟨fun h => (by cases h), fun h => (by omega)⟩
  | negSucc a => cases y with
    | ofNat b => simp only [ltI, Int.ofNat_eq_natCast, Int.negSucc_eq, true_iff]; omega
    | negSucc b => simp only [ltI, Nat.blt_eq, Int.negSucc_eq]; omega

theorem eqI_eq (x y : Int) : eqI x y = (x == y) := by
  rw [Bool.eq_iff_iff]
  cases x <;> cases y <;> simp only [eqI, beq_iff_eq, Int.ofNat_eq_natCast, Int.negSucc_eq] <;> (try simp only [Nat.beq_eq]) <;> (constructor <;> intro h) <;> first | omega | cases h | (exfalso; omega)

theorem kIdx_inj {k k' : IntKind} (h : Nat.beq (kIdx k) (kIdx k') = true) : k = k' := by
  cases k <;> cases k' <;> first | rfl | (simp [kIdx] at h)

theorem maxN_bits (k : IntKind) : ∃ m, m ≤ k.bits ∧ maxN k + 1 = 2 ^ m := by
  cases k
  · exact ⟨7, by decide, by decide⟩
  · exact ⟨15, by decide, by decide⟩
  · exact ⟨31, by decide, by decide⟩
  · exact ⟨63, by decide, by decide⟩
  · exact ⟨8, by decide, by decide⟩
  · exact ⟨16, by decide, by decide⟩
  · exact ⟨32, by decide, by decide⟩
  · exact ⟨64, by decide, by decide⟩

theorem wrap_le (k : IntKind) (m : Nat) (h : m ≤ maxN k) : k.wrap (m : Int) = m := by
  rw [← wrapF_eq]
  show (bif Nat.ble m (maxN k) then Int.ofNat m else _) = _
  rw [Nat.ble_eq_true_of_le h]; rfl

theorem bits_small (k : IntKind) (a : Nat) (h : a ≤ maxN k) : (BitVec.ofInt k.bits (Int.ofNat a)).toNat = a := by
  obtain ⟨m, h1, h2⟩ := maxN_bits k
  have h3 : 2 ^ m ≤ 2 ^ k.bits := Nat.pow_le_pow_right (by decide) h1
  have : BitVec.ofInt k.bits (Int.ofNat a) = BitVec.ofNat k.bits a := by apply BitVec.eq_of_toNat_eq; simp
  rw [this, BitVec.toNat_ofNat, Nat.mod_eq_of_lt (by omega)]

theorem bitsN_eq {op : BinOp} {k : IntKind} {a b : Nat} {r : Int} (ha : a ≤ maxN k) (hb : b ≤ maxN k) (h : bitsN op a b = some r) :
    bitsB op k (BitVec.ofInt k.bits (.ofNat a)) (BitVec.ofInt k.bits (.ofNat b)) = some r := by
  obtain ⟨m, h1, h2⟩ := maxN_bits k
  have ha' : a < 2 ^ m := by omega
  have hb' : b < 2 ^ m := by omega
  cases op
  case and =>
    simp only [bitsN, Option.some.injEq] at h
    subst h
    simp only [bitsB, BitVec.toNat_and, bits_small k a ha, bits_small k b hb]
    rw [wrap_le]
    · rfl
    · have := Nat.and_lt_two_pow a hb'; omega
  case or =>
    simp only [bitsN, Option.some.injEq] at h
    subst h
    simp only [bitsB, BitVec.toNat_or, bits_small k a ha, bits_small k b hb]
    rw [wrap_le]
    · rfl
    · have := Nat.or_lt_two_pow ha' hb'; omega
  case xor =>
    simp only [bitsN, Option.some.injEq] at h
    subst h
    simp only [bitsB, BitVec.toNat_xor, bits_small k a ha, bits_small k b hb]
    rw [wrap_le]
    · rfl
    · have := Nat.xor_lt_two_pow ha' hb'; omega
  all_goals simp [bitsN] at h

theorem bitsI_eq {op : BinOp} {k : IntKind} {x y r : Int} (h : bitsI op k x y = some r) : bitsB op k (BitVec.ofInt k.bits x) (BitVec.ofInt k.bits y) = some r := by
  unfold bitsI at h
  cases x with
  | negSucc a => exact h
  | ofNat a =>
    cases y with
    | negSucc b => exact h
    | ofNat b =>
      simp only at h
      cases hab : (Nat.ble a (maxN k) && Nat.ble b (maxN k)) with
      | false => simpa [hab] using h
      | true =>
        rw [hab] at h
        simp only [cond_true] at h
        simp only [Bool.and_eq_true] at hab
        cases hn : bitsN op a b with
        | none => simpa [hn] using h
        | some r' =>
          simp only [hn, Option.some.injEq] at h
          subst h
          exact bitsN_eq (Nat.le_of_ble_eq_true hab.1) (Nat.le_of_ble_eq_true hab.2) hn

theorem run_intBits (P : Program) (w : World) {op : BinOp} {k : IntKind} {x y r : Int} (h : bitsI op k x y = some r) (hop : op = .and ∨ op = .or ∨ op = .xor ∨ op = .andNot) :
    (Op.intBits op k x y).run P w = .ok (.int k r) w := by
  have h := bitsI_eq h
  rcases hop with rfl | rfl | rfl | rfl <;> simp only [bitsB, Option.some.injEq] at h <;> subst h <;> rfl

end Go.Ev
