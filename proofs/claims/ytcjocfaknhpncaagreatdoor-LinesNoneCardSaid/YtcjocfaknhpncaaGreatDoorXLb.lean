/- The law at every world that its row speaks of. -/
/- The contract of the law. -/
/- The contract of the law. -/
/- The contract of the law, at every argument. -/
import Derived.Test.YtcjocfaknhpncaaGreatDoorXKa
import Derived.Test.YtcjocfaknhpncaaGreatDoorCards
import Derived.Test.YtcjocfaknhpncaaGreatDoorTie
import Derived.Test.YtcjocfaknhpncaaGreatDoorXLha
import Derived.WalkKit
import Derived.ProofKit
import Derived.OpenShut
import Derived.ChangeSame
import Derived.Test.YtcjocfaknhpncaaGreatDoorXKba
import Derived.Test.YtcjocfaknhpncaaGreatDoorXKbb
import Derived.Test.YtcjocfaknhpncaaGreatDoorXKbc
namespace Go.Ev
open Go Go.RowKit Go.Proofs Go.ChangeShapes Go.WideShapes Go.Proofs.YtcjocfaknhpncaaGreatDoor

abbrev lnLaid : List (String × DataW Unit) := Rows.linesNoneRow.laid

theorem iN_eq (k : IntKind) : ∀ l : List Nat, iN k l = l.map fun n => LV.int k (Int.ofNat n)
  | [] => rfl
  | n :: l => congrArg (LV.int k (Int.ofNat n) :: ·) (iN_eq k l)

/-- a variable that is a row of numbers -/
theorem tab_obj {P : Program} {W : World} {name : String} {g : Nat} {k : IntKind} {ns : List Nat} (hT : Lib.TabIs P W name k (ns.map Int.ofNat)) (hg : P.globalNamed name = some g) :
    g < W.heap.size ∧ ∀ φ : Phi, ObjRel φ W ⟨g, 0, 0, 0⟩ false (LO.cells (iN k ns) none).obj := by
  unfold Lib.TabIs World.var? at hT
  rw [hg, Option.bind_some] at hT
  cases hh : W.heap[g]? with
  | none => rw [hh] at hT; cases hT
  | some ob =>
    rw [hh] at hT
    cases ob with
    | cells cs t fr =>
      simp only [Option.some.injEq] at hT
      refine ⟨(Array.getElem?_eq_some_iff.1 hh).1, fun φ => ⟨cs, t, fr, hh, fun i v hv => ?_, ?_, (fun h => by cases h), (fun s h => by cases h), fun h => by cases h⟩⟩
      · rw [T.get_ofList, iN_eq, List.getElem?_map] at hv
        subst hT
        cases hn : ns[i]? with
        | none => rw [hn] at hv; cases hv
        | some n =>
          rw [hn] at hv
          simp only [Option.map_some, Option.some.injEq] at hv
          subst hv
          exact ⟨.int k (Int.ofNat n), by simp [hn], rfl⟩
      · subst hT; simp [iN_eq]
    | _ => cases hT

def keep1 (n : String) (l : List (String × DataW Unit)) : List (String × DataW Unit) := l.filter fun x => x.1 == n

theorem ln_glob {W : World} (hL : laidMetH Tryz.prog lnLaid W) : GlobMet W := by
  have t1 := tab_obj (ns := [48,49,50,51,52,53,54,55,56,57,97,98,99,100,101,102]) (k := .u8) (name := "firkin/text.digits") (g := 1)
    (Lib.tabIs_of_head (rest := []) (by kernel_rfl) (show (Tryz.prog.globals[1]?).map (·.type) = some 216 by kernel_rfl) Tryz.underlying216 Tryz.underlying5 (by kernel_rfl) (by kernel_rfl)
      (hL.filter fun x => x.1 == "firkin/text.digits")) (by kernel_rfl)
  have t2 := tab_obj (ns := [1,10,100,1000,10000,100000,1000000,10000000,100000000,1000000000,10000000000,100000000000,1000000000000,10000000000000,100000000000000,1000000000000000,10000000000000000,100000000000000000,1000000000000000000,10000000000000000000]) (k := .u64) (name := "internal/strconv.uint64pow10") (g := 2)
    (Lib.tabIs_of_head (rest := []) (by kernel_rfl) (show (Tryz.prog.globals[2]?).map (·.type) = some 274 by kernel_rfl) Tryz.underlying274 Tryz.underlying44 (by kernel_rfl) (by kernel_rfl)
      (hL.filter fun x => x.1 == "internal/strconv.uint64pow10")) (by kernel_rfl)
  have t9 := tab_obj (ns := [0,498536548,997073096,651767980,1994146192,1802195444,1303535960,1342533948,3988292384,4027552580,3604390888,3412177804,2607071920,2262029012,2685067896,3183342108]) (k := .u32) (name := "firkin/crc.shifted") (g := 9)
    (Lib.tabIs_of_head (rest := []) (by kernel_rfl) (show (Tryz.prog.globals[9]?).map (·.type) = some 453 by kernel_rfl) Tryz.underlying453 Tryz.underlying217 (by kernel_rfl) (by kernel_rfl)
      (hL.filter fun x => x.1 == "firkin/crc.shifted")) (by kernel_rfl)
  refine ⟨t9.1, fun b o hb => ?_⟩
  rcases layH_get tbGl.gl .nil b o hb with ⟨p, hp, rfl, rfl⟩ | ⟨h1, _⟩
  · have hp : p ∈ [_, _, _] := hp
    simp only [List.mem_cons, List.mem_nil_iff, or_false] at hp
    rcases hp with rfl | rfl | rfl
    · exact ⟨by decide, fun φ _ => t1.2 φ⟩
    · exact ⟨by decide, fun φ _ => t2.2 φ⟩
    · exact ⟨by decide, fun φ _ => t9.2 φ⟩
  · cases h1
end Go.Ev
namespace Go.Ev
open Go Go.RowKit Go.Proofs Go.ChangeShapes Go.WideShapes Go.ChangeAt Go.Proofs.YtcjocfaknhpncaaGreatDoor

section
variable {H : Type} {enc : TypeId × Value → H} {P : Program}
/-- as the kit's, but for what is asked of the frozen places: of old blocks alone -/
theorem post_of_below {f : Func} {s : ChangeSpec} {apart fresh handsOn again : Bool} {W W' : World} {args : Array Value} {v : Value} {ds gs : List (DataW H)} {before pa pv : List MemPlace}
    (hW : DataW.Whole enc P f.params.toList s.vars apart W args.toList ds gs before)
    (hres : ∀ (b : Nat) (sp : Nat → Bool) (hd : Bool), DataW.TrodAll enc P W' b sp hd f.resultTypes.toList (v.resultList f.resultTypes.size) (s.fn H (ds ++ gs)).results [])
    (hargs : ∀ sp : Nat → Bool, (∀ p ∈ before, sp p.block = true) → DataW.TrodAll enc P W' 0 sp true f.params.toList args.toList (s.fn H (ds ++ gs)).args pa)
    (hvars : ∀ sp : Nat → Bool, (∀ p ∈ before, sp p.block = true) → DataW.TrodVars enc P W' sp s.vars (s.fn H (ds ++ gs)).vars pv)
    (hps : before = pa ++ pv) (hB : Below W.heap.size W W')
    (hok : ∀ (j : Nat) (t : TypeId) (r : Value), f.resultTypes[j]? = some t → (v.resultList f.resultTypes.size)[j]? = some r → Value.okWide P W' .any 0 t r) :
    s.post enc P f apart fresh handsOn again W args v W' := by
  have hold : ∀ p ∈ before, (fun b => decide (b < W.heap.size)) p.block = true := fun p hp => by simpa using hW.lt p hp
  have hlt := hW.lt
  refine ⟨ds, gs, before, [], pa, pv, hW, hres _ _ _, hargs _ hold, hvars _ hold, World.keptBut_mono (fun p hp => ⟨hp, ?_⟩) (hB.frame (· ∈ before)), fun _ => ?_⟩
  · rw [hps, List.mem_append] at hp
    exact Or.inr hp
  · obtain ⟨_, _, _, _, _, hz, hn⟩ := hW
    refine ⟨hok, _, _, ([] ++ pa) ++ pv, ⟨[] ++ pa, pv, trodAll_append (hargs _ (fun _ _ => rfl)) (hres _ _ _), hvars _ (fun _ _ => rfl), rfl, ?_, ?_⟩, ?_⟩
    · intro b off hp
      have hp' : MemPlace.cell b off ∈ before := by rw [hps]; simpa using hp
      rw [hB.frozen (p := ⟨b, off, none⟩) (show b < W.heap.size from hlt _ hp')]
      exact hz b off hp'
    · intro ha
      have := hn ha
      rw [hps] at this
      simpa using this
    · intro p hp _
      rw [hps]
      simpa using hp
end

theorem ln_laidOut : laidOutB Tryz.prog = true := fact1
theorem ln_own : ownKnob Tryz.prog.godebug = none := by kernel_rfl
theorem ln_cells9 : Tryz.prog.cellsOf 9 = 1 := by kernel_rfl
end Go.Ev
namespace Go.Ev
open Go
/-- up to a hundred strings -/
theorem ln_all (f : Nat → List UInt8) (c : Nat) : ∀ n, n ≤ 100 → lnChk f c n = true
  | 0, _ => ln0 f c
  | 1, _ => ln1 f c
  | 2, _ => ln2 f c
  | 3, _ => ln3 f c
  | 4, _ => ln4 f c
  | 5, _ => ln5 f c
  | 6, _ => ln6 f c
  | 7, _ => ln7 f c
  | 8, _ => ln8 f c
  | 9, _ => ln9 f c
  | 10, _ => ln10 f c
  | 11, _ => ln11 f c
  | 12, _ => ln12 f c
  | 13, _ => ln13 f c
  | 14, _ => ln14 f c
  | 15, _ => ln15 f c
  | 16, _ => ln16 f c
  | 17, _ => ln17 f c
  | 18, _ => ln18 f c
  | 19, _ => ln19 f c
  | 20, _ => ln20 f c
  | 21, _ => ln21 f c
  | 22, _ => ln22 f c
  | 23, _ => ln23 f c
  | 24, _ => ln24 f c
  | 25, _ => ln25 f c
  | 26, _ => ln26 f c
  | 27, _ => ln27 f c
  | 28, _ => ln28 f c
  | 29, _ => ln29 f c
  | 30, _ => ln30 f c
  | 31, _ => ln31 f c
  | 32, _ => ln32 f c
  | 33, _ => ln33 f c
  | 34, _ => ln34 f c
  | 35, _ => ln35 f c
  | 36, _ => ln36 f c
  | 37, _ => ln37 f c
  | 38, _ => ln38 f c
  | 39, _ => ln39 f c
  | 40, _ => ln40 f c
  | 41, _ => ln41 f c
  | 42, _ => ln42 f c
  | 43, _ => ln43 f c
  | 44, _ => ln44 f c
  | 45, _ => ln45 f c
  | 46, _ => ln46 f c
  | 47, _ => ln47 f c
  | 48, _ => ln48 f c
  | 49, _ => ln49 f c
  | 50, _ => ln50 f c
  | 51, _ => ln51 f c
  | 52, _ => ln52 f c
  | 53, _ => ln53 f c
  | 54, _ => ln54 f c
  | 55, _ => ln55 f c
  | 56, _ => ln56 f c
  | 57, _ => ln57 f c
  | 58, _ => ln58 f c
  | 59, _ => ln59 f c
  | 60, _ => ln60 f c
  | 61, _ => ln61 f c
  | 62, _ => ln62 f c
  | 63, _ => ln63 f c
  | 64, _ => ln64 f c
  | 65, _ => ln65 f c
  | 66, _ => ln66 f c
  | 67, _ => ln67 f c
  | 68, _ => ln68 f c
  | 69, _ => ln69 f c
  | 70, _ => ln70 f c
  | 71, _ => ln71 f c
  | 72, _ => ln72 f c
  | 73, _ => ln73 f c
  | 74, _ => ln74 f c
  | 75, _ => ln75 f c
  | 76, _ => ln76 f c
  | 77, _ => ln77 f c
  | 78, _ => ln78 f c
  | 79, _ => ln79 f c
  | 80, _ => ln80 f c
  | 81, _ => ln81 f c
  | 82, _ => ln82 f c
  | 83, _ => ln83 f c
  | 84, _ => ln84 f c
  | 85, _ => ln85 f c
  | 86, _ => ln86 f c
  | 87, _ => ln87 f c
  | 88, _ => ln88 f c
  | 89, _ => ln89 f c
  | 90, _ => ln90 f c
  | 91, _ => ln91 f c
  | 92, _ => ln92 f c
  | 93, _ => ln93 f c
  | 94, _ => ln94 f c
  | 95, _ => ln95 f c
  | 96, _ => ln96 f c
  | 97, _ => ln97 f c
  | 98, _ => ln98 f c
  | 99, _ => ln99 f c
  | 100, _ => ln100 f c
  | n + 101, h => absurd h (by omega)
end Go.Ev
namespace Go.Ev
open Go Go.RowKit Go.Proofs Go.ChangeShapes Go.WideShapes Go.ChangeAt Go.Proofs.YtcjocfaknhpncaaGreatDoor

theorem ln_call (hmm : mm61.Ok tbE Tryz.prog tbGl) {W : World} (hG : GlobMet W) {a : Addr} (ha : a.block < W.heap.size) {m : T LObj}
    (hm : ∀ b o, m.get b = some o → (layH tbGl.gl .nil).get b = some o ∨ (b = 10 ∧ ObjRel (lnPhi a) W ⟨a.block, a.off, 0, 0⟩ false o))
    {args : List LV} {Args : List Value} (hargs : insts (lnPhi a) args = some Args) (hc : trueRes (frun lnE 1000000 (.fn ⟨m, 11, 11⟩ 3 args)) = true) :
    Calls Tryz.prog 3 ⟨Args⟩ W fun e W' => e = .returned (.bool true) ∧ Below W.heap.size W W' := by
  obtain ⟨h', hf⟩ := ln_in hmm hc
  obtain ⟨_, h2⟩ := hf (lnPhi a) (lnBase W) W Args (ln_sit hG ha hm) hargs
  refine (callsIn_wide.1 h2).mono fun e w' ⟨X, he, ψ, _, hX, hS, _, _⟩ => ?_
  simp only [inst, Option.some.injEq] at hX
  subst hX
  have hk := hS.rel.below
  exact ⟨he, hk.os, hk.tape, hk.output, hk.size, fun k hk' => hk.block k hk'⟩

theorem strs_get (f : Nat → List UInt8) (n : Nat) : ∀ i v, (Ev.strs f n)[i]? = some v → i < n ∧ v = .str (f i) := by
  have gen : ∀ (n j i : Nat) (v : LV), (Nat.rec (motive := fun _ => Nat → List LV) (fun _ => []) (fun _ ih i => .str (f i) :: ih (Nat.succ i)) n j : List LV)[i]? = some v → i < n ∧ v = .str (f (j + i)) := by
    intro n
    induction n with
    | zero => intro j i v h; cases i <;> cases h
    | succ n ih =>
      intro j i v h
      cases i with
      | zero =>
        change some (LV.str (f j)) = some v at h
        simp only [Option.some.injEq] at h
        exact ⟨by omega, by rw [← h]; rfl⟩
      | succ i =>
        obtain ⟨h1, h2⟩ := ih (Nat.succ j) i v h
        exact ⟨by omega, by rw [h2]; congr 2; omega⟩
  intro i v h
  obtain ⟨h1, h2⟩ := gen n 0 i v h
  exact ⟨h1, by rw [h2, Nat.zero_add]⟩
theorem strs_length (f : Nat → List UInt8) (n : Nat) : (Ev.strs f n).length = n := by
  have gen : ∀ (n j : Nat), (Nat.rec (motive := fun _ => Nat → List LV) (fun _ => []) (fun _ ih i => .str (f i) :: ih (Nat.succ i)) n j : List LV).length = n := by
    intro n
    induction n with
    | zero => intro j; rfl
    | succ n ih => intro j; exact congrArg Nat.succ (ih (Nat.succ j))
  exact gen n 0

theorem ln_strs {W : World} {a : Addr} (hsp : a.spot = none) {n : Nat} (hn : 0 < n) {g : Nat → ByteArray} (hc : ∀ i, i < n → W.cell? (a.add i) = some (.string (g i))) (φ : Phi) :
    ObjRel φ W ⟨a.block, a.off, 0, 0⟩ false (LO.cells (Ev.strs (fun i => (g i).data.toList) n) none).obj := by
  have cell : ∀ i, i < n → ∃ cs t fr, W.heap[a.block]? = some (.cells cs t fr) ∧ cs[a.off + i]? = some (.string (g i)) := by
    intro i hi
    have h := hc i hi
    obtain ⟨b, o, sp⟩ := a
    simp only at hsp
    subst hsp
    have hadd : (Addr.mk b o none).add i = ⟨b, o + i, none⟩ := by
      unfold Addr.add
      by_cases h0 : i = 0
      · rw [if_pos h0, h0]; rfl
      · rw [if_neg h0]
    rw [hadd] at h
    unfold World.cell? at h
    simp only at h
    split at h
    · rename_i cs t fr hh
      exact ⟨cs, t, fr, hh, by simpa using h⟩
    · cases h
  obtain ⟨cs, t, fr, hh, hl⟩ := cell (n - 1) (by omega)
  refine ⟨cs, t, fr, hh, fun i v hv => ?_, ?_, (fun h => by cases h), (fun s h => by cases h), fun h => by cases h⟩
  · rw [T.get_ofList] at hv
    obtain ⟨h1, rfl⟩ := strs_get _ _ _ _ hv
    obtain ⟨cs', t', fr', hh', h2⟩ := cell i h1
    rw [hh] at hh'
    cases hh'
    exact ⟨_, h2, by simp [inst]⟩
  · show a.off + (Ev.strs _ n).length ≤ cs.size
    rw [strs_length]
    have := (Array.getElem?_eq_some_iff.1 hl).1
    omega
end Go.Ev
namespace Go.Ev
open Go Go.RowKit Go.Proofs Go.ChangeShapes Go.WideShapes Go.ChangeAt Go.Proofs.YtcjocfaknhpncaaGreatDoor

theorem okWide_slice_has {P : Program} {w : World} {r : Reach} {base : Nat} {t e : TypeId} {a : Addr} {len cap : Nat} (ht : P.underlying t = some (.slice e)) (h : Value.okWide P w r base t (.slice (some a) len cap)) :
    a.spot = none ∧ a.block < w.heap.size := by
  have h : Cell.okWide P w r base t (.slice (some a) len cap) := by
    unfold Value.okWide at h
    rw [ht] at h
    exact h
  have h : Cell.ok P w r base t (.slice (some a) len cap) := by
    unfold Cell.okWide at h
    rw [ht] at h
    exact h
  unfold Cell.ok at h
  rw [ht] at h
  obtain ⟨_, _, _, hs, row, cells, hsh, _⟩ := h
  refine ⟨hs, ?_⟩
  unfold World.shape? at hsh
  cases hh : w.heap[a.block]? with
  | none => rw [hh] at hsh; cases hsh
  | some o => exact (Array.getElem?_eq_some_iff.1 hh).1

set_option maxRecDepth 1000000 in
theorem ln_any (hmm : mm61.Ok tbE Tryz.prog tbGl) {H : Type} {enc : TypeId × Value → H} {W : World} {base : Nat} {v0 : Value} {d0 : DataW H} {p0 : List MemPlace} (hG : GlobMet W)
    (hv : Value.okWide Tryz.prog W .any base 22 v0) (h0 : DataW.Trod enc Tryz.prog W 0 (fun _ => true) true 22 v0 d0 p0) :
    Calls Tryz.prog 3 #[v0] W fun e W' => e = .returned (.bool true) ∧ Below W.heap.size W W' := by
  obtain ⟨a0, len, cap, rfl⟩ := okWide_slice Tryz.underlying22 hv
  obtain ⟨fuel, hf⟩ := h0
  have glob : ∀ (a : Addr) b o, (layH tbGl.gl .nil).get b = some o → (layH tbGl.gl .nil).get b = some o ∨ (b = 10 ∧ ObjRel (lnPhi a) W ⟨a.block, a.off, 0, 0⟩ false o) := fun a b o h => .inl h
  have z0 : (⟨0, 0, none⟩ : Addr).block < W.heap.size := Nat.lt_of_lt_of_le (by decide) hG.size
  rcases open_strings Tryz.underlying22 Tryz.underlying9 ln_cells9 hf with ⟨hcs, _⟩ | ⟨a, len', cap', ss, hcs, _, hl, _, hz, _, hcell, _⟩
  · have hcs : [Value.slice a0 len cap] = [.slice none 0 0] := hcs
    simp only [List.cons.injEq, and_true] at hcs
    rw [hcs]
    exact ln_call hmm hG z0 (glob _) (args := [.sl none 0 0 none]) (by simp [insts, inst]) lnNil
  · have hcs : [Value.slice a0 len cap] = [.slice (some a) len' cap'] := hcs
    simp only [List.cons.injEq, and_true, Value.slice.injEq] at hcs
    obtain ⟨rfl, rfl, rfl⟩ := hcs
    obtain ⟨hs, hlt⟩ := okWide_slice_has Tryz.underlying22 hv
    have harg : insts (lnPhi a) [.sl (some (10, 0)) len cap none] = some [.slice (some a) len cap] := by
      obtain ⟨b, o, s⟩ := a
      simp only at hs
      subst hs
      simp [insts, inst, lnPhi_ten]
    rcases Nat.eq_zero_or_pos len with rfl | hpos
    · exact ln_call hmm hG hlt (glob a) harg (lnZ cap)
    · by_cases hbig : len ≤ 100
      · refine ln_call hmm hG hlt (m := layH [(10, .cells (Ev.strs (fun i => (ss.getD i ByteArray.empty).data.toList) len) none)] (layH tbGl.gl .nil)) (fun b o hb => ?_) harg (ln_all (fun i => (ss.getD i ByteArray.empty).data.toList) cap len hbig)
        rcases layH_get _ _ b o hb with ⟨p, hp, rfl, rfl⟩ | ⟨h1, _⟩
        · rcases List.mem_cons.1 hp with rfl | h1
          · exact .inr ⟨rfl, ln_strs hs hpos (fun i hi => hcell i (by rw [hz]; simp; omega)) _⟩
          · cases h1
        · exact .inl h1
      · obtain ⟨m, rfl⟩ : ∃ m, len = m + 101 := ⟨len - 101, by omega⟩
        exact ln_call hmm hG hlt (glob a) harg (lnBig cap m)

set_option maxRecDepth 1000000 in
theorem contract (hmm : mm61.Ok tbE Tryz.prog tbGl) (H : Type) (enc : TypeId × Value → H) (W : World) (base : Nat) (args : Array Value) (ds gs : List (DataW H)) (before : List MemPlace)
    (hval : ∀ (j : Nat) t v, Tryz.f3.params[j]? = some t → args[j]? = some v → Value.okWide Tryz.prog W .any base t v)
    (hW : DataW.Whole enc Tryz.prog Tryz.f3.params.toList Rows.linesNoneSpec.vars false W args.toList ds gs before) (hL : laidMetH Tryz.prog Rows.linesNoneRow.laid W) :
    Calls Tryz.prog 3 args W fun e W' => ∃ v, e = .returned v ∧ Rows.linesNoneSpec.post enc Tryz.prog Tryz.f3 false true false false W args v W' := by
  have hW' := hW
  obtain ⟨p, q, hA0, hV, rfl, hfz, hnd⟩ := hW
  have hA : DataW.TrodAll enc Tryz.prog W 0 (fun _ => true) true Tryz.f3.params.toList args.toList ds p := hA0
  rw [Tryz.params3] at hA hval
  obtain ⟨v0, vs0, d0, ds0, p0, q0, hargs, rfl, rfl, h0, r0⟩ := trodAll_cons hA
  obtain ⟨rfl, rfl, rfl⟩ := trodAll_nil r0
  obtain rfl : args = #[v0] := by cases args; simp_all
  obtain ⟨rfl, rfl⟩ := trodVars_none hV
  clear hA0
  have hlt : ∀ x ∈ p0, x.block < W.heap.size := fun x hx => by simpa using hW'.lt x (by simpa using hx)
  refine (ln_any hmm (ln_glob hL) (hval 0 22 v0 rfl rfl) h0).mono fun e W' ⟨he, hB⟩ => ?_
  subst he
  exact ⟨_, rfl, post_of_below (pa := p0) (pv := []) hW' (fun _ _ _ => trodAll_cons_mk (shut_bool Tryz.underlying4 _) trodAll_mk0)
    (fun sp hsp => trodAll_mk1 (WideElems.Trod_stays ln_laidOut (by kernel_rfl) (of_decide_eq_true (by kernel_rfl)) h0 (fun x hx => hB.same (hlt x hx)) (fun x hx => hsp x (by simpa using hx))))
    (fun _ _ => rfl) (by simp) hB (ok_one (by kernel_rfl) rfl (okWide_bool_mk Tryz.underlying4 _))⟩
end Go.Ev
