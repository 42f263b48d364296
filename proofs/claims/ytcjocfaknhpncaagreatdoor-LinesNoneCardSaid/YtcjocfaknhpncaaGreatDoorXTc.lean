/-
  MADE BY PROGRAM (lay-iter.mjs, lay-plain.mjs): THE SHELF's CONTRACTS ON 'slices.Sorted(maps.Keys(m))' LAID AT THIS DUMP: 1 map type. NO WALK OF THE LIBRARY's TEXT: each is one application of a contract over any P and ρ (Derived/Shelf/SlIter/, Derived/Shelf/SortM/).
-/
import Derived.Test.YtcjocfaknhpncaaGreatDoorXTab
import Derived.Shelf.SlIter.Nil
import Derived.Shelf.SortM.Plain
import Derived.Shelf.SortM.SortNone
import Derived.Ground.GgzProg
import Derived.Ground.SlgmProg
import Derived.Test.YtcjocfaknhpncaaGreatDoorProg
import Derived.KernelRfl
import Derived.Test.YtcjocfaknhpncaaGreatDoorXIa
namespace Go.Ev
open Go Go.Proofs
set_option maxRecDepth 1000000
theorem tbF_eq : tbF = T.ofListFrom Tryz.prog.funcs.toList 0 .nil := by kernel_rfl
theorem tbT_eq : tbT = T.ofListFrom Tryz.prog.types.toList 0 .nil := by kernel_rfl
theorem tb_mixed : Tryz.prog.follows .mixedOrders = true := by kernel_rfl
end Go.Ev
namespace Go.Ev
open Go Go.Proofs
noncomputable def noName (l : List Func) : Bool := List.rec (motive := fun _ => Bool) true (fun f _ ih => Bool.rec (motive := fun _ => Bool) ih false (f.name == "runtime.NumGoroutine")) l
theorem noName_ok : ∀ {l : List Func}, noName l = true → ∀ (k : Nat) (f : Func), l[k]? = some f → (f.name == "runtime.NumGoroutine") = false
  | [], _, k, f, h => by simp at h
  | g :: l, hn, k, f, h => by
    change Bool.rec (motive := fun _ => Bool) (noName l) false (g.name == "runtime.NumGoroutine") = true at hn
    cases hg : (g.name == "runtime.NumGoroutine") with
    | true => rw [hg] at hn; cases hn
    | false =>
      rw [hg] at hn
      cases k with
      | zero => simp only [List.getElem?_cons_zero, Option.some.injEq] at h; subst h; exact hg
      | succ k => simp only [List.getElem?_cons_succ] at h; exact noName_ok (show noName l = true from hn) k f h
theorem tb_names : noName Tryz.prog.funcs.toList = true := by kernel_rfl
theorem tb_flat1 : Tryz.prog.stoodInHeld 103 = false ∧ Tryz.prog.eqGuardType Tryz.prog.depth 103 = false := ⟨by kernel_rfl, by kernel_rfl⟩
theorem tb_flat2 : Tryz.prog.stoodInHeld 498 = false ∧ Tryz.prog.eqGuardType Tryz.prog.depth 498 = false := ⟨by kernel_rfl, by kernel_rfl⟩
end Go.Ev
namespace Go.Proofs
open Go.RowKit Go.Maps Go.Sort Go.Shelf

-- maps.Keys[map[string][]int,string,[]int] (function 299; its iterator 357) · slices.Sorted[string] (298) · slices.Sort[[]string,string] (354) · the map's type 382, the keys' 9
def Tryz.keys299_ren : Go.Shelf.Ren := ⟨fun | 7 => 299 | 10 => 357 | n => n, fun | 23 => 382 | 26 => 9 | 3 => 53 | 28 => 386 | 0 => 0 | 27 => 385 | 33 => 346 | 4 => 4 | n => n, fun | n => n⟩
theorem Tryz.keys299 : Go.Proofs.SlLaysZ.n7 Tryz.prog Tryz.keys299_ren := {
  mixed := by kernel_rfl
  f7 := ⟨Tryz.f299.name, by decide, Tryz.func299.trans (congrArg some (by kernel_rfl))⟩
  f10 := ⟨Tryz.f357.name, by decide, Tryz.func357.trans (congrArg some (by kernel_rfl))⟩
  t0 := Tryz.underlying0
  a0 := Tryz.isAgg0
  z0 := Tryz.sizeOf0
  v0 := Tryz.zeroValue0
  t4 := Tryz.underlying4
  a4 := Tryz.isAgg4
  z4 := Tryz.sizeOf4
  v4 := Tryz.zeroValue4
  t23 := Tryz.underlying382
  a23 := Tryz.isAgg382
  z23 := Tryz.sizeOf382
  v23 := Tryz.zeroValue382
  t26 := Tryz.underlying9
  a26 := Tryz.isAgg9
  z26 := Tryz.sizeOf9
  v26 := Tryz.zeroValue9
  t27 := Tryz.underlying385
  a27 := Tryz.isAgg385
  z27 := Tryz.sizeOf385
  v27 := Tryz.zeroValue385
  t28 := Tryz.underlying386
  a28 := Tryz.isAgg386
  z28 := Tryz.sizeOf386
  v28 := Tryz.zeroValue386
  t33 := Tryz.underlying346
  a33 := Tryz.isAgg346
  z33 := Tryz.sizeOf346
  v33 := Tryz.zeroValue346 }
def Tryz.sorted298_ren : Go.Shelf.Ren := ⟨fun | 6 => 298 | 8 => 356 | 9 => 354 | 11 => 400 | 13 => 396 | 12 => 399 | 23 => 435 | 24 => 184 | 14 => 436 | 15 => 437 | 16 => 438 | 17 => 439 | 18 => 440 | 19 => 441 | 20 => 371 | 21 => 442 | 22 => 443 | 25 => 464 | 26 => 465 | 27 => 466 | 28 => 467 | 29 => 468 | 30 => 411 | 31 => 479 | n => n, fun | 26 => 9 | 28 => 386 | 24 => 22 | 0 => 0 | 3 => 3 | 37 => 145 | 48 => 217 | 50 => 44 | 4 => 4 | 40 => 554 | 39 => 553 | 45 => 37 | 5 => 5 | 9 => 9 | 51 => 586 | 55 => 589 | 57 => 604 | 58 => 450 | 33 => 346 | n => n, fun | n => n⟩
theorem Tryz.sorted298 : Go.Proofs.SlLaysZ.n6 Tryz.prog Tryz.sorted298_ren := {
  mixed := by kernel_rfl
  f6 := ⟨Tryz.f298.name, by decide, Tryz.func298.trans (congrArg some (by kernel_rfl))⟩
  f8 := ⟨Tryz.f356.name, by decide, Tryz.func356.trans (congrArg some (by kernel_rfl))⟩
  f11 := ⟨Tryz.f400.name, by decide, Tryz.func400.trans (congrArg some (by kernel_rfl))⟩
  t0 := Tryz.underlying0
  a0 := Tryz.isAgg0
  z0 := Tryz.sizeOf0
  v0 := Tryz.zeroValue0
  t24 := Tryz.underlying22
  a24 := Tryz.isAgg22
  z24 := Tryz.sizeOf22
  v24 := Tryz.zeroValue22
  t26 := Tryz.underlying9
  a26 := Tryz.isAgg9
  z26 := Tryz.sizeOf9
  v26 := Tryz.zeroValue9
  t28 := Tryz.underlying386
  a28 := Tryz.isAgg386
  z28 := Tryz.sizeOf386
  v28 := Tryz.zeroValue386
  i26 := by kernel_rfl }
def Tryz.sort354_ren : Go.Shelf.Ren := ⟨fun | 6 => 354 | 8 => 396 | 9 => 399 | 19 => 435 | 20 => 184 | 21 => 436 | 22 => 437 | 23 => 438 | 24 => 439 | 25 => 440 | 26 => 441 | 27 => 371 | 28 => 442 | 29 => 443 | 36 => 464 | 31 => 465 | 32 => 466 | 37 => 467 | 38 => 468 | 39 => 411 | 41 => 479 | n => n, fun | 27 => 22 | 29 => 9 | 3 => 3 | 32 => 145 | 26 => 22 | 0 => 0 | 44 => 217 | 46 => 44 | 4 => 4 | 36 => 554 | 35 => 553 | 41 => 37 | 5 => 5 | 9 => 9 | 53 => 586 | 57 => 589 | 63 => 604 | 64 => 450 | n => n, fun | n => n⟩
theorem Tryz.sort354 : Go.Proofs.SlLaysM.n6 Tryz.prog Tryz.sort354_ren := {
  mixed := by kernel_rfl
  f6 := ⟨Tryz.f354.name, by decide, Tryz.func354.trans (congrArg some (by kernel_rfl))⟩
  f8 := Tryz.func396.trans (congrArg some (by kernel_rfl))
  f9 := ⟨Tryz.f399.name, by decide, Tryz.func399.trans (congrArg some (by kernel_rfl))⟩
  f19 := Tryz.func435.trans (congrArg some (by kernel_rfl))
  f20 := Tryz.func184.trans (congrArg some (by kernel_rfl))
  f21 := ⟨Tryz.f436.name, by decide, Tryz.func436.trans (congrArg some (by kernel_rfl))⟩
  f22 := ⟨Tryz.f437.name, by decide, Tryz.func437.trans (congrArg some (by kernel_rfl))⟩
  f23 := ⟨Tryz.f438.name, by decide, Tryz.func438.trans (congrArg some (by kernel_rfl))⟩
  f24 := ⟨Tryz.f439.name, by decide, Tryz.func439.trans (congrArg some (by kernel_rfl))⟩
  f25 := ⟨Tryz.f440.name, by decide, Tryz.func440.trans (congrArg some (by kernel_rfl))⟩
  f26 := ⟨Tryz.f441.name, by decide, Tryz.func441.trans (congrArg some (by kernel_rfl))⟩
  f27 := ⟨Tryz.f371.name, by decide, Tryz.func371.trans (congrArg some (by kernel_rfl))⟩
  f28 := ⟨Tryz.f442.name, by decide, Tryz.func442.trans (congrArg some (by kernel_rfl))⟩
  f29 := ⟨Tryz.f443.name, by decide, Tryz.func443.trans (congrArg some (by kernel_rfl))⟩
  f31 := Tryz.func465.trans (congrArg some (by kernel_rfl))
  f32 := Tryz.func466.trans (congrArg some (by kernel_rfl))
  f36 := ⟨Tryz.f464.name, by decide, Tryz.func464.trans (congrArg some (by kernel_rfl))⟩
  f37 := ⟨Tryz.f467.name, by decide, Tryz.func467.trans (congrArg some (by kernel_rfl))⟩
  f38 := ⟨Tryz.f468.name, by decide, Tryz.func468.trans (congrArg some (by kernel_rfl))⟩
  f39 := ⟨Tryz.f411.name, by decide, Tryz.func411.trans (congrArg some (by kernel_rfl))⟩
  f41 := ⟨Tryz.f479.name, by decide, Tryz.func479.trans (congrArg some (by kernel_rfl))⟩
  t0 := Tryz.underlying0
  a0 := Tryz.isAgg0
  z0 := Tryz.sizeOf0
  v0 := Tryz.zeroValue0
  t3 := Tryz.underlying3
  a3 := Tryz.isAgg3
  z3 := Tryz.sizeOf3
  v3 := Tryz.zeroValue3
  t4 := Tryz.underlying4
  a4 := Tryz.isAgg4
  z4 := Tryz.sizeOf4
  v4 := Tryz.zeroValue4
  t5 := Tryz.underlying5
  a5 := Tryz.isAgg5
  z5 := Tryz.sizeOf5
  v5 := Tryz.zeroValue5
  t9 := Tryz.underlying9
  a9 := Tryz.isAgg9
  z9 := Tryz.sizeOf9
  v9 := Tryz.zeroValue9
  t26 := Tryz.underlying22
  a26 := Tryz.isAgg22
  z26 := Tryz.sizeOf22
  v26 := Tryz.zeroValue22
  t27 := Tryz.underlying22
  a27 := Tryz.isAgg22
  z27 := Tryz.sizeOf22
  v27 := Tryz.zeroValue22
  t29 := Tryz.underlying9
  a29 := Tryz.isAgg9
  z29 := Tryz.sizeOf9
  v29 := Tryz.zeroValue9
  t32 := Tryz.underlying145
  a32 := Tryz.isAgg145
  z32 := Tryz.sizeOf145
  v32 := Tryz.zeroValue145
  t35 := Tryz.underlying553
  a35 := Tryz.isAgg553
  z35 := Tryz.sizeOf553
  v35 := Tryz.zeroValue553
  t36 := Tryz.underlying554
  a36 := Tryz.isAgg554
  z36 := Tryz.sizeOf554
  v36 := Tryz.zeroValue554
  t41 := Tryz.underlying37
  a41 := Tryz.isAgg37
  z41 := Tryz.sizeOf37
  v41 := Tryz.zeroValue37
  t44 := Tryz.underlying217
  a44 := Tryz.isAgg217
  z44 := Tryz.sizeOf217
  v44 := Tryz.zeroValue217
  t46 := Tryz.underlying44
  a46 := Tryz.isAgg44
  z46 := Tryz.sizeOf44
  v46 := Tryz.zeroValue44
  t53 := Tryz.underlying586
  a53 := Tryz.isAgg586
  z53 := Tryz.sizeOf586
  v53 := Tryz.zeroValue586
  t57 := Tryz.underlying589
  a57 := Tryz.isAgg589
  z57 := Tryz.sizeOf589
  v57 := Tryz.zeroValue589
  t63 := Tryz.underlying604
  a63 := Tryz.isAgg604
  z63 := Tryz.sizeOf604
  v63 := Tryz.zeroValue604
  t64 := Tryz.underlying450
  a64 := Tryz.isAgg450
  z64 := Tryz.sizeOf450
  v64 := Tryz.zeroValue450 }

/-- slices.Sort's two contracts at this dump, at the fence that asks nothing. -/
theorem Tryz.sorts298 (m : Nat) : AnyZ.SortsIn Tryz.prog Tryz.sorted298_ren Fence.wide m :=
  ⟨fun blk off cap ss W hH hblk hsz => callsIn_wide.2 (AnyM.slices_Sort_string Tryz.sort354 blk off cap ss W hH hblk hsz),
   fun p cap W => callsIn_wide.2 (AnyM.slices_Sort_string_none Tryz.sort354 p cap W)⟩

end Go.Proofs
namespace Go.Ev
open Go Go.RowKit Go.Maps Go.Sort Go.Shelf Go.Proofs
set_option maxHeartbeats 1000000 in
/-- slices.Sorted[string] at what maps.Keys handed back, in whatever world. -/
theorem tb_sorted : SortedSays Tryz.prog 298 357 9 := by
  intro R b nn D0 Rd w hcell hlt hown hmax hbytes
  have hseq : SeqGives Fence.wide 2 Tryz.prog 357 #[.pointer (some ⟨R, 0, none⟩)] encStr (fun ss => ss.Perm (strKeys D0)) (Maps.size D0) w :=
    AnyZ.keys_gives (ρ := Tryz.keys299_ren) { Tryz.keys299 with } Fence.wide _ trivial rfl (by omega) R b nn D0 w hlt hcell hown
  exact callsIn_wide.2 (callsIn_wide.1 (AnyZ.sorted_in Tryz.sorted298 Fence.wide 5 trivial trivial trivial trivial rfl (by omega) (Tryz.sorts298 _) (enters_of Tryz.func354 (by kernel_rfl) rfl) 357 #[.pointer (some ⟨R, 0, none⟩)] trivial (enters_of Tryz.func357 (by kernel_rfl) rfl) _ _ hmax hbytes _ hseq))
end Go.Ev
namespace Go.Ev
open Go Go.Proofs
theorem tb_flat3 : Tryz.prog.eqGuardType Tryz.prog.depth 240 = false := by kernel_rfl
theorem info_eq (P : Program) {t : TypeId} {i : TypeInfo} (h : P.types[t]? = some i) : P.info? t = some i := by
  have hlt : t < P.types.size := (Array.getElem?_eq_some_iff.1 h).1
  unfold Tables.info?
  rw [if_pos hlt]; exact h
theorem tb_tabs : Tabs tbE Tryz.prog := by
  refine ⟨tb_mixed, fun k fn h => ?_, fun t i h => ?_, fun t h => ?_⟩
  · have h : tbF.get k = some fn := h
    rw [tbF_eq, T.get_ofList] at h
    exact ⟨by simpa using h, noName_ok tb_names k fn h⟩
  · have h : tbT.get t = some i := h
    rw [tbT_eq, T.get_ofList] at h
    exact info_eq _ (by simpa using h)
  · have h : ((((T.nil.set 103 ()).set 498 ()).set 240 ()).get t).isSome = true := h
    rw [T.get_set, T.get_set, T.get_set] at h
    have : t = 103 ∨ t = 498 ∨ t = 240 := by
      by_cases h1 : t = 240
      · exact .inr (.inr h1)
      · by_cases h2 : t = 498
        · exact .inr (.inl h2)
        · by_cases h3 : t = 103
          · exact .inl h3
          · rw [if_neg h1, if_neg h2, if_neg h3] at h
            cases h
    rcases this with rfl | rfl | rfl
    · refine ⟨Tryz.stoodInHeld103, tb_flat1.2, fun fs hf f hm => ?_⟩
      rw [Tryz.underlying103] at hf
      simp only [Option.some.injEq, TypeDesc.struct.injEq] at hf
      subst hf
      revert f; decide
    · refine ⟨Tryz.stoodInHeld498, tb_flat2.2, fun fs hf f hm => ?_⟩
      rw [Tryz.underlying498] at hf
      simp only [Option.some.injEq, TypeDesc.struct.injEq] at hf
      subst hf
      revert f; decide
    · refine ⟨Tryz.stoodInHeld240, tb_flat3, fun fs hf f hm => ?_⟩
      rw [Tryz.underlying240] at hf
      simp only [Option.some.injEq, TypeDesc.struct.injEq] at hf
      subst hf
      revert f; decide
theorem tb_body298 : Option.isSome Tryz.f298.body = true := by kernel_rfl
theorem tb_fn298 : tbE.funcs.get 298 = some Tryz.f298 := by kernel_rfl
theorem tb_orac : OracAll tbE Tryz.prog := by
  intro k f hf E' hng hs h args v h' hv
  have hf : (((T.nil.set 298 (oSorted 357)).set 142 oIdx).set 113 oCnt).get k = some f := hf
  rw [T.get_set, T.get_set, T.get_set] at hf
  by_cases h1 : k = 113
  · subst h1
    rw [if_pos rfl] at hf
    simp only [Option.some.injEq] at hf; subst hf
    exact oCnt_ok Tryz.func113 (by kernel_rfl) (by kernel_rfl) (by kernel_rfl) (by kernel_rfl) hs hv
  · rw [if_neg h1] at hf
    by_cases h2 : k = 142
    · subst h2
      rw [if_pos rfl] at hf
      simp only [Option.some.injEq] at hf; subst hf
      exact oIdx_ok Tryz.func142 (by kernel_rfl) (by kernel_rfl) (by kernel_rfl) (by kernel_rfl) hs hv
    · rw [if_neg h2] at hf
      by_cases h3 : k = 298
      · subst h3
        rw [if_pos rfl] at hf
        simp only [Option.some.injEq] at hf; subst hf
        obtain ⟨c, hc⟩ := Option.isSome_iff_exists.1 tb_body298
        exact (FnIn.env hng (oSorted_ok tb_tabs tb_fn298 hc Tryz.underlying9 tb_sorted hv)).ok
      · rw [if_neg h3] at hf; cases hf
end Go.Ev
