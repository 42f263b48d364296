/- What the example's calls answer, joined. -/
import Derived.Test.YtcjocfaknhpncaaGreatDoorXHba
import Derived.Test.YtcjocfaknhpncaaGreatDoorXHbb
import Derived.Test.YtcjocfaknhpncaaGreatDoorXHbc
import Derived.Test.YtcjocfaknhpncaaGreatDoorXHbd
import Derived.Test.YtcjocfaknhpncaaGreatDoorXHbe
import Derived.Test.YtcjocfaknhpncaaGreatDoorXHbf
import Derived.Test.YtcjocfaknhpncaaGreatDoorXHca
import Derived.Test.YtcjocfaknhpncaaGreatDoorXHcb
import Derived.Test.YtcjocfaknhpncaaGreatDoorXHcc
import Derived.Test.YtcjocfaknhpncaaGreatDoorXHcd
import Derived.Test.YtcjocfaknhpncaaGreatDoorXHce
import Derived.Test.YtcjocfaknhpncaaGreatDoorXTc
namespace Go.Ev
open Go Go.Proofs
theorem all_nil {p : Memo → Prop} : ∀ m ∈ ([] : List Memo), p m := fun _ h => by cases h
theorem all_cons {p : Memo → Prop} {a : Memo} {l : List Memo} (h : p a) (hl : ∀ m ∈ l, p m) : ∀ m ∈ a :: l, p m := fun m hm => by
  rcases List.mem_cons.1 hm with rfl | h1
  · exact h
  · exact hl m h1
theorem memo_ok {ms : List Memo} {ks : List FuncId} {m : Memo} (hm : ∀ m ∈ ms, m.Ok tbE Tryz.prog tbGl) (hc : m.check (tbE.withM tbGl ms ks) tbGl 10000000 = true) : m.Ok tbE Tryz.prog tbGl :=
  Memo.ok_of_check tb_tabs tb_orac hm hc
theorem mn0Ok : mn0.Ok tbE Tryz.prog tbGl := memo_ok all_nil mn0_ok
theorem mn1Ok : mn1.Ok tbE Tryz.prog tbGl := memo_ok all_nil mn1_ok
theorem mn2Ok : mn2.Ok tbE Tryz.prog tbGl := memo_ok all_nil mn2_ok
theorem mn3Ok : mn3.Ok tbE Tryz.prog tbGl := memo_ok all_nil mn3_ok
theorem mn4Ok : mn4.Ok tbE Tryz.prog tbGl := memo_ok all_nil mn4_ok
theorem mn5Ok : mn5.Ok tbE Tryz.prog tbGl := memo_ok all_nil mn5_ok
theorem mn6Ok : mn6.Ok tbE Tryz.prog tbGl := memo_ok all_nil mn6_ok
theorem mn7Ok : mn7.Ok tbE Tryz.prog tbGl := memo_ok all_nil mn7_ok
theorem mn8Ok : mn8.Ok tbE Tryz.prog tbGl := memo_ok all_nil mn8_ok
theorem mn9Ok : mn9.Ok tbE Tryz.prog tbGl := memo_ok all_nil mn9_ok
theorem mn10Ok : mn10.Ok tbE Tryz.prog tbGl := memo_ok all_nil mn10_ok
theorem mn11Ok : mn11.Ok tbE Tryz.prog tbGl := memo_ok all_nil mn11_ok
theorem mm0Ok : mm0.Ok tbE Tryz.prog tbGl := memo_ok all_nil mm0_ok
theorem mm1Ok : mm1.Ok tbE Tryz.prog tbGl := memo_ok (all_cons mn0Ok (all_cons mn1Ok (all_cons mn2Ok (all_cons mn3Ok (all_cons mn4Ok (all_cons mn5Ok all_nil)))))) mm1_ok
theorem mm2Ok : mm2.Ok tbE Tryz.prog tbGl := memo_ok all_nil mm2_ok
theorem mm3Ok : mm3.Ok tbE Tryz.prog tbGl := memo_ok (all_cons mm2Ok all_nil) mm3_ok
theorem mm4Ok : mm4.Ok tbE Tryz.prog tbGl := memo_ok (all_cons mm3Ok all_nil) mm4_ok
theorem mm5Ok : mm5.Ok tbE Tryz.prog tbGl := memo_ok (all_cons mm1Ok (all_cons mm4Ok all_nil)) mm5_ok
theorem mm6Ok : mm6.Ok tbE Tryz.prog tbGl := memo_ok all_nil mm6_ok
theorem mm7Ok : mm7.Ok tbE Tryz.prog tbGl := memo_ok all_nil mm7_ok
theorem mm8Ok : mm8.Ok tbE Tryz.prog tbGl := memo_ok all_nil mm8_ok
theorem mm9Ok : mm9.Ok tbE Tryz.prog tbGl := memo_ok all_nil mm9_ok
theorem mm10Ok : mm10.Ok tbE Tryz.prog tbGl := memo_ok all_nil mm10_ok
theorem mm11Ok : mm11.Ok tbE Tryz.prog tbGl := memo_ok (all_cons mm7Ok (all_cons mm8Ok (all_cons mm9Ok (all_cons mm10Ok all_nil)))) mm11_ok
theorem mm12Ok : mm12.Ok tbE Tryz.prog tbGl := memo_ok all_nil mm12_ok
theorem mm13Ok : mm13.Ok tbE Tryz.prog tbGl := memo_ok all_nil mm13_ok
theorem mm14Ok : mm14.Ok tbE Tryz.prog tbGl := memo_ok (all_cons mm13Ok all_nil) mm14_ok
theorem mm15Ok : mm15.Ok tbE Tryz.prog tbGl := memo_ok (all_cons mm11Ok (all_cons mm12Ok (all_cons mm14Ok all_nil))) mm15_ok
theorem mm16Ok : mm16.Ok tbE Tryz.prog tbGl := memo_ok (all_cons mn6Ok (all_cons mn7Ok (all_cons mn8Ok (all_cons mn9Ok (all_cons mn10Ok (all_cons mn11Ok all_nil)))))) mm16_ok
theorem mm17Ok : mm17.Ok tbE Tryz.prog tbGl := memo_ok all_nil mm17_ok
theorem mm18Ok : mm18.Ok tbE Tryz.prog tbGl := memo_ok (all_cons mm17Ok all_nil) mm18_ok
theorem mm19Ok : mm19.Ok tbE Tryz.prog tbGl := memo_ok (all_cons mm18Ok all_nil) mm19_ok
theorem mm20Ok : mm20.Ok tbE Tryz.prog tbGl := memo_ok (all_cons mm15Ok (all_cons mm16Ok (all_cons mm19Ok all_nil))) mm20_ok
theorem mm21Ok : mm21.Ok tbE Tryz.prog tbGl := memo_ok all_nil mm21_ok
theorem mm22Ok : mm22.Ok tbE Tryz.prog tbGl := memo_ok all_nil mm22_ok
theorem mm23Ok : mm23.Ok tbE Tryz.prog tbGl := memo_ok all_nil mm23_ok
theorem mm24Ok : mm24.Ok tbE Tryz.prog tbGl := memo_ok all_nil mm24_ok
theorem mm25Ok : mm25.Ok tbE Tryz.prog tbGl := memo_ok (all_cons mm21Ok (all_cons mm22Ok (all_cons mm23Ok (all_cons mm24Ok all_nil)))) mm25_ok
theorem mm26Ok : mm26.Ok tbE Tryz.prog tbGl := memo_ok all_nil mm26_ok
theorem mm27Ok : mm27.Ok tbE Tryz.prog tbGl := memo_ok all_nil mm27_ok
theorem mm28Ok : mm28.Ok tbE Tryz.prog tbGl := memo_ok (all_cons mm27Ok all_nil) mm28_ok
theorem mm29Ok : mm29.Ok tbE Tryz.prog tbGl := memo_ok (all_cons mm25Ok (all_cons mm26Ok (all_cons mm28Ok all_nil))) mm29_ok
theorem mm30Ok : mm30.Ok tbE Tryz.prog tbGl := memo_ok all_nil mm30_ok
theorem mm31Ok : mm31.Ok tbE Tryz.prog tbGl := memo_ok all_nil mm31_ok
theorem mm32Ok : mm32.Ok tbE Tryz.prog tbGl := memo_ok all_nil mm32_ok
theorem mm33Ok : mm33.Ok tbE Tryz.prog tbGl := memo_ok all_nil mm33_ok
theorem mm34Ok : mm34.Ok tbE Tryz.prog tbGl := memo_ok (all_cons mm30Ok (all_cons mm31Ok (all_cons mm32Ok (all_cons mm33Ok all_nil)))) mm34_ok
theorem mm35Ok : mm35.Ok tbE Tryz.prog tbGl := memo_ok all_nil mm35_ok
theorem mm36Ok : mm36.Ok tbE Tryz.prog tbGl := memo_ok all_nil mm36_ok
theorem mm37Ok : mm37.Ok tbE Tryz.prog tbGl := memo_ok (all_cons mm36Ok all_nil) mm37_ok
theorem mm38Ok : mm38.Ok tbE Tryz.prog tbGl := memo_ok (all_cons mm34Ok (all_cons mm35Ok (all_cons mm37Ok all_nil))) mm38_ok
theorem mm39Ok : mm39.Ok tbE Tryz.prog tbGl := memo_ok all_nil mm39_ok
theorem mm40Ok : mm40.Ok tbE Tryz.prog tbGl := memo_ok (all_cons mm39Ok all_nil) mm40_ok
theorem mm41Ok : mm41.Ok tbE Tryz.prog tbGl := memo_ok (all_cons mm40Ok all_nil) mm41_ok
theorem mm42Ok : mm42.Ok tbE Tryz.prog tbGl := memo_ok (all_cons mm29Ok (all_cons mm38Ok (all_cons mm41Ok all_nil))) mm42_ok
theorem mm43Ok : mm43.Ok tbE Tryz.prog tbGl := memo_ok all_nil mm43_ok
theorem mm44Ok : mm44.Ok tbE Tryz.prog tbGl := memo_ok (all_cons mm43Ok all_nil) mm44_ok
theorem mm45Ok : mm45.Ok tbE Tryz.prog tbGl := memo_ok (all_cons mm44Ok all_nil) mm45_ok
theorem mm46Ok : mm46.Ok tbE Tryz.prog tbGl := memo_ok all_nil mm46_ok
theorem mm47Ok : mm47.Ok tbE Tryz.prog tbGl := memo_ok (all_cons mm46Ok all_nil) mm47_ok
theorem mm48Ok : mm48.Ok tbE Tryz.prog tbGl := memo_ok (all_cons mm47Ok all_nil) mm48_ok
theorem mm49Ok : mm49.Ok tbE Tryz.prog tbGl := memo_ok all_nil mm49_ok
theorem mm50Ok : mm50.Ok tbE Tryz.prog tbGl := memo_ok (all_cons mm49Ok all_nil) mm50_ok
theorem mm51Ok : mm51.Ok tbE Tryz.prog tbGl := memo_ok (all_cons mm50Ok all_nil) mm51_ok
theorem mm52Ok : mm52.Ok tbE Tryz.prog tbGl := memo_ok (all_cons mm45Ok (all_cons mm48Ok (all_cons mm51Ok all_nil))) mm52_ok
theorem mm53Ok : mm53.Ok tbE Tryz.prog tbGl := memo_ok all_nil mm53_ok
theorem mm54Ok : mm54.Ok tbE Tryz.prog tbGl := memo_ok (all_cons mm53Ok all_nil) mm54_ok
theorem mm55Ok : mm55.Ok tbE Tryz.prog tbGl := memo_ok (all_cons mm54Ok all_nil) mm55_ok
theorem mm56Ok : mm56.Ok tbE Tryz.prog tbGl := memo_ok all_nil mm56_ok
theorem mm57Ok : mm57.Ok tbE Tryz.prog tbGl := memo_ok (all_cons mm56Ok all_nil) mm57_ok
theorem mm58Ok : mm58.Ok tbE Tryz.prog tbGl := memo_ok (all_cons mm57Ok all_nil) mm58_ok
theorem mm59Ok : mm59.Ok tbE Tryz.prog tbGl := memo_ok (all_cons mm55Ok (all_cons mm58Ok all_nil)) mm59_ok
theorem mm60Ok : mm60.Ok tbE Tryz.prog tbGl := memo_ok all_nil mm60_ok
theorem mm61Ok : mm61.Ok tbE Tryz.prog tbGl := memo_ok (all_cons mm0Ok (all_cons mm5Ok (all_cons mm6Ok (all_cons mm20Ok (all_cons mm42Ok (all_cons mm52Ok (all_cons mm59Ok (all_cons mm60Ok all_nil)))))))) mm61_ok
end Go.Ev
