/- A part of the proof of the card: see the text that ends in XFinal. -/
import Derived.Test.YtcjocfaknhpncaaGreatDoorXTab
import Derived.Test.YtcjocfaknhpncaaGreatDoorXHa
namespace Go.Ev
open Go
set_option maxRecDepth 1000000
set_option maxHeartbeats 100000000
theorem mm7_ok : mm7.check (tbE.withM tbGl [] []) tbGl 10000000 = true := by kernel_rfl
theorem mm13_ok : mm13.check (tbE.withM tbGl [] []) tbGl 10000000 = true := by kernel_rfl
theorem mm19_ok : mm19.check (tbE.withM tbGl [mm18] [224]) tbGl 10000000 = true := by kernel_rfl
theorem mm25_ok : mm25.check (tbE.withM tbGl [mm21,mm22,mm23,mm24] [423]) tbGl 10000000 = true := by kernel_rfl
theorem mm31_ok : mm31.check (tbE.withM tbGl [] []) tbGl 10000000 = true := by kernel_rfl
theorem mm37_ok : mm37.check (tbE.withM tbGl [mm36] [288]) tbGl 10000000 = true := by kernel_rfl
theorem mm43_ok : mm43.check (tbE.withM tbGl [] []) tbGl 10000000 = true := by kernel_rfl
theorem mm49_ok : mm49.check (tbE.withM tbGl [] []) tbGl 10000000 = true := by kernel_rfl
theorem mm55_ok : mm55.check (tbE.withM tbGl [mm54] [224]) tbGl 10000000 = true := by kernel_rfl
theorem mm61_ok : mm61.check (tbE.withM tbGl [mm0,mm5,mm6,mm20,mm42,mm52,mm59,mm60] [6]) tbGl 10000000 = true := by kernel_rfl
end Go.Ev
