/- A part of the proof of the card: see the text that ends in XFinal. -/
import Derived.Test.YtcjocfaknhpncaaGreatDoorXTab
import Derived.Test.YtcjocfaknhpncaaGreatDoorXHa
namespace Go.Ev
open Go
set_option maxRecDepth 1000000
set_option maxHeartbeats 100000000
theorem mm3_ok : mm3.check (tbE.withM tbGl [mm2] [288]) tbGl 10000000 = true := by kernel_rfl
theorem mm9_ok : mm9.check (tbE.withM tbGl [] []) tbGl 10000000 = true := by kernel_rfl
theorem mm15_ok : mm15.check (tbE.withM tbGl [mm11,mm12,mm14] [224,288,382]) tbGl 10000000 = true := by kernel_rfl
theorem mm21_ok : mm21.check (tbE.withM tbGl [] []) tbGl 10000000 = true := by kernel_rfl
theorem mm27_ok : mm27.check (tbE.withM tbGl [] []) tbGl 10000000 = true := by kernel_rfl
theorem mm33_ok : mm33.check (tbE.withM tbGl [] []) tbGl 10000000 = true := by kernel_rfl
theorem mm39_ok : mm39.check (tbE.withM tbGl [] []) tbGl 10000000 = true := by kernel_rfl
theorem mm45_ok : mm45.check (tbE.withM tbGl [mm44] [224]) tbGl 10000000 = true := by kernel_rfl
theorem mm51_ok : mm51.check (tbE.withM tbGl [mm50] [224]) tbGl 10000000 = true := by kernel_rfl
theorem mm57_ok : mm57.check (tbE.withM tbGl [mm56] [288]) tbGl 10000000 = true := by kernel_rfl
end Go.Ev
