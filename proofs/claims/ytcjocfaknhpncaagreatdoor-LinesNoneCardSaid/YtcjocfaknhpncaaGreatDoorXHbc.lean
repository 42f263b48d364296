/- A part of the proof of the card: see the text that ends in XFinal. -/
import Derived.Test.YtcjocfaknhpncaaGreatDoorXTab
import Derived.Test.YtcjocfaknhpncaaGreatDoorXHa
namespace Go.Ev
open Go
set_option maxRecDepth 1000000
set_option maxHeartbeats 100000000
theorem mm2_ok : mm2.check (tbE.withM tbGl [] []) tbGl 10000000 = true := by kernel_rfl
theorem mm8_ok : mm8.check (tbE.withM tbGl [] []) tbGl 10000000 = true := by kernel_rfl
theorem mm14_ok : mm14.check (tbE.withM tbGl [mm13] [288]) tbGl 10000000 = true := by kernel_rfl
theorem mm20_ok : mm20.check (tbE.withM tbGl [mm15,mm16,mm19] [161,169,216]) tbGl 10000000 = true := by kernel_rfl
theorem mm26_ok : mm26.check (tbE.withM tbGl [] []) tbGl 10000000 = true := by kernel_rfl
theorem mm32_ok : mm32.check (tbE.withM tbGl [] []) tbGl 10000000 = true := by kernel_rfl
theorem mm38_ok : mm38.check (tbE.withM tbGl [mm34,mm35,mm37] [224,288,382]) tbGl 10000000 = true := by kernel_rfl
theorem mm44_ok : mm44.check (tbE.withM tbGl [mm43] [288]) tbGl 10000000 = true := by kernel_rfl
theorem mm50_ok : mm50.check (tbE.withM tbGl [mm49] [288]) tbGl 10000000 = true := by kernel_rfl
theorem mm56_ok : mm56.check (tbE.withM tbGl [] []) tbGl 10000000 = true := by kernel_rfl
end Go.Ev
