/- A part of the proof of the card: see the text that ends in XFinal. -/
import Derived.Test.YtcjocfaknhpncaaGreatDoorXTab
import Derived.Test.YtcjocfaknhpncaaGreatDoorXHa
namespace Go.Ev
open Go
set_option maxRecDepth 1000000
set_option maxHeartbeats 100000000
theorem mm5_ok : mm5.check (tbE.withM tbGl [mm1,mm4] [161,169]) tbGl 10000000 = true := by kernel_rfl
theorem mm11_ok : mm11.check (tbE.withM tbGl [mm7,mm8,mm9,mm10] [423]) tbGl 10000000 = true := by kernel_rfl
theorem mm17_ok : mm17.check (tbE.withM tbGl [] []) tbGl 10000000 = true := by kernel_rfl
theorem mm23_ok : mm23.check (tbE.withM tbGl [] []) tbGl 10000000 = true := by kernel_rfl
theorem mm29_ok : mm29.check (tbE.withM tbGl [mm25,mm26,mm28] [224,288,382]) tbGl 10000000 = true := by kernel_rfl
theorem mm35_ok : mm35.check (tbE.withM tbGl [] []) tbGl 10000000 = true := by kernel_rfl
theorem mm41_ok : mm41.check (tbE.withM tbGl [mm40] [224]) tbGl 10000000 = true := by kernel_rfl
theorem mm47_ok : mm47.check (tbE.withM tbGl [mm46] [288]) tbGl 10000000 = true := by kernel_rfl
theorem mm53_ok : mm53.check (tbE.withM tbGl [] []) tbGl 10000000 = true := by kernel_rfl
theorem mm59_ok : mm59.check (tbE.withM tbGl [mm55,mm58] [216]) tbGl 10000000 = true := by kernel_rfl
end Go.Ev
