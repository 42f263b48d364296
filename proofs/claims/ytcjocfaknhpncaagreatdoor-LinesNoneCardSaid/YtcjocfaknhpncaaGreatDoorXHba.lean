/- A part of the proof of the card: see the text that ends in XFinal. -/
import Derived.Test.YtcjocfaknhpncaaGreatDoorXTab
import Derived.Test.YtcjocfaknhpncaaGreatDoorXHa
namespace Go.Ev
open Go
set_option maxRecDepth 1000000
set_option maxHeartbeats 100000000
theorem mm0_ok : mm0.check (tbE.withM tbGl [] []) tbGl 10000000 = true := by kernel_rfl
theorem mm6_ok : mm6.check (tbE.withM tbGl [] []) tbGl 10000000 = true := by kernel_rfl
theorem mm12_ok : mm12.check (tbE.withM tbGl [] []) tbGl 10000000 = true := by kernel_rfl
theorem mm18_ok : mm18.check (tbE.withM tbGl [mm17] [288]) tbGl 10000000 = true := by kernel_rfl
theorem mm24_ok : mm24.check (tbE.withM tbGl [] []) tbGl 10000000 = true := by kernel_rfl
theorem mm30_ok : mm30.check (tbE.withM tbGl [] []) tbGl 10000000 = true := by kernel_rfl
theorem mm36_ok : mm36.check (tbE.withM tbGl [] []) tbGl 10000000 = true := by kernel_rfl
theorem mm42_ok : mm42.check (tbE.withM tbGl [mm29,mm38,mm41] [161,216]) tbGl 10000000 = true := by kernel_rfl
theorem mm48_ok : mm48.check (tbE.withM tbGl [mm47] [224]) tbGl 10000000 = true := by kernel_rfl
theorem mm54_ok : mm54.check (tbE.withM tbGl [mm53] [288]) tbGl 10000000 = true := by kernel_rfl
theorem mm60_ok : mm60.check (tbE.withM tbGl [] []) tbGl 10000000 = true := by kernel_rfl
end Go.Ev
