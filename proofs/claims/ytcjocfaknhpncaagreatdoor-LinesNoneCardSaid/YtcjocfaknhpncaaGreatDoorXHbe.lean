/- A part of the proof of the card: see the text that ends in XFinal. -/
import Derived.Test.YtcjocfaknhpncaaGreatDoorXTab
import Derived.Test.YtcjocfaknhpncaaGreatDoorXHa
namespace Go.Ev
open Go
set_option maxRecDepth 1000000
set_option maxHeartbeats 100000000
theorem mm4_ok : mm4.check (tbE.withM tbGl [mm3] [224]) tbGl 10000000 = true := by kernel_rfl
theorem mm10_ok : mm10.check (tbE.withM tbGl [] []) tbGl 10000000 = true := by kernel_rfl
theorem mm22_ok : mm22.check (tbE.withM tbGl [] []) tbGl 10000000 = true := by kernel_rfl
theorem mm28_ok : mm28.check (tbE.withM tbGl [mm27] [288]) tbGl 10000000 = true := by kernel_rfl
theorem mm34_ok : mm34.check (tbE.withM tbGl [mm30,mm31,mm32,mm33] [423]) tbGl 10000000 = true := by kernel_rfl
theorem mm40_ok : mm40.check (tbE.withM tbGl [mm39] [288]) tbGl 10000000 = true := by kernel_rfl
theorem mm46_ok : mm46.check (tbE.withM tbGl [] []) tbGl 10000000 = true := by kernel_rfl
theorem mm52_ok : mm52.check (tbE.withM tbGl [mm45,mm48,mm51] [216]) tbGl 10000000 = true := by kernel_rfl
theorem mm58_ok : mm58.check (tbE.withM tbGl [mm57] [224]) tbGl 10000000 = true := by kernel_rfl
end Go.Ev
