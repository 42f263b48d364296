/- A part of the proof of the card: see the text that ends in XFinal. -/
import Derived.Test.YtcjocfaknhpncaaGreatDoorXTab
import Derived.Test.YtcjocfaknhpncaaGreatDoorXHd
namespace Go.Ev
open Go
set_option maxRecDepth 1000000
set_option maxHeartbeats 100000000
theorem mn6_ok : mn6.check (tbE.withM tbGl [] []) tbGl 10000000 = true := by kernel_rfl
theorem mn9_ok : mn9.check (tbE.withM tbGl [] []) tbGl 10000000 = true := by kernel_rfl
theorem mn10_ok : mn10.check (tbE.withM tbGl [] []) tbGl 10000000 = true := by kernel_rfl
theorem mn11_ok : mn11.check (tbE.withM tbGl [] []) tbGl 10000000 = true := by kernel_rfl
end Go.Ev
