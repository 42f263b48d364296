/- A part of the proof of the card: see the text that ends in XFinal. -/
import Derived.Test.YtcjocfaknhpncaaGreatDoorXTab
import Derived.Test.YtcjocfaknhpncaaGreatDoorXHd
namespace Go.Ev
open Go
set_option maxRecDepth 1000000
set_option maxHeartbeats 100000000
theorem mn1_ok : mn1.check (tbE.withM tbGl [] []) tbGl 10000000 = true := by kernel_rfl
theorem mn2_ok : mn2.check (tbE.withM tbGl [] []) tbGl 10000000 = true := by kernel_rfl
end Go.Ev
