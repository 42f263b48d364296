/- A part of the proof of the card: see the text that ends in XFinal. -/
import Derived.Test.YtcjocfaknhpncaaGreatDoorXTab
import Derived.Test.YtcjocfaknhpncaaGreatDoorXHd
namespace Go.Ev
open Go
set_option maxRecDepth 1000000
set_option maxHeartbeats 100000000
theorem mn7_ok : mn7.check (tbE.withM tbGl [] []) tbGl 10000000 = true := by kernel_rfl
theorem mn8_ok : mn8.check (tbE.withM tbGl [] []) tbGl 10000000 = true := by kernel_rfl
end Go.Ev
