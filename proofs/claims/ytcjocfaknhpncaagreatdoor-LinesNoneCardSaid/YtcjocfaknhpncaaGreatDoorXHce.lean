/- A part of the proof of the card: see the text that ends in XFinal. -/
import Derived.Test.YtcjocfaknhpncaaGreatDoorXTab
import Derived.Test.YtcjocfaknhpncaaGreatDoorXHd
namespace Go.Ev
open Go
set_option maxRecDepth 1000000
set_option maxHeartbeats 100000000
theorem mm1_ok : mm1.check (tbE.withM tbGl [mn0,mn1,mn2,mn3,mn4,mn5] [387,388,389]) tbGl 10000000 = true := by kernel_rfl
theorem mm16_ok : mm16.check (tbE.withM tbGl [mn6,mn7,mn8,mn9,mn10,mn11] [387,388,389]) tbGl 10000000 = true := by kernel_rfl
end Go.Ev
