/-
  The law LinesNone answers true at every argument, and leaves its argument as it was: the given card.
  Conditions: none beyond the card's own; what the example within the law answers was reckoned by the kernel, call by call, by an evaluator that is proved against the model.
-/
import Derived.Test.YtcjocfaknhpncaaGreatDoorXLg
import Derived.Test.YtcjocfaknhpncaaGreatDoorXMa
namespace Go.Proofs.YtcjocfaknhpncaaGreatDoor.linesNone
theorem card : Rows.LinesNoneCardSaid := Go.Ev.cardOf Go.Ev.mm61Ok
#print axioms card
end Go.Proofs.YtcjocfaknhpncaaGreatDoor.linesNone
