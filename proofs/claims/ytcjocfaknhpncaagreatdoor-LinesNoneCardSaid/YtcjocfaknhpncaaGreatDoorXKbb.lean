/- A part of the proof of the card: see the text that ends in XFinal. -/
import Derived.Test.YtcjocfaknhpncaaGreatDoorXKa
namespace Go.Ev
open Go
set_option maxRecDepth 1000000
set_option maxHeartbeats 100000000
theorem ln60 (f : Nat → List UInt8) (c : Nat) : lnChk f c 60 = true := by kernel_rfl
theorem ln61 (f : Nat → List UInt8) (c : Nat) : lnChk f c 61 = true := by kernel_rfl
theorem ln62 (f : Nat → List UInt8) (c : Nat) : lnChk f c 62 = true := by kernel_rfl
theorem ln63 (f : Nat → List UInt8) (c : Nat) : lnChk f c 63 = true := by kernel_rfl
theorem ln64 (f : Nat → List UInt8) (c : Nat) : lnChk f c 64 = true := by kernel_rfl
theorem ln65 (f : Nat → List UInt8) (c : Nat) : lnChk f c 65 = true := by kernel_rfl
theorem ln66 (f : Nat → List UInt8) (c : Nat) : lnChk f c 66 = true := by kernel_rfl
theorem ln67 (f : Nat → List UInt8) (c : Nat) : lnChk f c 67 = true := by kernel_rfl
theorem ln68 (f : Nat → List UInt8) (c : Nat) : lnChk f c 68 = true := by kernel_rfl
theorem ln69 (f : Nat → List UInt8) (c : Nat) : lnChk f c 69 = true := by kernel_rfl
theorem ln70 (f : Nat → List UInt8) (c : Nat) : lnChk f c 70 = true := by kernel_rfl
theorem ln71 (f : Nat → List UInt8) (c : Nat) : lnChk f c 71 = true := by kernel_rfl
theorem ln72 (f : Nat → List UInt8) (c : Nat) : lnChk f c 72 = true := by kernel_rfl
theorem ln73 (f : Nat → List UInt8) (c : Nat) : lnChk f c 73 = true := by kernel_rfl
theorem ln74 (f : Nat → List UInt8) (c : Nat) : lnChk f c 74 = true := by kernel_rfl
theorem ln75 (f : Nat → List UInt8) (c : Nat) : lnChk f c 75 = true := by kernel_rfl
theorem ln76 (f : Nat → List UInt8) (c : Nat) : lnChk f c 76 = true := by kernel_rfl
theorem ln77 (f : Nat → List UInt8) (c : Nat) : lnChk f c 77 = true := by kernel_rfl
theorem ln78 (f : Nat → List UInt8) (c : Nat) : lnChk f c 78 = true := by kernel_rfl
theorem ln79 (f : Nat → List UInt8) (c : Nat) : lnChk f c 79 = true := by kernel_rfl
theorem ln80 (f : Nat → List UInt8) (c : Nat) : lnChk f c 80 = true := by kernel_rfl
theorem ln81 (f : Nat → List UInt8) (c : Nat) : lnChk f c 81 = true := by kernel_rfl
theorem ln82 (f : Nat → List UInt8) (c : Nat) : lnChk f c 82 = true := by kernel_rfl
theorem ln83 (f : Nat → List UInt8) (c : Nat) : lnChk f c 83 = true := by kernel_rfl
end Go.Ev
