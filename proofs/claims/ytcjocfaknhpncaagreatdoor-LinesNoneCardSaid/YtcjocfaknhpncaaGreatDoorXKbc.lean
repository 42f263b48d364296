/- A part of the proof of the card: see the text that ends in XFinal. -/
import Derived.Test.YtcjocfaknhpncaaGreatDoorXKa
namespace Go.Ev
open Go
set_option maxRecDepth 1000000
set_option maxHeartbeats 100000000
theorem ln84 (f : Nat → List UInt8) (c : Nat) : lnChk f c 84 = true := by kernel_rfl
theorem ln85 (f : Nat → List UInt8) (c : Nat) : lnChk f c 85 = true := by kernel_rfl
theorem ln86 (f : Nat → List UInt8) (c : Nat) : lnChk f c 86 = true := by kernel_rfl
theorem ln87 (f : Nat → List UInt8) (c : Nat) : lnChk f c 87 = true := by kernel_rfl
theorem ln88 (f : Nat → List UInt8) (c : Nat) : lnChk f c 88 = true := by kernel_rfl
theorem ln89 (f : Nat → List UInt8) (c : Nat) : lnChk f c 89 = true := by kernel_rfl
theorem ln90 (f : Nat → List UInt8) (c : Nat) : lnChk f c 90 = true := by kernel_rfl
theorem ln91 (f : Nat → List UInt8) (c : Nat) : lnChk f c 91 = true := by kernel_rfl
theorem ln92 (f : Nat → List UInt8) (c : Nat) : lnChk f c 92 = true := by kernel_rfl
theorem ln93 (f : Nat → List UInt8) (c : Nat) : lnChk f c 93 = true := by kernel_rfl
theorem ln94 (f : Nat → List UInt8) (c : Nat) : lnChk f c 94 = true := by kernel_rfl
theorem ln95 (f : Nat → List UInt8) (c : Nat) : lnChk f c 95 = true := by kernel_rfl
theorem ln96 (f : Nat → List UInt8) (c : Nat) : lnChk f c 96 = true := by kernel_rfl
theorem ln97 (f : Nat → List UInt8) (c : Nat) : lnChk f c 97 = true := by kernel_rfl
theorem ln98 (f : Nat → List UInt8) (c : Nat) : lnChk f c 98 = true := by kernel_rfl
theorem ln99 (f : Nat → List UInt8) (c : Nat) : lnChk f c 99 = true := by kernel_rfl
theorem ln100 (f : Nat → List UInt8) (c : Nat) : lnChk f c 100 = true := by kernel_rfl
end Go.Ev
