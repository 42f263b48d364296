/- A part of the proof of the card: see the text that ends in XFinal. -/
import Derived.Test.YtcjocfaknhpncaaGreatDoorXKa
namespace Go.Ev
open Go
set_option maxRecDepth 1000000
set_option maxHeartbeats 100000000
theorem lnNil : lnChkNil = true := by kernel_rfl
theorem lnBig (c m : Nat) : lnChkBig c m = true := by kernel_rfl
theorem ln0 (f : Nat → List UInt8) (c : Nat) : lnChk f c 0 = true := by kernel_rfl
theorem ln1 (f : Nat → List UInt8) (c : Nat) : lnChk f c 1 = true := by kernel_rfl
theorem ln2 (f : Nat → List UInt8) (c : Nat) : lnChk f c 2 = true := by kernel_rfl
theorem ln3 (f : Nat → List UInt8) (c : Nat) : lnChk f c 3 = true := by kernel_rfl
theorem ln4 (f : Nat → List UInt8) (c : Nat) : lnChk f c 4 = true := by kernel_rfl
theorem ln5 (f : Nat → List UInt8) (c : Nat) : lnChk f c 5 = true := by kernel_rfl
theorem ln6 (f : Nat → List UInt8) (c : Nat) : lnChk f c 6 = true := by kernel_rfl
theorem ln7 (f : Nat → List UInt8) (c : Nat) : lnChk f c 7 = true := by kernel_rfl
theorem ln8 (f : Nat → List UInt8) (c : Nat) : lnChk f c 8 = true := by kernel_rfl
theorem ln9 (f : Nat → List UInt8) (c : Nat) : lnChk f c 9 = true := by kernel_rfl
theorem ln10 (f : Nat → List UInt8) (c : Nat) : lnChk f c 10 = true := by kernel_rfl
theorem ln11 (f : Nat → List UInt8) (c : Nat) : lnChk f c 11 = true := by kernel_rfl
theorem ln12 (f : Nat → List UInt8) (c : Nat) : lnChk f c 12 = true := by kernel_rfl
theorem ln13 (f : Nat → List UInt8) (c : Nat) : lnChk f c 13 = true := by kernel_rfl
theorem ln14 (f : Nat → List UInt8) (c : Nat) : lnChk f c 14 = true := by kernel_rfl
theorem ln15 (f : Nat → List UInt8) (c : Nat) : lnChk f c 15 = true := by kernel_rfl
theorem ln16 (f : Nat → List UInt8) (c : Nat) : lnChk f c 16 = true := by kernel_rfl
theorem ln17 (f : Nat → List UInt8) (c : Nat) : lnChk f c 17 = true := by kernel_rfl
theorem ln18 (f : Nat → List UInt8) (c : Nat) : lnChk f c 18 = true := by kernel_rfl
theorem ln19 (f : Nat → List UInt8) (c : Nat) : lnChk f c 19 = true := by kernel_rfl
theorem ln20 (f : Nat → List UInt8) (c : Nat) : lnChk f c 20 = true := by kernel_rfl
theorem ln21 (f : Nat → List UInt8) (c : Nat) : lnChk f c 21 = true := by kernel_rfl
theorem ln22 (f : Nat → List UInt8) (c : Nat) : lnChk f c 22 = true := by kernel_rfl
theorem ln23 (f : Nat → List UInt8) (c : Nat) : lnChk f c 23 = true := by kernel_rfl
theorem ln24 (f : Nat → List UInt8) (c : Nat) : lnChk f c 24 = true := by kernel_rfl
theorem ln25 (f : Nat → List UInt8) (c : Nat) : lnChk f c 25 = true := by kernel_rfl
theorem ln26 (f : Nat → List UInt8) (c : Nat) : lnChk f c 26 = true := by kernel_rfl
theorem ln27 (f : Nat → List UInt8) (c : Nat) : lnChk f c 27 = true := by kernel_rfl
theorem ln28 (f : Nat → List UInt8) (c : Nat) : lnChk f c 28 = true := by kernel_rfl
theorem ln29 (f : Nat → List UInt8) (c : Nat) : lnChk f c 29 = true := by kernel_rfl
theorem ln30 (f : Nat → List UInt8) (c : Nat) : lnChk f c 30 = true := by kernel_rfl
theorem ln31 (f : Nat → List UInt8) (c : Nat) : lnChk f c 31 = true := by kernel_rfl
theorem ln32 (f : Nat → List UInt8) (c : Nat) : lnChk f c 32 = true := by kernel_rfl
theorem ln33 (f : Nat → List UInt8) (c : Nat) : lnChk f c 33 = true := by kernel_rfl
theorem ln34 (f : Nat → List UInt8) (c : Nat) : lnChk f c 34 = true := by kernel_rfl
theorem ln35 (f : Nat → List UInt8) (c : Nat) : lnChk f c 35 = true := by kernel_rfl
theorem ln36 (f : Nat → List UInt8) (c : Nat) : lnChk f c 36 = true := by kernel_rfl
theorem ln37 (f : Nat → List UInt8) (c : Nat) : lnChk f c 37 = true := by kernel_rfl
theorem ln38 (f : Nat → List UInt8) (c : Nat) : lnChk f c 38 = true := by kernel_rfl
theorem ln39 (f : Nat → List UInt8) (c : Nat) : lnChk f c 39 = true := by kernel_rfl
theorem ln40 (f : Nat → List UInt8) (c : Nat) : lnChk f c 40 = true := by kernel_rfl
theorem ln41 (f : Nat → List UInt8) (c : Nat) : lnChk f c 41 = true := by kernel_rfl
theorem ln42 (f : Nat → List UInt8) (c : Nat) : lnChk f c 42 = true := by kernel_rfl
theorem ln43 (f : Nat → List UInt8) (c : Nat) : lnChk f c 43 = true := by kernel_rfl
theorem ln44 (f : Nat → List UInt8) (c : Nat) : lnChk f c 44 = true := by kernel_rfl
theorem ln45 (f : Nat → List UInt8) (c : Nat) : lnChk f c 45 = true := by kernel_rfl
theorem ln46 (f : Nat → List UInt8) (c : Nat) : lnChk f c 46 = true := by kernel_rfl
theorem ln47 (f : Nat → List UInt8) (c : Nat) : lnChk f c 47 = true := by kernel_rfl
theorem ln48 (f : Nat → List UInt8) (c : Nat) : lnChk f c 48 = true := by kernel_rfl
theorem ln49 (f : Nat → List UInt8) (c : Nat) : lnChk f c 49 = true := by kernel_rfl
theorem ln50 (f : Nat → List UInt8) (c : Nat) : lnChk f c 50 = true := by kernel_rfl
theorem ln51 (f : Nat → List UInt8) (c : Nat) : lnChk f c 51 = true := by kernel_rfl
theorem ln52 (f : Nat → List UInt8) (c : Nat) : lnChk f c 52 = true := by kernel_rfl
theorem ln53 (f : Nat → List UInt8) (c : Nat) : lnChk f c 53 = true := by kernel_rfl
theorem ln54 (f : Nat → List UInt8) (c : Nat) : lnChk f c 54 = true := by kernel_rfl
theorem ln55 (f : Nat → List UInt8) (c : Nat) : lnChk f c 55 = true := by kernel_rfl
theorem ln56 (f : Nat → List UInt8) (c : Nat) : lnChk f c 56 = true := by kernel_rfl
theorem ln57 (f : Nat → List UInt8) (c : Nat) : lnChk f c 57 = true := by kernel_rfl
theorem ln58 (f : Nat → List UInt8) (c : Nat) : lnChk f c 58 = true := by kernel_rfl
theorem ln59 (f : Nat → List UInt8) (c : Nat) : lnChk f c 59 = true := by kernel_rfl
end Go.Ev
