/-
  Facts about the program as a whole that each law's statement asks.
-/
import Derived.Test.YthpcippgifmabaaGreatDoorOpen
namespace Go.Proofs.YthpcippgifmabaaGreatDoor
set_option maxRecDepth 100000

theorem f_chars : Tryz.prog.initOrder.toList = List.map Char.ofNat [104, 97, 114, 110, 101, 115, 115, 32, 52, 50, 57, 54, 48, 99, 57, 52, 101, 98, 51, 100, 102, 51, 56, 48, 57, 49, 52, 100, 49, 98, 99, 48, 98, 54, 54, 101, 55, 55, 101, 101, 97, 99, 99, 102, 102, 101, 48, 102, 50, 51, 57, 101, 55, 102, 54, 51, 100, 54, 48, 55, 50, 57, 53, 55, 97, 100, 102, 56, 55, 99, 101, 56, 32, 99, 117, 116, 32, 97, 116, 32, 108, 111, 111, 112, 46, 101, 120, 97, 109, 112, 108, 101, 47, 103, 48, 51, 50, 50, 49, 47, 108, 97, 119, 115, 46, 70, 110, 69, 120, 97, 99, 116, 80, 97, 114, 115, 101, 70, 97, 109, 105, 108, 121] := by
  have h : Tryz.prog.initOrder = String.ofList (List.map Char.ofNat [104, 97, 114, 110, 101, 115, 115, 32, 52, 50, 57, 54, 48, 99, 57, 52, 101, 98, 51, 100, 102, 51, 56, 48, 57, 49, 52, 100, 49, 98, 99, 48, 98, 54, 54, 101, 55, 55, 101, 101, 97, 99, 99, 102, 102, 101, 48, 102, 50, 51, 57, 101, 55, 102, 54, 51, 100, 54, 48, 55, 50, 57, 53, 55, 97, 100, 102, 56, 55, 99, 101, 56, 32, 99, 117, 116, 32, 97, 116, 32, 108, 111, 111, 112, 46, 101, 120, 97, 109, 112, 108, 101, 47, 103, 48, 51, 50, 50, 49, 47, 108, 97, 119, 115, 46, 70, 110, 69, 120, 97, 99, 116, 80, 97, 114, 115, 101, 70, 97, 109, 105, 108, 121]) := by kernel_rfl
  rw [h, String.toList_ofList]
theorem f_laid : laidOutB Tryz.prog = true := laidOut
theorem f_maps : mapsRowed Tryz.prog = true := by kernel_rfl
theorem f_heard : Tryz.prog.stopsHeard = true := by kernel_rfl
theorem f_enter : Tryz.prog.mayEnter = true := by
  unfold Program.mayEnter; rw [f_chars]; kernel_rfl
theorem f_lift (b : Bool) (h : b = false) : (b == Tryz.prog.liftsFinal) = true := by
  subst h; unfold Program.liftsFinal Program.headLifts; rw [f_chars]; kernel_rfl
theorem f_make (m : Make) (h : m = .cut) : (Tryz.prog.make == some m) = true := by
  subst h; unfold Program.make; rw [f_chars]; kernel_rfl
end Go.Proofs.YthpcippgifmabaaGreatDoor
