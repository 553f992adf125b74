/-
  Facts about the program as a whole that each law's statement asks.
-/
import Derived.Test.YthpcippgifmabaaDoorOpen
namespace Go.Proofs.YthpcippgifmabaaDoor
set_option maxRecDepth 100000

theorem f_chars : Tryd.prog.initOrder.toList = List.map Char.ofNat [104, 97, 114, 110, 101, 115, 115, 32, 56, 57, 101, 53, 49, 57, 54, 53, 48, 101, 49, 53, 99, 97, 101, 101, 52, 49, 97, 48, 56, 48, 56, 97, 102, 48, 55, 51, 101, 55, 51, 100, 56, 54, 51, 99, 49, 56, 56, 53, 57, 57, 98, 54, 97, 51, 99, 56, 55, 57, 97, 48, 98, 49, 57, 101, 51, 98, 56, 97, 101, 54, 55, 100, 32, 99, 117, 116, 32, 97, 116, 32, 108, 111, 111, 112, 46, 101, 120, 97, 109, 112, 108, 101, 47, 103, 48, 51, 50, 50, 49, 47, 108, 97, 119, 115, 46, 70, 110, 69, 120, 97, 99, 116, 70, 111, 114, 109, 97, 116, 70, 97, 109, 105, 108, 121] := by
  have h : Tryd.prog.initOrder = String.ofList (List.map Char.ofNat [104, 97, 114, 110, 101, 115, 115, 32, 56, 57, 101, 53, 49, 57, 54, 53, 48, 101, 49, 53, 99, 97, 101, 101, 52, 49, 97, 48, 56, 48, 56, 97, 102, 48, 55, 51, 101, 55, 51, 100, 56, 54, 51, 99, 49, 56, 56, 53, 57, 57, 98, 54, 97, 51, 99, 56, 55, 57, 97, 48, 98, 49, 57, 101, 51, 98, 56, 97, 101, 54, 55, 100, 32, 99, 117, 116, 32, 97, 116, 32, 108, 111, 111, 112, 46, 101, 120, 97, 109, 112, 108, 101, 47, 103, 48, 51, 50, 50, 49, 47, 108, 97, 119, 115, 46, 70, 110, 69, 120, 97, 99, 116, 70, 111, 114, 109, 97, 116, 70, 97, 109, 105, 108, 121]) := by kernel_rfl
  rw [h, String.toList_ofList]
theorem f_laid : laidOutB Tryd.prog = true := laidOut
theorem f_maps : mapsRowed Tryd.prog = true := by kernel_rfl
theorem f_heard : Tryd.prog.stopsHeard = true := by kernel_rfl
theorem f_enter : Tryd.prog.mayEnter = true := by
  unfold Program.mayEnter; rw [f_chars]; kernel_rfl
theorem f_lift (b : Bool) (h : b = false) : (b == Tryd.prog.liftsFinal) = true := by
  subst h; unfold Program.liftsFinal Program.headLifts; rw [f_chars]; kernel_rfl
theorem f_make (m : Make) (h : m = .cut) : (Tryd.prog.make == some m) = true := by
  subst h; unfold Program.make; rw [f_chars]; kernel_rfl
end Go.Proofs.YthpcippgifmabaaDoor
