/- Runs of the update of the sessions, case by case, whatever their rounds and cuts. -/
import Derived.Test.YtfahiennamklgaaGreatDoorTab
import Derived.Test.YtfahiennamklgaaGreatDoorA13

set_option linter.all false
set_option linter.unusedVariables false
set_option linter.unusedSimpArgs false
set_option linter.deprecated false

/- Runs of the sessions' update, case by case. -/
namespace Go.Proofs.YtfahiennamklgaaGreatDoor
open Go Ae
set_option maxRecDepth 1000000
theorem Tryz.runM1 (rs cs : Nat → Int) (c : Int) (y : Nat) : mapA (goM Tryz.atab Tryz.f6 6 rs cs c y) (chunk 31 casesM 1) = mapB (specM rs cs c y) (chunk 31 casesM 1) := by kernel_rfl
theorem Tryz.runM9 (rs cs : Nat → Int) (c : Int) (y : Nat) : mapA (goM Tryz.atab Tryz.f6 6 rs cs c y) (chunk 31 casesM 9) = mapB (specM rs cs c y) (chunk 31 casesM 9) := by kernel_rfl
theorem Tryz.runE1 (rs cs : Nat → Int) (c : Int) (y : Nat) : mapA (goE Tryz.atab Tryz.f6 6 rs cs c y) (chunk 31 casesE 1) = mapB (specE rs cs c y) (chunk 31 casesE 1) := by kernel_rfl
theorem Tryz.runE9 (rs cs : Nat → Int) (c : Int) (y : Nat) : mapA (goE Tryz.atab Tryz.f6 6 rs cs c y) (chunk 31 casesE 9) = mapB (specE rs cs c y) (chunk 31 casesE 9) := by kernel_rfl
end Go.Proofs.YtfahiennamklgaaGreatDoor
