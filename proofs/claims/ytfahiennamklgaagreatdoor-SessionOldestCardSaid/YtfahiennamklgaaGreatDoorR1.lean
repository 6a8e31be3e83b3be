/- Runs of the update of the sessions, case by case, whatever their rounds and cuts. -/
import Derived.Test.YtfahiennamklgaaGreatDoorTab
import Derived.Test.YtfahiennamklgaaGreatDoorA13

set_option linter.all false
set_option linter.unusedVariables false
set_option linter.unusedSimpArgs false
set_option linter.deprecated false

/- Runs of the sessions' update, case by case. -/
namespace Go.Proofs.YtfahiennamklgaaGreatDoor
open Go Ae
set_option maxRecDepth 1000000
theorem Tryz.runN1 (rs cs : Nat → Int) (r c : Int) : mapA (goN Tryz.atab Tryz.f6 6 rs cs r c) (chunk 31 casesN 1) = mapB (specN rs cs r c) (chunk 31 casesN 1) := by kernel_rfl
theorem Tryz.runM3 (rs cs : Nat → Int) (c : Int) (y : Nat) : mapA (goM Tryz.atab Tryz.f6 6 rs cs c y) (chunk 31 casesM 3) = mapB (specM rs cs c y) (chunk 31 casesM 3) := by kernel_rfl
theorem Tryz.runM11 (rs cs : Nat → Int) (c : Int) (y : Nat) : mapA (goM Tryz.atab Tryz.f6 6 rs cs c y) (chunk 31 casesM 11) = mapB (specM rs cs c y) (chunk 31 casesM 11) := by kernel_rfl
theorem Tryz.runE3 (rs cs : Nat → Int) (c : Int) (y : Nat) : mapA (goE Tryz.atab Tryz.f6 6 rs cs c y) (chunk 31 casesE 3) = mapB (specE rs cs c y) (chunk 31 casesE 3) := by kernel_rfl
end Go.Proofs.YtfahiennamklgaaGreatDoor
