/- Runs of the update of the sessions, case by case, whatever their rounds and cuts. -/
import Derived.Test.YtfahiennamklgaaGreatDoorTab
import Derived.Test.YtfahiennamklgaaGreatDoorA13

set_option linter.all false
set_option linter.unusedVariables false
set_option linter.unusedSimpArgs false
set_option linter.deprecated false

/- Runs of the sessions' update, case by case. -/
namespace Go.Proofs.YtfahiennamklgaaGreatDoor
open Go Ae
set_option maxRecDepth 1000000
theorem Tryz.runN0 (rs cs : Nat → Int) (r c : Int) : mapA (goN Tryz.atab Tryz.f6 6 rs cs r c) (chunk 31 casesN 0) = mapB (specN rs cs r c) (chunk 31 casesN 0) := by kernel_rfl
theorem Tryz.runM2 (rs cs : Nat → Int) (c : Int) (y : Nat) : mapA (goM Tryz.atab Tryz.f6 6 rs cs c y) (chunk 31 casesM 2) = mapB (specM rs cs c y) (chunk 31 casesM 2) := by kernel_rfl
theorem Tryz.runM10 (rs cs : Nat → Int) (c : Int) (y : Nat) : mapA (goM Tryz.atab Tryz.f6 6 rs cs c y) (chunk 31 casesM 10) = mapB (specM rs cs c y) (chunk 31 casesM 10) := by kernel_rfl
theorem Tryz.runE2 (rs cs : Nat → Int) (c : Int) (y : Nat) : mapA (goE Tryz.atab Tryz.f6 6 rs cs c y) (chunk 31 casesE 2) = mapB (specE rs cs c y) (chunk 31 casesE 2) := by kernel_rfl
theorem Tryz.runE10 (rs cs : Nat → Int) (c : Int) (y : Nat) : mapA (goE Tryz.atab Tryz.f6 6 rs cs c y) (chunk 31 casesE 10) = mapB (specE rs cs c y) (chunk 31 casesE 10) := by kernel_rfl
end Go.Proofs.YtfahiennamklgaaGreatDoor
