/- The four variables that the row lists hold what the text of the program lays: the closed facts one at a time. -/
import Derived.Test.YtfahiennamklgaaGreatDoorRows
import Derived.LaidByTextLater
import Derived.SevenTiedAt

set_option linter.all false
set_option linter.unusedVariables false
set_option linter.unusedSimpArgs false
set_option linter.deprecated false

/- The program's tie: the four variables hold what the text lays; its closed facts one by one. -/
namespace Go.Proofs.YtfahiennamklgaaGreatDoor
open Go
noncomputable abbrev laidK : List (String × DataW Unit) := Rows.sessionOldestRow.laid
theorem kn_hw : Tryz.prog.worded (varsWordLater true) = true := by kernel_rfl
theorem kn_hw2 : Tryz.prog.worded (varsWordLater !true) = false := by kernel_rfl
theorem kn_hroot : Tryz.prog.worded rootWordLater = true := by kernel_rfl
theorem kn_hk : laidK.map (fun x => Tryz.prog.kindOfLater x.1) = [LaidKind.data, .data, .data, .data].map some := by kernel_rfl
theorem kn_hg : (Tryz.prog.funcNamed "gosem.cut.vars").isSome = true := by kernel_rfl
theorem kn_hn : varsNamedLaterB Tryz.prog (varsId Tryz.prog) laidK = true := by kernel_rfl
theorem kn_hd : ∀ os tape, varsDone Tryz.prog 400 (varsId Tryz.prog) os tape = true := fun _ _ => by kernel_rfl
theorem kn_h1 : ∀ os tape, (DataW.laidRun Tryz.prog (varsWorld Tryz.prog 400 (varsId Tryz.prog) os tape).memory 8 (laidK.map (·.1))).map (·.1) = some laidK := fun _ _ => by kernel_rfl
theorem kn_h2 : ∀ os tape, (DataW.laidRun Tryz.prog (varsWorld Tryz.prog 400 (varsId Tryz.prog) os tape).memory 8 (laidK.map (·.1))).map (fun x => decide x.2.Nodup && laidRowsB Tryz.prog (varsWorld Tryz.prog 400 (varsId Tryz.prog) os tape).memory x.2) = some true := fun _ _ => by kernel_rfl
theorem kn_hp : (laidK.all fun x => x.2.handleName?.isNone) = true := by kernel_rfl
theorem kn_noU : Tryz.pinned.checked.prog.headLifts.contains "ownunsafe" = false := by kernel_rfl
theorem knot : Tryz.prog.laidByTextLater laidK [.data, .data, .data, .data] true :=
  Program.laidByTextLater_by_run 400 8 kn_hw kn_hw2 kn_hroot kn_hk kn_hg kn_hn kn_hd kn_h1 kn_h2 kn_hp
theorem row_knot : Rows.sessionOldestRow.laidByTextAt .later Tryz.pinned [.data, .data, .data, .data] true :=
  OpenClaim.laidByTextAt_later rfl rfl knot kn_noU
end Go.Proofs.YtfahiennamklgaaGreatDoor
