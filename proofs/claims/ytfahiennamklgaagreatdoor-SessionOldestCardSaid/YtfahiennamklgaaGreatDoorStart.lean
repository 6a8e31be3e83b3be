/- A start at which the law can be called: its closed facts. -/
import Derived.Test.YtfahiennamklgaaGreatDoorRows
import Derived.Test.YtfahiennamklgaaGreatDoorBody
import Derived.LaidByTextLater
import Derived.SevenTiedAt
import Derived.ProofKit
import Derived.LaidMore

set_option linter.all false
set_option linter.unusedVariables false
set_option linter.unusedSimpArgs false
set_option linter.deprecated false

/- The start, one closed fact at a time. -/
namespace Go.Proofs.YtfahiennamklgaaGreatDoor
open Go
noncomputable abbrev laidT : List (String × DataW Unit) := Rows.sessionOldestRow.laid
theorem fx_own  : ownKnob Tryz.prog.godebug = none := by kernel_rfl
theorem fx_noInit  : Tryz.prog.inits.idxOf? 3 = none := by kernel_rfl
theorem fx_hv (os : Os) : ((World.doorLaid Tryz.prog 400 os).forCall (fun _ _ => 0) ⟨#[], #[.slice none 0 0], []⟩).variablesRefB Tryz.prog = true := by kernel_rfl
theorem fx_hr (os : Os) : (((World.doorLaid Tryz.prog 400 os).forCall (fun _ _ => 0) ⟨#[], #[.slice none 0 0], []⟩).heap.toList.drop Tryz.prog.globals.size).take ((begin Tryz.prog (fun _ _ => 0) default).world.heap.size - Tryz.prog.globals.size) = (begin Tryz.prog (fun _ _ => 0) default).world.heap.toList.drop Tryz.prog.globals.size := by kernel_rfl
theorem fx_hok (os : Os) : Input.okWideB Tryz.prog ((World.doorLaid Tryz.prog 400 os).forCall (fun _ _ => 0) ⟨#[], #[.slice none 0 0], []⟩) 3 ⟨#[], #[.slice none 0 0], []⟩ = true := by kernel_rfl
theorem fx_hpre {H : Type} (enc : TypeId × Value → H) (os : Os) : Rows.sessionOldestSpec.preB enc Tryz.prog Tryz.f3 [] false ((World.doorLaid Tryz.prog 400 os).forCall (fun _ _ => 0) ⟨#[], #[.slice none 0 0], []⟩).memory #[.slice none 0 0] 8 = true := by kernel_rfl
theorem fx_hsz {H : Type} (enc : TypeId × Value → H) (os : Os) : Rows.sessionOldestSpec.sizedB enc Tryz.prog Tryz.f3 false ((World.doorLaid Tryz.prog 400 os).forCall (fun _ _ => 0) ⟨#[], #[.slice none 0 0], []⟩).memory #[.slice none 0 0] 8 = true := by kernel_rfl
theorem fx_d1 (os : Os) : (DataW.laidRun Tryz.prog ((World.doorLaid Tryz.prog 400 os).forCall (fun _ _ => 0) ⟨#[], #[.slice none 0 0], []⟩).memory 8 (laidT.map (·.1))).map (·.1) = some laidT := by kernel_rfl
theorem fx_d2 (os : Os) : (DataW.laidRun Tryz.prog ((World.doorLaid Tryz.prog 400 os).forCall (fun _ _ => 0) ⟨#[], #[.slice none 0 0], []⟩).memory 8 (laidT.map (·.1))).map (fun x => decide x.2.Nodup && laidRowsB Tryz.prog ((World.doorLaid Tryz.prog 400 os).forCall (fun _ _ => 0) ⟨#[], #[.slice none 0 0], []⟩).memory x.2) = some true := by kernel_rfl
theorem fx_fn  : Tryz.prog.funcNamed Rows.sessionOldestRow.func = some 3 := by kernel_rfl
theorem fx_stand  : Tryz.prog.wantsStandIn 22 = false := by kernel_rfl
theorem fx_params  : Tryz.f3.params.toList = [22] := by kernel_rfl
end Go.Proofs.YtfahiennamklgaaGreatDoor
