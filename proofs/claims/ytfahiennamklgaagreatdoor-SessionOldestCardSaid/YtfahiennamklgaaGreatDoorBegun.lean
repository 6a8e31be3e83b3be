/- The law without arguments (function 9) hands back true in every world and touches no block that was there. -/
import Derived.Test.YtfahiennamklgaaGreatDoorTab
import Derived.Test.YtfahiennamklgaaGreatDoorA12

set_option linter.all false
set_option linter.unusedVariables false
set_option linter.unusedSimpArgs false
set_option linter.deprecated false

/- The law's closed part: whatever the world, it hands back true, and no block that was there is touched. -/
namespace Go.Proofs.YtfahiennamklgaaGreatDoor
open Go Ae
noncomputable def Tryz.yes (x : Value × Nat) (_ : St) : Bool := Option.rec (motive := fun _ => Bool) false (fun b => b) (vBool x.1)
noncomputable def Tryz.fr9 : Fr := (enterFr Tryz.f9 9 [] .normal).getD { fn := 0, T := .nil, todo := [], defers := [], ret := false, kind := .normal, roundOf := none, nt := 0 }
set_option maxRecDepth 1000000
theorem Tryz.begun_run : evalB (run Tryz.atab 100000 [Tryz.fr9] 0) ⟨Trie.nil, Trie.nil⟩ Tryz.yes = true := by kernel_rfl
theorem Tryz.fr9_eq : enterFr Tryz.f9 9 [] .normal = some Tryz.fr9 := by kernel_rfl
theorem Tryz.f9_at : Tryz.atab.fn.at_ 9 = some Tryz.f9 := by kernel_rfl
theorem Tryz.begun_any (w : World) : Calls Tryz.prog 9 #[] w fun e w' => e = .returned (.bool true) ∧ Go.RowKit.Below w.heap.size w w' :=
  eval_sound Tryz.atab_ok Tryz.f9_at Tryz.fr9_eq (fun y X h => by
    unfold Tryz.yes at h
    cases hy : vBool y.1 with
    | none => rw [hy] at h; cases h
    | some b =>
      rw [hy] at h
      have h' : b = true := h
      subst h'
      exact vBool_eq hy) Tryz.begun_run w

end Go.Proofs.YtfahiennamklgaaGreatDoor
