/- The card of SessionOldest: the row, with the variables that it lists tied to the text of the program. Conditions: those of the given card alone. -/
import Derived.Test.YtfahiennamklgaaGreatDoorRows
import Derived.Test.YtfahiennamklgaaGreatDoorBody
import Derived.ProofKit
import Derived.SevenTiedAt
import Derived.Test.YtfahiennamklgaaGreatDoorProofs
import Derived.Test.YtfahiennamklgaaGreatDoorKnot
import Derived.Test.YtfahiennamklgaaGreatDoorCards

set_option linter.all false
set_option linter.unusedVariables false
set_option linter.unusedSimpArgs false
set_option linter.deprecated false

/- The card's closed facts. -/
namespace Go.Proofs.YtfahiennamklgaaGreatDoor
open Go
theorem fk_wf : Rows.sessionOldestRow.wfByText (OpenSpec.ofChange Rows.sessionOldestSpec) = true := by kernel_rfl
theorem fk_main : Tryz.prog.mainIs = some (true, "3d695aecc9be1a18efbd667ed8d9099fbfe0d00fe6fc3275292e680c4497abca".toList) := by kernel_rfl
theorem fk_looks : true = Tryz.prog.looks [] := by kernel_rfl
theorem fk_noGo : Tryz.prog.funcs.any Func.goes = false := by kernel_rfl
theorem goes_false (P : Program) (h : P.funcs.any Func.goes = false) (f : FuncId) : P.goes f = false := by
  unfold Program.goes
  rw [h, Bool.and_false, Bool.or_false, List.any_eq_false]
  intro g _ hg
  cases e : P.funcs[g]? with
  | none => rw [e] at hg; cases hg
  | some fn =>
    rw [e] at hg
    have hm : fn ∈ P.funcs := Array.mem_of_getElem? e
    have := Array.any_eq_false'.1 h fn hm
    exact this hg
theorem goesBy_false (P : Program) (c : OpenClaim) (hs : c.start = .entering) (h : P.funcs.any Func.goes = false) : false = c.goesBy P := by
  unfold OpenClaim.goesBy Program.goesAt Program.goesFrom
  rw [hs]
  cases P.funcNamed c.func with
  | none => rfl
  | some f => simp [goes_false P h f]
theorem fk_goes : false = Rows.sessionOldestRow.goesBy Tryz.prog := goesBy_false _ _ rfl fk_noGo
end Go.Proofs.YtfahiennamklgaaGreatDoor

/- The statement's card: its row, the variables it lists tied to the program's text. -/
namespace Go.Proofs.YtfahiennamklgaaGreatDoor
open Go

theorem card_holds : Rows.SessionOldestCardSaid :=
  Claim7.holds_tied_plain_at .later [] [.data, .data, .data, .data] true (true, "3d695aecc9be1a18efbd667ed8d9099fbfe0d00fe6fc3275292e680c4497abca") true
    f_holds (fun _ h => by cases h) fk_wf (fun _ h => by cases h) row_knot rfl ⟨rfl, rfl⟩ fk_main rfl
    (fun f fn hf hfn => by
      obtain rfl : f = 3 := Option.some.inj (fx_fn.symm.trans hf) |>.symm
      obtain rfl : fn = Tryz.f3 := (Option.some.inj (Tryz.func3.symm.trans hfn)).symm
      exact ⟨fk_looks, fun j t ht => by
        rw [Tryz.params3] at ht
        have h3 : t = 22 := by
          rcases j with _ | j
          · simpa using ht.symm
          · simp at ht
        subst h3
        exact fx_stand⟩)
    fk_goes

end Go.Proofs.YtfahiennamklgaaGreatDoor
