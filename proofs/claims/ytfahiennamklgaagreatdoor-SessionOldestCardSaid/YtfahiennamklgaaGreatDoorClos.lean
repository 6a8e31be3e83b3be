/- Helpers: the functions that a call can come to, reckoned with a mask. -/
import GoSem.ClaimFollow
import Derived.KernelRfl

set_option linter.all false
set_option linter.unusedVariables false
set_option linter.unusedSimpArgs false
set_option linter.deprecated false

/- Helpers: the functions that a call can come to, reckoned with a mask. -/
namespace Go.Proofs.YtfahiennamklgaaGreatDoor
open Go

def cv (P : Program) : Nat → List FuncId → Nat → List FuncId → List FuncId
  | 0, _, _, seen => seen.reverse
  | _ + 1, [], _, seen => seen.reverse
  | n + 1, f :: todo, m, seen => bif m.testBit f then cv P n todo m seen else cv P n ((P.funcs[f]?).elim [] P.leadsTo ++ todo) (m ||| (1 <<< f)) (f :: seen)

theorem cv_eq (P : Program) : ∀ (n : Nat) (todo : List FuncId) (m : Nat) (seen : List FuncId), (∀ f, m.testBit f = seen.contains f) → cv P n todo m seen = P.closureVia n todo seen
  | 0, _, _, _, _ => by simp [cv, Program.closureVia]
  | _ + 1, [], _, _, _ => by simp [cv, Program.closureVia]
  | n + 1, f :: todo, m, seen, h => by
    have hf := h f
    unfold cv Program.closureVia
    cases hc : seen.contains f with
    | true =>
      rw [hc] at hf
      rw [hf]
      simp only [cond_true, if_true]
      exact cv_eq P n todo m seen h
    | false =>
      rw [hc] at hf
      rw [hf]
      simp only [cond_false, Bool.false_eq_true, if_false]
      refine cv_eq P n _ _ _ fun g => ?_
      rw [Nat.testBit_or, h g, Nat.one_shiftLeft, Nat.testBit_two_pow, List.contains_cons]
      by_cases e : f = g
      · subst e; simp
      · have e2 : (g == f) = false := by rw [beq_eq_false_iff_ne]; exact fun x => e x.symm
        simp [e, e2]

theorem closure_of (P : Program) (f N : Nat) (L : List FuncId) (hN : (P.funcs.toList.map fun g => (P.leadsTo g).length + 1).sum = N) (hL : cv P (1 + N) [f] 0 [] = L) : P.closure f = L := by
  unfold Program.closure
  rw [hN, ← hL]
  exact (cv_eq P _ _ _ _ fun g => by simp).symm
end Go.Proofs.YtfahiennamklgaaGreatDoor
