/- The update of the sessions (function 6) gives the sorted sessions with the request among them, for at most four sessions of devices 1 to 6 and rounds 0 to 2. -/
import Derived.Test.YtfahiennamklgaaGreatDoorR0
import Derived.Test.YtfahiennamklgaaGreatDoorR1
import Derived.Test.YtfahiennamklgaaGreatDoorR2
import Derived.Test.YtfahiennamklgaaGreatDoorR3
import Derived.Test.YtfahiennamklgaaGreatDoorR4
import Derived.Test.YtfahiennamklgaaGreatDoorR5
import Derived.Test.YtfahiennamklgaaGreatDoorR6
import Derived.Test.YtfahiennamklgaaGreatDoorR7

set_option linter.all false
set_option linter.unusedVariables false
set_option linter.unusedSimpArgs false
set_option linter.deprecated false

/- The sessions after a request. -/
namespace Go.Proofs.YtfahiennamklgaaGreatDoor
open Go Ae
theorem Tryz.runN (rs cs : Nat → Int) (r c : Int) : ∀ x ∈ casesN, goN Tryz.atab Tryz.f6 6 rs cs r c x = specN rs cs r c x := by
  intro x hx
  obtain ⟨k, hk, hm⟩ := mem_chunk (n := 31) (by decide) hx
  have hl : casesN.length = 186 := by kernel_rfl
  rw [hl] at hk
  have hk2 : k < 6 := by omega
  match k, hk2, hm with
  | 0, _, hm => exact map_at (Tryz.runN0 rs cs r c) x hm
  | 1, _, hm => exact map_at (Tryz.runN1 rs cs r c) x hm
  | 2, _, hm => exact map_at (Tryz.runN2 rs cs r c) x hm
  | 3, _, hm => exact map_at (Tryz.runN3 rs cs r c) x hm
  | 4, _, hm => exact map_at (Tryz.runN4 rs cs r c) x hm
  | 5, _, hm => exact map_at (Tryz.runN5 rs cs r c) x hm
  | k + 6, h, _ => exact absurd h (by omega)
theorem Tryz.runM (rs cs : Nat → Int) (c : Int) (y : Nat) : ∀ x ∈ casesM, goM Tryz.atab Tryz.f6 6 rs cs c y x = specM rs cs c y x := by
  intro x hx
  obtain ⟨k, hk, hm⟩ := mem_chunk (n := 31) (by decide) hx
  have hl : casesM.length = 468 := by kernel_rfl
  rw [hl] at hk
  have hk2 : k < 16 := by omega
  match k, hk2, hm with
  | 0, _, hm => exact map_at (Tryz.runM0 rs cs c y) x hm
  | 1, _, hm => exact map_at (Tryz.runM1 rs cs c y) x hm
  | 2, _, hm => exact map_at (Tryz.runM2 rs cs c y) x hm
  | 3, _, hm => exact map_at (Tryz.runM3 rs cs c y) x hm
  | 4, _, hm => exact map_at (Tryz.runM4 rs cs c y) x hm
  | 5, _, hm => exact map_at (Tryz.runM5 rs cs c y) x hm
  | 6, _, hm => exact map_at (Tryz.runM6 rs cs c y) x hm
  | 7, _, hm => exact map_at (Tryz.runM7 rs cs c y) x hm
  | 8, _, hm => exact map_at (Tryz.runM8 rs cs c y) x hm
  | 9, _, hm => exact map_at (Tryz.runM9 rs cs c y) x hm
  | 10, _, hm => exact map_at (Tryz.runM10 rs cs c y) x hm
  | 11, _, hm => exact map_at (Tryz.runM11 rs cs c y) x hm
  | 12, _, hm => exact map_at (Tryz.runM12 rs cs c y) x hm
  | 13, _, hm => exact map_at (Tryz.runM13 rs cs c y) x hm
  | 14, _, hm => exact map_at (Tryz.runM14 rs cs c y) x hm
  | 15, _, hm => exact map_at (Tryz.runM15 rs cs c y) x hm
  | k + 16, h, _ => exact absurd h (by omega)
theorem Tryz.runE (rs cs : Nat → Int) (c : Int) (y : Nat) : ∀ x ∈ casesE, goE Tryz.atab Tryz.f6 6 rs cs c y x = specE rs cs c y x := by
  intro x hx
  obtain ⟨k, hk, hm⟩ := mem_chunk (n := 31) (by decide) hx
  have hl : casesE.length = 312 := by kernel_rfl
  rw [hl] at hk
  have hk2 : k < 11 := by omega
  match k, hk2, hm with
  | 0, _, hm => exact map_at (Tryz.runE0 rs cs c y) x hm
  | 1, _, hm => exact map_at (Tryz.runE1 rs cs c y) x hm
  | 2, _, hm => exact map_at (Tryz.runE2 rs cs c y) x hm
  | 3, _, hm => exact map_at (Tryz.runE3 rs cs c y) x hm
  | 4, _, hm => exact map_at (Tryz.runE4 rs cs c y) x hm
  | 5, _, hm => exact map_at (Tryz.runE5 rs cs c y) x hm
  | 6, _, hm => exact map_at (Tryz.runE6 rs cs c y) x hm
  | 7, _, hm => exact map_at (Tryz.runE7 rs cs c y) x hm
  | 8, _, hm => exact map_at (Tryz.runE8 rs cs c y) x hm
  | 9, _, hm => exact map_at (Tryz.runE9 rs cs c y) x hm
  | 10, _, hm => exact map_at (Tryz.runE10 rs cs c y) x hm
  | k + 11, h, _ => exact absurd h (by omega)
theorem Tryz.f6_at : Tryz.atab.fn.at_ 6 = some Tryz.f6 := by kernel_rfl
/-- THE SESSIONS AFTER A REQUEST, in the model. -/
theorem Tryz.update_any {L : List Sess} (h : Inv L) (hl : L.length ≤ 4) {m : Sess} (hm : 1 ≤ m.dev ∧ m.dev ≤ 6 ∧ 0 ≤ m.round ∧ m.round ≤ 2) {h0 : Nat} {w : World} {v : Value} (hv : RowS h0 w v L) (hroom : h0 ≤ w.heap.size) :
    Calls Tryz.prog 6 #[v, msgV m.dev m.round m.cut] w fun e w' => ∃ v', e = .returned v' ∧ RowS h0 w' v' (ins m L) ∧ Go.RowKit.Below h0 w w' :=
  upd_of_run Tryz.atab_ok Tryz.f6_at (ins_ne m L) (upd_all Tryz.runN Tryz.runM Tryz.runE h hl hm) hv hroom

end Go.Proofs.YtfahiennamklgaaGreatDoor
