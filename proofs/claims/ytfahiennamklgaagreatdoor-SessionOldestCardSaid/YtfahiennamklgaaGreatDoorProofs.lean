/- SessionOldest hands back true for every input; its argument reads behind the call as it read before. Conditions: those of the given row alone. -/
import Derived.Test.YtfahiennamklgaaGreatDoorRows
import Derived.Test.YtfahiennamklgaaGreatDoorBody
import Derived.ProofKit
import Derived.LaidMore
import Derived.OpenShut
import Derived.Stop.Joined
import Derived.ChangeSlices
import Derived.Carry
import Derived.DataOpen
import Derived.Test.YtfahiennamklgaaGreatDoorFacts
import Derived.Test.YtfahiennamklgaaGreatDoorStart
import Derived.Test.YtfahiennamklgaaGreatDoorProg

set_option linter.all false
set_option linter.unusedVariables false
set_option linter.unusedSimpArgs false
set_option linter.deprecated false

namespace Go.Proofs.YtfahiennamklgaaGreatDoor
open Go.ChangeShapes Go.WideShapes Go.ChangeAt Go.RowKit

theorem cells5 : Tryz.prog.cellsOf 5 = 1 := by kernel_rfl

theorem u8_bounds {n : Int} (h : (Lit.int .u8 n).wf = true) : 0 ≤ n ∧ n ≤ 255 := by
  have h1 : (decide (IntKind.u8.min ≤ n) && decide (n ≤ IntKind.u8.max)) = true := h
  rw [Bool.and_eq_true, decide_eq_true_iff, decide_eq_true_iff] at h1
  have e1 : IntKind.u8.min = 0 := rfl
  have e2 : IntKind.u8.max = 255 := rfl
  rw [e1, e2] at h1
  exact h1

theorem law_slice (a : Option Addr) (len cap : Nat) (zs : List Int) (W : World) (hl : len ≤ cap) (hz : zs.length = cap) (hcell : ∀ b, a = some b → ∀ i, i < zs.length → W.cell? (b.add i) = some (.int .u8 (zs.getD i 0))) (h0 : a = none → len = 0) (hw : ∀ n ∈ zs, (Lit.int .u8 n).wf = true) :
    Calls Tryz.prog 3 #[.slice a len cap] W fun e w' => e = .returned (.bool true) ∧ Below W.heap.size W w' := by
  refine main_any a len cap (zs.take len) W hl (by rw [List.length_take]; omega) (fun b hb j x hj => ?_) h0 (fun x hx => u8_bounds (hw x (List.mem_of_mem_take hx)))
  rw [List.getElem?_take] at hj
  split at hj
  · have hlt := (List.getElem?_eq_some_iff.mp hj).1
    have := hcell b hb j hlt
    rw [List.getD_eq_getElem?_getD, hj] at this
    simpa using this
  · cases hj

/-- The slice reads behind the call as it did. -/
theorem args_slice {H : Type} {enc : TypeId × Value → H} {a : Addr} {len cap : Nat} {zs : List Int} {W W' : World} (hl : len ≤ cap) (hm : cap ≤ maxLen) (hz : zs.length = cap) (hcell : ∀ i, i < zs.length → W.cell? (a.add i) = some (.int .u8 (zs.getD i 0))) (hw : ∀ n ∈ zs, (Lit.int .u8 n).wf = true)
    (hb : Below W.heap.size W W') : DataW.Trod enc Tryz.prog W' 0 (fun b => decide (b < W.heap.size)) true 22 (.slice (some a) len cap) (.slice (lits .u8 (zs.take len)) (lits .u8 (zs.drop len))) (MemPlace.row a zs.length) := by
  have hblk : ∀ i, i < zs.length → (a.add i).block < W.heap.size := fun i hi => World.block_lt_of_cell? W _ (hcell i hi)
  refine ⟨2, ?_⟩
  refine shut_ints 0 Tryz.underlying22 Tryz.underlying5 cells5 (Nat.zero_le _) hl hm ?_ (fun i hi => ?_) hw
  · rw [hz]
    split
    · rfl
    · rename_i hn
      by_cases hc : cap = 0
      · omega
      · exfalso
        have h9 := hblk 0 (by omega)
        exact hn (decide_eq_true h9)
  · exact (hb.cell (p := a.add i) (hblk i hi)).trans (hcell i hi)

end Go.Proofs.YtfahiennamklgaaGreatDoor

namespace Go.Proofs.YtfahiennamklgaaGreatDoor
open Go.ChangeShapes Go.WideShapes Go.ChangeAt Go.RowKit

theorem door_met (os : Os) : laidMetH Tryz.prog Rows.sessionOldestRow.laid ((World.doorLaid Tryz.prog 400 os).forCall (fun _ _ => 0) ⟨#[], #[.slice none 0 0], []⟩).memory :=
  laidMetH_of_parts3 (fuel := 8) (laidMet_of_run' 8 (fx_d1 os) (fx_d2 os)) (by kernel_rfl) (by kernel_rfl)

set_option maxRecDepth 100000 in
theorem law_lifted (os : Os) (started : os.Started) (H : Type) (enc : TypeId × Value → H) :
    ReturnsInHanded {} Tryz.checked os 3 .any (fun w args => (Rows.sessionOldestSpec.pre enc Tryz.prog Tryz.f3 [] false w args ∧ laidMetH Tryz.prog Rows.sessionOldestRow.laid w) ∧ sizedMet enc Tryz.prog Tryz.f3 (OpenSpec.ofChange Rows.sessionOldestSpec) false w args)
      (Rows.sessionOldestSpec.post enc Tryz.prog Tryz.f3 false true false false) := by
  refine returnsInHanded_of_change_and (C := Tryz.checked) (X := fun w _ => laidMetH Tryz.prog Rows.sessionOldestRow.laid w) (fun _ _ _ hh h => h.of_heap hh) fx_own started fx_noInit Tryz.func3
    (ChangeSpec.witness_shaped (enc := enc) (C := Tryz.checked) (os := os) (X := fun w _ => laidMetH Tryz.prog Rows.sessionOldestRow.laid w) false (World.doorLaid Tryz.prog 400 os) #[.slice none 0 0] 8 rfl (World.shaped_of_RefB (fx_hv os) (fx_hr os)) (fx_hok os) (fx_hpre enc os) (fx_hsz enc os) (door_met os)) ?_
  intro W base args ds gs before hval0 hW _ _ _ _
  have hval : ∀ (j : Nat) t v, Tryz.f3.params[j]? = some t → args[j]? = some v → Value.okWide Tryz.prog W .any base t v := hval0
  have hW' := hW
  obtain ⟨p, q, hA0, hV0, rfl, hfz, hnd⟩ := hW
  have hA : DataW.TrodAll enc Tryz.prog W 0 (fun _ => true) true Tryz.f3.params.toList args.toList ds p := hA0
  have hV : DataW.TrodVars enc Tryz.prog W (fun _ => true) [] gs q := hV0
  rw [Tryz.params3] at hA hval
  obtain ⟨v0, d0, rfl, rfl, h0⟩ := trodAll_one hA
  obtain ⟨rfl, rfl⟩ : gs = [] ∧ q = [] := by
    cases gs with
    | nil => exact ⟨rfl, hV⟩
    | cons g r => exact absurd hV (by intro h; cases h)
  obtain ⟨a0, len, cap, rfl⟩ := okWide_slice Tryz.underlying22 (hval 0 22 v0 rfl rfl)
  obtain ⟨fuel, hf⟩ := h0
  clear hA0 hval0
  simp only [List.append_nil] at hW'
  have e1 : ∀ d : DataW H, Rows.sessionOldestSpec.fn H ([d] ++ []) = { results := [.lit (.bool true)], args := [d] } := fun d => by simp [Rows.sessionOldestSpec]
  rcases open_ints Tryz.underlying22 Tryz.underlying5 cells5 hf with ⟨hcs, hx⟩ | ⟨a, len', cap', zs, hcs, _, hl, hm, hz, hx, hcell, hwz⟩
  · simp [Value.cells] at hcs
    obtain ⟨rfl, rfl, rfl⟩ := hcs
    simp only [Prod.mk.injEq] at hx
    obtain ⟨rfl, rfl⟩ := hx
    refine (law_slice none 0 0 [] W (Nat.le_refl _) rfl (fun b hb => by cases hb) (fun _ => rfl) (fun n hn => by cases hn)).mono fun e W' ⟨he, hnx⟩ => ?_
    subst he
    refine ⟨_, rfl, _, _, _, [], [], [], hW', ?_, ?_, ?_, hnx.frame _, fun h => by cases h⟩
    · rw [e1]; exact trodAll_mk1 (shut_bool Tryz.underlying4 true)
    · rw [e1]; exact trodAll_mk1 (shut_slice_nil Tryz.underlying22)
    · rw [e1]; rfl
  · simp [Value.cells] at hcs
    obtain ⟨rfl, rfl, rfl⟩ := hcs
    simp only [Prod.mk.injEq] at hx
    obtain ⟨rfl, rfl⟩ := hx
    simp only [if_true] at hz
    refine (law_slice (some a) len cap zs W hl hz (fun b hb => by cases hb; exact hcell) (fun h => by cases h) hwz).mono fun e W' ⟨he, hnx⟩ => ?_
    subst he
    refine ⟨_, rfl, _, _, _, [], MemPlace.row a zs.length, [], hW', ?_, ?_, ?_, hnx.frame _, fun h => by cases h⟩
    · rw [e1]; exact trodAll_mk1 (shut_bool Tryz.underlying4 true)
    · rw [e1]; exact trodAll_mk1 (args_slice hl hm hz hcell hwz hnx)
    · rw [e1]; rfl

theorem f_holds : Rows.SessionOldestSaid :=
  OpenClaim.holds_of_wide 3 Tryz.f3 rfl rfl rfl rfl rfl rfl rfl ⟨rfl, rfl, rfl, rfl, rfl⟩ rfl rfl rfl rfl rfl fx_fn Tryz.func3 joined
    (of_decide_eq_true (by kernel_rfl)) (by unfold Func.isWrapper; first | (rw [if_pos (by decide +kernel)]; kernel_rfl) | (rw [if_neg (by decide +kernel)]; exact ⟨rfl, rfl⟩))
    (fun os started H enc _ => law_lifted os started H enc)

end Go.Proofs.YtfahiennamklgaaGreatDoor
