/- A case made of what came in, and its numbers (functions 4 and 5), whatever came in. -/
import Derived.Test.YtfahiennamklgaaGreatDoorProg
import Derived.WalkKit
import Derived.WalkSpells
import Derived.Deep.QuietTactic
import Derived.BigQuiet
import Derived.IntWalk
import Derived.OwnWalk
import Derived.Lib.Hide

set_option linter.all false
set_option linter.unusedVariables false
set_option linter.unusedSimpArgs false
set_option linter.deprecated false

namespace Go.Proofs.YtfahiennamklgaaGreatDoor
open Go.RowKit
set_option maxHeartbeats 400000 in
theorem int_read (B b off len cap : Nat) (at_ : Nat) (n x : Int) (w : World) (h0 : w.cell? ⟨B, 0, none⟩ = some (.slice (some ⟨b, off, none⟩) len cap)) (h1 : w.cell? ⟨B, 1, none⟩ = some (.int .i64 at_)) (hf : w.frozen? ⟨B, 1, none⟩ = false)
    (hlt : at_ < len) (hm : at_ ≤ 1000) (hx : w.cell? ⟨b, off + at_, none⟩ = some (.int .u8 x)) (hbb : b ≠ B) (x0 : 0 ≤ x) (x1 : x ≤ 255) (n0 : 1 ≤ n) (n1 : n ≤ 12) :
    Calls Tryz.prog 5 #[.pointer (some ⟨B, 0, none⟩), .int .i64 n] w fun e w' => ∃ q q', e = .returned (.int .i64 (x % n)) ∧ w' = ((w.drewN q).setCell ⟨B, 1, none⟩ (.int .i64 (at_ + 1))).drewN q' := by
  have hd : decide (len ≤ at_) = false := by simpa using hlt
  have hd2 : decide (n < 1) = false := by simp; omega
  go_enter Tryz.func5, Tryz.ntmps5
  go_wp2
  go_quiet (fail)
  go_wp2
  have hw : IntKind.i64.wrap ((at_ : Int) + 1 - 1) = at_ := by rw [Int.add_sub_cancel]; exact IntWalk.i64_in _ (by omega)
  go_quiet (fail)
  go_wp2
  go_ret
  exact ⟨_, _, rfl, rfl⟩

set_option maxHeartbeats 400000 in
theorem int_end (B len cap : Nat) (a : Option Addr) (n : Int) (w : World) (h0 : w.cell? ⟨B, 0, none⟩ = some (.slice a len cap)) (h1 : w.cell? ⟨B, 1, none⟩ = some (.int .i64 len)) :
    Calls Tryz.prog 5 #[.pointer (some ⟨B, 0, none⟩), .int .i64 n] w fun e w' => ∃ q, e = .returned (.int .i64 0) ∧ w' = w.drewN q := by
  have hd : decide (len ≤ len) = true := by simp
  go_enter Tryz.func5, Tryz.ntmps5
  go_wp2
  go_quiet (fail)
  go_wp2
  go_ret
  exact ⟨_, rfl, rfl⟩

/-- But for block B, memory is as it was. -/
structure Turned (B : Nat) (w w' : World) : Prop where
  os : w'.os = w.os
  tape : w'.tape = w.tape
  output : w'.output = w.output
  size : w'.heap.size = w.heap.size
  block : ∀ k, k ≠ B → w'.heap[k]? = w.heap[k]?

/-- A case in the call's own memory. -/
def CaseW (h0 hi : Nat) (w : World) (B : Nat) : Prop :=
  ∃ (a : Option Addr) (len cap at_ : Nat) (e : TypeId), h0 ≤ B ∧ B < hi ∧ w.heap[B]? = some (.cells #[.slice a len cap, .int .i64 at_] e (0, 0)) ∧ at_ ≤ len ∧ len ≤ 300 ∧
    (len = 0 ∨ ∃ (b off : Nat) (c : Array Value) (e' : TypeId) (fz : Nat × Nat), a = some ⟨b, off, none⟩ ∧ b ≠ B ∧ b < hi ∧ w.heap[b]? = some (.cells c e' fz) ∧ ∀ j, j < len → ∃ x : Int, c[off + j]? = some (.int .u8 x) ∧ 0 ≤ x ∧ x ≤ 255)

theorem cell_of {w : World} {b i : Nat} {c : Array Value} {e : TypeId} {fz : Nat × Nat} (h : w.heap[b]? = some (.cells c e fz)) : w.cell? ⟨b, i, none⟩ = c[i]? := by
  simp [World.cell?, h]

theorem heap_drewN (w : World) (n : Nat) : (w.drewN n).heap = w.heap := rfl

theorem int_any {h0 hi : Nat} {w : World} {B : Nat} (h : CaseW h0 hi w B) (n : Int) (n0 : 1 ≤ n) (n1 : n ≤ 12) :
    Calls Tryz.prog 5 #[.pointer (some ⟨B, 0, none⟩), .int .i64 n] w fun e w' => ∃ k : Int, e = .returned (.int .i64 k) ∧ 0 ≤ k ∧ k < n ∧ CaseW h0 hi w' B ∧ Turned B w w' := by
  obtain ⟨a, len, cap, at_, e, hB, hBi, hb, hle, h300, hc⟩ := h
  have c0 : w.cell? ⟨B, 0, none⟩ = some (.slice a len cap) := by rw [cell_of hb]; rfl
  have c1 : w.cell? ⟨B, 1, none⟩ = some (.int .i64 at_) := by rw [cell_of hb]; rfl
  rcases Nat.lt_or_ge at_ len with hlt | hge
  · rcases hc with hc | ⟨b, off, c, e', fz, rfl, hbB, hhb, hcb, hx⟩
    · omega
    · obtain ⟨x, x0, x1, x2⟩ := hx at_ hlt
      have hf : w.frozen? ⟨B, 1, none⟩ = false := by simp [World.frozen?, hb]
      refine (int_read B b off len cap at_ n x w c0 c1 hf hlt (by omega) (by rw [cell_of hcb]; exact x0) hbB x1 x2 n0 n1).mono ?_
      rintro e2 w' ⟨q, q', rfl, rfl⟩
      have hheap : ∀ k, ((((w.drewN q).setCell ⟨B, 1, none⟩ (.int .i64 (at_ + 1))).drewN q').heap[k]?) = if k = B then some (.cells #[.slice (some ⟨b, off, none⟩) len cap, .int .i64 ((at_ + 1 : Nat) : Int)] e (0, 0)) else w.heap[k]? := by
        intro k
        rw [heap_drewN]
        simp only [World.setCell, Array.getElem?_modify, heap_drewN]
        by_cases hk : k = B
        · subst hk
          rw [if_pos rfl, if_pos rfl, hb]
          rfl
        · rw [if_neg (fun h => hk h.symm), if_neg hk]
      refine ⟨x % n, rfl, Int.emod_nonneg _ (by omega), Int.emod_lt_of_pos _ (by omega), ⟨some ⟨b, off, none⟩, len, cap, at_ + 1, e, hB, hBi, by rw [hheap, if_pos rfl], by omega, h300, .inr ⟨b, off, c, e', fz, rfl, hbB, hhb, by rw [hheap, if_neg hbB]; exact hcb, hx⟩⟩, ?_⟩
      exact ⟨rfl, rfl, rfl, by rw [heap_drewN]; simp [World.setCell], fun k hk => by rw [hheap, if_neg hk]⟩
  · have : at_ = len := by omega
    subst this
    refine (int_end B at_ cap a n w c0 c1).mono ?_
    rintro e2 w' ⟨q, rfl, rfl⟩
    refine ⟨0, rfl, by omega, by omega, ⟨a, at_, cap, at_, e, hB, hBi, by rw [heap_drewN]; exact hb, by omega, h300, ?_⟩, ?_⟩
    · rcases hc with hc | ⟨b, off, c, e', fz, h1, h2, h3, h4, h5⟩
      · exact .inl hc
      · exact .inr ⟨b, off, c, e', fz, h1, h2, h3, by rw [heap_drewN]; exact h4, h5⟩
    · exact ⟨rfl, rfl, rfl, by rw [heap_drewN], fun k _ => by rw [heap_drewN]⟩

theorem CaseW.below {h0 hi : Nat} {w w' : World} {B : Nat} (h : CaseW h0 hi w B) (b : Below hi w w') : CaseW h0 hi w' B := by
  obtain ⟨a, len, cap, at_, e, hB, hBi, hb, hle, h300, hc⟩ := h
  refine ⟨a, len, cap, at_, e, hB, hBi, by rw [b.block _ hBi]; exact hb, hle, h300, ?_⟩
  rcases hc with hc | ⟨b', off, c, e', fz, h1, h2, h3, h4, h5⟩
  · exact .inl hc
  · exact .inr ⟨b', off, c, e', fz, h1, h2, h3, by rw [b.block _ h3]; exact h4, h5⟩

theorem CaseW.lt {h0 hi : Nat} {w : World} {B : Nat} (h : CaseW h0 hi w B) : h0 ≤ B ∧ B < hi := by
  obtain ⟨_, _, _, _, _, h1, h2, _⟩ := h
  exact ⟨h1, h2⟩

theorem Turned.below {B : Nat} {w w' : World} (h : Turned B w w') {N : Nat} (hN : N ≤ B) : Below N w w' :=
  ⟨h.os, h.tape, h.output, Nat.le_of_eq h.size.symm, fun k hk => h.block k (by omega)⟩
end Go.Proofs.YtfahiennamklgaaGreatDoor

namespace Go.Proofs.YtfahiennamklgaaGreatDoor
open Go.RowKit
theorem alloc_at (w : World) (o : Obj) : (w.alloc o).heap[w.heap.size]? = some o := by
  show (w.heap.push o)[w.heap.size]? = some o
  simp

theorem alloc_lt (w : World) (o : Obj) : w.heap.size < (w.alloc o).heap.size := by
  show w.heap.size < (w.heap.push o).size
  simp

theorem info5 : (Tryz.prog.info? 5).map (fun i => (i.zero, i.size, i.bytes)) = some (some (.int .u8 0), 1, 1) := by kernel_rfl

set_option maxRecDepth 100000 in
set_option maxHeartbeats 400000 in
theorem new_nil (a : Option Addr) (cap : Nat) (w : World) : Calls Tryz.prog 4 #[.slice a 0 cap, .int .i64 300] w fun e w' => e = .returned (.pointer (some ⟨w.heap.size, 0, none⟩)) ∧ w' = w.alloc (.cells #[.slice none 0 0, .int .i64 0] 49) := by
  cases a with
  | none =>
    go_enter Tryz.func4, Tryz.ntmps4
    go_wp2
    go_ret
    exact ⟨rfl, rfl⟩
  | some a =>
    go_enter Tryz.func4, Tryz.ntmps4
    go_wp2
    go_ret
    exact ⟨rfl, rfl⟩

theorem own_some {w : World} {base : Nat} {e : TypeId} {v : Value} {n : Nat} {xs : List Value} (h : w.ownsRow base e 1 v n xs) (hn : 0 < n) :
    ∃ g cap, v = .slice (some ⟨g, 0, none⟩) n cap ∧ Hid (∃ cur, base ≤ g ∧ w.heap[g]? = some (.cells cur e (0, 0)) ∧ n ≤ cap ∧ cur.size = cap ∧ cur.toList.take n = xs) := by
  rcases h.2 with ⟨_, h0⟩ | ⟨g, cap, cur, h1, h2, h3, h4, h5, h6, h7⟩
  · omega
  · exact ⟨g, cap, h1, cur, h2, h3, h4, by simpa using h6, by simpa using h7⟩

theorem new_end {w w1 : World} {g n capn : Nat} {xs : List Int} {cur : Array Value} (h3 : n ≤ 300) (hxs : xs.length = n) (hp : ∀ x ∈ xs, 0 ≤ x ∧ x ≤ 255) (k2 : w1.heap[g]? = some (.cells cur 5 (0, 0))) (k5 : cur.toList.take n = xs.map (Value.int .u8)) (hg : w.grownBy w1 none) :
    ∃ B, Ending.returned (.pointer (some ⟨w1.heap.size, 0, none⟩)) = .returned (.pointer (some ⟨B, 0, none⟩)) ∧ CaseW w.heap.size (w1.alloc (.cells #[.slice (some ⟨g, 0, none⟩) n capn, .int .i64 0] 49)).heap.size (w1.alloc (.cells #[.slice (some ⟨g, 0, none⟩) n capn, .int .i64 0] 49)) B ∧ Below w.heap.size w (w1.alloc (.cells #[.slice (some ⟨g, 0, none⟩) n capn, .int .i64 0] 49)) := by
  have hb : Below w.heap.size w w1 := (Below.refl _ w).grown hg (Nat.le_refl _) (fun j hj => by cases hj)
  have hlt : g < w1.heap.size := (Array.getElem?_eq_some_iff.mp k2).1
  refine ⟨w1.heap.size, rfl, ⟨some ⟨g, 0, none⟩, n, capn, 0, 49, hb.size, alloc_lt _ _, alloc_at _ _, Nat.zero_le _, h3, .inr ⟨g, 0, cur, 5, (0, 0), rfl, by omega, Nat.lt_trans hlt (alloc_lt _ _), ?_, fun j hj => ?_⟩⟩, hb.alloc hb.size _⟩
  · rw [Below.heap_alloc _ _ _ hlt]; exact k2
  · have hj' : j < xs.length := by omega
    refine ⟨xs[j], ?_, hp _ (List.getElem_mem hj')⟩
    have e := congrArg (·[j]?) k5
    simp only [List.getElem?_take, List.getElem?_map, if_pos hj, List.getElem?_eq_getElem hj', Option.map_some] at e
    rw [Nat.zero_add]
    simpa using e

set_option maxRecDepth 100000 in
set_option maxHeartbeats 400000 in
theorem new_some (a : Addr) (len cap : Nat) (xs : List Int) (w : World) (hl : len ≤ cap) (h300 : len ≤ 300) (h0 : 0 < len) (hxs : xs.length = len) (hc : ∀ j u, (xs.map (Value.int .u8))[j]? = some u → w.cell? (a.add j) = some u) (hp : ∀ x ∈ xs, 0 ≤ x ∧ x ≤ 255) :
    Calls Tryz.prog 4 #[.slice (some a) len cap, .int .i64 300] w fun e w' => ∃ B, e = .returned (.pointer (some ⟨B, 0, none⟩)) ∧ CaseW w.heap.size w'.heap.size w' B ∧ Below w.heap.size w w' := by
  obtain ⟨i0, hi, hz0, hz1, hz2⟩ := info_parts info5
  have hle : (len : Int) ≤ 300 := by omega
  have H3 := Lib.hid h300; clear h300
  have HX := Lib.hid hxs; clear hxs
  have HC := Lib.hid hc; clear hc
  have HP := Lib.hid hp; clear hp
  go_enter Tryz.func4, Tryz.ntmps4
  go_wp2_with (at_builtin; refine wpList_append_own _ rfl _ _ 22 rfl w.heap.size 5 i0 (.int .u8 0) 1 1 Tryz.underlying22 hi hz0 hz1 hz2 rfl (by decide) _ _ _ rfl (World.ownsRow_nil _ _ _ _) a len cap (xs.map (Value.int .u8)) rfl (by rw [List.length_map, HX.out, Nat.mul_one]) HC.out (fun u hu => by obtain ⟨x, _, rfl⟩ := List.mem_map.mp hu; rfl) (by unfold maxLen; have := H3.out; omega) (by have := H3.out; omega) (Nat.le_refl _) ?_; intro v' w1 hown' hgrow hnil; rw [Nat.zero_add, List.nil_append] at hown'; obtain ⟨g, capn, rfl, HO⟩ := own_some hown' h0; clear hown' hnil; have HG := Lib.hid hgrow; clear hgrow)
  go_ret
  obtain ⟨cur, k1, k2, k3, k4, k5⟩ := HO.out
  exact new_end H3.out HX.out HP.out k2 k5 HG.out

set_option maxRecDepth 100000 in
set_option maxHeartbeats 400000 in
theorem new_big (a : Addr) (len cap : Nat) (xs : List Int) (w : World) (hl : len ≤ cap) (h300 : 300 < len) (hxs : xs.length = 300) (hc : ∀ j u, (xs.map (Value.int .u8))[j]? = some u → w.cell? (a.add j) = some u) (hp : ∀ x ∈ xs, 0 ≤ x ∧ x ≤ 255) :
    Calls Tryz.prog 4 #[.slice (some a) len cap, .int .i64 300] w fun e w' => ∃ B, e = .returned (.pointer (some ⟨B, 0, none⟩)) ∧ CaseW w.heap.size w'.heap.size w' B ∧ Below w.heap.size w w' := by
  obtain ⟨i0, hi, hz0, hz1, hz2⟩ := info_parts info5
  have hle : ¬ ((len : Int) ≤ 300) := by omega
  have hcap : (300 : Nat) ≤ cap := by omega
  have h300' : (300 : Int) ≤ (cap : Int) := by omega
  have H3 := Lib.hid h300; clear h300
  have HX := Lib.hid hxs; clear hxs
  have HC := Lib.hid hc; clear hc
  have HP := Lib.hid hp; clear hp
  go_enter Tryz.func4, Tryz.ntmps4
  go_wp2_with (at_builtin; refine wpList_append_own _ rfl _ _ 22 rfl w.heap.size 5 i0 (.int .u8 0) 1 1 Tryz.underlying22 hi hz0 hz1 hz2 rfl (by decide) _ _ _ rfl (World.ownsRow_nil _ _ _ _) a 300 cap (xs.map (Value.int .u8)) rfl (by rw [List.length_map, HX.out]) HC.out (fun u hu => by obtain ⟨x, _, rfl⟩ := List.mem_map.mp hu; rfl) (by unfold maxLen; omega) (by omega) (Nat.le_refl _) ?_; intro v' w1 hown' hgrow hnil; rw [Nat.zero_add, List.nil_append] at hown'; obtain ⟨g, capn, rfl, HO⟩ := own_some hown' (by omega); clear hown' hnil; have HG := Lib.hid hgrow; clear hgrow)
  go_ret
  obtain ⟨cur, k1, k2, k3, k4, k5⟩ := HO.out
  exact new_end (by omega) HX.out HP.out k2 k5 HG.out

/-- A case of what came in: its first 300 numbers in memory of the call's own. -/
theorem new_any (a : Option Addr) (len cap : Nat) (xs : List Int) (w : World) (hl : len ≤ cap) (hxs : xs.length = len) (hc : ∀ b, a = some b → ∀ j x, xs[j]? = some x → w.cell? (b.add j) = some (.int .u8 x)) (h0 : a = none → len = 0) (hp : ∀ x ∈ xs, 0 ≤ x ∧ x ≤ 255) :
    Calls Tryz.prog 4 #[.slice a len cap, .int .i64 300] w fun e w' => ∃ B, e = .returned (.pointer (some ⟨B, 0, none⟩)) ∧ CaseW w.heap.size w'.heap.size w' B ∧ Below w.heap.size w w' := by
  rcases Nat.eq_zero_or_pos len with rfl | hpos
  · refine (new_nil a cap w).mono ?_
    rintro e w' ⟨rfl, rfl⟩
    exact ⟨_, rfl, ⟨none, 0, 0, 0, 49, Nat.le_refl _, alloc_lt _ _, alloc_at _ _, Nat.le_refl _, by omega, .inl rfl⟩, (Below.refl _ _).alloc (Nat.le_refl _) _⟩
  · cases a with
    | none => have := h0 rfl; omega
    | some a =>
      have hcell : ∀ (ys : List Int), (∀ (j : Nat) (x : Int), ys[j]? = some x → xs[j]? = some x) → ∀ (j : Nat) (u : Value), (ys.map (Value.int .u8))[j]? = some u → w.cell? (a.add j) = some u := by
        intro ys hys j u hu
        rw [List.getElem?_map] at hu
        cases hj : ys[j]? with
        | none => rw [hj] at hu; cases hu
        | some x =>
          rw [hj] at hu
          simp only [Option.map_some, Option.some.injEq] at hu
          subst hu
          exact hc a rfl j x (hys j x hj)
      rcases Nat.lt_or_ge 300 len with h3 | h3
      · refine new_big a len cap (xs.take 300) w hl h3 (by rw [List.length_take, hxs]; omega) (hcell _ fun j x hj => ?_) (fun x hx => hp x (List.mem_of_mem_take hx))
        rw [List.getElem?_take] at hj
        split at hj
        · exact hj
        · cases hj
      · exact new_some a len cap xs w hl h3 hpos hxs (hcell _ fun _ _ h => h) hp
end Go.Proofs.YtfahiennamklgaaGreatDoor
