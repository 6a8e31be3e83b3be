/- The oldest commit of the sessions (function 7), and the search in no rows (function 8). -/
import Derived.Test.YtfahiennamklgaaGreatDoorW1
import Derived.Test.YtfahiennamklgaaGreatDoorA13

set_option linter.all false
set_option linter.unusedVariables false
set_option linter.unusedSimpArgs false
set_option linter.deprecated false

namespace Go.Proofs.YtfahiennamklgaaGreatDoor
open Go.RowKit Ae

/-- The seven cells of a session. -/
structure SCells (w : World) (blk o : Nat) (x : Sess) : Prop where
  c0 : w.cell? ⟨blk, o, none⟩ = some (.int .i64 x.dev)
  c1 : w.cell? ⟨blk, o + 1, none⟩ = some (.int .i64 0)
  c2 : w.cell? ⟨blk, o + 2, none⟩ = some (.int .i64 x.round)
  c3 : w.cell? ⟨blk, o + 3, none⟩ = some (.int .i64 0)
  c4 : w.cell? ⟨blk, o + 4, none⟩ = some (.slice none 0 0)
  c5 : w.cell? ⟨blk, o + 5, none⟩ = some (.int .i64 x.cut)
  c6 : w.cell? ⟨blk, o + 6, none⟩ = some (.slice none 0 0)

theorem flatS_at {L : List Sess} {k : Nat} {x : Sess} (h : L[k]? = some x) (i : Nat) (hi : i < 7) : (flatS L)[k * 7 + i]? = (encS x)[i]? := by
  induction L generalizing k with
  | nil => simp at h
  | cons y l ih =>
    cases k with
    | zero =>
      simp at h; subst h
      simp only [flatS, Nat.zero_mul, Nat.zero_add]
      rw [List.getElem?_append_left (by simp [encS]; omega)]
    | succ k =>
      simp only [flatS]
      rw [List.getElem?_append_right (by simp [encS]; omega)]
      have e : (k + 1) * 7 + i - (encS y).length = k * 7 + i := by simp [encS]; omega
      rw [e]
      exact ih (by simpa using h)

/-- What a row of sessions is to a walk. -/
theorem row_cells {h0 : Nat} {w : World} {v : Value} {L : List Sess} (h : Row h0 w v 7 L.length (flatS L)) :
    ∃ blk off cap, h0 ≤ blk ∧ blk < w.heap.size ∧ v = .slice (some ⟨blk, off, none⟩) L.length cap ∧ L.length ≤ cap ∧ ∀ (k : Nat) (x : Sess), L[k]? = some x → SCells w blk (off + k * 7) x := by
  obtain ⟨blk, off, cap, c, e, h1, h2, h3, h4, h5, h6, h7⟩ := h
  refine ⟨blk, off, cap, h1, (Array.getElem?_eq_some_iff.mp h3).1, h2, h5, fun k x hx => ?_⟩
  have key : ∀ i v, i < 7 → (encS x)[i]? = some v → w.cell? ⟨blk, off + k * 7 + i, none⟩ = some v := by
    intro i v hi hv
    rw [cell_of h3, Nat.add_assoc]
    exact h7 _ _ (by rw [flatS_at hx i hi]; exact hv)
  exact ⟨key 0 _ (by omega) rfl, key 1 _ (by omega) rfl, key 2 _ (by omega) rfl, key 3 _ (by omega) rfl, key 4 _ (by omega) rfl, key 5 _ (by omega) rfl, key 6 _ (by omega) rfl⟩

def oldStep (base last out : Int) (x : Sess) : Int := if base ≤ x.cut ∧ x.cut ≤ last then (if x.cut < out then x.cut else out) else out
def oldF (base last : Int) (L : List Sess) : Int := L.foldl (oldStep base last) last

theorem oldF_take {base last : Int} {L : List Sess} {k : Nat} {x : Sess} (h : L[k]? = some x) : oldF base last (L.take (k + 1)) = oldStep base last (oldF base last (L.take k)) x := by
  have hk : k < L.length := (List.getElem?_eq_some_iff.mp h).1
  rw [List.take_add_one, h]
  simp [oldF]

set_option maxRecDepth 100000 in
set_option maxHeartbeats 800000 in
theorem oldest_some (blk off cap n : Nat) (L : List Sess) (hn : L.length = n) (base last : Int) (w : World) (hb : blk < w.heap.size) (hcap : n ≤ cap) (hL : n ≤ 1000) (hc : ∀ (k : Nat) (x : Sess), L[k]? = some x → SCells w blk (off + k * 7) x) :
    Calls Tryz.prog 7 #[.slice (some ⟨blk, off, none⟩) n cap, .int .i64 base, .int .i64 last] w fun e w' => e = .returned (.int .i64 (oldF base last L)) ∧ Below w.heap.size w w' := by
  have HC := Lib.hid hc; clear hc
  have HN := Lib.hid hn; clear hn
  go_enter Tryz.func7, Tryz.ntmps7
  go_wp2
  go_loopw [7, 13] (fun out i wr => ∃ k : Nat, k ≤ n ∧ i = .int .i64 k ∧ out = .int .i64 (oldF base last (L.take k)) ∧ Below w.heap.size w wr) (fun _ i _ => n - (intOf i).toNat)
  case atStart => exact ⟨0, Nat.zero_le _, rfl, rfl, Below.refl _ _⟩
  case round =>
    obtain ⟨k, hk, rfl, rfl, hbel⟩ := hrel
    by_cases hlt : k < n
    · obtain ⟨x, hx⟩ : ∃ x, L[k]? = some x := ⟨_, List.getElem?_eq_getElem (by rw [HN.out]; exact hlt)⟩
      have s := HC.out k x hx
      have s0 : wr.cell? ⟨blk, off + k * 7, none⟩ = some (.int .i64 x.dev) := (hbel.cell (p := ⟨blk, _, none⟩) hb).trans s.c0
      have s1 : wr.cell? ⟨blk, off + k * 7 + 1, none⟩ = some (.int .i64 0) := (hbel.cell (p := ⟨blk, _, none⟩) hb).trans s.c1
      have s2 : wr.cell? ⟨blk, off + k * 7 + 2, none⟩ = some (.int .i64 x.round) := (hbel.cell (p := ⟨blk, _, none⟩) hb).trans s.c2
      have s3 : wr.cell? ⟨blk, off + k * 7 + 3, none⟩ = some (.int .i64 0) := (hbel.cell (p := ⟨blk, _, none⟩) hb).trans s.c3
      have s4 : wr.cell? ⟨blk, off + k * 7 + 4, none⟩ = some (.slice none 0 0) := (hbel.cell (p := ⟨blk, _, none⟩) hb).trans s.c4
      have s5 : wr.cell? ⟨blk, off + k * 7 + 5, none⟩ = some (.int .i64 x.cut) := (hbel.cell (p := ⟨blk, _, none⟩) hb).trans s.c5
      have s6 : wr.cell? ⟨blk, off + k * 7 + 6, none⟩ = some (.slice none 0 0) := (hbel.cell (p := ⟨blk, _, none⟩) hb).trans s.c6
      have HT := Lib.hid (oldF_take (base := base) (last := last) hx); clear hx s
      have hd : decide (k < n) = true := by simpa using hlt
      go_wp2
      all_goals
        go_round
        case rel =>
          refine ⟨k + 1, by omega, by go_num, ?_, hbel.alloc hbel.size _⟩
          rw [HT.out]
          unfold oldStep
          first
            | rw [if_pos (show base ≤ x.cut ∧ x.cut ≤ last from ⟨by assumption, by assumption⟩)]
            | rw [if_neg (show ¬ (base ≤ x.cut ∧ x.cut ≤ last) by omega)]
        case measure => simp [intOf]; omega
    · have hd : decide (k < n) = false := by simpa using hlt
      go_wp2
      go_ret
      refine ⟨?_, hbel⟩
      rw [List.take_of_length_le (by rw [HN.out]; omega)]; rfl

set_option maxRecDepth 100000 in
set_option maxHeartbeats 400000 in
theorem oldest_nil (base last : Int) (w : World) : Calls Tryz.prog 7 #[.slice none 0 0, .int .i64 base, .int .i64 last] w fun e w' => e = .returned (.int .i64 last) ∧ Below w.heap.size w w' := by
  go_enter Tryz.func7, Tryz.ntmps7
  go_wp2
  go_loopw [7, 13] (fun out i wr => i = .int .i64 0 ∧ out = .int .i64 last ∧ wr = w) (fun _ i _ => 1 - (intOf i).toNat)
  case atStart => exact ⟨rfl, rfl, rfl⟩
  case round =>
    obtain ⟨rfl, rfl, rfl⟩ := hrel
    go_wp2
    go_ret
    exact ⟨rfl, Below.refl _ _⟩

theorem oldest_any {h0 : Nat} {w : World} {v : Value} {L : List Sess} (h : RowS h0 w v L) (hL : L.length ≤ 1000) (base last : Int) :
    Calls Tryz.prog 7 #[v, .int .i64 base, .int .i64 last] w fun e w' => e = .returned (.int .i64 (oldF base last L)) ∧ Below w.heap.size w w' := by
  rcases h with ⟨rfl, rfl⟩ | ⟨_, h⟩
  · exact oldest_nil base last w
  · obtain ⟨blk, off, cap, _, h2, rfl, h4, h5⟩ := row_cells h
    exact oldest_some blk off cap L.length L rfl base last w h2 h4 hL h5
end Go.Proofs.YtfahiennamklgaaGreatDoor

namespace Go.Proofs.YtfahiennamklgaaGreatDoor
open Go.RowKit Ae
set_option maxRecDepth 100000 in
set_option maxHeartbeats 400000 in
theorem has_nil (w : World) : Calls Tryz.prog 8 #[.slice none 0 0, .slice none 0 0] w fun e w' => e = .returned (.bool false) ∧ w = w' := by
  go_enter Tryz.func8, Tryz.ntmps8
  go_wp2
  go_loop [9] (fun i => i = .int .i64 0) (fun i => 1 - (intOf i).toNat)
  case atStart => exact rfl
  case round =>
    obtain rfl := hrel
    go_wp2
    go_ret
    exact ⟨rfl, rfl⟩
end Go.Proofs.YtfahiennamklgaaGreatDoor
