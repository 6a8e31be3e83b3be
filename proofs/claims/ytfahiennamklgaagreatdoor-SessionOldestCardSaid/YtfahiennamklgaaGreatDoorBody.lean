/- The law (function 3) hands back true for every slice, and no block that was there is touched. -/
import Derived.Test.YtfahiennamklgaaGreatDoorW2
import Derived.Test.YtfahiennamklgaaGreatDoorUpd
import Derived.Test.YtfahiennamklgaaGreatDoorBegun

set_option linter.all false
set_option linter.unusedVariables false
set_option linter.unusedSimpArgs false
set_option linter.deprecated false

namespace Go.Proofs.YtfahiennamklgaaGreatDoor
open Go.RowKit Ae

/-- What of memory a walk needs to know of behind the first statement. -/
structure MW (N N1 B : Nat) (w wr : World) (v : Value) (L : List Sess) : Prop where
  case_ : CaseW N N1 wr B
  row : RowS N1 wr v L
  inv : Inv L
  below : Below N w wr
  size : N1 ≤ wr.heap.size

theorem rowS_turned {N1 B : Nat} {w w' : World} {v : Value} {L : List Sess} (h : RowS N1 w v L) (t : Turned B w w') (hB : B < N1) : RowS N1 w' v L := by
  rcases h with h | ⟨h1, blk, off, cap, c, e, k1, k2, k3, k4, k5, k6, k7⟩
  · exact .inl h
  · exact .inr ⟨h1, blk, off, cap, c, e, k1, k2, by rw [t.block _ (by omega)]; exact k3, k4, k5, k6, k7⟩

theorem MW.turned {N N1 B : Nat} {w wr w' : World} {v : Value} {L : List Sess} (h : MW N N1 B w wr v L) (hc : CaseW N N1 w' B) (t : Turned B wr w') : MW N N1 B w w' v L :=
  ⟨hc, rowS_turned h.row t h.case_.lt.2, h.inv, h.below.trans (t.below h.case_.lt.1), by rw [t.size]; exact h.size⟩

/-- A number of the case. -/
theorem int_mw {N N1 B : Nat} {w wr : World} {v : Value} {L : List Sess} (h : MW N N1 B w wr v L) (n : Int) (n0 : 1 ≤ n) (n1 : n ≤ 12) :
    Calls Tryz.prog 5 #[.pointer (some ⟨B, 0, none⟩), .int .i64 n] wr fun e w' => ∃ k : Int, e = .returned (.int .i64 k) ∧ 0 ≤ k ∧ k < n ∧ Hid (MW N N1 B w w' v L) :=
  (int_any h.case_ n n0 n1).mono fun _ _ ⟨k, h1, h2, h3, h4, h5⟩ => ⟨k, h1, h2, h3, h.turned h4 h5⟩

theorem upd_mw {N N1 B : Nat} {w wr : World} {v : Value} {L : List Sess} (h : MW N N1 B w wr v L) (hN : N ≤ N1) (hl : L.length ≤ 4) (d r c : Int) (hm : 1 ≤ d ∧ d ≤ 6 ∧ 0 ≤ r ∧ r ≤ 2) :
    Calls Tryz.prog 6 #[v, msgV d r c] wr fun e w' => ∃ v', e = .returned v' ∧ Hid (∃ L', MW N N1 B w w' v' L' ∧ L'.length ≤ L.length + 1) :=
  (Tryz.update_any h.inv hl (m := ⟨d, r, c⟩) hm h.row h.size).mono fun _ _ ⟨v', h1, h2, h3⟩ =>
    ⟨v', h1, ins ⟨d, r, c⟩ L, ⟨h.case_.below h3, h2, ins_inv h.inv hm, h.below.trans (h3.mono hN), Nat.le_trans h.size h3.size⟩, ins_length _ _⟩

theorem oldF_spec (base last : Int) (hl : base ≤ last) : ∀ (L : List Sess) (o : Int), base ≤ o → o ≤ last →
    base ≤ L.foldl (oldStep base last) o ∧ L.foldl (oldStep base last) o ≤ o ∧ (∀ x ∈ L, base ≤ x.cut → x.cut ≤ last → L.foldl (oldStep base last) o ≤ x.cut) ∧ (L.foldl (oldStep base last) o = o ∨ ∃ x ∈ L, x.cut = L.foldl (oldStep base last) o) := by
  intro L
  induction L with
  | nil => intro o h1 h2; exact ⟨h1, Int.le_refl _, fun x hx => (by cases hx), .inl rfl⟩
  | cons y l ih =>
    intro o h1 h2
    have hs : base ≤ oldStep base last o y ∧ oldStep base last o y ≤ o ∧ (base ≤ y.cut → y.cut ≤ last → oldStep base last o y ≤ y.cut) ∧ (oldStep base last o y = o ∨ y.cut = oldStep base last o y) := by
      unfold oldStep
      split
      · split
        · exact ⟨by omega, by omega, fun _ _ => by omega, .inr rfl⟩
        · exact ⟨h1, by omega, fun _ _ => by omega, .inl rfl⟩
      · exact ⟨h1, by omega, fun a b => by omega, .inl rfl⟩
    obtain ⟨s1, s2, s3, s4⟩ := hs
    obtain ⟨i1, i2, i3, i4⟩ := ih (oldStep base last o y) s1 (by omega)
    simp only [List.foldl_cons]
    refine ⟨i1, by omega, fun x hx a b => ?_, ?_⟩
    · cases hx with
      | head => have := s3 a b; omega
      | tail _ hx => exact i3 x hx a b
    · rcases i4 with i4 | ⟨x, hx, e⟩
      · rcases s4 with s4 | s4
        · exact .inl (by omega)
        · exact .inr ⟨y, by simp, by omega⟩
      · exact .inr ⟨x, by simp [hx], e⟩

/-- Whether the least is found among these. -/
def fd (no last : Int) (l : List Sess) : Bool := (no == last) || l.any fun x => x.cut == no

theorem fd_take {no last : Int} {L : List Sess} {k : Nat} {x : Sess} (h : L[k]? = some x) : fd no last (L.take (k + 1)) = (fd no last (L.take k) || x.cut == no) := by
  unfold fd
  rw [List.take_add_one, h, List.any_append, Bool.or_assoc]
  simp

theorem below_drewN {B : Nat} {w w' : World} (h : Below B w w') (n : Nat) : Below B w (w'.drewN n) := h.trans ⟨rfl, rfl, rfl, Nat.le_refl _, fun _ _ => rfl⟩

theorem rel_end {no last : Int} {L : List Sess} {k m : Nat} {x : Sess} (hk : k < m) (HT : fd no last (L.take (k + 1)) = (fd no last (L.take k) || x.cut == no)) {wq wr : World} (hb : Below wq.heap.size wq wr) (o : Obj) (nq : Nat) {I : Int} (hI : I = ((k + 1 : Nat) : Int)) {f : Bool} (hf : f = (fd no last (L.take k) || x.cut == no)) :
    ∃ k' : Nat, k' ≤ m ∧ Value.int .i64 I = .int .i64 k' ∧ Value.bool f = .bool (fd no last (L.take k')) ∧ Below wq.heap.size wq ((wr.alloc o).drewN nq) :=
  ⟨k + 1, hk, by rw [hI], by rw [hf, HT], below_drewN (hb.alloc hb.size _) nq⟩

theorem sorted_at {L : List Sess} (h : L.Pairwise fun a b => a.dev < b.dev) {j : Nat} {y x : Sess} (hy : L[j]? = some y) (hx : L[j + 1]? = some x) : y.dev < x.dev := by
  obtain ⟨h1, e1⟩ := List.getElem?_eq_some_iff.mp hy
  obtain ⟨h2, e2⟩ := List.getElem?_eq_some_iff.mp hx
  have := List.pairwise_iff_getElem.mp h j (j + 1) h1 h2 (by omega)
  rw [e1, e2] at this
  exact this

theorem row_any {N1 : Nat} {w : World} {v : Value} {L : List Sess} (h : RowS N1 w v L) :
    ∃ A cap, v = .slice A L.length cap ∧ L.length ≤ cap ∧ ∀ (k : Nat) (x : Sess), L[k]? = some x → ∃ blk off, A = some ⟨blk, off, none⟩ ∧ blk < w.heap.size ∧ SCells w blk (off + k * 7) x := by
  rcases h with ⟨rfl, rfl⟩ | ⟨_, h⟩
  · exact ⟨none, 0, rfl, Nat.le_refl _, fun k x hx => by simp at hx⟩
  · obtain ⟨blk, off, cap, _, h2, rfl, h4, h5⟩ := row_cells h
    exact ⟨_, cap, rfl, h4, fun k x hx => ⟨blk, off, rfl, h2, h5 k x hx⟩⟩

set_option maxRecDepth 100000 in
set_option maxHeartbeats 800000 in
theorem main_any (a : Option Addr) (len cap : Nat) (xs : List Int) (w : World) (hl : len ≤ cap) (hxs : xs.length = len) (hc : ∀ b, a = some b → ∀ j x, xs[j]? = some x → w.cell? (b.add j) = some (.int .u8 x)) (h0 : a = none → len = 0) (hp : ∀ x ∈ xs, 0 ≤ x ∧ x ≤ 255) :
    Calls Tryz.prog 3 #[.slice a len cap] w fun e w' => e = .returned (.bool true) ∧ Below w.heap.size w w' := by
  have HNEW := Lib.hid (new_any a len cap xs w hl hxs hc h0 hp)
  clear hl hxs hc h0 hp
  go_enter Tryz.func3, Tryz.ntmps3
  go_wp2_with fail
  refine HNEW.out.mono ?_
  rintro e w1 ⟨B, rfl, hcase, hb⟩
  have hM : Hid (MW w.heap.size w1.heap.size B w w1 (.slice none 0 0) []) := ⟨hcase, .inl ⟨rfl, rfl⟩, ⟨List.Pairwise.nil, fun x hx => by cases hx⟩, hb, Nat.le_refl _⟩
  have hN : Hid (w.heap.size ≤ w1.heap.size) := hb.size
  clear hcase hb HNEW
  go_wp2_with fail
  refine (int_mw hM.out 4 (by omega) (by omega)).mono ?_
  rintro e w2 ⟨base, rfl, hb0, hb1, hM2⟩
  clear hM
  go_wp2_with fail
  refine (int_mw hM2.out 6 (by omega) (by omega)).mono ?_
  rintro e w3 ⟨dl, rfl, hd0, hd1, hM3⟩
  clear hM2
  go_wp2_with fail
  refine (int_mw hM3.out 6 (by omega) (by omega)).mono ?_
  rintro e w4 ⟨n, rfl, hn0, hn1, hM4⟩
  obtain ⟨n, rfl⟩ : ∃ m : Nat, n = m := ⟨n.toNat, by omega⟩
  have hn5 : n ≤ 5 := by omega
  clear hM3 hn0 hn1
  go_wp2_with fail
  go_loopw [4, 7] (fun vl i wr => ∃ (k : Nat) (L : List Sess), i = .int .i64 k ∧ L.length + k ≤ 5 ∧ MW w.heap.size w1.heap.size B w wr vl L) (fun _ i _ => (intOf i).toNat)
  case atStart => exact ⟨n, [], rfl, by simpa using hn5, hM4.out⟩
  case round =>
    obtain ⟨k, L, rfl, hlen, hM⟩ := hrel
    have HM := Lib.hid hM; clear hM
    rename World => wq
    by_cases hlt : 0 < k
    · have hlt' : (0 : Int) < (k : Int) := by omega
      go_wp2_with fail
      refine (int_mw HM.out 6 (by omega) (by omega)).mono ?_
      rintro e w5 ⟨d, rfl, hd0, hd1, hM5⟩
      clear HM
      go_wp2_with fail
      refine (int_mw hM5.out 3 (by omega) (by omega)).mono ?_
      rintro e w6 ⟨r, rfl, hr0, hr1, hM6⟩
      clear hM5
      go_wp2_with fail
      refine (int_mw hM6.out 12 (by omega) (by omega)).mono ?_
      rintro e w7 ⟨c, rfl, hc0, hc1, hM7⟩
      clear hM6
      go_wp2_with fail
      refine (upd_mw hM7.out hN.out (by omega) (1 + d) r (c - 1) (by omega)).mono ?_
      rintro e w8 ⟨v8, rfl, hM8⟩
      go_wp2_with fail
      go_round
      case rel =>
        obtain ⟨L', hM', hl'⟩ := hM8.out
        exact ⟨k - 1, L', by rw [show ((k - 1 : Nat) : Int) = (k : Int) - 1 by omega], by omega, hM'⟩
      case measure => simp [intOf]; omega
    · obtain rfl : k = 0 := by omega
      clear hlt
      obtain ⟨A, capl, rfl, hcapl, hcells⟩ := row_any HM.out.row
      have HO := Lib.hid (oldest_any HM.out.row (by omega) base (base + dl))
      have HC := Lib.hid hcells
      have HI := Lib.hid HM.out.inv.sorted
      have hspec := oldF_spec base (base + dl) (by omega) L (base + dl) (by omega) (Int.le_refl _)
      obtain ⟨m, hm⟩ : ∃ m, L.length = m := ⟨_, rfl⟩
      obtain ⟨no, hno⟩ : ∃ no, oldF base (base + dl) L = no := ⟨_, rfl⟩
      have hno' : L.foldl (oldStep base (base + dl)) (base + dl) = no := hno
      rw [hno'] at hspec
      obtain ⟨p1, p2, p3, p4⟩ := hspec
      have P3 := Lib.hid p3
      have P4 := Lib.hid p4
      have hm5 : m ≤ 5 := by omega
      rw [hm] at hcapl
      clear hcells hlen p3 p4 hno'
      rw [hm, hno] at HO
      rw [hm]
      have HL := Lib.hid hm
      clear hm hno
      go_wp2_with fail
      refine HO.out.mono ?_
      rintro e w5 ⟨rfl, hb5⟩
      clear HO
      go_wp2_with fail
      go_loopw [9, 46] (fun f i w6 => ∃ k : Nat, k ≤ m ∧ i = .int .i64 k ∧ f = .bool (fd no (base + dl) (L.take k)) ∧ Below wq.heap.size wq w6) (fun _ i _ => m - (intOf i).toNat)
      case atStart => exact ⟨0, Nat.zero_le _, rfl, by simp [fd], hb5⟩
      case round =>
        obtain ⟨k, hk, rfl, rfl, hbel⟩ := hrel
        by_cases hlt : k < m
        · have hd : decide (k < m) = true := by simpa using hlt
          obtain ⟨x, hx⟩ : ∃ x, L[k]? = some x := ⟨_, List.getElem?_eq_getElem (by rw [HL.out]; exact hlt)⟩
          obtain ⟨blk, off, rfl, hblk, s⟩ := HC.out k x hx
          have s0 : wr.cell? ⟨blk, off + k * 7, none⟩ = some (.int .i64 x.dev) := (hbel.cell (p := ⟨blk, _, none⟩) hblk).trans s.c0
          have s1 : wr.cell? ⟨blk, off + k * 7 + 1, none⟩ = some (.int .i64 0) := (hbel.cell (p := ⟨blk, _, none⟩) hblk).trans s.c1
          have s2 : wr.cell? ⟨blk, off + k * 7 + 2, none⟩ = some (.int .i64 x.round) := (hbel.cell (p := ⟨blk, _, none⟩) hblk).trans s.c2
          have s3 : wr.cell? ⟨blk, off + k * 7 + 3, none⟩ = some (.int .i64 0) := (hbel.cell (p := ⟨blk, _, none⟩) hblk).trans s.c3
          have s4 : wr.cell? ⟨blk, off + k * 7 + 4, none⟩ = some (.slice none 0 0) := (hbel.cell (p := ⟨blk, _, none⟩) hblk).trans s.c4
          have s5 : wr.cell? ⟨blk, off + k * 7 + 5, none⟩ = some (.int .i64 x.cut) := (hbel.cell (p := ⟨blk, _, none⟩) hblk).trans s.c5
          have s6 : wr.cell? ⟨blk, off + k * 7 + 6, none⟩ = some (.slice none 0 0) := (hbel.cell (p := ⟨blk, _, none⟩) hblk).trans s.c6
          have HT := Lib.hid (fd_take (no := no) (last := base + dl) hx)
          have hmem : x ∈ L := List.mem_of_getElem? hx
          have hcut := P3.out x hmem
          have HB : Hid (Below wq.heap.size wq wr) := hbel
          clear s
          by_cases hk0 : k = 0
          · subst hk0
            clear hx hmem
            simp only [Nat.zero_mul, Nat.add_zero] at s0 s1 s2 s3 s4 s5 s6
            by_cases c1 : base ≤ x.cut
            · have e1 : decide (base ≤ x.cut) = true := by simpa using c1
              by_cases c2 : x.cut ≤ base + dl
              · have e2 : decide (x.cut ≤ base + dl) = true := by simpa using c2
                have e3 : decide (x.cut < no) = false := by have := hcut c1 c2; simp; omega
                clear hcut
                go_wp2_with fail
                go_quiet (fail)
                go_wp2_with fail
                all_goals
                  go_round
                  case rel => exact rel_end hlt HT.out hbel _ _ (by omega) (by simp [*])
                  case measure => simp [intOf]; omega
              · have e2 : decide (x.cut ≤ base + dl) = false := by simpa using c2
                clear hcut
                go_wp2_with fail
                go_quiet (fail)
                go_wp2_with fail
                all_goals
                  go_round
                  case rel => exact rel_end hlt HT.out hbel _ _ (by omega) (by simp [*])
                  case measure => simp [intOf]; omega
            · have e1 : decide (base ≤ x.cut) = false := by simpa using c1
              clear hcut
              go_wp2_with fail
              go_quiet (fail)
              go_wp2_with fail
              all_goals
                go_round
                case rel => exact rel_end hlt HT.out hbel _ _ (by omega) (by simp [*])
                case measure => simp [intOf]; omega
          · obtain ⟨j, rfl⟩ : ∃ j, k = j + 1 := ⟨k - 1, by omega⟩
            obtain ⟨y, hy⟩ : ∃ y, L[j]? = some y := ⟨_, List.getElem?_eq_getElem (by rw [HL.out]; omega)⟩
            obtain ⟨blk', off', e', _, s'⟩ := HC.out j y hy
            simp only [Option.some.injEq, Addr.mk.injEq, and_true] at e'
            obtain ⟨rfl, rfl⟩ := e'
            have t0 : wr.cell? ⟨blk, off + j * 7, none⟩ = some (.int .i64 y.dev) := (hbel.cell (p := ⟨blk, _, none⟩) hblk).trans s'.c0
            have hdev : y.dev < x.dev := sorted_at HI.out hy hx
            have e4 : decide (x.dev ≤ y.dev) = false := by simp; omega
            have hjm : j < m := by omega
            have hb2 : blk < wr.heap.size := Nat.lt_of_lt_of_le hblk hbel.size
            have hw : IntKind.i64.wrap ((j : Int) + 1 - 1) = j := by rw [Int.add_sub_cancel]; exact IntWalk.i64_in _ (by omega)
            clear hx hmem s' hy hk0 hdev
            by_cases c1 : base ≤ x.cut
            · have e1 : decide (base ≤ x.cut) = true := by simpa using c1
              by_cases c2 : x.cut ≤ base + dl
              · have e2 : decide (x.cut ≤ base + dl) = true := by simpa using c2
                have e3 : decide (x.cut < no) = false := by have := hcut c1 c2; simp; omega
                clear hcut
                go_wp2_with fail
                go_quiet (fail)
                go_wp2_with fail
                all_goals
                  go_round
                  case rel => exact rel_end hlt HT.out hbel _ _ (by omega) (by simp [*])
                  case measure => simp [intOf]; omega
              · have e2 : decide (x.cut ≤ base + dl) = false := by simpa using c2
                clear hcut
                go_wp2_with fail
                go_quiet (fail)
                go_wp2_with fail
                all_goals
                  go_round
                  case rel => exact rel_end hlt HT.out hbel _ _ (by omega) (by simp [*])
                  case measure => simp [intOf]; omega
            · have e1 : decide (base ≤ x.cut) = false := by simpa using c1
              clear hcut
              go_wp2_with fail
              go_quiet (fail)
              go_wp2_with fail
              all_goals
                go_round
                case rel => exact rel_end hlt HT.out hbel _ _ (by omega) (by simp [*])
                case measure => simp [intOf]; omega
        · have hd : decide (k < m) = false := by simpa using hlt
          have hfd : fd no (base + dl) (L.take k) = true := by
            rw [List.take_of_length_le (by rw [HL.out]; omega)]
            unfold fd
            rcases P4.out with h | ⟨x, hx, h⟩
            · simp [h]
            · rw [Bool.or_eq_true, List.any_eq_true]; exact .inr ⟨x, hx, by simp [h]⟩
          go_wp2_with fail
          refine (has_nil _).mono ?_
          rintro e w7 ⟨rfl, rfl⟩
          go_wp2_with fail
          refine (Tryz.begun_any _).mono ?_
          rintro e w8 ⟨rfl, hb8⟩
          go_wp2_with fail
          go_ret
          refine ⟨rfl, ?_⟩
          have hb := HM.out.below
          exact hb.trans ((hbel.mono hb.size).trans (hb8.mono (Nat.le_trans hb.size hbel.size)))
end Go.Proofs.YtfahiennamklgaaGreatDoor
