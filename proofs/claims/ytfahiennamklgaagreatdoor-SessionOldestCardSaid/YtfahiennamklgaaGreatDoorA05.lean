/- The evaluator is right at copies and slices. -/
import Derived.Test.YtfahiennamklgaaGreatDoorA04

set_option linter.all false
set_option linter.unusedVariables false
set_option linter.unusedSimpArgs false
set_option linter.deprecated false

/- Operations on slices and strings. -/
namespace Ae
open Go Go.RowKit

theorem VR.slice_inv {ρ : Ren} {id off len cap : Nat} {y : Value} (r : VR ρ (.slice (some ⟨id, off, none⟩) len cap) y) :
    ∃ p a cap', ρ id = some p ∧ y = .slice (some a) len cap' ∧ (len = 0 ∨ a = ⟨p.blk, p.base + off, none⟩) ∧
      ((open_ cap = false ∧ cap' = cap ∧ a = ⟨p.blk, p.base + off, none⟩) ∨
       (open_ cap = true ∧ ∃ L, 0 < p.sz ∧ cap + L = BIG ∧ off = L * p.sz ∧ L + len ≤ p.cap ∧ cap' = p.cap - L ∧ (p.cap = L ∨ a = ⟨p.blk, p.base + off, none⟩))) := by
  cases r with
  | slice off len cap h hc => exact ⟨_, _, _, h, rfl, .inr rfl, .inl ⟨hc, rfl, rfl⟩⟩
  | openSlice L len cap off a h hs ho hcap hoff hL ha =>
    exact ⟨_, _, _, h, rfl, ha.imp (fun e => by omega) (fun e => e), .inr ⟨ho, L, hs, hcap, hoff, hL, rfl, ha⟩⟩

section
variable {tab : Tab} {P : Program} {h0 : Nat} {ρ : Ren} {X X' : St} {w : World}

theorem LR.eq_nil {l k : List Value} (h : LR ρ l k) (e : l.length = 0) : l = [] ∧ k = [] := by
  have := List.length_eq_zero_iff.mp e
  subst this
  exact ⟨rfl, h.nil_inv⟩

theorem loadsAt_sound (g : Good h0 ρ X.H w.heap) {id k off : Nat} {p : Place} {a : Addr} {cs : List Value} (hp : ρ id = some p) (ha : k = 0 ∨ a = ⟨p.blk, p.base + off, none⟩)
    (h : interp (loadCells_ id k off) X = some (cs, X')) : X' = X ∧ cs.length = k ∧ ∃ cs' : List Value, (loadCells a k).run P w = .ok cs'.toArray w ∧ LR ρ cs cs' := by
  obtain ⟨h1, h2, cs', h3, h4⟩ := loadCells_sound (P := P) g hp h
  refine ⟨h1, h2, ?_⟩
  rcases ha with rfl | rfl
  · obtain ⟨e1, e2⟩ := h4.eq_nil h2
    exact ⟨[], rfl, by rw [e1]; exact .nil ρ⟩
  · exact ⟨cs', h3, h4⟩

theorem extract_size {s : ByteArray} {n : Nat} (h : n ≤ s.size) : (s.extract 0 n).data.toList.length = n := by
  have : (s.extract 0 n).size = n := by rw [ByteArray.size_extract]; omega
  rw [Array.length_toList]
  exact this

/-- What is appended or copied. -/
theorem src_sound (g : Good h0 ρ X.H w.heap) {size : Nat} {most : Nat → Nat} (hm : ∀ j, most j ≤ j) {x x' : Value} {kc : Nat × List Value} (r : VR ρ x x')
    (h : interp (srcF size most x) X = some (kc, X')) :
    X' = X ∧ kc.2.length = kc.1 * size ∧ ∃ len cs', (Builtin.lenOf x').run P w = .ok len w ∧ kc.1 = most len ∧ (Builtin.firstCells size kc.1 x').run P w = .ok (List.toArray cs') w ∧ LR ρ kc.2 cs' := by
  cases x with
  | slice a k c =>
    cases a with
    | none =>
      obtain ⟨_, h2⟩ := i_ifB.mp (show interp (ifB (Nat.beq k 0) (.pure (most 0, []))) X = some (kc, X') from h)
      obtain ⟨rfl, rfl⟩ := i_pure_inv h2
      cases r
      have := hm 0
      refine ⟨rfl, ?_, 0, [], rfl, rfl, rfl, .nil ρ⟩
      have : most 0 = 0 := by omega
      simp [this]
    | some a =>
      obtain ⟨b, h1, h2⟩ := i_optB.mp h
      have e := addrOf_eq h1
      simp only [Option.some.injEq] at e
      subst e
      obtain ⟨cs, X1, h3, h4⟩ := i_bind.mp h2
      obtain ⟨rfl, rfl⟩ := i_pure_inv h4
      obtain ⟨p, a', cap', hp, rfl, ha, _⟩ := r.slice_inv
      obtain ⟨rfl, h6, cs', h7, h8⟩ := loadsAt_sound (P := P) g hp (k := Nat.mul (most k) size) (ha.imp (fun e => by
        subst e
        have := hm 0
        have h9 : most 0 = 0 := by omega
        show most 0 * size = 0
        rw [h9, Nat.zero_mul]) id) h3
      exact ⟨rfl, h6, k, cs', rfl, rfl, by simp only [Builtin.firstCells]; exact h7, h8⟩
  | string s =>
    cases r
    obtain ⟨h1, h2⟩ := i_ifB.mp h
    obtain ⟨rfl, rfl⟩ := i_pure_inv h2
    have hs := Nat.eq_of_beq_eq_true h1
    refine ⟨rfl, ?_, s.size, (s.extract 0 (most s.size)).data.toList.map fun b => .int .u8 b.toNat, rfl, rfl, ?_, ?_⟩
    · rw [List.length_map, extract_size (hm _), hs, Nat.mul_one]
    · simp only [Builtin.firstCells, Sem.run_pure, Result.ok.injEq, and_true]
      apply Array.ext'
      simp
    · refine .of_flat fun v hv => ?_
      obtain ⟨b, _, rfl⟩ := List.mem_map.mp hv
      exact .int _ _
  | _ => cases h

theorem storeNil_sound (g : Good h0 ρ X.H w.heap) {id off : Nat} {u : Unit} (h : interp (storeCells_ id [] off) X = some (u, X')) : X'.T = X.T ∧ Good h0 ρ X'.H w.heap := by
  obtain ⟨r, X1, h1, h2⟩ := i_bind.mp h
  obtain ⟨rfl, h3⟩ := i_rowOf h1
  obtain ⟨h4, h5⟩ := i_ifB.mp h2
  obtain ⟨cs, h6, h7⟩ := i_optB.mp h5
  have h7' : some ((), X1.set (.o id (some (.row cs r.2)))) = some (u, X') := h7
  simp only [Option.some.injEq, Prod.mk.injEq] at h7'
  obtain ⟨_, rfl⟩ := h7'
  obtain ⟨h8, h9⟩ := splice_eq _ _ _ h6
  have : cs = r.1 := by rw [h8]; simp
  subst this
  obtain ⟨p, hp, h10, h11⟩ := g.cells _ _ h3
  exact ⟨rfl, g.put h3 hp (fun _ _ => rfl) (Nat.le_refl _) h11⟩

/-- Cells written where a slice begins, and some further on. -/
theorem into_sound (g : Good h0 ρ X.H w.heap) {a : Option Addr} {len cap o : Nat} {y : Value} (r : VR ρ (.slice a len cap) y) {cs cs' : List Value} (hc : LR ρ cs cs')
    (hz : len = 0 → open_ cap = true → (∀ a' c', y = .slice a' len c' → c' = 0 → cs = [])) {u : Unit}
    (h : interp (intoF a o cs) X = some (u, X')) : X'.T = X.T ∧ ∃ w' base cap', y = .slice base len cap' ∧
      (match base with | some b => storeCells (b.add o) cs' | none => pure ()).run P w = .ok () w' ∧ Good h0 ρ X'.H w'.heap ∧ Below h0 w w' := by
  cases a with
  | none =>
    cases r
    obtain ⟨_, rfl⟩ := i_pure_inv h
    exact ⟨rfl, w, none, 0, rfl, rfl, g, .refl _ _⟩
  | some a =>
    obtain ⟨b, h1, h2⟩ := i_optB.mp h
    have e := addrOf_eq h1
    simp only [Option.some.injEq] at e
    subst e
    rw [i_force] at h2
    obtain ⟨p, a', cap', hp, rfl, ha, hc2⟩ := r.slice_inv
    have key : a' = ⟨p.blk, p.base + b.2, none⟩ ∨ cs = [] := by
      rcases hc2 with ⟨_, _, e⟩ | ⟨ho, L, h3, h4, h5, h6, h7, h8⟩
      · exact .inl e
      · rcases h8 with h8 | h8
        · exact .inr (hz (by omega) ho _ _ rfl (by omega))
        · exact .inl h8
    rcases key with rfl | rfl
    · obtain ⟨h3, w', h4, h5, h6⟩ := storeCells_sound (P := P) g hp hc h2
      refine ⟨h3, w', _, cap', rfl, ?_, h5, h6⟩
      rw [← h4]
      simp only [add_none, Nat.add_assoc]
      rfl
    · obtain ⟨h3, h4⟩ := storeNil_sound g h2
      refine ⟨h3, w, _, cap', rfl, ?_, h4, .refl _ _⟩
      rw [hc.nil_inv]
      rfl

theorem len_sound {i : TInfo} {x x' v : Value} {t : TypeId} (ti : TypeOK P t i) (r : VR ρ x x') (h : interp (lenF i x) X = some (v, X')) (ts : Array TypeId) (ht : ts[0]? = some t) (ty : TypeId) :
    Pur P ρ X X' w v (Builtin.len_ ts ty #[x']) := by
  cases x with
  | slice a k c =>
    obtain ⟨e, h1, h2⟩ := i_optB.mp h
    obtain ⟨rfl, rfl⟩ := i_pure_inv h2
    have hd := dSlice_eq h1
    refine ⟨rfl, .int .i64 k, ?_, .int _ _⟩
    cases r <;> simp [Builtin.len_, ht, ti.under, hd, goInt]
  | string s =>
    obtain ⟨h1, h2⟩ := i_ifB.mp h
    obtain ⟨rfl, rfl⟩ := i_pure_inv h2
    have hd := dStr_eq h1
    cases r
    exact ⟨rfl, .int .i64 s.size, by simp [Builtin.len_, ht, ti.under, hd, goInt], .int _ _⟩
  | _ => cases h

theorem copy_sound (ok : TabOK tab P) (g : Good h0 ρ X.H w.heap) {t : TypeId} {i : TInfo} (hi : tab.ty.at_ t = some i) {d d' x x' v : Value} (rd : VR ρ d d') (rx : VR ρ x x')
    (h : interp (copyF tab i [d, x]) X = some (v, X')) (ts : Array TypeId) (ht : ts[0]? = some t) (ty : TypeId) :
    X'.T = X.T ∧ ∃ w' v', (Builtin.copy_ ts ty #[d', x']).run P w = .ok v' w' ∧ Good h0 ρ X'.H w'.heap ∧ Below h0 w w' ∧ VR ρ v v' := by
  obtain ⟨s, h1, h2⟩ := i_optB.mp h
  obtain ⟨e, h3, h4⟩ := i_optB.mp h2
  obtain ⟨ei, h5, h6⟩ := i_tiB.mp h4
  obtain ⟨kc, X1, h7, h8⟩ := i_bind.mp h6
  obtain ⟨u, X2, h9, h10⟩ := i_bind.mp h8
  obtain ⟨rfl, rfl⟩ := i_pure_inv h10
  obtain ⟨rfl, h11, len, cs', h12, h13, h14, h15⟩ := src_sound (P := P) g (fun j => Nat.min_le_left j _) rx h7
  have ti := ok.ty t i hi
  have te := ok.ty e ei h5
  rw [vSlice_eq h1] at rd
  obtain ⟨h16, w', base, cap', h17, h18, h19, h20⟩ := into_sound (P := P) g rd h15 (fun hz _ a' c' _ _ => by
    have : kc.2.length = 0 := by rw [h11, h13, hz]; show min len 0 * ei.size = 0; simp
    exact List.length_eq_zero_iff.mp this) h9
  subst h17
  refine ⟨h16, w', .int .i64 kc.1, ?_, h19, h20, .int _ _⟩
  have e1 : Nat.min len s.2.1 = kc.1 := h13.symm
  cases base with
  | none =>
    have hw : w = w' := by simpa using h18
    subst hw
    simp [Builtin.copy_, ht, ti.under, dSlice_eq h3, h12, te.sized, e1, h14, goInt]
  | some b =>
    have h18' : (storeCells (b.add 0) cs').run P w = .ok () w' := h18
    have hb : b.add 0 = b := by simp [Addr.add]
    rw [hb] at h18'
    simp [Builtin.copy_, ht, ti.under, dSlice_eq h3, h12, te.sized, e1, h14, goInt, h18']

theorem indexAddr_sound (ok : TabOK tab P) {t : TypeId} {x x' y y' v : Value} {j : Nat} (rx : VR ρ x x') (hy : vNat y = some j) (ry : VR ρ y y') (h : interp (indexAddrF tab t x j) X = some (v, X')) :
    Pur P ρ X X' w v (Instr.indexAt t x' y') := by
  obtain ⟨k, rfl⟩ := vNat_eq hy
  cases ry
  obtain ⟨i, h1, h2⟩ := i_tiB.mp h
  have ti := ok.ty t i h1
  have hj0 : (0 : Int) ≤ (j : Int) := by omega
  split at h2
  · rename_i s hs
    rw [vSlice_eq hs] at rx
    obtain ⟨a, h3, h4⟩ := i_optB.mp h2
    obtain ⟨e, h5, h6⟩ := i_optB.mp h4
    obtain ⟨ei, h7, h8⟩ := i_tiB.mp h6
    obtain ⟨h9, h10⟩ := i_ifB.mp h8
    unfold placeF at h10
    rw [i_force] at h10
    obtain ⟨rfl, rfl⟩ := i_pure_inv h10
    have hlt := Nat.le_of_ble_eq_true h9
    rw [addrOf_eq h3] at rx
    obtain ⟨p, a', cap', hp, rfl, ha, _⟩ := rx.slice_inv
    have ha' : a' = ⟨p.blk, p.base + a.2, none⟩ := ha.resolve_left (by omega)
    subst ha'
    refine ⟨rfl, .pointer (some ⟨p.blk, p.base + (a.2 + j * ei.size), none⟩), ?_, .ptr _ hp⟩
    have hlt2 : (j : Int) < (s.2.1 : Int) := by omega
    simp only [Instr.indexAt, asIntOf, Sem.run_bind, Sem.run_pure, Result.andThen_ok, ti.under, dSlice_eq h5]
    simp [hlt, (ok.ty e ei h7).sized, add_none, Nat.add_assoc]
    omega
  · obtain ⟨a, h3, h4⟩ := i_optB.mp h2
    obtain ⟨ne, h5, h6⟩ := i_optB.mp h4
    obtain ⟨ei, h7, h8⟩ := i_tiB.mp h6
    obtain ⟨h9, h10⟩ := i_ifB.mp h8
    unfold placeF at h10
    rw [i_force] at h10
    obtain ⟨rfl, rfl⟩ := i_pure_inv h10
    have hlt := Nat.le_of_ble_eq_true h9
    rw [vPtr_eq h3] at rx
    obtain ⟨p, hp, rfl⟩ := rx.ptr_inv
    refine ⟨rfl, .pointer (some ⟨p.blk, p.base + (a.2 + j * ei.size), none⟩), ?_, .ptr _ hp⟩
    simp only [Instr.indexAt, asIntOf, Sem.run_bind, Sem.run_pure, Result.andThen_ok, ti.under, dArray_eq h5, Instr.sureAddr]
    simp [(ok.ty _ ei h7).sized, add_none, Nat.add_assoc]
    omega

theorem index_sound (ok : TabOK tab P) {t : TypeId} {x x' y y' v : Value} {j : Nat} (rx : VR ρ x x') (hy : vNat y = some j) (ry : VR ρ y y') (h : interp (indexF tab t x j) X = some (v, X')) :
    Pur P ρ X X' w v (Instr.index t x' y') := by
  obtain ⟨k, rfl⟩ := vNat_eq hy
  cases ry
  obtain ⟨i, h1, h2⟩ := i_tiB.mp h
  obtain ⟨s, h3, h4⟩ := i_optB.mp h2
  obtain ⟨h5, h6⟩ := i_ifB.mp h4
  obtain ⟨b, h7, h8⟩ := i_optB.mp h6
  obtain ⟨rfl, rfl⟩ := i_pure_inv h8
  rw [vStr_eq h3] at rx
  cases rx
  refine ⟨rfl, _, ?_, .int _ _⟩
  simp only [Instr.index, asIntOf, Sem.run_bind, Sem.run_pure, Result.andThen_ok, (ok.ty t i h1).under, dStr_eq h5]
  simp [h7]
end
end Ae

/- Slices cut; conversions; parts put together. -/
namespace Ae
open Go Go.RowKit

inductive OptR (ρ : Ren) : Option Value → Option Value → Prop
  | none : OptR ρ none none
  | some {v w : Value} (h : VR ρ v w) : OptR ρ (some v) (some w)

section
variable {tab : Tab} {P : Program} {h0 : Nat} {ρ : Ren} {X X' : St} {w : World}

theorem natO_inv {x : Option Value} {d n : Nat} (h : interp (natO x d) X = some (n, X')) : X' = X ∧ ((x = none ∧ n = d) ∨ ∃ k, x = some (.int k (n : Int))) := by
  cases x with
  | none => obtain ⟨rfl, rfl⟩ := i_pure_inv h; exact ⟨rfl, .inl ⟨rfl, rfl⟩⟩
  | some v =>
    obtain ⟨h1, h2⟩ := i_opt.mp h
    obtain ⟨k, rfl⟩ := vNat_eq h1
    exact ⟨h2, .inr ⟨k, rfl⟩⟩

theorem natOO_inv {x : Option Value} {m : Option Nat} (h : interp (natOO x) X = some (m, X')) : X' = X ∧ ((x = none ∧ m = none) ∨ ∃ k n, x = some (.int k ((n : Nat) : Int)) ∧ m = some n) := by
  cases x with
  | none => obtain ⟨rfl, rfl⟩ := i_pure_inv h; exact ⟨rfl, .inl ⟨rfl, rfl⟩⟩
  | some v =>
    obtain ⟨n, X1, h1, h2⟩ := i_bind.mp h
    obtain ⟨h3, h4⟩ := i_opt.mp h1
    obtain ⟨rfl, rfl⟩ := i_pure_inv h2
    obtain ⟨k, rfl⟩ := vNat_eq h3
    exact ⟨h4, .inr ⟨k, _, rfl, rfl⟩⟩

theorem sliceBound_run (k : IntKind) (n y : Nat) (c : BoundsCode) (h : n ≤ y) : (Instr.sliceBound (.int k (n : Int)) y c).run P w = .ok n w := by
  have h1 : (0 : Int) ≤ (n : Int) ∧ (n : Int) ≤ (y : Int) := by omega
  simp [Instr.sliceBound, asIntOf, h]

theorem bounds_sound {isS : Bool} {len cap l h : Nat} {m : Option Nat} {lo hi mx lo' hi' mx' : Option Value} (rl : OptR ρ lo lo') (rh : OptR ρ hi hi') (rm : OptR ρ mx mx')
    (hl : (lo = none ∧ l = 0) ∨ ∃ k, lo = some (.int k (l : Int))) (hh : (hi = none ∧ h = len) ∨ ∃ k, hi = some (.int k (h : Int)))
    (hm : (mx = none ∧ m = none) ∨ ∃ k n, mx = some (.int k ((n : Nat) : Int)) ∧ m = some n) (hx : (hi.isSome || mx.isNone) = true)
    (h1 : m.getD cap ≤ cap) (h2 : h ≤ m.getD cap) (h3 : l ≤ h) : (Instr.sliceBounds isS len cap lo' hi' mx').run P w = .ok (l, h, m.getD cap) w := by
  rcases hm with ⟨rfl, rfl⟩ | ⟨km, nm, rfl, rfl⟩
  · cases rm
    rcases hh with ⟨rfl, rfl⟩ | ⟨kh, rfl⟩
    · cases rh
      rcases hl with ⟨rfl, rfl⟩ | ⟨kl, rfl⟩
      · cases rl; rfl
      · cases rl with
        | some r => cases r; simp [Instr.sliceBounds, sliceBound_run, h3]
    · cases rh with
      | some r =>
        cases r
        simp only [Option.getD_none] at h2
        rcases hl with ⟨rfl, rfl⟩ | ⟨kl, rfl⟩
        · cases rl; simp [Instr.sliceBounds, sliceBound_run, h2]
        · cases rl with
          | some r => cases r; simp [Instr.sliceBounds, sliceBound_run, h2, h3]
  · cases rm with
    | some r =>
      cases r
      simp only [Option.getD_some] at h1 h2
      rcases hh with ⟨rfl, rfl⟩ | ⟨kh, rfl⟩
      · cases hx
      · cases rh with
        | some r =>
          cases r
          rcases hl with ⟨rfl, rfl⟩ | ⟨kl, rfl⟩
          · cases rl; simp [Instr.sliceBounds, sliceBound_run, h1, h2]
          · cases rl with
            | some r => cases r; simp [Instr.sliceBounds, sliceBound_run, h1, h2, h3]

theorem open_false {n m : Nat} (h : open_ n = false) (hm : m ≤ n) : open_ m = false := by
  cases h2 : open_ m with
  | false => rfl
  | true =>
    have := Nat.le_of_ble_eq_true h2
    have h3 : open_ n = true := Nat.ble_eq_true_of_le (by omega)
    rw [h] at h3; cases h3

theorem addr_add_zero (a : Addr) : a.add 0 = a := by simp [Addr.add]

/-- A slice of which the capacity is known, cut. -/
theorem cutE_sound {a : Option Addr} {len cap hi l : Nat} {m : Option Nat} {size : Nat} {y v : Value} (ho : open_ cap = false) (r : VR ρ (.slice a len cap) y)
    (h : interp (cutExact a cap hi l m size) X = some (v, X')) :
    X' = X ∧ m.getD cap ≤ cap ∧ hi ≤ m.getD cap ∧ l ≤ hi ∧ ∃ b, y = .slice b len cap ∧
      VR ρ v (.slice (if m.getD cap = l then b else b.map (·.add (l * size))) (hi - l) (m.getD cap - l)) := by
  unfold cutExact at h
  rw [topOf_eq] at h
  obtain ⟨h1, h2⟩ := i_ifB.mp h
  simp only [Bool.and_eq_true] at h1
  have e1 := Nat.le_of_ble_eq_true h1.1
  have e2 := Nat.le_of_ble_eq_true h1.2.1
  have e3 := Nat.le_of_ble_eq_true h1.2.2
  obtain ⟨a2, X1, h3, h4⟩ := i_bind.mp h2
  rw [i_force] at h4
  obtain ⟨rfl, rfl⟩ := i_pure_inv h4
  cases a with
  | none =>
    obtain ⟨rfl, rfl⟩ := i_pure_inv h3
    cases r
    refine ⟨rfl, e1, e2, e3, none, rfl, ?_⟩
    have z1 : hi = 0 := by omega
    have z2 : l = 0 := by omega
    have z3 : m.getD 0 = 0 := by omega
    simp only [z1, z2, z3, if_true, Nat.sub_self]
    exact .nilSlice
  | some a =>
    obtain ⟨p, h5, h6⟩ := i_optB.mp h3
    have e := addrOf_eq h5
    simp only [Option.some.injEq] at e
    subst e
    obtain ⟨pl, b, cap', hp, rfl, ha, hc⟩ := r.slice_inv
    obtain ⟨_, rfl, rfl⟩ : open_ cap = false ∧ cap' = cap ∧ b = ⟨pl.blk, pl.base + p.2, none⟩ := by
      rcases hc with hc | ⟨hc, _⟩
      · exact hc
      · rw [ho] at hc; cases hc
    have ho2 : open_ (m.getD cap' - l) = false := open_false ho (by omega)
    cases hb : Nat.beq (m.getD cap') l with
    | true =>
      rw [hb] at h6
      obtain ⟨rfl, rfl⟩ := i_pure_inv h6
      have hbe := Nat.eq_of_beq_eq_true hb
      refine ⟨rfl, e1, e2, e3, _, rfl, ?_⟩
      rw [if_pos hbe]
      exact .slice _ _ _ hp ho2
    | false =>
      rw [hb] at h6
      rw [i_force] at h6
      obtain ⟨rfl, rfl⟩ := i_pure_inv h6
      have hbe : ¬ m.getD cap' = l := fun e => by rw [e, Nat.beq_refl] at hb; cases hb
      refine ⟨rfl, e1, e2, e3, _, rfl, ?_⟩
      rw [if_neg hbe]
      simp only [Option.map_some, add_none, Nat.add_assoc]
      exact .slice _ _ _ hp ho2

theorem mul_le_cancel {a b c : Nat} (hc : 0 < c) (h : a * c ≤ b * c) : a ≤ b := Nat.le_of_mul_le_mul_right h hc

/-- A slice of which the capacity is not known, cut. -/
theorem cutO_sound (g : Good h0 ρ X.H w.heap) {a : Option Addr} {len cap hi l : Nat} {m : Option Nat} {size : Nat} {y v : Value} (ho : open_ cap = true) (r : VR ρ (.slice a len cap) y)
    (h : interp (cutOpen a cap hi l m size) X = some (v, X')) :
    ∃ b cap', y = .slice b len cap' ∧ X' = X ∧ m.getD cap' ≤ cap' ∧ hi ≤ m.getD cap' ∧ l ≤ hi ∧
      VR ρ v (.slice (if m.getD cap' = l then b else b.map (·.add (l * size))) (hi - l) (m.getD cap' - l)) := by
  obtain ⟨p, h1, h2⟩ := i_optB.mp h
  rw [addrOf_eq h1] at r
  obtain ⟨kn, X1, h3, h4⟩ := i_bind.mp h2
  obtain ⟨rfl, h5⟩ := i_rowOf h3
  obtain ⟨h6, h7⟩ := i_ifB.mp h4
  simp only [Bool.and_eq_true] at h6
  have es := Nat.eq_of_beq_eq_true h6.1
  have e1 := Nat.le_of_ble_eq_true h6.2
  obtain ⟨pl, b, cap', hp, rfl, ha, hc⟩ := r.slice_inv
  obtain ⟨L, hs, hcap, hoff, hL, rfl, hb⟩ : ∃ L, 0 < pl.sz ∧ cap + L = BIG ∧ p.2 = L * pl.sz ∧ L + len ≤ pl.cap ∧ cap' = pl.cap - L ∧ (pl.cap = L ∨ b = ⟨pl.blk, pl.base + p.2, none⟩) := by
    rcases hc with ⟨hc, _⟩ | ⟨_, hc⟩
    · rw [ho] at hc; cases hc
    · exact hc
  obtain ⟨_, c, e, h8, h9, h10, h11⟩ := g.at_ h5 hp
  obtain ⟨hsz, hkl, _⟩ := h10 (by omega)
  have hpsz : pl.sz = size := by omega
  rw [es] at hkl
  have room : ∀ k, Nat.ble (Nat.add p.2 (Nat.mul k size)) kn.1.length = true → L + k ≤ pl.cap := by
    intro k hk
    have hk' : p.2 + k * size ≤ kn.1.length := Nat.le_of_ble_eq_true hk
    rw [hoff, hpsz, ← Nat.add_mul] at hk'
    exact mul_le_cancel e1 (Nat.le_trans hk' hkl)
  cases m with
  | some top =>
    obtain ⟨h12, h13⟩ := i_ifB.mp h7
    simp only [Bool.and_eq_true] at h12
    obtain ⟨c1, c2, c3, c4, c5⟩ := h12
    have d1 := room top c1
    have d2 := Nat.le_of_ble_eq_true c2
    have d3 := Nat.le_of_ble_eq_true c3
    have d4 := Nat.le_of_ble_eq_true c4
    have hb' : b = ⟨pl.blk, pl.base + p.2, none⟩ := hb.resolve_left (by omega)
    subst hb'
    have ho2 : open_ top = false := by cases h : open_ top with
      | false => rfl
      | true => rw [h] at c5; cases c5
    have ho3 := open_false ho2 (Nat.sub_le top l)
    obtain ⟨a2, X2, h14, h15⟩ := i_bind.mp h13
    rw [i_force] at h15
    obtain ⟨rfl, rfl⟩ := i_pure_inv h15
    rw [addrOf_eq h1] at h14
    generalize hA : (⟨p.1, p.2, none⟩ : Addr) = A at h14
    obtain ⟨q, h16, h17⟩ := i_optB.mp h14
    have eq := addrOf_eq h16
    rw [← hA] at eq h17
    simp only [Option.some.injEq, Addr.mk.injEq, and_true] at eq
    simp only [Option.getD_some]
    cases hbq : Nat.beq top l with
    | true =>
      rw [hbq] at h17
      obtain ⟨rfl, rfl⟩ := i_pure_inv h17
      have hbe := Nat.eq_of_beq_eq_true hbq
      refine ⟨_, _, rfl, rfl, by omega, d2, d3, ?_⟩
      rw [if_pos hbe]
      exact .slice _ _ _ hp ho3
    | false =>
      rw [hbq] at h17
      rw [i_force] at h17
      obtain ⟨rfl, rfl⟩ := i_pure_inv h17
      have hbe : ¬ top = l := fun e => by rw [e, Nat.beq_refl] at hbq; cases hbq
      refine ⟨_, _, rfl, rfl, by omega, d2, d3, ?_⟩
      rw [if_neg hbe]
      simp only [Option.map_some, add_none, Nat.add_assoc, ← eq.1, ← eq.2]
      exact .slice _ _ _ hp ho3
  | none =>
    obtain ⟨h12, h13⟩ := i_ifB.mp h7
    simp only [Bool.and_eq_true] at h12
    obtain ⟨c1, c2, c3⟩ := h12
    have d1 := room hi c1
    have d2 := Nat.le_of_ble_eq_true c2
    rw [i_force, i_force] at h13
    obtain ⟨rfl, rfl⟩ := i_pure_inv h13
    refine ⟨_, _, rfl, rfl, by simp, by simp only [Option.getD_none]; omega, d2, ?_⟩
    simp only [Option.getD_none]
    have ecap : pl.cap - L - l = pl.cap - (L + l) := by omega
    rw [ecap]
    have hcapl : l ≤ cap := by
      have := Nat.le_of_ble_eq_true c3
      have h4 : 4611686018427387904 ≤ cap - l := this
      omega
    have goal : ∀ b', (pl.cap = L + l ∨ b' = ⟨pl.blk, pl.base + (p.2 + l * size), none⟩) →
        VR ρ (.slice (some ⟨p.1, Nat.add p.2 (Nat.mul l size), none⟩) (Nat.sub hi l) (Nat.sub cap l)) (.slice (some b') (hi - l) (pl.cap - (L + l))) := by
      intro b' hb'
      refine .openSlice (L + l) (hi - l) (cap - l) (p.2 + l * size) b' hp hs c3 (by omega) ?_ (by omega) hb'
      rw [hoff, hpsz, Nat.add_mul]
    by_cases hbe : pl.cap - L = l
    · rw [if_pos hbe]
      exact goal b (.inl (by omega))
    · rw [if_neg hbe]
      have hb' : b = ⟨pl.blk, pl.base + p.2, none⟩ := hb.resolve_left (by omega)
      subst hb'
      simp only [Option.map_some, add_none]
      exact goal _ (.inr (by rw [Nat.add_assoc]))

theorem slice_sound (ok : TabOK tab P) (g : Good h0 ρ X.H w.heap) {t : TypeId} {x x' v : Value} {lo hi mx lo' hi' mx' : Option Value} (rx : VR ρ x x') (rl : OptR ρ lo lo') (rh : OptR ρ hi hi') (rm : OptR ρ mx mx')
    (h : interp (sliceF tab t x lo hi mx) X = some (v, X')) : Pur P ρ X X' w v (Instr.sliceAt t x' lo' hi' mx') := by
  obtain ⟨i, h1, h2⟩ := i_tiB.mp h
  have ti := ok.ty t i h1
  cases x with
  | string s =>
    cases rx
    obtain ⟨h3, h4⟩ := i_ifB.mp h2
    have hd := dStr_eq h3
    cases mx with
    | some _ => cases h4
    | none =>
      cases rm
      obtain ⟨hn, X1, h5, h6⟩ := i_bind.mp h4
      obtain ⟨ln, X2, h7, h8⟩ := i_bind.mp h6
      obtain ⟨h9, h10⟩ := i_ifB.mp h8
      obtain ⟨rfl, rfl⟩ := i_pure_inv h10
      obtain ⟨rfl, h11⟩ := natO_inv h5
      obtain ⟨rfl, h12⟩ := natO_inv h7
      simp only [Bool.and_eq_true] at h9
      have hb := bounds_sound (P := P) (w := w) (isS := false) (len := s.size) (cap := s.size) rl rh .none h12 h11 (.inl ⟨rfl, rfl⟩) (by simp) (Nat.le_refl _) (Nat.le_of_ble_eq_true h9.1) (Nat.le_of_ble_eq_true h9.2)
      refine ⟨rfl, _, ?_, .string _⟩
      simp [Instr.sliceAt, Instr.slice, ti.under, hd, hb]
  | slice a len cap =>
    obtain ⟨e, h3, h4⟩ := i_optB.mp h2
    obtain ⟨ei, h5, h6⟩ := i_tiB.mp h4
    obtain ⟨hn, X1, h7, h8⟩ := i_bind.mp h6
    obtain ⟨ln, X2, h9, h10⟩ := i_bind.mp h8
    obtain ⟨m, X3, h11, h12⟩ := i_bind.mp h10
    obtain ⟨h13, h14⟩ := i_ifB.mp h12
    obtain ⟨rfl, h15⟩ := natO_inv h7
    obtain ⟨rfl, h16⟩ := natO_inv h9
    obtain ⟨rfl, h17⟩ := natOO_inv h11
    have hd := dSlice_eq h3
    have key : ∃ b cap', x' = .slice b len cap' ∧ X' = X3 ∧ m.getD cap' ≤ cap' ∧ hn ≤ m.getD cap' ∧ ln ≤ hn ∧
        VR ρ v (.slice (if m.getD cap' = ln then b else b.map (·.add (ln * ei.size))) (hn - ln) (m.getD cap' - ln)) := by
      cases ho : open_ cap with
      | true =>
        simp only [ho] at h14
        exact cutO_sound g ho rx h14
      | false =>
        simp only [ho] at h14
        obtain ⟨a1, a2, a3, a4, b, a5, a6⟩ := cutE_sound ho rx h14
        exact ⟨b, cap, a5, a1, a2, a3, a4, a6⟩
    obtain ⟨b, cap', rfl, rfl, k1, k2, k3, k4⟩ := key
    have hb := bounds_sound (P := P) (w := w) (isS := true) (len := len) (cap := cap') rl rh rm h16 h15 h17 h13 k1 k2 k3
    refine ⟨rfl, _, ?_, k4⟩
    simp [Instr.sliceAt, Instr.slice, ti.under, hd, hb, (ok.ty e ei h5).sized]
  | _ => cases h2
end
end Ae
