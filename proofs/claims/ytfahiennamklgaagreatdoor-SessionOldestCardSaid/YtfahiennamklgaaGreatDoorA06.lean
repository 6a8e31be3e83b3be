/- The evaluator is right where memory is made and written. -/
import Derived.Test.YtfahiennamklgaaGreatDoorA05
import Derived.Deep.DeepAppendWide
import Derived.Laws.Tables

set_option linter.all false
set_option linter.unusedVariables false
set_option linter.unusedSimpArgs false
set_option linter.deprecated false

/- Operations that make places. -/
namespace Ae
open Go Go.RowKit

/-- What is found where places may be made. -/
def New {β : Type} (P : Program) (h0 : Nat) (ρ : Ren) (X X' : St) (w : World) (n n' : Nat) (s : Sem β) (R : Ren → World → β → Prop) : Prop :=
  X'.T = X.T ∧ ∃ ρ' w' b, s.run P w = .ok b w' ∧ Ren.le ρ ρ' ∧ (∀ id p, ρ' id = some p → ρ id = some p ∨ (n ≤ id ∧ id < n')) ∧ Good h0 ρ' X'.H w'.heap ∧ Below h0 w w' ∧ R ρ' w' b

section
variable {tab : Tab} {P : Program} {h0 : Nat} {ρ : Ren} {X X' : St} {w : World} {n : Nat}

theorem below_push (w : World) (o : Obj) (h : h0 ≤ w.heap.size) : Below h0 w { w with heap := w.heap.push o } :=
  ⟨rfl, rfl, rfl, by simp, fun k hk => by
    simp only [Array.getElem?_push]
    rw [if_neg (by omega)]⟩

theorem ext_new (p : Place) (id : Nat) (q : Place) (h : (ρ.ext n p) id = some q) : ρ id = some q ∨ (n ≤ id ∧ id < n + 1) := by
  by_cases e : id = n
  · exact .inr (by omega)
  · simp only [Ren.ext, if_neg e] at h; exact .inl h

theorem row_new (g : Good h0 ρ X.H w.heap) (hn : ρ n = none) {cs : List Value} {cells : Array Value} (sz cap : Nat) (hlen : cs.length ≤ cells.size)
    (hr : ∀ (i : Nat) (v u : Value), cs[i]? = some v → cells[i]? = some u → VR ρ v u) (hs : 0 < sz → cs.length ≤ cap * sz ∧ cap * sz ≤ cells.size) (elem : TypeId) :
    Good h0 (ρ.ext n ⟨w.heap.size, 0, cap, sz⟩) (X.H.put n (some (.row cs sz))) (w.heap.push (.cells cells elem)) := by
  refine g.push _ cap sz hn ⟨cells, elem, by simp, by simpa using hlen, fun h => ⟨rfl, (hs h).1, by simpa using (hs h).2⟩, fun i v u a b => ?_⟩
  exact (hr i v u a (by simpa using b)).mono (Ren.le_ext _ hn)

theorem rowL_new (g : Good h0 ρ X.H w.heap) (hn : ρ n = none) {cs : List Value} {cells : Array Value} (r : LR ρ cs cells.toList) (elem : TypeId) :
    Good h0 (ρ.ext n ⟨w.heap.size, 0, 0, 0⟩) (X.H.put n (some (.row cs 0))) (w.heap.push (.cells cells elem)) :=
  row_new g hn 0 0 (by have := r.1; simp at this; omega) (fun i v u a b => r.2 i v u a (by simpa using b)) (fun h => by omega) elem

theorem alloc_sound (ok : TabOK tab P) (g : Good h0 ρ X.H w.heap) {n' : Nat} (fr : ∀ id, n ≤ id → id < n' → ρ id = none) {t : TypeId} {out : Out} (h : interp (tiB tab t (allocF n)) X = some ((out, n'), X')) :
    n ≤ n' ∧ New P h0 ρ X X' w n n' (Instr.alloc t true (.tuple #[])) (fun ρ' _ b => ∃ v, out = .val v ∧ VR ρ' v b) := by
  obtain ⟨i, h1, h2⟩ := i_tiB.mp h
  obtain ⟨z, h3, h4⟩ := i_optB.mp h2
  obtain ⟨u, X1, h5, h6⟩ := i_bind.mp h4
  obtain ⟨e, rfl⟩ := i_pure_inv h6
  simp only [Prod.mk.injEq] at e
  obtain ⟨rfl, rfl⟩ := e
  have h5' : some ((), X.set (.o n (some (.row z.toList 0)))) = some (u, X') := newRow_run h5
  simp only [Option.some.injEq, Prod.mk.injEq] at h5'
  obtain ⟨_, rfl⟩ := h5'
  have hn : ρ n = none := fr n (Nat.le_refl n) (Nat.lt_succ_self n)
  obtain ⟨z1, z2, z3⟩ := (ok.ty t i h1).zeroed (w := w) h3
  have rz : LR ρ z.toList z.toList := by rw [← z2]; exact (fl_refl z3).cells
  refine ⟨Nat.le_succ n, rfl, ρ.ext n ⟨w.heap.size, 0, 0, 0⟩, { w with heap := w.heap.push (.cells z t) }, .pointer (some ⟨w.heap.size, 0, none⟩), ?_, Ren.le_ext _ hn, ext_new _, rowL_new g hn rz t, below_push w _ g.room, _, rfl, ?_⟩
  · simp [Instr.alloc, z1, newVar, newRow, z2]
  · exact .ptr 0 (Ren.ext_same ..)

theorem box_sound (g : Good h0 ρ X.H w.heap) {n' : Nat} (fr : ∀ id, n ≤ id → id < n' → ρ id = none) {t : TypeId} {x x' : Value} (rx : VR ρ x x') {out : Out} (h : interp (boxF n x) X = some ((out, n'), X')) :
    n ≤ n' ∧ New P h0 ρ X X' w n n' (Instr.box t x') (fun ρ' _ b => ∃ v, out = .val v ∧ VR ρ' v b) := by
  obtain ⟨u, X1, h5, h6⟩ := i_bind.mp h
  obtain ⟨e, rfl⟩ := i_pure_inv h6
  simp only [Prod.mk.injEq] at e
  obtain ⟨rfl, rfl⟩ := e
  have h5' : some ((), X.set (.o n (some (.row x.cells.toList 0)))) = some (u, X') := newRow_run h5
  simp only [Option.some.injEq, Prod.mk.injEq] at h5'
  obtain ⟨_, rfl⟩ := h5'
  have hn : ρ n = none := fr n (Nat.le_refl n) (Nat.lt_succ_self n)
  refine ⟨Nat.le_succ n, rfl, ρ.ext n ⟨w.heap.size, 0, 0, 0⟩, { w with heap := w.heap.push (.cells x'.cells t) }, .pointer (some ⟨w.heap.size, 0, none⟩), ?_, Ren.le_ext _ hn, ext_new _, rowL_new g hn rx.cells t, below_push w _ g.room, _, rfl, ?_⟩
  · simp [Instr.box, newVar, newRow]
  · exact .ptr 0 (Ren.ext_same ..)

theorem makeMap_sound (g : Good h0 ρ X.H w.heap) {n' : Nat} (fr : ∀ id, n ≤ id → id < n' → ρ id = none) {t : TypeId} {r : Option Value} (hr : r = none) {out : Out}
    (h : interp (.bind (putMap n #[] 0) fun _ => .pure (Out.val (.map (some n)), Nat.succ n)) X = some ((out, n'), X')) :
    n ≤ n' ∧ New P h0 ρ X X' w n n' (Instr.makeMap t r) (fun ρ' _ b => ∃ v, out = .val v ∧ VR ρ' v b) := by
  subst hr
  obtain ⟨u, X1, h5, h6⟩ := i_bind.mp h
  obtain ⟨e, rfl⟩ := i_pure_inv h6
  simp only [Prod.mk.injEq] at e
  obtain ⟨rfl, rfl⟩ := e
  have h5' : some ((), X.set (.o n (some (.obj (.map #[] 0))))) = some (u, X') := h5
  simp only [Option.some.injEq, Prod.mk.injEq] at h5'
  obtain ⟨_, rfl⟩ := h5'
  have hn : ρ n = none := fr n (Nat.le_refl n) (Nat.lt_succ_self n)
  refine ⟨Nat.le_succ n, rfl, ρ.ext n ⟨w.heap.size, 0, 0, 0⟩, { w with heap := w.heap.push (.map #[] 0) }, .map (some w.heap.size), ?_, Ren.le_ext _ hn, ext_new _, ?_, below_push w _ g.room, _, rfl, ?_⟩
  · simp [Instr.makeMap]
  · exact g.push _ 0 0 hn ⟨rfl, _, by simp, .map 0 ⟨rfl, fun i a b x => by simp at x⟩⟩
  · exact .map (Ren.ext_same ..)

theorem zeroRange_flat {z : Array Value} (hz : LR ρ z.toList z.toList) (k : Nat) (hk : 0 < k → z.size ≠ 0) : LR ρ ((Array.range k).map (z[· % z.size]!)).toList ((Array.range k).map (z[· % z.size]!)).toList := by
  refine .of_flat fun v hv => ?_
  simp only [Array.toList_map, Array.toList_range, List.mem_map, List.mem_range] at hv
  obtain ⟨j, hj, rfl⟩ := hv
  have hs := hk (by omega)
  have hlt : j % z.size < z.size := Nat.mod_lt _ (by omega)
  rw [getElem!_pos z (j % z.size) hlt]
  exact hz.2 (j % z.size) _ _ (by simp [hlt]) (by simp [hlt])

theorem makeSlice_sound (ok : TabOK tab P) (g : Good h0 ρ X.H w.heap) {n' : Nat} (fr : ∀ id, n ≤ id → id < n' → ρ id = none) {t : TypeId} {y y' z z' : Value} (ry : VR ρ y y') (rz : VR ρ z z') {l c : Nat}
    (hy : vNat y = some l) (hz : vNat z = some c) {out : Out} (h : interp (tiB tab t (makeSliceF tab n l c)) X = some ((out, n'), X')) :
    n ≤ n' ∧ New P h0 ρ X X' w n n' (Instr.makeSlice t y' z') (fun ρ' _ b => ∃ v, out = .val v ∧ VR ρ' v b) := by
  obtain ⟨ky, rfl⟩ := vNat_eq hy
  obtain ⟨kz, rfl⟩ := vNat_eq hz
  cases ry; cases rz
  obtain ⟨i, h1, h2⟩ := i_tiB.mp h
  obtain ⟨e, h3, h4⟩ := i_optB.mp h2
  obtain ⟨ei, h5, h6⟩ := i_tiB.mp h4
  obtain ⟨zc, h7, h8⟩ := i_optB.mp h6
  obtain ⟨h9, h10⟩ := i_ifB.mp h8
  simp only [Bool.and_eq_true] at h9
  obtain ⟨c1, c2, c3, c4⟩ := h9
  obtain ⟨u, X1, h11, h12⟩ := i_bind.mp h10
  obtain ⟨ee, rfl⟩ := i_pure_inv h12
  simp only [Prod.mk.injEq] at ee
  obtain ⟨rfl, rfl⟩ := ee
  have h5' : some ((), X.set (.o n (some (.row ((Array.range (c * ei.size)).map (zc[· % zc.size]!)).toList 0)))) = some (u, X') := newRow_run h11
  simp only [Option.some.injEq, Prod.mk.injEq] at h5'
  obtain ⟨_, rfl⟩ := h5'
  have hn : ρ n = none := fr n (Nat.le_refl n) (Nat.lt_succ_self n)
  have te := ok.ty e ei h5
  obtain ⟨z1, z2, z3⟩ := te.zeroed (w := w) h7
  have hzz : LR ρ zc.toList zc.toList := by rw [← z2]; exact (fl_refl z3).cells
  have d1 := Nat.le_of_ble_eq_true c1
  have d2 := Nat.le_of_ble_eq_true c2
  obtain ⟨tinf, t1, t2, t3⟩ := te.infoed (w := w)
  have c5 := Nat.le_of_ble_eq_true c3
  have c6 := Nat.eq_of_beq_eq_true c4
  have hlt : 0 < c * ei.size → zc.size ≠ 0 := fun hc e0 => by
    have : ei.size = 0 := by rw [← c6, e0]
    rw [this, Nat.mul_zero] at hc
    exact absurd hc (Nat.lt_irrefl 0)
  have hcells := zeroRange_flat hzz (c * ei.size) hlt
  have bnd : c * ei.bytes ≤ 65536 * 4096 := Nat.mul_le_mul d2 c5
  have w1 : IntKind.i64.wrap (l : Int) = l := wrap_small (show l ≤ most .i64 by show l ≤ 9223372036854775807; omega)
  have w2 : IntKind.i64.wrap (c : Int) = c := wrap_small (show c ≤ most .i64 by show c ≤ 9223372036854775807; omega)
  refine ⟨Nat.le_succ n, rfl, ρ.ext n ⟨w.heap.size, 0, 0, 0⟩, { w with heap := w.heap.push (.cells ((Array.range (c * ei.size)).map (zc[· % zc.size]!)) e) }, .slice (some ⟨w.heap.size, 0, none⟩) l c, ?_, Ren.le_ext _ hn, ext_new _, rowL_new g hn hcells e, below_push w _ g.room, _, rfl, ?_⟩
  · have f1 : ¬ ((c : Int) < 0) := by omega
    have f2 : ¬ (281474976710656 < (tinf.bytes : Int) * (c : Int)) := by
      rw [t2]
      have : (ei.bytes : Int) * (c : Int) = ((c * ei.bytes : Nat) : Int) := by rw [Int.natCast_mul, Int.mul_comm]
      rw [this]; omega
    have f3 : ¬ ((l : Int) < 0) := by omega
    have f4 : ¬ ((c : Int) < (l : Int)) := by omega
    by_cases hc0 : c * ei.size = 0
    · simp [Instr.makeSlice, (ok.ty t i h1).under, dSlice_eq h3, asInt, asIntOf, t1, w1, w2, f1, f2, f3, f4, te.sized, hc0, newRow]
      have e0 : Array.range 0 = #[] := by apply Array.ext'; simp
      rw [e0]
      simp
    · simp [Instr.makeSlice, (ok.ty t i h1).under, dSlice_eq h3, asInt, asIntOf, t1, w1, w2, f1, f2, f3, f4, te.sized, hc0, newRow, z1, z2]
  · exact .slice 0 l c (Ren.ext_same ..) (by
      cases hh : open_ c with
      | false => rfl
      | true => have h4 : 4611686018427387904 ≤ c := Nat.le_of_ble_eq_true hh
                omega)

theorem fill_sound {place : Nat → Option (Nat × Nat)} {place' : Nat → Option (Nat × Nat)} (hp : ∀ i, place' i = place i) : ∀ (ps ps' : List (Nat × Value)) (cs cs' : Array Value) (r : Array Value),
    ps.map (·.1) = ps'.map (·.1) → LR ρ (ps.map (·.2)) (ps'.map (·.2)) → LR ρ cs.toList cs'.toList → Instr.fill place cs ps = some r → ∃ r', Instr.fill place' cs' ps' = some r' ∧ LR ρ r.toList r'.toList := by
  intro ps
  induction ps with
  | nil =>
    intro ps' cs cs' r h1 _ h3 h4
    cases ps' with
    | nil =>
      have h4' : some cs = some r := h4
      simp only [Option.some.injEq] at h4'
      subst h4'
      exact ⟨cs', rfl, h3⟩
    | cons => simp at h1
  | cons p ps ih =>
    intro ps' cs cs' r h1 h2 h3 h4
    cases ps' with
    | nil => simp at h1
    | cons p' ps' =>
      obtain ⟨i, v⟩ := p
      obtain ⟨i', v'⟩ := p'
      simp only [List.map_cons, List.cons.injEq] at h1
      obtain ⟨e1, e2⟩ := h1
      subst e1
      simp only [List.map_cons] at h2
      obtain ⟨w0, k0, e3, hv, hk⟩ := h2.cons_inv
      simp only [List.cons.injEq] at e3
      obtain ⟨rfl, rfl⟩ := e3
      have hsz : v'.cells.size = v.cells.size := by have := hv.cells.1; simpa using this.symm
      have hcs : cs'.size = cs.size := by have := h3.1; simpa using this.symm
      simp only [Instr.fill] at h4 ⊢
      rw [hp i]
      cases hpl : place i with
      | none => rw [hpl] at h4; cases h4
      | some q =>
        obtain ⟨off, size⟩ := q
        rw [hpl] at h4
        simp only at h4 ⊢
        rw [hsz, hcs]
        split at h4
        · cases h4
        · rename_i hc
          rw [if_neg hc]
          refine ih _ _ _ _ e2 hk ?_ h4
          rw [← Array.foldl_toList, ← Array.foldl_toList, Array.toList_zipIdx, Array.toList_zipIdx]
          have gen : ∀ (l l' : List Value) (k : Nat) (a a' : Array Value), LR ρ l l' → LR ρ a.toList a'.toList →
              LR ρ ((l.zipIdx k).foldl (fun cs (x : Value × Nat) => cs.setIfInBounds (off + x.2) x.1) a).toList ((l'.zipIdx k).foldl (fun cs (x : Value × Nat) => cs.setIfInBounds (off + x.2) x.1) a').toList := by
            intro l
            induction l with
            | nil => intro l' k a a' hl ha; rw [hl.nil_inv]; exact ha
            | cons x l ihl =>
              intro l' k a a' hl ha
              obtain ⟨y, k2, rfl, hxy, hl2⟩ := hl.cons_inv
              simp only [List.zipIdx_cons, List.foldl_cons]
              refine ihl k2 (k + 1) _ _ hl2 ?_
              rw [Array.toList_setIfInBounds, Array.toList_setIfInBounds]
              exact ha.set hxy _
          exact gen _ _ 0 _ _ hv.cells h3
end
end Ae

/- append. -/
namespace Ae
open Go Go.RowKit

section
variable {tab : Tab} {P : Program} {h0 : Nat} {ρ : Ren} {X X' : St} {w : World} {n : Nat}

def NotInt (P : Program) (w : World) (t : Option TypeId) : Prop := t = none ∨ ∃ u d, t = some u ∧ (underlying u).run P w = .ok d w ∧ ∀ k, d ≠ .int k

theorem notInt_run (ok : TabOK tab P) {t : Option TypeId} (h : notInt tab t = true) (w : World) : NotInt P w t := by
  cases t with
  | none => exact .inl rfl
  | some t =>
    cases hi : tab.ty.at_ t with
    | none => simp [notInt, hi] at h
    | some i =>
      simp only [notInt, hi] at h
      refine .inr ⟨t, i.desc, rfl, (ok.ty t i hi).under, fun k hk => ?_⟩
      rw [hk] at h
      cases h

theorem append_room_run {ts : Array TypeId} {st : TypeId} {elem : TypeId} {size : Nat} {base : Option Addr} {sLen sCap k : Nat} {x' : Value} {new : Array Value} {w' : World} (ty : TypeId)
    (h1 : ts[0]? = some st) (h2 : (underlying st).run P w = .ok (.slice elem) w) (h3 : (Go.sizeOf elem).run P w = .ok size w)
    (h4 : NotInt P w ts[1]?)
    (h5 : (Builtin.lenOf x').run P w = .ok k w) (h6 : (Builtin.firstCells size k x').run P w = .ok new w) (h7 : sLen + k ≤ sCap)
    (h8 : (match base with | some b => storeCells (b.add (sLen * size)) new.toList | none => pure ()).run P w = .ok () w') :
    (Builtin.append_ ts ty #[.slice base sLen sCap, x']).run P w = .ok (.slice base (sLen + k) sCap) w' := by
  cases base with
  | none =>
    have e : w = w' := by simpa using h8
    subst e
    rcases h4 with h4 | ⟨u, d, h4, hd, hk⟩
    · simp [Builtin.append_, h1, h2, h3, h4, h5, h6, h7]
    · have hb : (match d with | TypeDesc.int _ => true | _ => false) = false := by cases d <;> first | rfl | exact absurd rfl (hk _)
      simp [Builtin.append_, h1, h2, h3, h4, hd, hb, h5, h6, h7]
  | some b =>
    have h8' : (storeCells (b.add (sLen * size)) new.toList).run P w = .ok () w' := h8
    rcases h4 with h4 | ⟨u, d, h4, hd, hk⟩
    · simp [Builtin.append_, h1, h2, h3, h4, h5, h6, h7, h8']
    · have hb : (match d with | TypeDesc.int _ => true | _ => false) = false := by cases d <;> first | rfl | exact absurd rfl (hk _)
      simp [Builtin.append_, h1, h2, h3, h4, hd, hb, h5, h6, h7, h8']

theorem append_grow_run {ts : Array TypeId} {st : TypeId} {elem : TypeId} {ti : TypeInfo} {size : Nat} {base : Option Addr} {sLen sCap k : Nat} {x' z : Value} {old new : Array Value} (ty : TypeId)
    (h1 : ts[0]? = some st) (h2 : (underlying st).run P w = .ok (.slice elem) w) (h3 : ∀ w : World, (Go.sizeOf elem).run P w = .ok size w)
    (h4 : NotInt P w ts[1]?)
    (h5 : (Builtin.lenOf x').run P w = .ok k w) (h6 : (Builtin.firstCells size k x').run P w.drew = .ok new w.drew) (h7 : ¬ sLen + k ≤ sCap)
    (h8 : (Builtin.firstCells size sLen (.slice base sLen sCap)).run P w.drew = .ok old w.drew)
    (h9 : ∀ w : World, (typeInfo elem).run P w = .ok ti w) (h10 : sLen + k ≤ 1048576) (h11 : ti.bytes ≤ 4096) (h12 : ∀ w : World, (zeroValue elem).run P w = .ok z w) :
    ∃ newCap, sLen + k ≤ newCap ∧ (Builtin.append_ ts ty #[.slice base sLen sCap, x']).run P w =
      .ok (.slice (some ⟨w.heap.size, 0, none⟩) (sLen + k) newCap) (w.drew.alloc (.cells (old ++ new ++ Builtin.zeroCells z.cells (newCap - (sLen + k))) elem)) := by
  refine ⟨(Question.appendCap (sLen + k) sCap elem).cut (w.tape w.drawn (.appendCap (sLen + k) sCap elem)), Nat.le_add_right _ _, ?_⟩
  have hfit : ¬ (281474976710656 < Builtin.nextslicecap (sLen + k) sCap * ti.bytes) := by
    have := growslice_fits_wide (need := sLen + k) (old := sCap) (bytes := ti.bytes) (by omega)
      (Nat.le_trans (Nat.mul_le_mul (Nat.add_le_add (Nat.add_le_add h10 (Nat.div_le_div_right h10)) (Nat.le_refl 192)) h11) (by decide))
    omega
  have hmax : IntKind.i64.max = 9223372036854775807 := rfl
  have hbig : ¬ (9223372036854775807 < ((sLen : Int) + (k : Int))) := by omega
  have hf : ¬ ((Question.appendCap (sLen + k) sCap elem).forced = true) := by simp [Question.forced]
  generalize hq : Question.appendCap (sLen + k) sCap elem = q at *
  rcases h4 with h4 | ⟨u, d, h4, hd, hk⟩
  · simp [Builtin.append_, h1, h2, h3, h4, h5, h7, h9, h12, hfit, hq, hf, hmax, hbig, h6, h8, newRow]
  · have hb : (match d with | TypeDesc.int _ => true | _ => false) = false := by cases d <;> first | rfl | exact absurd rfl (hk _)
    simp [Builtin.append_, h1, h2, h3, h4, hd, hb, h5, h7, h9, h12, hfit, hq, hf, hmax, hbig, h6, h8, newRow]

theorem size_zeroCells_ (z : Array Value) (k : Nat) : (Builtin.zeroCells z k).size = k * z.size := by simp [Builtin.zeroCells]

theorem okElem_inv {ei : TInfo} (h : okElem ei = true) : 1 ≤ ei.size ∧ ei.bytes ≤ 4096 ∧ ∃ z, ei.zero = some z ∧ z.size = ei.size := by
  simp only [okElem, Bool.and_eq_true] at h
  obtain ⟨a, b, c⟩ := h
  refine ⟨Nat.le_of_ble_eq_true a, Nat.le_of_ble_eq_true b, ?_⟩
  cases hz : ei.zero with
  | none => rw [hz] at c; cases c
  | some z => rw [hz] at c; exact ⟨z, rfl, Nat.eq_of_beq_eq_true c⟩

/-- A row that is grown into a new block. -/
theorem grown_sound {H : Trie Cell} (g : Good h0 ρ H w.heap) (hn : ρ n = none) {size need newCap : Nat} {cs cs' : List Value} {z : Array Value} (r : LR ρ cs cs') (hl : cs.length = need * size) (hs : 1 ≤ size)
    (hz : z.size = size) (hc : need ≤ newCap) (elem : TypeId) (cells : Array Value) (hcells : cells = cs'.toArray ++ Builtin.zeroCells z (newCap - need)) :
    Good h0 (ρ.ext n ⟨w.heap.size, 0, newCap, size⟩) (H.put n (some (.row cs size))) (w.drew.alloc (.cells cells elem)).heap ∧
      Below h0 w (w.drew.alloc (.cells cells elem)) ∧ VR (ρ.ext n ⟨w.heap.size, 0, newCap, size⟩) (.slice (some ⟨n, 0, none⟩) need BIG) (.slice (some ⟨w.heap.size, 0, none⟩) need newCap) := by
  subst hcells
  have hl' : cs'.length = need * size := by rw [← r.1]; exact hl
  have hsize : (cs'.toArray ++ Builtin.zeroCells z (newCap - need)).size = newCap * size := by
    rw [Array.size_append, size_zeroCells_, hz, List.size_toArray, hl', ← Nat.add_mul]
    congr 1; omega
  have hle : need * size ≤ newCap * size := Nat.mul_le_mul_right _ hc
  refine ⟨?_, ?_, ?_⟩
  · have := row_new (X := ⟨.nil, H⟩) g hn (cs := cs) (cells := cs'.toArray ++ Builtin.zeroCells z (newCap - need)) size newCap (by omega) (fun i v u a b => ?_) (fun _ => ⟨by omega, by omega⟩) elem
    · exact this
    · refine r.2 i v u a ?_
      have hi : i < cs'.length := by rw [← r.1]; exact (List.getElem?_eq_some_iff.mp a).1
      rw [Array.getElem?_append_left (by simpa using hi)] at b
      simpa using b
  · have := below_push (h0 := h0) w (.cells (cs'.toArray ++ Builtin.zeroCells z (newCap - need)) elem) g.room
    exact ⟨this.os, this.tape, this.output, this.size, this.block⟩
  · have := VR.openSlice (ρ := ρ.ext n ⟨w.heap.size, 0, newCap, size⟩) 0 need BIG 0 ⟨w.heap.size, 0, none⟩ (Ren.ext_same ..) hs rfl (Nat.add_zero _) (by simp) (by simpa using hc) (.inr (by simp))
    simpa using this

theorem old_sound (g : Good h0 ρ X.H w.heap) {a : Option Addr} {len cap size : Nat} {y : Value} (r : VR ρ (.slice a len cap) y) {cs : List Value} (h : interp (oldF a (Nat.mul len size)) X = some (cs, X')) :
    X' = X ∧ cs.length = len * size ∧ ∃ cs', (Builtin.firstCells size len y).run P w.drew = .ok (List.toArray cs') w.drew ∧ LR ρ cs cs' := by
  cases a with
  | none =>
    cases r
    obtain ⟨h1, h2⟩ := i_ifB.mp (show interp (ifB (Nat.beq (Nat.mul 0 size) 0) (.pure [])) X = some (cs, X') from h)
    obtain ⟨rfl, rfl⟩ := i_pure_inv h2
    exact ⟨rfl, by simp, [], rfl, .nil ρ⟩
  | some a =>
    obtain ⟨b, h1, h2⟩ := i_optB.mp h
    have e := addrOf_eq h1
    simp only [Option.some.injEq] at e
    subst e
    obtain ⟨p, a', cap', hp, rfl, ha, _⟩ := r.slice_inv
    obtain ⟨h3, h4, cs', h5, h6⟩ := loadsAt_sound (P := P) (w := w.drew) g hp (ha.imp (fun e => by subst e; exact Nat.zero_mul _) (fun e => e)) h2
    exact ⟨h3, h4, cs', by simp only [Builtin.firstCells]; exact h5, h6⟩

theorem src_drew {size : Nat} {x' : Value} {k : Nat} {new : Array Value} (h : ∀ w' : World, w'.heap = w.heap → (Builtin.firstCells size k x').run P w' = .ok new w') : (Builtin.firstCells size k x').run P w.drew = .ok new w.drew := h _ rfl

theorem slice_any {a : Option Addr} {len cap : Nat} {y : Value} (r : VR ρ (.slice a len cap) y) : ∃ b cap', y = .slice b len cap' ∧ (open_ cap = false → cap' = cap ∧ ∀ m, (cap = 0 → m = 0) → VR ρ (.slice a m cap) (.slice b m cap)) := by
  cases r with
  | nilSlice => exact ⟨none, 0, rfl, fun _ => ⟨rfl, fun m hm => by rw [hm rfl]; exact .nilSlice⟩⟩
  | slice off len cap h hc => exact ⟨_, _, rfl, fun _ => ⟨rfl, fun m _ => .slice off m cap h hc⟩⟩
  | openSlice L len cap off a h hs ho hcap hoff hL ha => exact ⟨_, _, rfl, fun h => by rw [ho] at h; cases h⟩

theorem append_sound (ok : TabOK tab P) (g : Good h0 ρ X.H w.heap) {n' : Nat} (fr : ∀ id, n ≤ id → id < n' → ρ id = none) {ts : Array TypeId} {s s' x x' v : Value} (rs : VR ρ s s') (rx : VR ρ x x')
    (h : interp (appendF tab ts [s, x] n) X = some ((v, n'), X')) (ty : TypeId) :
    n ≤ n' ∧ New P h0 ρ X X' w n n' (Builtin.append_ ts ty #[s', x']) (fun ρ' _ b => VR ρ' v b) := by
  obtain ⟨st, h1, h2⟩ := i_optB.mp h
  obtain ⟨si, h3, h4⟩ := i_tiB.mp h2
  obtain ⟨elem, h5, h6⟩ := i_optB.mp h4
  obtain ⟨ei, h7, h8⟩ := i_tiB.mp h6
  obtain ⟨h9, h10⟩ := i_ifB.mp h8
  obtain ⟨h11, h12⟩ := i_ifB.mp h10
  obtain ⟨sl, h13, h14⟩ := i_optB.mp h12
  obtain ⟨kc, X1, h15, h16⟩ := i_bind.mp h14
  rw [vSlice_eq h13] at rs
  obtain ⟨base, sLen, sCap⟩ := sl
  simp only at rs h16
  rw [nth_eq] at h1 h11
  have hts : ts[0]? = some st := by simpa using h1
  have hts1 : ts.toList[1]? = ts[1]? := by simp
  rw [hts1] at h11
  have hu := (ok.ty st si h3).under (w := w)
  rw [dSlice_eq h5] at hu
  have te := ok.ty elem ei h7
  obtain ⟨e1, e2, z, e3, e4⟩ := okElem_inv h9
  obtain ⟨z1, z2, z3⟩ := te.zeroed (w := w) e3
  have hni := notInt_run ok h11 w
  obtain ⟨rfl, k1, len, new', k2, k3, k4, k5⟩ := src_sound (P := P) g (fun j => Nat.le_refl j) rx h15
  obtain ⟨_, _, len2, new2, _, _, k42, k52⟩ := src_sound (P := P) (w := w.drew) g (fun j => Nat.le_refl j) rx h15
  rw [← k3] at k2
  unfold appendTo at h16
  rw [i_force] at h16
  obtain ⟨h17, h18⟩ := i_ifB.mp h16
  have hneed : sLen + kc.1 ≤ 1048576 := Nat.le_of_ble_eq_true h17
  have grow : ∀ {H : Trie Cell} {o : List Value} {cap' : Nat} {b : Option Addr} {u : Unit} {X2 : St}, Good h0 ρ H w.heap → s' = .slice b sLen cap' → ¬ sLen + kc.1 ≤ cap' → o.length = sLen * ei.size →
      (∃ old', (Builtin.firstCells ei.size sLen (.slice b sLen cap')).run P w.drew = .ok (List.toArray old') w.drew ∧ LR ρ o old') →
      X2.T = X1.T → X2.H = H → interp (growF ei.size (sLen + kc.1) (o ++ kc.2) n) X2 = some ((v, n'), X') →
      n ≤ n' ∧ New P h0 ρ X1 X' w n n' (Builtin.append_ ts ty #[s', x']) (fun ρ' _ b => VR ρ' v b) := by
    intro H o cap' b u X2 gH hs' hgt hol ⟨old', ho1, ho2⟩ hT hH hg
    obtain ⟨u, X3, g1, g2⟩ := i_bind.mp hg
    obtain ⟨ee, rfl⟩ := i_pure_inv g2
    simp only [Prod.mk.injEq] at ee
    obtain ⟨rfl, rfl⟩ := ee
    have g1' : some ((), X2.set (.o n (some (.row (o ++ kc.2) ei.size)))) = some (u, X') := newRow_run g1
    simp only [Option.some.injEq, Prod.mk.injEq] at g1'
    obtain ⟨_, rfl⟩ := g1'
    have hn : ρ n = none := fr n (Nat.le_refl n) (Nat.lt_succ_self n)
    obtain ⟨ti, t1, t2, t3⟩ := te.infoed (w := w)
    have t1' : ∀ w : World, (typeInfo elem).run P w = .ok ti w := fun w2 => by
      obtain ⟨ti', d, a1, _⟩ := te.ok
      simp only [typeInfo, Sem.run_bind, run_program, Result.andThen_ok, a1, Sem.run_pure] at t1 ⊢
      simp only [Result.ok.injEq] at t1
      rw [t1.1]
    obtain ⟨newCap, hcap, hrun⟩ := append_grow_run (P := P) (w := w) ty hts hu (fun w => te.sized) hni k2 k42 hgt ho1 t1' hneed (by omega) (fun w => (te.zeroed e3).1)
    have hl : (o ++ kc.2).length = (sLen + kc.1) * ei.size := by rw [List.length_append, hol, k1, Nat.add_mul]
    obtain ⟨G, B, V⟩ := grown_sound gH hn (ho2.append k52) hl e1 e4 hcap elem (old'.toArray ++ new2.toArray ++ Builtin.zeroCells z (newCap - (sLen + kc.1))) (by simp)
    rw [hs']
    rw [z2] at hrun
    refine ⟨Nat.le_succ n, ?_, _, _, _, hrun, Ren.le_ext _ hn, ext_new _, ?_, B, V⟩
    · exact hT
    · show Good h0 _ (X2.H.put n _) _
      rw [hH]; exact G
  cases ho : open_ sCap with
  | false =>
    simp only [ho] at h18
    obtain ⟨b, cap', rfl, hcap⟩ := slice_any rs
    obtain ⟨rfl, hslice⟩ := hcap ho
    cases hfit : Nat.ble (sLen + kc.1) cap' with
    | true =>
      have hfit' := Nat.le_of_ble_eq_true hfit
      have h18' : interp (.bind (intoF base (Nat.mul sLen ei.size) kc.2) fun _ => .pure (Value.slice base (sLen + kc.1) cap', n)) X1 = some ((v, n'), X') := by
        have : Nat.ble (Nat.add sLen kc.1) cap' = true := hfit
        simp only [this] at h18
        exact h18
      obtain ⟨u, X2, h19, h20⟩ := i_bind.mp h18'
      obtain ⟨ee, rfl⟩ := i_pure_inv h20
      simp only [Prod.mk.injEq] at ee
      obtain ⟨rfl, rfl⟩ := ee
      obtain ⟨h21, w', base2, cap2, h22, h23, h24, h25⟩ := into_sound (P := P) g rs k5 (fun _ hh => by rw [ho] at hh; cases hh) h19
      simp only [Value.slice.injEq, true_and] at h22
      obtain ⟨rfl, rfl⟩ := h22
      refine ⟨Nat.le_refl _, h21, ρ, w', _, append_room_run ty hts hu te.sized hni k2 k4 hfit' h23, Ren.le_refl ρ, fun id p hh => .inl hh, h24, h25, hslice _ (fun e => by omega)⟩
    | false =>
      have hgt : ¬ sLen + kc.1 ≤ cap' := fun hle => by rw [Nat.ble_eq_true_of_le hle] at hfit; cases hfit
      have h18' : interp (.bind (oldF base (Nat.mul sLen ei.size)) fun o => growF ei.size (sLen + kc.1) (o ++ kc.2) n) X1 = some ((v, n'), X') := by
        have : Nat.ble (Nat.add sLen kc.1) cap' = false := hfit
        simp only [this] at h18
        exact h18
      obtain ⟨o, X2, h19, h20⟩ := i_bind.mp h18'
      obtain ⟨rfl, h21, old', h22, h23⟩ := old_sound (P := P) g rs h19
      exact grow (u := ()) g rfl hgt h21 ⟨old', h22, h23⟩ rfl rfl h20
  | true =>
    simp only [ho] at h18
    obtain ⟨a, h19, h20⟩ := i_optB.mp h18
    obtain ⟨kn, X2, h21, h22⟩ := i_bind.mp h20
    obtain ⟨rfl, h23⟩ := i_rowOf h21
    obtain ⟨h24, h25⟩ := i_ifB.mp h22
    have hknsz := Nat.eq_of_beq_eq_true h24
    have hbase := addrOf_eq h19
    subst hbase
    obtain ⟨p, b, cap', hp, rfl, ha, hc⟩ := rs.slice_inv
    obtain ⟨L, hs, hcap, hoff, hL, rfl, hb⟩ : ∃ L, 0 < p.sz ∧ sCap + L = BIG ∧ a.2 = L * p.sz ∧ L + sLen ≤ p.cap ∧ cap' = p.cap - L ∧ (p.cap = L ∨ b = ⟨p.blk, p.base + a.2, none⟩) := by
      rcases hc with ⟨hc, _⟩ | ⟨_, hc⟩
      · rw [ho] at hc; cases hc
      · exact hc
    obtain ⟨hblk, c, e, r1, r2, r3, r4⟩ := g.at_ h23 hp
    obtain ⟨hsz, hkl, hroom⟩ := r3 (by omega)
    have hpsz : p.sz = ei.size := by omega
    rw [hknsz] at hkl hroom
    cases hfit : Nat.ble (Nat.add a.2 (Nat.mul (Nat.add sLen kc.1) ei.size)) kn.1.length with
    | true =>
      simp only [hfit] at h25
      have hfit' : a.2 + (sLen + kc.1) * ei.size ≤ kn.1.length := Nat.le_of_ble_eq_true hfit
      have hin : L + (sLen + kc.1) ≤ p.cap := by
        rw [hoff, hpsz, ← Nat.add_mul] at hfit'
        exact mul_le_cancel e1 (Nat.le_trans hfit' hkl)
      obtain ⟨u, X3, h26, h27⟩ := i_bind.mp h25
      obtain ⟨ee, rfl⟩ := i_pure_inv h27
      simp only [Prod.mk.injEq] at ee
      obtain ⟨rfl, rfl⟩ := ee
      obtain ⟨h28, w', base2, cap2, h29, h30, h31, h32⟩ := into_sound (P := P) g rs k5 (fun hz _ a' c' hh h0' => by
        simp only [Value.slice.injEq, true_and] at hh
        have : kc.1 = 0 := by omega
        exact List.length_eq_zero_iff.mp (by rw [k1, this, Nat.zero_mul])) h26
      simp only [Value.slice.injEq, true_and] at h29
      obtain ⟨rfl, rfl⟩ := h29
      refine ⟨Nat.le_refl _, h28, ρ, w', _, append_room_run ty hts hu te.sized hni k2 k4 (by omega) h30, Ren.le_refl ρ, fun id q hh => .inl hh, h31, h32, ?_⟩
      exact .openSlice L _ sCap a.2 b hp hs ho hcap hoff hin hb
    | false =>
      simp only [hfit] at h25
      obtain ⟨hsing, h26⟩ := i_ifB.mp h25
      obtain ⟨o, X3, h27, h28⟩ := i_bind.mp h26
      obtain ⟨rfl, h29, old', h30, h31⟩ := old_sound (P := P) g rs h27
      obtain ⟨u, X4, h32, h33⟩ := i_bind.mp h28
      have h32' : some ((), X3.set (.o a.1 none)) = some (u, X4) := h32
      simp only [Option.some.injEq, Prod.mk.injEq] at h32'
      obtain ⟨_, rfl⟩ := h32'
      by_cases hin : sLen + kc.1 ≤ p.cap - L
      · -- there is room behind what is known
        obtain ⟨u2, X5, h34, h35⟩ := i_bind.mp h33
        obtain ⟨ee, rfl⟩ := i_pure_inv h35
        simp only [Prod.mk.injEq] at ee
        obtain ⟨rfl, rfl⟩ := ee
        have h34' : some ((), (X3.set (.o a.1 none)).set (.o n (some (.row (o ++ kc.2) ei.size)))) = some (u2, X') := newRow_run h34
        simp only [Option.some.injEq, Prod.mk.injEq] at h34'
        obtain ⟨_, rfl⟩ := h34'
        have hn : ρ n = none := fr n (Nat.le_refl n) (Nat.lt_succ_self n)
        have hlo : (o ++ kc.2).length = (sLen + kc.1) * ei.size := by rw [List.length_append, h29, k1, Nat.add_mul]
        have hold : old'.length = sLen * ei.size := by rw [← h31.1]; exact h29
        have hnew : new'.length = kc.1 * ei.size := by rw [← k5.1]; exact k1
        have hmulL : L * ei.size + (p.cap - L) * ei.size = p.cap * ei.size := by rw [← Nat.add_mul]; congr 1; omega
        have hmul2 : (sLen + kc.1) * ei.size ≤ (p.cap - L) * ei.size := Nat.mul_le_mul_right _ hin
        have hmul3 : (sLen + kc.1) * ei.size = sLen * ei.size + kc.1 * ei.size := Nat.add_mul ..
        have hoff' : a.2 = L * ei.size := by rw [hoff, hpsz]
        -- the block behind
        have key : ∃ w' c2, (match (some b : Option Addr) with | some b => storeCells (b.add (sLen * ei.size)) new'.toArray.toList | none => pure ()).run P w = .ok () w' ∧ Below h0 w w' ∧ w'.heap[p.blk]? = some (.cells c2 e (0, 0)) ∧
            (∀ k, k ≠ p.blk → w'.heap[k]? = w.heap[k]?) ∧ c2.size = c.size ∧ (∀ i u, old'[i]? = some u → c2[p.base + a.2 + i]? = some u) ∧ (∀ i u, new'[i]? = some u → c2[p.base + a.2 + sLen * ei.size + i]? = some u) := by
          rcases hb with hb | hb
          · have z1' : sLen = 0 := by omega
            have z2' : kc.1 = 0 := by omega
            have o1 : old' = [] := List.length_eq_zero_iff.mp (by rw [hold, z1', Nat.zero_mul])
            have n1 : new' = [] := List.length_eq_zero_iff.mp (by rw [hnew, z2', Nat.zero_mul])
            refine ⟨w, c, by rw [n1]; rfl, .refl _ _, r1, fun _ _ => rfl, rfl, ?_, ?_⟩
            · intro i u hu; rw [o1] at hu; simp at hu
            · intro i u hu; rw [n1] at hu; simp at hu
          · subst hb
            have hst := run_storeCells_at P p.blk (p.base + a.2 + sLen * ei.size) e new' 0 c w r1 (by omega) (k5.singles hsing)
            obtain ⟨R, hR⟩ : ∃ R, R = (c.toList.take (p.base + a.2 + sLen * ei.size + 0) ++ new' ++ c.toList.drop (p.base + a.2 + sLen * ei.size + 0 + new'.length)).toArray := ⟨_, rfl⟩
            rw [← hR] at hst
            refine ⟨w.setRow p.blk R, R, ?_, below_setRow _ _ _ hblk, setRow_heap w p.blk c _ e _ r1, fun k hk => setRow_other _ _ _ k hk, ?_, ?_, ?_⟩
            · rw [← hst]; simp only [add_none]
            · rw [hR]; simp; omega
            · intro i u hu
              have hi : i < old'.length := (List.getElem?_eq_some_iff.mp hu).1
              have hrun := run_loadCells_list (P := P) w.drew ⟨p.blk, p.base + a.2, none⟩ ((c.toList.drop (p.base + a.2)).take (sLen * ei.size)) (fun j v hv => by
                rw [add_none, show w.drew.cell? ⟨p.blk, p.base + a.2 + j, none⟩ = w.cell? ⟨p.blk, p.base + a.2 + j, none⟩ from rfl, cell_row r1]
                rw [List.getElem?_take] at hv
                split at hv
                · rw [List.getElem?_drop] at hv; simpa using hv
                · cases hv)
              have hk : ((c.toList.drop (p.base + a.2)).take (sLen * ei.size)).length = sLen * ei.size := by simp; omega
              rw [hk] at hrun
              have h30' : (loadCells ⟨p.blk, p.base + a.2, none⟩ (sLen * ei.size)).run P w.drew = .ok old'.toArray w.drew := by simpa [Builtin.firstCells] using h30
              rw [hrun] at h30'
              have heq : (c.toList.drop (p.base + a.2)).take (sLen * ei.size) = old' := by simpa using h30'
              rw [← heq, List.getElem?_take] at hu
              rw [if_pos (by omega), List.getElem?_drop] at hu
              simp only [hR, Nat.add_zero, List.getElem?_toArray, List.append_assoc]
              rw [List.getElem?_append_left (by simp; omega), List.getElem?_take, if_pos (by omega)]
              exact hu
            · intro i u hu
              have hi : i < new'.length := (List.getElem?_eq_some_iff.mp hu).1
              simp only [hR, Nat.add_zero, List.getElem?_toArray, List.append_assoc]
              rw [List.getElem?_append_right (by simp; omega), List.getElem?_append_left (by simp; omega)]
              rw [show p.base + a.2 + sLen * ei.size + i - (c.toList.take (p.base + a.2 + sLen * ei.size)).length = i by simp; omega]
              exact hu
        obtain ⟨w', c2, s1, s2, s3, s4, s5, s6, s7⟩ := key
        have hle := Ren.le_ext (n := n) ⟨p.blk, p.base + a.2, p.cap - L, ei.size⟩ hn
        refine ⟨Nat.le_succ n, rfl, ρ.ext n ⟨p.blk, p.base + a.2, p.cap - L, ei.size⟩, w', _, append_room_run ty hts hu te.sized hni k2 k4 hin s1, hle, ext_new _, ?_, s2, ?_⟩
        · refine Good.new (g.kill a.1) hn (fun id c0 q hid hq hbq => ?_) hblk s4 s2.size ?_
          · have hne : id ≠ a.1 := fun e0 => by subst e0; rw [Trie.at_put_same] at hid; cases hid
            rw [Trie.at_put_other _ _ (fun e0 => hne e0.symm)] at hid
            exact hne (g.apart id a.1 c0 _ q p hid h23 hq hp hbq)
          · refine ⟨c2, e, s3, ?_, fun _ => ⟨rfl, ?_, ?_⟩, fun i v0 u0 hi hi' => ?_⟩
            · show p.base + a.2 + (o ++ kc.2).length ≤ c2.size
              rw [hlo]; omega
            · rw [hlo]; exact hmul2
            · show p.base + a.2 + (p.cap - L) * ei.size ≤ c2.size
              omega
            · by_cases hio : i < o.length
              · rw [List.getElem?_append_left hio] at hi
                obtain ⟨u1, q1, q2⟩ := h31.get hi
                have := s6 i u1 q1
                rw [show (⟨p.blk, p.base + a.2, p.cap - L, ei.size⟩ : Place).base = p.base + a.2 from rfl, this] at hi'
                simp only [Option.some.injEq] at hi'
                subst hi'
                exact q2.mono hle
              · rw [List.getElem?_append_right (by omega)] at hi
                obtain ⟨u1, q1, q2⟩ := k5.get hi
                have := s7 _ u1 q1
                rw [show p.base + a.2 + sLen * ei.size + (i - o.length) = p.base + a.2 + i by omega] at this
                rw [show (⟨p.blk, p.base + a.2, p.cap - L, ei.size⟩ : Place).base = p.base + a.2 from rfl, this] at hi'
                simp only [Option.some.injEq] at hi'
                subst hi'
                exact q2.mono hle
        · have hv := VR.openSlice (ρ := ρ.ext n ⟨p.blk, p.base + a.2, p.cap - L, ei.size⟩) (id := n) (p := ⟨p.blk, p.base + a.2, p.cap - L, ei.size⟩) 0 (sLen + kc.1) BIG 0 b (Ren.ext_same ..) e1 rfl (Nat.add_zero _) (by simp)
            (by simpa using hin) (by
              rcases hb with hb | hb
              · exact .inl (by show p.cap - L = 0; omega)
              · exact .inr hb)
          simpa using hv
      · exact grow (H := X3.H.put a.1 none) (u := ()) (X2 := X3.set (.o a.1 none)) (g.kill a.1) rfl hin h29 ⟨old', h30, h31⟩ rfl rfl h33
end
end Ae

/- Stores, parts put together, conversions, numbers compared. -/
namespace Ae
open Go Go.RowKit

section
variable {tab : Tab} {P : Program} {h0 : Nat} {ρ : Ren} {X X' : St} {w : World} {n : Nat}

theorem opds_sound {T : Trie Value} {rdr : Operand → F Value} {ev : Operand → Value} (hr : Reads ρ T rdr ev) (l : List Operand) {X X' : St} (hT : X.T = T) {vs : List Value} (h : interp (opds rdr l) X = some (vs, X')) :
    X' = X ∧ LR ρ vs (l.map ev) := by
  induction l generalizing vs X' with
  | nil => obtain ⟨rfl, rfl⟩ := i_pure_inv h; exact ⟨rfl, .nil ρ⟩
  | cons o l ih =>
    have h' : interp (.bind (rdr o) fun v => .bind (opds rdr l) fun vs => .pure (v :: vs)) X = some (vs, X') := h
    obtain ⟨v, X1, h1, h2⟩ := i_bind.mp h'
    obtain ⟨rfl, r1⟩ := hr o X X1 v hT h1
    obtain ⟨us, X2, h3, h4⟩ := i_bind.mp h2
    obtain ⟨rfl, r2⟩ := ih h3
    obtain ⟨rfl, rfl⟩ := i_pure_inv h4
    exact ⟨rfl, .cons r1 r2⟩

theorem VR.size {v v' : Value} (r : VR ρ v v') : v'.cells.size = v.cells.size := by have := r.cells.1; simpa using this.symm

theorem store_sound (ok : TabOK tab P) (g : Good h0 ρ X.H w.heap) {n' : Nat} {t : TypeId} {a a' x x' : Value} (ra : VR ρ a a') (rx : VR ρ x x') {out : Out} (h : interp (storeF tab n t x a) X = some ((out, n'), X')) :
    n' = n ∧ out = .skip ∧ X'.T = X.T ∧ ∃ w', (Instr.storeAt t a' x').run P w = .ok () w' ∧ Good h0 ρ X'.H w'.heap ∧ Below h0 w w' := by
  obtain ⟨b, h1, h2⟩ := i_optB.mp h
  obtain ⟨u, X1, h3, h4⟩ := i_bind.mp h2
  obtain ⟨e, rfl⟩ := i_pure_inv h4
  simp only [Prod.mk.injEq] at e
  obtain ⟨rfl, rfl⟩ := e
  obtain ⟨i, h5, h6⟩ := i_tiB.mp h3
  obtain ⟨h7, h8⟩ := i_ifB.mp h6
  rw [vPtr_eq h1] at ra
  obtain ⟨p, hp, rfl⟩ := ra.ptr_inv
  obtain ⟨h9, w', h10, h11, h12⟩ := storeCells_sound (P := P) g hp rx.cells h8
  refine ⟨rfl, rfl, h9, w', ?_, h11, h12⟩
  have e7 := Nat.eq_of_beq_eq_true h7
  have := rx.size
  simp [Instr.storeAt, Instr.sureAddr, storeVar, (ok.ty t i h5).sized, h10, this, e7]

theorem parts_map (parts : Array (Nat × Operand)) (ev : Operand → Value) : parts.toList.map (fun x => (x.1, ev x.2)) = (partNos parts).zip ((partsOf parts).map ev) := by
  simp only [partNos, partsOf]
  induction parts.toList with
  | nil => rfl
  | cons p l ih => simp [ih]

theorem zip_parts {parts : Array (Nat × Operand)} {ev : Operand → Value} {vs : List Value} (r : LR ρ vs ((partsOf parts).map ev)) :
    ((partNos parts).zip vs).map (·.1) = ((partNos parts).zip ((partsOf parts).map ev)).map (·.1) ∧ LR ρ (((partNos parts).zip vs).map (·.2)) (((partNos parts).zip ((partsOf parts).map ev)).map (·.2)) := by
  have hl : (partNos parts).length = vs.length := by rw [r.1]; simp [partNos, partsOf]
  have hl2 : (partNos parts).length = ((partsOf parts).map ev).length := by simp [partNos, partsOf]
  rw [List.map_fst_zip (by omega), List.map_fst_zip (by omega), List.map_snd_zip (by omega), List.map_snd_zip (by omega)]
  exact ⟨rfl, r⟩

theorem places_eq (ok : TabOK tab P) : ∀ (l : List Field) {ps : List (Nat × Nat)}, placesOf tab l = some ps → l.mapM (fun f => (P.info? f.type).map fun i => (f.offset, i.size)) = some ps := by
  intro l
  induction l with
  | nil => intro ps h; have h' : some [] = some ps := h
           simp only [Option.some.injEq] at h'; subst h'; rfl
  | cons f l ih =>
    intro ps h
    have h' : ob (tab.ty.at_ f.type) (fun fi => ob (placesOf tab l) fun ps => some ((f.offset, fi.size) :: ps)) = some ps := h
    obtain ⟨fi, h1, h2⟩ := ob_some.mp h'
    obtain ⟨qs, h3, h4⟩ := ob_some.mp h2
    simp only [Option.some.injEq] at h4
    subst h4
    obtain ⟨ti, d, a1, a2, a3, a4, _⟩ := (ok.ty _ _ h1).ok
    simp [List.mapM_cons, a1, ih h3, a4]

theorem build_sound (ok : TabOK tab P) {n' : Nat} {t : TypeId} {i : TInfo} (hi : tab.ty.at_ t = some i) {parts : Array (Nat × Operand)} {ev : Operand → Value} {vs : List Value}
    (r : LR ρ vs ((partsOf parts).map ev)) {out : Out} (h : interp (buildF tab n i ((partNos parts).zip vs)) X = some ((out, n'), X')) :
    n' = n ∧ X' = X ∧ ∃ v v', out = .val v ∧ (Instr.build t (parts.map fun (i, x) => (i, ev x))).run P w = .ok v' w ∧ VR ρ v v' := by
  have ti := ok.ty t i hi
  obtain ⟨z, h1, h2⟩ := i_optB.mp h
  obtain ⟨z1, z2, z3⟩ := ti.zeroed (w := w) h1
  have hz : LR ρ z.toList z.toList := by rw [← z2]; exact (fl_refl z3).cells
  obtain ⟨q1, q2⟩ := zip_parts r
  have hfin : ∀ {place place' : Nat → Option (Nat × Nat)}, (∀ i, place' i = place i) → interp (optB (Instr.fill place z ((partNos parts).zip vs)) fun cells => forceL cells.toList fun l => .pure (Out.val (.agg (Array.mk l)), n)) X = some ((out, n'), X') →
      n' = n ∧ X' = X ∧ ∃ v cells', out = .val v ∧ Instr.fill place' z ((partNos parts).zip ((partsOf parts).map ev)) = some cells' ∧ VR ρ v (.agg cells') := by
    intro place place' hp hh
    obtain ⟨cells, h3, h4⟩ := i_optB.mp hh
    rw [forceL_eq] at h4
    obtain ⟨e, rfl⟩ := i_pure_inv h4
    simp only [Prod.mk.injEq] at e
    obtain ⟨rfl, rfl⟩ := e
    obtain ⟨cells', h5, h6⟩ := fill_sound hp _ _ _ _ _ q1 q2 hz h3
    exact ⟨rfl, rfl, _, cells', rfl, h5, .agg' h6⟩
  cases hs : dStruct i.desc with
  | some fields =>
    simp only [hs] at h2
    obtain ⟨places, h3, h4⟩ := i_optB.mp h2
    obtain ⟨e1, e2, v, cells', e3, e4, e5⟩ := hfin (place' := fun x => places[x]?) (fun i => (nth_eq places i).symm) h4
    refine ⟨e1, e2, v, .agg cells', e3, ?_, e5⟩
    rw [← parts_map] at e4
    simp [Instr.build, z1, z2, ti.under, dStruct_eq hs, Array.mapM_eq_mapM_toList, run_places w _ _ (places_eq ok _ h3), e4]
  | none =>
    cases ha : dArray i.desc with
    | none => simp only [hs, ha] at h2; cases h2
    | some ne =>
      simp only [hs, ha] at h2
      obtain ⟨ei, h3, h4⟩ := i_tiB.mp h2
      obtain ⟨e1, e2, v, cells', e3, e4, e5⟩ := hfin (fun i => rfl) h4
      refine ⟨e1, e2, v, .agg cells', e3, ?_, e5⟩
      rw [← parts_map] at e4
      simp [Instr.build, z1, z2, ti.under, dArray_eq ha, (ok.ty _ ei h3).sized, e4]

theorem buildSlice_sound (ok : TabOK tab P) (g : Good h0 ρ X.H w.heap) {n' : Nat} (fr : ∀ id, n ≤ id → id < n' → ρ id = none) {t : TypeId} {len : Nat} {i : TInfo} (hi : tab.ty.at_ t = some i)
    {parts : Array (Nat × Operand)} {ev : Operand → Value} {vs : List Value} (r : LR ρ vs ((partsOf parts).map ev)) {out : Out} (h : interp (buildSliceF tab n len i ((partNos parts).zip vs)) X = some ((out, n'), X')) :
    n ≤ n' ∧ New P h0 ρ X X' w n n' (Instr.buildSlice t len (parts.map fun (i, x) => (i, ev x))) (fun ρ' _ b => ∃ v, out = .val v ∧ VR ρ' v b) := by
  have ti := ok.ty t i hi
  obtain ⟨elem, h1, h2⟩ := i_optB.mp h
  obtain ⟨ei, h3, h4⟩ := i_tiB.mp h2
  obtain ⟨z, h5, h6⟩ := i_optB.mp h4
  obtain ⟨h7, h8⟩ := i_ifB.mp h6
  obtain ⟨cells, h9, h10⟩ := i_optB.mp h8
  obtain ⟨u, X1, h11, h12⟩ := i_bind.mp h10
  obtain ⟨ee, rfl⟩ := i_pure_inv h12
  simp only [Prod.mk.injEq] at ee
  obtain ⟨rfl, rfl⟩ := ee
  have h5' : some ((), X.set (.o n (some (.row cells.toList 0)))) = some (u, X') := newRow_run h11
  simp only [Option.some.injEq, Prod.mk.injEq] at h5'
  obtain ⟨_, rfl⟩ := h5'
  have hn : ρ n = none := fr n (Nat.le_refl n) (Nat.lt_succ_self n)
  have te := ok.ty elem ei h3
  obtain ⟨z1, z2, z3⟩ := te.zeroed (w := w) h5
  have hz : LR ρ z.toList z.toList := by rw [← z2]; exact (fl_refl z3).cells
  simp only [Bool.and_eq_true] at h7
  have c1 := Nat.le_of_ble_eq_true h7.1
  have c2 := Nat.eq_of_beq_eq_true h7.2.1
  have c3 := Nat.le_of_ble_eq_true h7.2.2
  have hlt : 0 < len * ei.size → z.size ≠ 0 := fun hc e0 => by
    have : ei.size = 0 := by rw [← c2, e0]
    rw [this, Nat.mul_zero] at hc
    exact absurd hc (Nat.lt_irrefl 0)
  obtain ⟨q1, q2⟩ := zip_parts r
  obtain ⟨cells', e1, e2⟩ := fill_sound (fun i => rfl) _ _ _ _ _ q1 q2 (zeroRange_flat hz (len * ei.size) hlt) h9
  rw [← parts_map] at e1
  refine ⟨Nat.le_succ n, rfl, ρ.ext n ⟨w.heap.size, 0, 0, 0⟩, { w with heap := w.heap.push (.cells cells' elem) }, .slice (some ⟨w.heap.size, 0, none⟩) len len, ?_, Ren.le_ext _ hn, ext_new _, rowL_new g hn e2 elem, below_push w _ g.room, _, rfl, ?_⟩
  · have f1 : ¬ (16777216 < len * ei.size) := by omega
    by_cases hc0 : len * ei.size = 0
    · have e0 : Array.range 0 = #[] := by apply Array.ext'; simp
      rw [hc0, e0] at e1
      simp only [List.map_toArray, List.map_nil] at e1
      simp [Instr.buildSlice, ti.under, dSlice_eq h1, te.sized, hc0, e0, e1, newRow]
    · simp [Instr.buildSlice, ti.under, dSlice_eq h1, te.sized, f1, hc0, z1, z2, e1, newRow]
  · have ho : open_ len = false := by
      cases hh : open_ len with
      | false => rfl
      | true =>
        have h4 : 4611686018427387904 ≤ len := Nat.le_of_ble_eq_true hh
        omega
    exact .slice 0 len len (Ren.ext_same ..) ho
end
end Ae
