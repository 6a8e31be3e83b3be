/- The evaluator is right at iterators and calls. -/
import Derived.Test.YtfahiennamklgaaGreatDoorA07

set_option linter.all false
set_option linter.unusedVariables false
set_option linter.unusedSimpArgs false
set_option linter.deprecated false

/- Iterators; calls. -/
namespace Ae
open Go Go.RowKit

section
variable {tab : Tab} {P : Program} {h0 : Nat} {ρ : Ren} {X X' : St} {w : World} {n : Nat}

/-- A new object. -/
theorem newObj_sound (g : Good h0 ρ X.H w.heap) {n' : Nat} (fr : ∀ id, n ≤ id → id < n' → ρ id = none) {o o' : Obj} (hn' : n' = n + 1) (ro : ObjR ρ o o') (hc : ∀ c e f, o' ≠ .cells c e f) :
    ρ n = none ∧ Good h0 (ρ.ext n ⟨w.heap.size, 0, 0, 0⟩) (X.H.put n (some (.obj o))) (w.heap.push o') ∧ Below h0 w { w with heap := w.heap.push o' } := by
  subst hn'
  have hn : ρ n = none := fr n (Nat.le_refl n) (Nat.lt_succ_self n)
  exact ⟨hn, g.push _ 0 0 hn ⟨rfl, o', by simp, ro.mono (Ren.le_ext _ hn)⟩, below_push w _ g.room⟩

theorem range_sound (ok : TabOK tab P) (g : Good h0 ρ X.H w.heap) {n' : Nat} (fr : ∀ id, n ≤ id → id < n' → ρ id = none) {t : TypeId} {x x' : Value} (rx : VR ρ x x') {out : Out} (h : interp (rangeF tab n t x) X = some ((out, n'), X')) :
    n ≤ n' ∧ New P h0 ρ X X' w n n' (Instr.range t x') (fun ρ' _ b => ∃ v, out = .val v ∧ VR ρ' v b) := by
  obtain ⟨i, h1, h2⟩ := i_tiB.mp h
  have u1 := (ok.ty t i h1).under (w := w)
  have fin : ∀ {o : Obj} {o' : Obj}, ObjR ρ o o' → (∀ c e f, o' ≠ .cells c e f) → interp (newObjF n o) X = some ((out, n'), X') →
      (Instr.range t x').run P w = .ok (.pointer (some ⟨w.heap.size, 0, none⟩)) { w with heap := w.heap.push o' } →
      n ≤ n' ∧ New P h0 ρ X X' w n n' (Instr.range t x') (fun ρ' _ b => ∃ v, out = .val v ∧ VR ρ' v b) := by
    intro o o' ro hc hi hrun
    obtain ⟨u, X1, h5, h6⟩ := i_bind.mp hi
    obtain ⟨e, rfl⟩ := i_pure_inv h6
    simp only [Prod.mk.injEq] at e
    obtain ⟨rfl, rfl⟩ := e
    obtain ⟨a1, a2, a3⟩ := newObj_sound g fr rfl ro hc
    have := wr_inv h5
    subst this
    exact ⟨Nat.le_succ n, rfl, _, _, _, hrun, Ren.le_ext _ a1, ext_new _, a2, a3, _, rfl, .ptr 0 (Ren.ext_same ..)⟩
  cases hs : vStr x with
  | some s =>
    simp only [hs] at h2
    obtain ⟨h3, h4⟩ := i_ifB.mp h2
    rw [dStr_eq h3] at u1
    rw [vStr_eq hs] at rx
    cases rx
    exact fin (.stringIter s 0) (by intro _ _ _ e; cases e) h4 (by simp [Instr.range, u1])
  | none =>
    simp only [hs] at h2
    obtain ⟨r, h3, h4⟩ := i_optB.mp h2
    obtain ⟨ke, h5, h6⟩ := i_optB.mp h4
    rw [dMap_eq h5] at u1
    obtain ⟨b, h7, h8⟩ := i_optB.mp h6
    obtain ⟨y, X1, h9, h10⟩ := i_bind.mp h8
    obtain ⟨rfl, e, h12⟩ := mapOf_inv h9
    simp only [Value.map.injEq, Option.some.injEq] at e
    subst e
    rw [vMap_eq h3, h7] at rx
    cases rx with
    | @map _ p hp =>
      obtain ⟨_, es', h22, h23⟩ := mapAt g h12 hp
      have u3 := getObj_run (P := P) h22 (by intro _ _ _ e; cases e)
      exact fin (.mapIter y.2.2 #[] y.2.2 hp) (by intro _ _ _ e; cases e) h10 (by simp [Instr.range, u1, u3])

theorem iterOf_inv {v : Value} {y : Nat × Obj} (h : interp (iterOf v) X = some (y, X')) : X' = X ∧ v = .pointer (some ⟨y.1, 0, none⟩) ∧ X.H.at_ y.1 = some (.obj y.2) := by
  obtain ⟨a, h1, h2⟩ := i_optB.mp h
  obtain ⟨h3, h4⟩ := i_ifB.mp h2
  have h5 := i_objOf h4
  obtain ⟨o, h6, h7⟩ := i_optB.mp h5
  obtain ⟨rfl, rfl⟩ := i_pure_inv h7
  have e := Nat.eq_of_beq_eq_true h3
  rw [vPtr_eq h1, e]
  exact ⟨rfl, rfl, objC_eq h6⟩

theorem VR.ptr0_inv {id : Nat} {v : Value} (r : VR ρ (.pointer (some ⟨id, 0, none⟩)) v) {o : Obj} (g : Good h0 ρ X.H w.heap) (h : X.H.at_ id = some (.obj o)) :
    ∃ p, ρ id = some p ∧ v = .pointer (some ⟨p.blk, 0, none⟩) ∧ h0 ≤ p.blk ∧ p.base = 0 ∧ ∃ o', w.heap[p.blk]? = some o' ∧ ObjR ρ o o' := by
  obtain ⟨p, hp, rfl⟩ := r.ptr_inv
  obtain ⟨h1, h2, o', h3, h4⟩ := g.at_ h hp
  refine ⟨p, hp, by rw [h2], h1, h2, o', h3, h4⟩

def SameBorn (l k : List MapEntry) : Prop := k.map (·.born) = l.map (·.born)

theorem EsR.borns {l k : List MapEntry} (r : EsR ρ l k) : SameBorn l k := by
  apply List.ext_getElem?
  intro i
  simp only [List.getElem?_map]
  cases hi : l[i]? with
  | none =>
    have : k[i]? = none := by rw [List.getElem?_eq_none_iff] at hi ⊢; rw [← r.1]; exact hi
    rw [this]
  | some a =>
    have hk : i < k.length := by rw [← r.1]; exact (List.getElem?_eq_some_iff.mp hi).1
    rw [List.getElem?_eq_getElem hk]
    simp only [Option.map_some, Option.some.injEq]
    exact (r.2 i a _ hi (List.getElem?_eq_getElem hk)).2.2

theorem EsR.nil_inv {k : List MapEntry} (r : EsR ρ [] k) : k = [] := by have := r.1; cases k <;> simp_all
theorem EsR.cons_inv {a : MapEntry} {l k : List MapEntry} (r : EsR ρ (a :: l) k) : ∃ b k', k = b :: k' ∧ (VR ρ a.key b.key ∧ VR ρ a.val b.val ∧ b.born = a.born) ∧ EsR ρ l k' := by
  cases k with
  | nil => have := r.1; simp at this
  | cons b k' => exact ⟨b, k', rfl, r.2 0 a b (by simp) (by simp), by simpa using r.1, fun i x y hx hy => r.2 (i + 1) x y (by simpa using hx) (by simpa using hy)⟩
theorem EsR.nil' : EsR ρ [] [] := ⟨rfl, fun i a b h => by simp at h⟩
theorem EsR.cons' {a b : MapEntry} {l k : List MapEntry} (h : VR ρ a.key b.key ∧ VR ρ a.val b.val ∧ b.born = a.born) (r : EsR ρ l k) : EsR ρ (a :: l) (b :: k) := by
  refine ⟨by simp [r.1], fun i x y hx hy => ?_⟩
  cases i with
  | zero => simp only [List.getElem?_cons_zero, Option.some.injEq] at hx hy; subst hx; subst hy; exact h
  | succ i => exact r.2 i x y (by simpa using hx) (by simpa using hy)

theorem EsR.filter {f : Nat → Bool} {l k : List MapEntry} (r : EsR ρ l k) : EsR ρ (l.filter fun e => f e.born) (k.filter fun e => f e.born) := by
  induction l generalizing k with
  | nil => rw [r.nil_inv]; exact .nil'
  | cons a l ih =>
    obtain ⟨b, k', rfl, h, hr⟩ := r.cons_inv
    simp only [List.filter_cons, h.2.2]
    split
    · exact (ih hr).cons' h
    · exact ih hr

theorem EsR.find {f : Nat → Bool} {l k : List MapEntry} (r : EsR ρ l k) {a : MapEntry} (h : l.find? (fun e => f e.born) = some a) : ∃ b, k.find? (fun e => f e.born) = some b ∧ VR ρ a.key b.key ∧ VR ρ a.val b.val ∧ b.born = a.born := by
  induction l generalizing k with
  | nil => simp at h
  | cons x l ih =>
    obtain ⟨b, k', rfl, hh, hr⟩ := r.cons_inv
    simp only [List.find?_cons, hh.2.2] at h ⊢
    cases hf : f x.born with
    | true => rw [hf] at h; simp only [Option.some.injEq] at h; subst h; exact ⟨b, rfl, hh⟩
    | false => rw [hf] at h; exact ih hr h

theorem entry_sound (g : Good h0 ρ X.H w.heap) {x x' v : Value} (rx : VR ρ x x') (h : interp (.bind (iterOf x) entryF) X = some (v, X')) : Pur P ρ X X' w v (Instr.entry x') := by
  obtain ⟨y, X1, h1, h2⟩ := i_bind.mp h
  obtain ⟨rfl, rfl, h3⟩ := iterOf_inv h1
  obtain ⟨p, hp, rfl, _, _, o', h4, h5⟩ := rx.ptr0_inv g h3
  obtain ⟨yid, yo⟩ := y
  cases h5 with
  | @mapIter m q since seen last hq =>
    obtain ⟨stamp, h6, h7⟩ := i_optB.mp h2
    obtain ⟨z, X2, h8, h9⟩ := i_bind.mp h7
    obtain ⟨rfl, e, h10⟩ := mapOf_inv h8
    simp only [Value.map.injEq, Option.some.injEq] at e
    subst e
    obtain ⟨h11, h12⟩ := i_ifB.mp h9
    obtain ⟨en, h13, h14⟩ := i_optB.mp h12
    obtain ⟨rfl, rfl⟩ := i_pure_inv h14
    obtain ⟨_, es', h15, h16⟩ := mapAt g h10 hq
    have u1 := getObj_run (P := P) h4 (by intro _ _ _ e; cases e)
    have u2 := getObj_run (P := P) h15 (by intro _ _ _ e; cases e)
    have h13' : z.2.1.toList.find? (fun e => (fun b => b == stamp) e.born) = some en := by simpa using h13
    obtain ⟨b, h17, h18, h19, _⟩ := EsR.find (f := fun b => b == stamp) h16 h13'
    have h17' : es'.find? (fun e => e.born == stamp) = some b := by simpa using h17
    have e11 := Nat.eq_of_beq_eq_true h11
    refine ⟨rfl, .tuple #[b.key, b.val], ?_, .tuple' (.cons h18 (.cons h19 (.nil ρ)))⟩
    simp [Instr.entry, u1, u2, h6, e11, h17']
  | _ => cases h2

theorem EsR.append {l k l2 k2 : List MapEntry} (r : EsR ρ l k) (r2 : EsR ρ l2 k2) : EsR ρ (l ++ l2) (k ++ k2) := by
  induction l generalizing k with
  | nil => rw [r.nil_inv]; exact r2
  | cons a l ih =>
    obtain ⟨b, k', rfl, h, hr⟩ := r.cons_inv
    exact (ih hr).cons' h

theorem EsR.all {f : Nat → Bool} {l k : List MapEntry} (r : EsR ρ l k) : k.all (fun e => f e.born) = l.all (fun e => f e.born) := by
  induction l generalizing k with
  | nil => rw [r.nil_inv]
  | cons a l ih =>
    obtain ⟨b, k', rfl, h, hr⟩ := r.cons_inv
    simp only [List.all_cons, h.2.2, ih hr]

theorem cand_list (es : Array MapEntry) (since : Nat) (seen : Array Nat) : ∃ old new : List MapEntry, (candidatesOf es since seen).toList = (if old.isEmpty then [none] else []) ++ (old ++ new).map some ∧
    old = (es.toList.filter fun e => (fun b => !seen.contains b) e.born).filter (fun e => (fun b => decide (b < since)) e.born) ∧ new = (es.toList.filter fun e => (fun b => !seen.contains b) e.born).filter (fun e => (fun b => decide (b ≥ since)) e.born) := by
  refine ⟨_, _, ?_, rfl, rfl⟩
  simp only [candidatesOf, Array.toList_append, Array.toList_map, Array.toList_filter]
  congr 1
  have : ∀ a : Array MapEntry, a.isEmpty = a.toList.isEmpty := fun a => by cases a with | mk l => cases l <;> rfl
  rw [this]
  simp only [Array.toList_filter]
  split <;> rfl

theorem cand_sound {es es' : Array MapEntry} (r : EsR ρ es.toList es'.toList) (since : Nat) (seen : Array Nat) :
    (candidatesOf es' since seen).size = (candidatesOf es since seen).size ∧
    (∀ e, nth (candidatesOf es since seen).toList 0 = some (some e) → ∃ e', (candidatesOf es' since seen)[0]? = some (some e') ∧ VR ρ e.key e'.key ∧ VR ρ e.val e'.val ∧ e'.born = e.born) ∧
    (nth (candidatesOf es since seen).toList 0 = some none → (candidatesOf es' since seen)[0]? = some none) := by
  obtain ⟨old, new, h1, h2, h3⟩ := cand_list es since seen
  obtain ⟨old', new', h1', h2', h3'⟩ := cand_list es' since seen
  have ro : EsR ρ old old' := by rw [h2, h2']; exact EsR.filter (f := fun b => decide (b < since)) (EsR.filter (f := fun b => !seen.contains b) r)
  have rn : EsR ρ new new' := by rw [h3, h3']; exact EsR.filter (f := fun b => decide (b ≥ since)) (EsR.filter (f := fun b => !seen.contains b) r)
  have rr := ro.append rn
  have hl : (candidatesOf es' since seen).toList[0]? = (candidatesOf es' since seen)[0]? := by simp
  rw [← hl, nth_eq, h1, h1']
  have hs : ∀ a : Array (Option MapEntry), a.size = a.toList.length := fun a => by simp
  rw [hs, hs, h1, h1']
  cases old with
  | nil =>
    have := ro.nil_inv
    subst this
    refine ⟨?_, ?_, ?_⟩
    · simp [rn.1]
    · intro e he; simp at he
    · intro _; rfl
  | cons a old =>
    obtain ⟨b, k', rfl, h, hr⟩ := ro.cons_inv
    refine ⟨?_, ?_, ?_⟩
    · simp [hr.1, rn.1]
    · intro e he
      simp at he
      subst he
      exact ⟨b, by simp, h⟩
    · intro he; simp at he

theorem next_map_run {r m since last clock : Nat} {seen : Array Nat} {es : Array MapEntry} (ty : TypeId) (h1 : (getObj r).run P w = .ok (.mapIter (some m) since seen last) w) (h2 : (getObj m).run P w = .ok (.map es clock) w)
    (h3 : (!seen.isEmpty && !es.isEmpty && es.all (·.born ≥ last)) = false) (h4 : (candidatesOf es since seen).size ≤ 1) :
    ∃ why : String, (Instr.next (.pointer (some ⟨r, 0, none⟩)) false ty).run P w = (match (candidatesOf es since seen)[0]? with
      | some (some e) => do setObj r (.mapIter (some m) since (seen.push e.born) clock); pure (.tuple #[.bool true, e.key, e.val])
      | some none => pure (.tuple #[.bool false])
      | none => stuck why : Sem Value).run P w := by
  apply Exists.intro
  have hf : (Question.mapNext (candidatesOf es since seen).size).forced = true := by simp [Question.forced, h4]
  have hc : (choose (.mapNext (candidatesOf es since seen).size)).run P w = .ok 0 w := by rw [run_choose, if_pos hf]
  unfold Instr.next
  simp only [Sem.run_bind, h1, Result.andThen_ok, h2, h3]
  rw [if_neg (by simp)]
  rw [Sem.run_bind]
  change (Result.andThen ((choose (.mapNext (candidatesOf es since seen).size)).run P w) _) = _
  rw [hc]
  rfl

theorem next_sound (g : Good h0 ρ X.H w.heap) {x x' v : Value} {isS : Bool} (ty : TypeId) (rx : VR ρ x x') (h : interp (.bind (iterOf x) (nextF isS)) X = some (v, X')) :
    X'.T = X.T ∧ ∃ w' v', (Instr.next x' isS ty).run P w = .ok v' w' ∧ Good h0 ρ X'.H w'.heap ∧ Below h0 w w' ∧ VR ρ v v' := by
  obtain ⟨y, X1, h1, h2⟩ := i_bind.mp h
  obtain ⟨rfl, rfl, h3⟩ := iterOf_inv h1
  obtain ⟨p, hp, rfl, hb, hbase, o', h4, h5⟩ := rx.ptr0_inv g h3
  obtain ⟨yid, yo⟩ := y
  have over : ∀ {X'}, interp overF X1 = some (v, X') → X' = X1 ∧ v = .tuple #[.bool false] := fun h => by
    obtain ⟨rfl, rfl⟩ := i_pure_inv h; exact ⟨rfl, rfl⟩
  have rover : VR ρ (.tuple #[.bool false]) (.tuple #[.bool false]) := .tuple' (.cons (.bool _) (.nil ρ))
  cases h5 with
  | stringIter s pos =>
    cases isS with
    | false => cases h2
    | true =>
      have u1 := getObj_run (P := P) h4 (by intro _ _ _ e; cases e)
      have h2' : interp (nextStringF yid s pos) X1 = some (v, X') := h2
      unfold nextStringF at h2'
      cases hlt : Nat.blt pos s.size with
      | false =>
        rw [hlt] at h2'
        obtain ⟨rfl, rfl⟩ := over h2'
        have hl : ¬ pos < s.size := fun hh => by rw [show Nat.blt pos s.size = true from Nat.ble_eq_true_of_le hh] at hlt; cases hlt
        exact ⟨rfl, w, _, by simp [Instr.next, u1, hl], g, .refl _ _, rover⟩
      | true =>
        rw [hlt] at h2'
        have hl : pos < s.size := Nat.le_of_ble_eq_true hlt
        obtain ⟨u, X2, h6, h7⟩ := i_bind.mp h2'
        obtain ⟨rfl, rfl⟩ := i_pure_inv h7
        have := wr_inv h6
        subst this
        refine ⟨rfl, setO w p.blk (.stringIter s (pos + (Utf8.decode s pos).2)), .tuple #[.bool true, goInt pos, .int .i32 (Utf8.decode s pos).1], ?_, ?_, setO_below hb, .tuple' (.cons (.bool _) (.cons (.int _ _) (.cons (.int _ _) (.nil ρ))))⟩
        · simp [Instr.next, u1, hl, setObj_run h4 (by intro _ _ _ e; cases e)]
        · exact g.putObj h3 hp ⟨hbase, _, setO_same h4, .stringIter _ _⟩
  | @mapIter m q since seen last hq =>
    cases isS with
    | true => cases h2
    | false =>
      have h2' : interp (.bind (mapOf (.map (some m))) fun z => nextMapF yid m since seen last z.2.1 z.2.2) X1 = some (v, X') := h2
      obtain ⟨z, X2, h6, h7⟩ := i_bind.mp h2'
      obtain ⟨rfl, e, h8⟩ := mapOf_inv h6
      simp only [Value.map.injEq, Option.some.injEq] at e
      subst e
      obtain ⟨_, es', h9, h10⟩ := mapAt g h8 hq
      have u1 := getObj_run (P := P) h4 (by intro _ _ _ e; cases e)
      have u2 := getObj_run (P := P) h9 (by intro _ _ _ e; cases e)
      obtain ⟨h11, h12⟩ := i_ifB.mp h7
      obtain ⟨h13, h14⟩ := i_ifB.mp h12
      obtain ⟨c1, c2, c3⟩ := cand_sound h10 since seen
      have hsz : es'.size = z.2.1.size := by have := h10.1; simpa using this.symm
      have hall : es'.all (·.born ≥ last) = z.2.1.all (·.born ≥ last) := by
        have := EsR.all (f := fun b => decide (b ≥ last)) h10
        simpa using this
      have hcond : (!seen.isEmpty && !es'.isEmpty && es'.all (·.born ≥ last)) = false := by
        rw [hall, show es'.isEmpty = z.2.1.isEmpty by simp only [Array.isEmpty, hsz]]
        cases hq0 : (!seen.isEmpty && !z.2.1.isEmpty && z.2.1.all (·.born ≥ last)) with
        | false => rfl
        | true => rw [hq0] at h11; cases h11
      have hc4 : (candidatesOf es' since seen).size ≤ 1 := by rw [c1]; exact Nat.le_of_ble_eq_true h13
      obtain ⟨why, hrun⟩ := next_map_run (P := P) (w := w) ty u1 u2 hcond hc4
      cases hn : nth (candidatesOf z.2.1 since seen).toList 0 with
      | none => rw [hn] at h14; cases h14
      | some oe =>
        rw [hn] at h14
        cases oe with
        | none =>
          obtain ⟨rfl, rfl⟩ := over h14
          rw [c3 hn] at hrun
          exact ⟨rfl, w, _, hrun, g, .refl _ _, rover⟩
        | some e =>
          obtain ⟨u, X3, h15, h16⟩ := i_bind.mp h14
          obtain ⟨rfl, rfl⟩ := i_pure_inv h16
          have := wr_inv h15
          subst this
          obtain ⟨e', k1, k2, k3, k4⟩ := c2 e hn
          rw [k1] at hrun
          refine ⟨rfl, setO w p.blk (.mapIter (some q.blk) since (seen.push e.born) z.2.2), .tuple #[.bool true, e'.key, e'.val], ?_, ?_, setO_below hb, .tuple' (.cons (.bool _) (.cons k2 (.cons k3 (.nil ρ))))⟩
          · rw [hrun]
            simp [setObj_run h4 (by intro _ _ _ e; cases e), k4]
          · exact g.putObj h3 hp ⟨hbase, _, setO_same h4, .mapIter _ _ _ hq⟩
  | _ => cases isS <;> cases h2
end
end Ae

/- Calls. -/
namespace Ae
open Go Go.RowKit

inductive DefR (ρ : Ren) : Deferred → Deferred → Prop
  | fn {f : FuncId} {c c' a a' : Array Value} (h1 : LR ρ c.toList c'.toList) (h2 : LR ρ a.toList a'.toList) : DefR ρ { target := .fn (.func f) c, args := a } { target := .fn (.func f) c', args := a' }
  | collected {b : Nat} {p : Place} (h : ρ b = some p) (a : Array Value) : DefR ρ { target := .collected b, args := a } { target := .collected p.blk, args := a }

theorem DefR.mono {ρ σ : Ren} (h : Ren.le ρ σ) {d d' : Deferred} (r : DefR ρ d d') : DefR σ d d' := by
  cases r with
  | fn h1 h2 => exact .fn (h1.mono h) (h2.mono h)
  | collected e a => exact .collected (h _ _ e) a

theorem TR.put {ρ : Ren} {T : Trie Value} {tmps : Array Value} (r : TR ρ T tmps) {d : Nat} {v v' : Value} (hv : VR ρ v v') (hd : d < tmps.size) : TR ρ (T.put d (some v)) (tmps.setIfInBounds d v') := by
  intro i
  by_cases e : i = d
  · subst e
    rw [Trie.at_put_same]
    exact ⟨v', by simp [hd], hv⟩
  · rw [Trie.at_put_other _ _ (fun x => e x.symm)]
    have := r i
    rw [Array.getElem?_setIfInBounds_ne (fun x => e x.symm)]
    exact this

theorem TR.params {ρ : Ren} {nt : Nat} : ∀ (ps : List Tmp) (vs vs' : List Value) (T : Trie Value) (tmps : Array Value), TR ρ T tmps → LR ρ vs vs' → nt ≤ tmps.size → tmpsOk nt ps = true →
    TR ρ (paramsT ps vs T) ((ps.zip vs').foldl (fun t (x : Tmp × Value) => t.setIfInBounds x.1 x.2) tmps) ∧ nt ≤ ((ps.zip vs').foldl (fun t (x : Tmp × Value) => t.setIfInBounds x.1 x.2) tmps).size
  | [], _, _, T, tmps, h, _, hs, _ => ⟨by simpa [paramsT] using h, by simpa using hs⟩
  | p :: ps, [], vs', T, tmps, h, hl, hs, _ => by rw [hl.nil_inv]; exact ⟨by simpa [paramsT] using h, by simpa using hs⟩
  | p :: ps, v :: vs, vs', T, tmps, h, hl, hs, ho => by
    obtain ⟨v', k, rfl, h1, h2⟩ := hl.cons_inv
    have ho' : Bool.rec (motive := fun _ => Bool) false (tmpsOk nt ps) (Nat.blt p nt) = true := ho
    cases hb : Nat.blt p nt with
    | false => rw [hb] at ho'; cases ho'
    | true =>
      rw [hb] at ho'
      have hlt : p < nt := Nat.le_of_ble_eq_true hb
      simp only [paramsT, List.zip_cons_cons, List.foldl_cons]
      exact TR.params ps vs k _ _ (h.put h1 (Nat.lt_of_lt_of_le hlt hs)) h2 (by simpa using hs) ho'

inductive OutR (ρ : Ren) : Out → Next → Prop
  | val {v v' : Value} (h : VR ρ v v') : OutR ρ (.val v) (.value v')
  | skip : OutR ρ .skip .skip
  | enter {f : FuncId} {args : List Value} {args' : Array Value} (h : LR ρ args args'.toList) : OutR ρ (.enter f args) (.enter f args')
  | round {l : Nat} {r : Loop} {T : Trie Value} {nt : Nat} {args : List Value} {p : Place} {tmps : Array Value} (h : ρ l = some p) (ht : TR ρ (paramsT r.params.toList args T) tmps) (hn : nt ≤ tmps.size) :
      OutR ρ (.round l r T nt args) (.round p.blk r.fn tmps r.assign r.body)
  | defer {d d' : Deferred} (h : DefR ρ d d') : OutR ρ (.defer d) (.defer d')
  | recover : OutR ρ .recover .recover

section
variable {tab : Tab} {P : Program} {h0 : Nat} {ρ : Ren} {X X' : St} {w : World} {n : Nat}

theorem loopOf_inv {l : Nat} {r : Loop × Trie Value × Nat} (h : interp (loopOf l) X = some (r, X')) : X' = X ∧ X.H.at_ l = some (.loop r.1 r.2.1 r.2.2) := by
  obtain ⟨h1, h2⟩ := i_opt.mp (i_objOf (f := fun c => opt (loopC c)) h)
  exact ⟨h2, loopC_eq h1⟩

theorem loopAt (g : Good h0 ρ X.H w.heap) {l : Nat} {r : Loop} {T : Trie Value} {nt : Nat} {p : Place} (h : X.H.at_ l = some (.loop r T nt)) (hp : ρ l = some p) :
    h0 ≤ p.blk ∧ ∃ r', w.heap[p.blk]? = some (.loop r') ∧ LoopR ρ r r' T nt := g.at_ h hp

theorem yield_sound (g : Good h0 ρ X.H w.heap) {n' l : Nat} {p : Place} (hp : ρ l = some p) {args : List Value} {args' : Array Value} (ra : LR ρ args args'.toList) {out : Out} (h : interp (yieldF l args n) X = some ((out, n'), X')) :
    n' = n ∧ X' = X ∧ ∃ nx, (Instr.yield p.blk args').run P w = .ok nx w ∧ OutR ρ out nx := by
  obtain ⟨r, X1, h1, h2⟩ := i_bind.mp h
  obtain ⟨rfl, h3⟩ := loopOf_inv h1
  obtain ⟨h4, h5⟩ := i_ifB.mp h2
  obtain ⟨e, rfl⟩ := i_pure_inv h5
  simp only [Prod.mk.injEq] at e
  obtain ⟨rfl, rfl⟩ := e
  obtain ⟨h6, r', h7, h8⟩ := loopAt g h3 hp
  have u1 := getObj_run (P := P) h7 (by intro _ _ _ e; cases e)
  have hl := Nat.eq_of_beq_eq_true h4
  have hsz : ¬ (args'.size ≠ r'.params.size) := by
    have := ra.1
    rw [h8.params]
    simp only [Array.length_toList] at hl this
    omega
  obtain ⟨k1, k2⟩ := TR.params r.1.params.toList args args'.toList r.2.1 r'.tmps h8.tmps ra h8.size h8.ok
  refine ⟨rfl, rfl, .round p.blk r'.fn ((r'.params.zip args').foldl (fun tmps (t, a) => tmps.setIfInBounds t a) r'.tmps) r'.assign r'.body, ?_, ?_⟩
  · simp only [Instr.yield, Instr.getLoop, Sem.run_bind, u1, Result.andThen_ok, Sem.run_pure, if_neg hsz]
  · rw [h8.fn, h8.assign, h8.body, h8.params]
    refine .round hp ?_ ?_
    · rw [← Array.foldl_toList, Array.toList_zip]; exact k1
    · rw [← Array.foldl_toList, Array.toList_zip]; exact k2

theorem clone_sound (g : Good h0 ρ X.H w.heap) {n' : Nat} (fr : ∀ id, n ≤ id → id < n' → ρ id = none) {args : List Value} {args' : Array Value} (ra : LR ρ args args'.toList) {out : Out} (h : interp (cloneF args n) X = some ((out, n'), X')) :
    n ≤ n' ∧ New P h0 ρ X X' w n n' (Extern.MapsClone.clone args') (fun ρ' _ b => ∃ v, out = .val v ∧ VR ρ' v b) := by
  unfold cloneF at h
  split at h
  · rename_i t r
    have h1 := i_objOf h
    obtain ⟨es, h2, h3⟩ := i_optB.mp h1
    obtain ⟨u, X1, h4, h5⟩ := i_bind.mp h3
    obtain ⟨e, rfl⟩ := i_pure_inv h5
    simp only [Prod.mk.injEq] at e
    obtain ⟨rfl, rfl⟩ := e
    have hx := wr_inv h4
    subst hx
    have h6 := mapC_eq h2
    obtain ⟨v', k, e1, hv, hk⟩ := ra.cons_inv
    have e2 := hk.nil_inv
    subst e2
    cases hv with
    | @iface _ _ v2 hv =>
      cases hv with
      | @map _ p hp =>
        obtain ⟨_, es', h7, h8⟩ := mapAt g h6 hp
        have u1 := getObj_run (P := P) h7 (by intro _ _ _ e; cases e)
        obtain ⟨a1, a2, a3⟩ := newObj_sound g fr rfl (.map es.2 h8) (by intro _ _ _ e; cases e)
        have e3 : args' = #[.iface t (.map (some p.blk))] := Array.toList_inj.mp (by rw [e1])
        subst e3
        refine ⟨Nat.le_succ n, rfl, _, _, .iface t (.map (some w.heap.size)), ?_, Ren.le_ext _ a1, ext_new _, a2, a3, _, rfl, .iface t (.map (Ren.ext_same ..))⟩
        obtain ⟨why, hc⟩ : ∃ why : String, Extern.MapsClone.clone #[.iface t (.map (some p.blk))] = (do
            let .map entries clock ← getObj p.blk | stuck why
            pure (.iface t (.map (some (← newObj (.map entries clock)))))) := ⟨_, rfl⟩
        rw [hc]
        simp [u1]
  · cases h

theorem call_sound (ok : TabOK tab P) (g : Good h0 ρ X.H w.heap) {n' : Nat} (fr : ∀ id, n ≤ id → id < n' → ρ id = none) {f : FuncId} {args : List Value} {args' : Array Value} (ra : LR ρ args args'.toList) {out : Out}
    (h : interp (callF tab f args n) X = some ((out, n'), X')) : n ≤ n' ∧ New P h0 ρ X X' w n n' (callFunc f args') (fun ρ' _ b => OutR ρ' out b) := by
  obtain ⟨fn, h1, h2⟩ := i_optB.mp h
  have h3 := ok.fn f fn h1
  have h4 := ok.name f fn h1
  have h4' : ¬ ((fn.name == "runtime.NumGoroutine") = true) := by rw [h4]; simp
  cases hb : bodyB fn with
  | true =>
    rw [hb] at h2
    obtain ⟨e, rfl⟩ := i_pure_inv h2
    simp only [Prod.mk.injEq] at e
    obtain ⟨rfl, rfl⟩ := e
    have hb' : fn.body.isNone = false := by cases hc : fn.body <;> simp_all [bodyB]
    refine ⟨Nat.le_refl _, rfl, ρ, w, .enter f args', ?_, Ren.le_refl ρ, fun _ _ hh => .inl hh, g, .refl _ _, .enter ra⟩
    unfold callFunc
    rw [Sem.run_bind, run_program, Result.andThen_ok, h3]
    simp only
    rw [if_neg h4', hb']
    rfl
  | false =>
    rw [hb] at h2
    obtain ⟨h5, h6⟩ := i_ifB.mp h2
    obtain ⟨h7, h8⟩ := ok.clone f fn h1 hb h5
    obtain ⟨k1, k2, ρ', w', b, k3, k4, k5, k6, k7, v, k8, k9⟩ := clone_sound (P := P) g fr ra h6
    have hb' : fn.body.isNone = true := by cases hc : fn.body <;> simp_all [bodyB]
    subst k8
    refine ⟨k1, k2, ρ', w', .value b, ?_, k4, k5, k6, k7, .val k9⟩
    unfold callFunc
    rw [Sem.run_bind, run_program, Result.andThen_ok, h3]
    simp only
    rw [if_neg h4', if_pos hb']
    simp [h7, h8, k3]

theorem method_run (ok : TabOK tab P) {t : TypeId} {name : String} {m : Method} {i : TInfo} {f : FuncId} {ptr : Bool} (fuel : Nat) (v : Value) (h1 : methodOf_ tab t name = some m) (h2 : m.path.isEmpty = true) (h3 : m.func = some (f, ptr)) (h4 : tab.ty.at_ t = some i)
    (h5 : dPtr i.desc = ptr) : (method (fuel + 1) t v name).run P w = .ok (f, v) w := by
  unfold methodOf_ at h1
  rw [ok.prog] at h1
  cases hi : P.info? t with
  | none => rw [hi] at h1; cases h1
  | some ti =>
    rw [hi] at h1
    simp only at h1
    have hu := (ok.ty t i h4).under (w := w)
    have hp : m.path = #[] := by simpa using h2
    unfold method
    simp only [Sem.run_bind, typeInfo, run_program, Result.andThen_ok, hi, Sem.run_pure, h1, hp, h3]
    simp only [follow, Sem.run_pure, Result.andThen_ok]
    unfold receiverAt
    subst h5
    cases hd : i.desc <;> simp [hd, hu, dPtr, Place.get]

theorem methodF_sound (ok : TabOK tab P) (g : Good h0 ρ X.H w.heap) {n' : Nat} (fr : ∀ id, n ≤ id → id < n' → ρ id = none) {t : TypeId} {name : String} {v v' : Value} {rest : List Value} {rest' : Array Value} (rv : VR ρ v v') (rr : LR ρ rest rest'.toList) {out : Out}
    (h : interp (methodF tab t name v rest n) X = some ((out, n'), X')) : n ≤ n' ∧ New P h0 ρ X X' w n n' (callMethod (.iface t v') name rest') (fun ρ' _ b => OutR ρ' out b) := by
  obtain ⟨m, h1, h2⟩ := i_optB.mp h
  obtain ⟨h3, h4⟩ := i_ifB.mp h2
  obtain ⟨fp, h5, h6⟩ := i_optB.mp h4
  obtain ⟨i, h7, h8⟩ := i_tiB.mp h6
  have key : ∀ ptr, dPtr i.desc = ptr → fp.2 = ptr → interp (callF tab fp.1 (v :: rest) n) X = some ((out, n'), X') →
      n ≤ n' ∧ New P h0 ρ X X' w n n' (callMethod (.iface t v') name rest') (fun ρ' _ b => OutR ρ' out b) := by
    intro ptr e1 e2 hc
    obtain ⟨k1, k2, ρ', w', b, k3, k4⟩ := call_sound (P := P) (w := w) (args' := #[v'] ++ rest') ok g fr (by simpa using LR.cons rv rr) hc
    refine ⟨k1, k2, ρ', w', b, ?_, k4⟩
    have hm := method_run (P := P) (w := w) ok (f := fp.1) (ptr := ptr) (P.types.size + 99) v' h1 h3 (by rw [h5, ← e2]) h7 e1
    unfold callMethod
    simp only [Sem.run_bind, run_program, Result.andThen_ok]
    rw [show P.types.size + Made.depth = (P.types.size + 99) + 1 from rfl, hm]
    exact k3
  cases hd : dPtr i.desc with
  | true =>
    cases hf : fp.2 with
    | true => rw [hd, hf] at h8; exact key true hd hf h8
    | false => rw [hd, hf] at h8; cases h8
  | false =>
    cases hf : fp.2 with
    | true => rw [hd, hf] at h8; cases h8
    | false => rw [hd, hf] at h8; exact key false hd hf h8

theorem methodArgs_sound (ok : TabOK tab P) (g : Good h0 ρ X.H w.heap) {n' : Nat} (fr : ∀ id, n ≤ id → id < n' → ρ id = none) {name : String} {args : List Value} {args' : Array Value} (ra : LR ρ args args'.toList) {out : Out}
    (h : interp (methodArgs tab name args n) X = some ((out, n'), X')) (cap : Array Value) : n ≤ n' ∧ New P h0 ρ X X' w n n' (invoke (.fn (.method name) cap) args') (fun ρ' _ b => OutR ρ' out b) := by
  cases args with
  | nil => cases h
  | cons r rest =>
    obtain ⟨tv, h1, h2⟩ := i_optB.mp h
    obtain ⟨v', k, e1, hv, hk⟩ := ra.cons_inv
    rw [vFace_eq h1] at hv
    cases hv with
    | @iface _ _ v2 hv =>
      obtain ⟨k1, k2, ρ', w', b, k3, k4⟩ := methodF_sound (P := P) (w := w) (rest' := k.toArray) ok g fr hv (by simpa using hk) h2
      refine ⟨k1, k2, ρ', w', b, ?_, k4⟩
      have e2 : args' = (.iface tv.1 v2 :: k).toArray := Array.toList_inj.mp (by rw [e1])
      subst e2
      rw [← k3]
      simp [invoke]

theorem target_sound (ok : TabOK tab P) (g : Good h0 ρ X.H w.heap) {n' : Nat} (fr : ∀ id, n ≤ id → id < n' → ρ id = none) {f f' : Fn} {args : List Value} {args' : Array Value} {cap : List Value} {cap' : Array Value} (rf : FnR ρ f f')
    (ra : LR ρ args args'.toList) (rc : LR ρ cap cap'.toList) {out : Out} (h : interp (targetK f tab args cap n) X = some ((out, n'), X')) :
    n ≤ n' ∧ New P h0 ρ X X' w n n' (invoke (.fn f' cap') args') (fun ρ' _ b => OutR ρ' out b) := by
  cases rf with
  | same _ hy =>
    cases f with
    | func f =>
      obtain ⟨k1, k2, ρ', w', b, k3, k4⟩ := call_sound (P := P) (w := w) (args' := args' ++ cap') ok g fr (by simpa using ra.append rc) h
      exact ⟨k1, k2, ρ', w', b, by simpa [invoke] using k3, k4⟩
    | method name => exact methodArgs_sound ok g fr ra h cap'
    | yield l => cases hy
    | _ => cases h
  | @yield l p hp =>
    obtain ⟨rfl, rfl, nx, k1, k2⟩ := yield_sound (P := P) (w := w) g hp ra h
    exact ⟨Nat.le_refl _, rfl, ρ, w, nx, by simpa [invoke] using k1, Ren.le_refl ρ, fun _ _ hh => .inl hh, g, .refl _ _, k2⟩
end
end Ae
