/- The evaluator is right at statements that draw their order, and over whole runs: what it evaluates to true is true of each run. -/
import Derived.Test.YtfahiennamklgaaGreatDoorA11

set_option linter.all false
set_option linter.unusedVariables false
set_option linter.unusedSimpArgs false
set_option linter.deprecated false

/- Statements that draw their order. -/
namespace Ae
open Go Go.RowKit

/-- What is to be shown of a call inside a statement. -/
structure SubOK (P : Program) (h0 : Nat) (sub : Fr → Nat → F (Value × Nat)) : Prop where
  up : ∀ {e : Fr} {n : Nat} {X X' : St} {y : Value × Nat}, interp (sub e n) X = some (y, X') → n ≤ y.2
  ok : ∀ {e : Fr} {n : Nat} {X X' : St} {y : Value × Nat} {ρ : Ren} {w : World} {f : Frame} (cs : List Frame), interp (sub e n) X = some (y, X') → Good h0 ρ X.H w.heap → (∀ id, n ≤ id → id < y.2 → ρ id = none) → FrR ρ e f →
    X'.T = X.T ∧ ∃ ρ' w' f' v', Ext h0 ρ ρ' n y.2 X'.H w w' ∧ f'.fn = f.fn ∧ f'.leaving P w' (.returned v') ∧ Steps P (lone f cs w) (lone f' cs w') ∧ VR ρ' y.1 v'

section
variable {tab : Tab} {P : Program} {h0 : Nat} {sub : Fr → Nat → F (Value × Nat)} {all : Array Oper} {b : Frame} {cs : List Frame} {kk : List Item} {ds : List Deferred} {nt : Nat}

theorem readsR {ρ : Ren} {T : Trie Value} {a : Act} (h : TR ρ T a.tmps) : Reads ρ T opd a.eval := by
  intro x X X' v hT hi
  cases x with
  | tmp t =>
    obtain ⟨c, X1, h1, h2⟩ := i_bind.mp (show interp (.bind (.rd (.t t)) fun c => opt (valC c)) X = some (v, X') from hi)
    have h1' : some (X.get (.t t), X) = some (c, X1) := h1
    simp only [Option.some.injEq, Prod.mk.injEq] at h1'
    obtain ⟨rfl, rfl⟩ := h1'
    obtain ⟨h3, rfl⟩ := i_opt.mp h2
    have h4 : T.at_ t = some v := by
      rw [← hT]
      have h3' : valC (cellOf (X'.T.at_ t)) = some v := h3
      cases ht : X'.T.at_ t with
      | none => rw [ht] at h3'; cases h3'
      | some u => rw [ht] at h3'; cases h3'; rfl
    have := h t
    rw [h4] at this
    obtain ⟨v', h5, h6⟩ := this
    exact ⟨rfl, by simpa [Act.eval, Array.getD_eq_getD_getElem?, h5] using h6⟩
  | const c =>
    obtain ⟨h1, h2⟩ := i_ifB.mp (show interp (ifB (fl c) (.pure c)) X = some (v, X') from hi)
    obtain ⟨rfl, rfl⟩ := i_pure_inv h2
    exact ⟨rfl, fl_refl h1⟩
  | global g => cases hi
  | func f =>
    obtain ⟨rfl, rfl⟩ := i_pure_inv (show interp (.pure (.func (.func f) #[] #[])) X = some (v, X') from hi)
    exact ⟨rfl, .func' (.same _ rfl) (.nil ρ) (.nil ρ)⟩

theorem wantedF_inv {g : Option (Nat × Bool)} {X X' : St} {t : Bool} (h : interp (wantedF all g) X = some (t, X')) : X' = X ∧ t = wantedT all X.T g := by
  unfold wantedF at h
  unfold wantedT
  split at h
  · obtain ⟨rfl, rfl⟩ := i_pure_inv h; exact ⟨rfl, rfl⟩
  · rename_i g
    split at h
    · rename_i d hd
      obtain ⟨c, X1, h1, h2⟩ := i_bind.mp h
      have h1' : some (X.get (.t d), X) = some (c, X1) := h1
      simp only [Option.some.injEq, Prod.mk.injEq] at h1'
      obtain ⟨rfl, rfl⟩ := h1'
      obtain ⟨rfl, rfl⟩ := i_pure_inv h2
      refine ⟨rfl, ?_⟩
      simp only [St.get]
      cases X'.T.at_ d <;> rfl
    · rename_i hd
      obtain ⟨rfl, rfl⟩ := i_pure_inv h; exact ⟨rfl, rfl⟩

theorem putT_inv {d : Option Tmp} {v : Value} {X X' : St} {u : Unit} (h : interp (putT d v) X = some (u, X')) : X' = ⟨putDst X.T d v, X.H⟩ := by
  cases d with
  | none => obtain ⟨_, rfl⟩ := i_pure_inv (show interp (.pure ()) X = some (u, X') from h); rfl
  | some d =>
    have h' : some ((), X.set (.t d (some v))) = some (u, X') := h
    simp only [Option.some.injEq, Prod.mk.injEq] at h'
    exact h'.2.symm

theorem regOp_sound (ok : TabOK tab P) (hsub : SubOK P h0 sub) {j : Nat} {o : Oper} {rest : List Nat} (hj : all[j]? = some o) (hd : dstOk nt o.dst = true) {ρ : Ren} {X X' : St} {w : World} {n n' : Nat} {a : Act} (g : Good h0 ρ X.H w.heap)
    (ha : AR ρ nt X.T ds a) (fresh : ∀ id, n ≤ id → id < n' → ρ id = none) (h : interp (regOp tab sub all o n) X = some (n', X')) :
    ∃ ρ' w' a', Ext h0 ρ ρ' n n' X'.H w w' ∧ AR ρ' nt X'.T ds a' ∧ a'.defers = a.defers ∧ Steps P (lone (b.atR a (.inRegion all (j :: rest) :: kk)) cs w) (lone (b.atR a' (.inRegion all rest :: kk)) cs w') := by
  obtain ⟨t, X1, h1, h2⟩ := i_bind.mp h
  obtain ⟨rfl, rfl⟩ := wantedF_inv h1
  have hwant := wanted_eq (all := all) ha.tmps o
  have hfin : ∀ (a : Act) (v : Value), (b.atR a (.inRegion all (j :: rest) :: kk)).finish v = b.atR (a.put o.dst v) (.inRegion all rest :: kk) := by
    intro a v; rw [Frame.finish_atR, hj]; rfl
  have hput : ∀ v, (a.put o.dst v).defers = a.defers := by intro v; cases o.dst <;> rfl
  cases hw : wantedT all X1.T o.guard with
  | false =>
    rw [hw] at h2 hwant
    obtain ⟨u, X2, h3, h4⟩ := i_bind.mp (show interp (.bind (putT o.dst undef) fun _ => .pure n) X1 = some (n', X') from h2)
    obtain ⟨rfl, rfl⟩ := i_pure_inv h4
    have := putT_inv h3
    subst this
    have hs := stepR_op_skip (P := P) (b := b) (a := a) (k := kk) (cs := cs) (w := w) (ops := all) (i := j) (rest := rest) (by simp [hj, hwant])
    rw [hj] at hs
    exact ⟨ρ, w, a.put o.dst undef, .refl g, ha.put (VR.undef ρ) hd, hput _, .one hs⟩
  | true =>
    rw [hw] at h2 hwant
    obtain ⟨⟨out, n1⟩, X2, h3, h4⟩ := i_bind.mp (show interp (.bind (opF tab opd o n) (regOut tab sub o.dst)) X1 = some (n', X') from h2)
    have hg := stepGR_op (P := P) (b := b) (a := a) (k := kk) (cs := cs) (w := w) (rest := rest) hj (by rw [hwant])
    have hup : n1 ≤ n' := by
      unfold regOut at h4
      split at h4
      · obtain ⟨_, _, _, h6⟩ := i_bind.mp h4; obtain ⟨rfl, _⟩ := i_pure_inv h6; exact Nat.le_refl _
      · obtain ⟨_, _, _, h6⟩ := i_bind.mp h4; obtain ⟨rfl, _⟩ := i_pure_inv h6; exact Nat.le_refl _
      · obtain ⟨_, _, _, h6⟩ := i_bind.mp h4
        obtain ⟨_, _, h7, h8⟩ := i_bind.mp h6
        obtain ⟨_, _, _, h9⟩ := i_bind.mp h8
        obtain ⟨rfl, _⟩ := i_pure_inv h9
        exact hsub.up h7
      · cases h4
    obtain ⟨k1, k2, ρ', w', nx, k3, k4, k5, k6, k7, k8⟩ := op_sound (P := P) (w := w) ok g (fun id q1 q2 => fresh id q1 (Nat.lt_of_lt_of_le q2 hup)) (readsR ha.tmps) h3
    have ext : Ext h0 ρ ρ' n n1 X2.H w w' := ⟨k4, k5, k6, k7⟩
    have ha' := ha.mono k4
    have hsem : (∀ d, out ≠ .defer d) → stepG P true { frame := b.atR a (.inRegion all (j :: rest) :: kk), callers := cs, status := .running, dying := none } w =
        stepG.apply P true (b.atR a (.inRegion all (j :: rest) :: kk)) cs none (execOp a.eval o) w := by
      intro hd
      rw [hg, Oper.semAt_eq _ _ _ fun c hc => by
        obtain ⟨d, e⟩ := op_defer hc h3
        exact hd d e]
    cases k8 with
    | @val v v' rv =>
      obtain ⟨u, X3, h5, h6⟩ := i_bind.mp (show interp (.bind (putT o.dst v) fun _ => .pure n1) X2 = some (n', X') from h4)
      obtain ⟨rfl, rfl⟩ := i_pure_inv h6
      have := putT_inv h5
      subst this
      have hs : step P (lone (b.atR a (.inRegion all (j :: rest) :: kk)) cs w) = .next (lone (b.atR (a.put o.dst v') (.inRegion all rest :: kk)) cs w') :=
        step_lone_go (by rw [hsem (by intro d e; cases e), ← hfin]; simp [stepG.apply, k3])
      refine ⟨ρ', w', a.put o.dst v', ext, ?_, hput _, .one hs⟩
      rw [k2]
      exact ha'.put rv hd
    | skip =>
      obtain ⟨u, X3, h5, h6⟩ := i_bind.mp (show interp (.bind (putT o.dst undef) fun _ => .pure n1) X2 = some (n', X') from h4)
      obtain ⟨rfl, rfl⟩ := i_pure_inv h6
      have := putT_inv h5
      subst this
      have hs : step P (lone (b.atR a (.inRegion all (j :: rest) :: kk)) cs w) = .next (lone (b.atR (a.put o.dst undef) (.inRegion all rest :: kk)) cs w') :=
        step_lone_go (by rw [hsem (by intro d e; cases e), ← hfin]; simp [stepG.apply, k3])
      refine ⟨ρ', w', a.put o.dst undef, ext, ?_, hput _, .one hs⟩
      rw [k2]
      exact ha'.put (VR.undef ρ') hd
    | @enter f args args' ra =>
      obtain ⟨e, X3, q1, q2⟩ := i_bind.mp (show interp (.bind (frameF tab f args .normal) fun e => .bind (sub e n1) fun r => .bind (putT o.dst r.1) fun _ => .pure r.2) X2 = some (n', X') from h4)
      obtain ⟨rfl, p1, p2, p3, p4⟩ := enter_sound (P := P) ok ra q1
      obtain ⟨r, X4, q3, q4⟩ := i_bind.mp q2
      obtain ⟨u, X5, q5, q6⟩ := i_bind.mp q4
      obtain ⟨rfl, rfl⟩ := i_pure_inv q6
      have := putT_inv q5
      subst this
      have fresh' := ext.fresh fresh k1
      obtain ⟨s1, ρ2, w2, f', v', s2, s3, s4, s5, s6⟩ := hsub.ok (w := w') (b.atR a (.inRegion all (j :: rest) :: kk) :: cs) q3 k6 fresh' p3
      have hs : step P (lone (b.atR a (.inRegion all (j :: rest) :: kk)) cs w) = .next (lone (Frame.enter P f args' .normal) (b.atR a (.inRegion all (j :: rest) :: kk) :: cs) w') :=
        step_lone_go (by rw [hsem (by intro d e; cases e)]; simp [stepG.apply, k3, Frame.atR])
      have hs2 := step_leave_returned (c := b.atR a (.inRegion all (j :: rest) :: kk)) (cs := cs) s4
      rw [hfin] at hs2
      refine ⟨ρ2, w2, a.put o.dst v', ext.trans s2 k1 (hsub.up q3), ?_, hput _, .head hs (s5.trans (.one hs2))⟩
      rw [s1, k2]
      exact (ha'.mono s2.le).put s6 hd
    | _ => cases h4

theorem mono_N {N : Nat → Nat} {m : Nat} (h : ∀ q, q < m → N q ≤ N (q + 1)) : ∀ {p q : Nat}, p ≤ q → q ≤ m → N p ≤ N q := by
  intro p q hpq
  induction hpq with
  | refl => intro _; exact Nat.le_refl _
  | @step q _ ih => intro hq; exact Nat.le_trans (ih (by omega)) (h q (by omega))

/-- The operations in the order s, in the model. -/
theorem runs_sound (ok : TabOK tab P) (hsub : SubOK P h0 sub) {L : List (Nat × Oper)} {N : Nat → Nat} (hN : ∀ q, q < L.length → N q ≤ N (q + 1)) (hL : ∀ q, q < L.length → all[noAt L q]? = some (opAt L q)) (hd : dstsOk nt all.toList = true) :
    ∀ (s : List Nat) {Y Z : St} {a : Act} {ρ : Ren} {w : World}, Runs (fun q => regOp tab sub all (opAt L q) (N q)) (fun q => N (q + 1)) s Y Z → (∀ q ∈ s, q < L.length) → s.Nodup → Good h0 ρ Y.H w.heap → AR ρ nt Y.T ds a →
      (∀ q ∈ s, ∀ id, N q ≤ id → id < N (q + 1) → ρ id = none) →
      ∃ ρ' w' a', Ext h0 ρ ρ' (N 0) (N L.length) Z.H w w' ∧ AR ρ' nt Z.T ds a' ∧ Steps P (lone (b.atR a (.inRegion all (s.map (noAt L)) :: kk)) cs w) (lone (b.atR a' (.inRegion all [] :: kk)) cs w') := by
  intro s
  induction s with
  | nil =>
    intro Y Z a ρ w hr _ _ g ha _
    cases hr
    exact ⟨ρ, w, a, .refl g, ha, .refl P _⟩
  | cons q s ih =>
    intro Y Z a ρ w hr hlt hnd g ha fresh
    cases hr with
    | @cons _ _ _ Y1 _ h t =>
      have hq := hlt q (by simp)
      have hj := hL q hq
      have hdo : dstOk nt (opAt L q).dst = true := dstsOk_mem hd (by
        have := Array.mem_of_getElem? hj
        simpa using this)
      obtain ⟨ρ1, w1, a1, e1, r1, r2, s1⟩ := regOp_sound (b := b) (cs := cs) (kk := kk) (rest := s.map (noAt L)) ok hsub hj hdo g ha (fresh q (by simp)) h
      have hnd' := List.nodup_cons.mp hnd
      obtain ⟨ρ2, w2, a2, e2, r3, s2⟩ := ih t (fun p hp => hlt p (by simp [hp])) hnd'.2 e1.good r1 (by
        intro p hp id q1 q2
        cases hx : ρ1 id with
        | none => rfl
        | some pl =>
          exfalso
          rcases e1.new id pl hx with h5 | ⟨h5, h6⟩
          · rw [fresh p (by simp [hp]) id q1 q2] at h5; cases h5
          · have hne : p ≠ q := fun e => hnd'.1 (e ▸ hp)
            have hp' := hlt p (by simp [hp])
            rcases Nat.lt_or_gt_of_ne hne with hl | hl
            · have := mono_N hN (p := p + 1) (q := q) (by omega) (by omega)
              omega
            · have := mono_N hN (p := q + 1) (q := p) (by omega) (by omega)
              omega)
      have b0 := mono_N hN (p := 0) (q := q) (by omega) (by omega)
      have b1 := mono_N hN (p := q + 1) (q := L.length) (by omega) (by omega)
      have e1' : Ext h0 ρ ρ1 (N 0) (N L.length) Y1.H w w1 := ⟨e1.le, fun id p h => (e1.new id p h).imp (fun h => h) fun ⟨h1, h2⟩ => ⟨by omega, by omega⟩, e1.good, e1.below⟩
      refine ⟨ρ2, w2, a2, ⟨e1'.le.trans e2.le, fun id p h => ?_, e2.good, e1'.below.trans e2.below⟩, r3, s1.trans s2⟩
      rcases e2.new id p h with h | h
      · exact e1'.new id p h
      · exact .inr h
end
end Ae

/- A statement that draws its order, done. -/
namespace Ae
open Go Go.RowKit

theorem cellOf_inj {a b : Option Value} (h : cellOf a = cellOf b) : a = b := by
  cases a <;> cases b <;> first | rfl | (cases h; done) | skip
  have h' : some (Cell.val _) = some (Cell.val _) := h
  simp only [Option.some.injEq, Cell.val.injEq] at h'
  rw [h']

theorem Good.eqv {h0 : Nat} {ρ : Ren} {H H' : Trie Cell} {hp : Array Obj} (g : Good h0 ρ H hp) (e : ∀ id, H'.at_ id = H.at_ id) : Good h0 ρ H' hp :=
  ⟨fun id c h => g.cells id c (by rw [← e]; exact h), fun i j c d p q hi hj => g.apart i j c d p q (by rw [← e]; exact hi) (by rw [← e]; exact hj), g.room⟩

theorem TR.eqv {ρ : Ren} {T T' : Trie Value} {tmps : Array Value} (h : TR ρ T tmps) (e : ∀ i, T'.at_ i = T.at_ i) : TR ρ T' tmps := by
  intro i
  have := h i
  rw [← e i] at this
  exact this

structure Numbers (all : Array Oper) (L : List (Nat × Oper)) : Prop where
  at_ : ∀ x ∈ L, all[x.1]? = some x.2
  nodup : (L.map (·.1)).Nodup
  all : ∀ j, j < all.size → j ∈ L.map (·.1)

theorem numbered_at (l : List Oper) : ∀ i q, (numbered l i)[q]? = (l[q]?).map fun o => (i + q, o) := by
  induction l with
  | nil => intro i q; simp [numbered]
  | cons o l ih =>
    intro i q
    have e : numbered (o :: l) i = (i, o) :: numbered l (Nat.succ i) := rfl
    rw [e]
    cases q with
    | zero => simp
    | succ q =>
      simp only [List.getElem?_cons_succ]
      rw [ih]
      congr 1
      funext o
      simp only [Nat.succ_eq_add_one, Prod.mk.injEq, and_true]
      omega

theorem numbered_numbers (all : Array Oper) : Numbers all (numbered all.toList 0) := by
  have hfst : (numbered all.toList 0).map (·.1) = List.range all.size := by
    apply List.ext_getElem?
    intro q
    simp only [List.getElem?_map, numbered_at, Option.map_map]
    by_cases hq : q < all.size
    · rw [List.getElem?_eq_getElem (by simpa using hq), List.getElem?_eq_getElem (by simpa using hq)]
      simp
    · rw [List.getElem?_eq_none (by simpa using hq), List.getElem?_eq_none (by simpa using hq)]
      rfl
  refine ⟨fun x hx => ?_, by rw [hfst]; exact List.nodup_range, fun j hj => by rw [hfst]; simpa using hj⟩
  obtain ⟨q, hq⟩ := List.getElem?_of_mem hx
  rw [numbered_at] at hq
  cases ho : all.toList[q]? with
  | none => rw [ho] at hq; cases hq
  | some o =>
    rw [ho] at hq
    simp only [Option.map_some, Option.some.injEq] at hq
    subst hq
    simpa using ho

theorem Numbers.perm {all : Array Oper} {L L2 : List (Nat × Oper)} (h : Numbers all L) (p : L2.Perm L) : Numbers all L2 :=
  ⟨fun x hx => h.at_ x (p.mem_iff.mp hx), (p.map (·.1)).nodup_iff.mpr h.nodup, fun j hj => (p.map (·.1)).mem_iff.mpr (h.all j hj)⟩

theorem noAt_eq {L : List (Nat × Oper)} {q : Nat} (h : q < L.length) : noAt L q = (L[q]).1 := by simp [noAt, List.getElem?_eq_getElem h]
theorem opAt_eq {L : List (Nat × Oper)} {q : Nat} (h : q < L.length) : opAt L q = (L[q]).2 := by simp [opAt, List.getElem?_eq_getElem h]

theorem noAt_inj {L : List (Nat × Oper)} (h : (L.map (·.1)).Nodup) {p q : Nat} (hp : p < L.length) (hq : q < L.length) (e : noAt L p = noAt L q) : p = q := by
  rw [noAt_eq hp, noAt_eq hq] at e
  have key := List.pairwise_iff_getElem.mp h
  rcases Nat.lt_trichotomy p q with hl | hl | hl
  · exact absurd (by rw [List.getElem_map, List.getElem_map]; exact e) (key p q (by simpa using hp) (by simpa using hq) hl)
  · exact hl
  · exact absurd (by rw [List.getElem_map, List.getElem_map]; exact e.symm) (key q p (by simpa using hq) (by simpa using hp) hl)

/-- The order in places of the list. -/
theorem respects_of {L : List (Nat × Oper)} {pr : Nat → Nat → Bool} {pos : Nat → Nat} {m : Nat} (hpos : ∀ j, j < m → pos j < L.length ∧ noAt L (pos j) = j) (hinj : ∀ q, q < L.length → ∀ j, j < m → noAt L q = j → q = pos j) :
    ∀ {s : List Nat} {D D' : Nat → Prop}, Keeps (fun i j => pr i j = true) D s → (∀ i ∈ s, i < m) → (∀ q, q < L.length → (D' q ↔ D (noAt L q))) → (∀ q, D' q → q < L.length) →
      Respects (fun p q => p < q ∧ q < L.length ∧ pr (noAt L p) (noAt L q) = true) D' (s.map pos) := by
  intro s
  induction s with
  | nil => intro D D' _ _ _ _; trivial
  | cons i s ih =>
    intro D D' h hm hD hD'
    obtain ⟨h1, h2, h3⟩ := h
    have hi := hm i (by simp)
    obtain ⟨p1, p2⟩ := hpos i hi
    refine ⟨fun hd => h1 ?_, fun k ⟨k1, k2, k3⟩ => ?_, ih h3 (fun j hj => hm j (by simp [hj])) (fun q hq => ?_) (fun q hq => ?_)⟩
    · have := (hD _ p1).mp hd; rwa [p2] at this
    · rw [p2] at k3
      exact (hD k (by omega)).mpr (h2 _ k3)
    · constructor
      · rintro (h | rfl)
        · exact .inl ((hD q hq).mp h)
        · exact .inr p2
      · rintro (h | h)
        · exact .inl ((hD q hq).mpr h)
        · exact .inr (hinj q hq i hi h)
    · rcases hq with hq | rfl
      · exact hD' q hq
      · exact p1

theorem nodup_map {f : Nat → Nat} : ∀ {s : List Nat}, s.Nodup → (∀ a ∈ s, ∀ b ∈ s, f a = f b → a = b) → (s.map f).Nodup := by
  intro s
  induction s with
  | nil => intro _ _; simp
  | cons a s ih =>
    intro h hf
    obtain ⟨h1, h2⟩ := List.nodup_cons.mp h
    rw [List.map_cons, List.nodup_cons]
    refine ⟨fun hm => ?_, ih h2 fun x hx y hy => hf x (by simp [hx]) y (by simp [hy])⟩
    obtain ⟨b, hb, e⟩ := List.mem_map.mp hm
    have := hf b (by simp [hb]) a (by simp) e
    subst this
    exact h1 hb

theorem Keeps.nodup {pr : Nat → Nat → Prop} : ∀ {s : List Nat} {D : Nat → Prop}, Keeps pr D s → s.Nodup := by
  intro s
  induction s with
  | nil => intro D _; simp
  | cons a s ih =>
    intro D h
    obtain ⟨h1, h2, h3⟩ := h
    rw [List.nodup_cons]
    exact ⟨fun hm => h3.notin a hm (.inr rfl), ih h3⟩

section
variable {tab : Tab} {P : Program} {h0 : Nat} {sub : Fr → Nat → F (Value × Nat)} {all : Array Oper} {b : Frame} {cs : List Frame} {kk : List Item} {ds : List Deferred} {nt : Nat}

/-- One order that keeps what the run was looked at for. -/
theorem order_sound (ok : TabOK tab P) (hsub : SubOK P h0 sub) {L : List (Nat × Oper)} (hL : Numbers all L) (hd : dstsOk nt all.toList = true) {pr : Nat → Nat → Bool} {s : List Nat} (hk : Keeps (fun i j => pr i j = true) (fun _ => False) s) (hs : ∀ i, i ∈ s ↔ i < all.size)
    {X0 X' Xe : St} {n n' : Nat} (h : interp (regChk tab sub all pr L n) X0 = some (n', X')) (he : ∀ l, X'.get l = Xe.get l) {ρ : Ren} {w : World} {a : Act} (g : Good h0 ρ X0.H w.heap) (ha : AR ρ nt X0.T ds a) (fresh : ∀ id, n ≤ id → id < n' → ρ id = none) :
    ∃ ρ' w' a', Ext h0 ρ ρ' n n' Xe.H w w' ∧ AR ρ' nt Xe.T ds a' ∧ Steps P (lone (b.atR a (.inRegion all s :: kk)) cs w) (lone (b.atR a' (.inRegion all [] :: kk)) cs w') := by
  obtain ⟨X, N, tr, c, rfl, e2, rfl, rfl, hN, hap⟩ := regChk_canon h
  have hex : ∀ j, j < all.size → ∃ q, q < L.length ∧ noAt L q = j := by
    intro j hj
    obtain ⟨x, hx, e⟩ := List.mem_map.mp (hL.all j hj)
    obtain ⟨q, hq, e3⟩ := List.getElem_of_mem hx
    exact ⟨q, hq, by rw [noAt_eq hq, e3]; exact e⟩
  let pos : Nat → Nat := fun j => if h : j < all.size then (hex j h).choose else 0
  have hpos : ∀ j, j < all.size → pos j < L.length ∧ noAt L (pos j) = j := by
    intro j hj
    simp only [pos, dif_pos hj]
    exact (hex j hj).choose_spec
  have hinj : ∀ q, q < L.length → ∀ j, j < all.size → noAt L q = j → q = pos j := fun q hq j hj e => noAt_inj hL.nodup hq (hpos j hj).1 (by rw [(hpos j hj).2]; exact e)
  have hat : ∀ q, q < L.length → all[noAt L q]? = some (opAt L q) := fun q hq => by
    rw [noAt_eq hq, opAt_eq hq]; exact hL.at_ _ (List.getElem_mem hq)
  have hno : ∀ q, q < L.length → noAt L q < all.size := fun q hq => (Array.getElem?_eq_some_iff.mp (hat q hq)).1
  have hres := respects_of (pr := pr) (D' := fun _ => False) hpos hinj hk (fun i hi => (hs i).mp hi) (fun _ _ => Iff.rfl) (fun _ h => h.elim)
  have hmem : ∀ i, i ∈ s.map pos ↔ i < L.length := by
    intro i
    rw [List.mem_map]
    constructor
    · rintro ⟨j, hj, rfl⟩; exact (hpos j ((hs j).mp hj)).1
    · intro hi
      exact ⟨noAt L i, (hs _).mpr (hno i hi), (hinj i hi _ (hno i hi) rfl).symm⟩
  obtain ⟨Z, hz, hze⟩ := runs_eqv c hap (fun i j h => h.1) hmem hres
  have hnd : (s.map pos).Nodup := nodup_map hk.nodup fun x hx y hy e => by
    have h1 := (hpos x ((hs x).mp hx)).2
    have h2 := (hpos y ((hs y).mp hy)).2
    rw [e, h2] at h1
    exact h1.symm
  obtain ⟨ρ', w', a', x1, x2, x3⟩ := runs_sound (b := b) (cs := cs) (kk := kk) ok hsub hN hat hd (s.map pos) hz (fun q hq => (hmem q).mp hq) hnd g ha (by
    intro q hq id q1 q2
    have hq' := (hmem q).mp hq
    have b0 := mono_N hN (p := 0) (q := q) (by omega) (by omega)
    have b1 := mono_N hN (p := q + 1) (q := L.length) (by omega) (by omega)
    exact fresh id (by omega) (by omega))
  have hback : (s.map pos).map (noAt L) = s := by
    rw [List.map_map]
    conv => rhs; rw [← List.map_id s]
    apply List.map_congr_left
    intro x hx
    exact (hpos x ((hs x).mp hx)).2
  rw [hback] at x3
  have hget : ∀ l, Z.get l = Xe.get l := fun l => by rw [hze l, e2, he l]
  refine ⟨ρ', w', a', ⟨x1.le, x1.new, x1.good.eqv fun id => ?_, x1.below⟩, ⟨x2.tmps.eqv fun i => ?_, x2.size, x2.defers⟩, x3⟩
  · exact (hget (.o id)).symm
  · exact (cellOf_inj (hget (.t i))).symm

theorem precOr_iff {ms : List Nat} {i j a b : Nat} : precOr ms i j a b = true ↔ precB ms a b = true ∨ (a = i ∧ b = j) := by
  unfold precOr
  cases h : precB ms a b with
  | true => simp
  | false =>
    simp only [Bool.false_eq_true, false_or]
    cases h2 : Nat.beq a i with
    | true =>
      have := Nat.eq_of_beq_eq_true h2
      constructor
      · intro h3; exact ⟨this, Nat.eq_of_beq_eq_true h3⟩
      · rintro ⟨_, rfl⟩; exact Nat.beq_refl b
    | false =>
      constructor
      · intro h3; cases h3
      · rintro ⟨rfl, _⟩; rw [Nat.beq_refl] at h2; cases h2

theorem agree_eqv {X0 X1 X2 : St} {t1 t2 : Tr} (h1 : X1 = X0.apply t1.w) (h2 : X2 = X0.apply t2.w) (h : agree X1 X2 t1.bits t2.bits = true) : ∀ l, X2.get l = X1.get l := by
  unfold agree at h
  simp only [Bool.and_eq_true] at h
  obtain ⟨a1, a2, a3, a4⟩ := h
  have a1 := Nat.eq_of_beq_eq_true a1
  have a2 := Nat.eq_of_beq_eq_true a2
  intro l
  by_cases hw : l ∈ t1.w.map W.loc
  · cases l with
    | t i => exact (sameC_eq (eachBit_at a3 (wrote_t.mpr hw))).symm
    | o i => exact (sameC_eq (eachBit_at a4 (wrote_o.mpr hw))).symm
  · have hw2 : l ∉ t2.w.map W.loc := by
      intro h3
      apply hw
      cases l with
      | t i => exact wrote_t.mp (by rw [a1]; exact wrote_t.mpr h3)
      | o i => exact wrote_o.mp (by rw [a2]; exact wrote_o.mpr h3)
    rw [h1, h2, St.get_apply_of_not _ hw, St.get_apply_of_not _ hw2]

theorem early_perm (ms : List Nat) (j : Nat) (l : List (Nat × Oper)) : (early ms j l).Perm l := List.filter_append_perm _ _

theorem first_split {a : Nat} : ∀ {s : List Nat}, a ∈ s → ∃ s1 s2, s = s1 ++ a :: s2 ∧ a ∉ s1 := by
  intro s
  induction s with
  | nil => intro h; cases h
  | cons x s ih =>
    intro h
    by_cases e : a = x
    · exact ⟨[], s, by simp [e], by simp⟩
    · obtain ⟨s1, s2, h1, h2⟩ := ih (by simpa [e] using h)
      exact ⟨x :: s1, s2, by simp [h1], by simp [e, h2]⟩

theorem edgeOk_mem {i : Nat} {l : List Edge} (h : edgeOk i l = true) : ∀ e ∈ l, Region.binds .any e = true → e.on < i := by
  induction l with
  | nil => intro e he; cases he
  | cons a l ih =>
    have h' : Bool.rec (motive := fun _ => Bool) (edgeOk i l) (Bool.rec (motive := fun _ => Bool) false (edgeOk i l) (Nat.blt a.on i)) (Region.binds .any a) = true := h
    have key : (Region.binds .any a = true → a.on < i) ∧ edgeOk i l = true := by
      cases hb : Region.binds .any a with
      | false => rw [hb] at h'; exact ⟨fun e => by simp at e, h'⟩
      | true =>
        rw [hb] at h'
        cases hc : Nat.blt a.on i with
        | false => rw [hc] at h'; cases h'
        | true => rw [hc] at h'; exact ⟨fun _ => Nat.le_of_ble_eq_true hc, h'⟩
    intro e he
    cases he with
    | head => exact key.1
    | tail _ he => exact ih key.2 e he
theorem edgesOk_mem {l : List (Nat × Oper)} (h : edgesOk l = true) : ∀ x ∈ l, edgeOk x.1 x.2.after.toList = true := by
  induction l with
  | nil => intro e he; cases he
  | cons a l ih =>
    have h' : Bool.rec (motive := fun _ => Bool) false (edgesOk l) (edgeOk a.1 a.2.after.toList) = true := h
    cases hb : edgeOk a.1 a.2.after.toList with
    | false => rw [hb] at h'; cases h'
    | true =>
      rw [hb] at h'
      intro e he
      cases he with
      | head => exact hb
      | tail _ he => exact ih h' e he

theorem regRun_sound (ok : TabOK tab P) (hsub : SubOK P h0 sub) (hd : dstsOk nt all.toList = true) {s : List Nat} (hdir : Direct .any all (fun _ => False) s) (hall : ∀ i, i < all.size → i ∈ s) {o : Option (Nat × Nat)}
    {X0 X' : St} {n n' : Nat} (h : interp (regRun tab sub all (masks all.toList []) (numbered all.toList 0) n o) X0 = some (n', X')) {ρ : Ren} {w : World} {a : Act} (g : Good h0 ρ X0.H w.heap) (ha : AR ρ nt X0.T ds a) (fresh : ∀ id, n ≤ id → id < n' → ρ id = none) :
    ∃ ρ' w' a', Ext h0 ρ ρ' n n' X'.H w w' ∧ AR ρ' nt X'.T ds a' ∧ Steps P (lone (b.atR a (.inRegion all s :: kk)) cs w) (lone (b.atR a' (.inRegion all [] :: kk)) cs w') := by
  have hk := keeps_of_direct hdir (fun _ _ h => h.elim)
  have hlt : ∀ {s : List Nat} {D : Nat → Prop}, Direct .any all D s → ∀ i ∈ s, i < all.size := by
    intro s
    induction s with
    | nil => intro D _ i hi; cases hi
    | cons x s ih =>
      intro D hD i hi
      cases hi with
      | head => exact hD.1
      | tail _ hi => exact ih hD.2.2.2 i hi
  have hs : ∀ i, i ∈ s ↔ i < all.size := fun i => ⟨hlt hdir i, hall i⟩
  have hnum := numbered_numbers all
  unfold regRun at h
  split at h
  · exact order_sound ok hsub hnum hd hk hs h (fun _ => rfl) g ha fresh
  · rename_i x
    obtain ⟨hx, h2⟩ := i_ifB.mp h
    have hx' : x.1 < x.2 := Nat.le_of_ble_eq_true hx
    obtain ⟨t1, n2, X2, t2, h3, h4, h5, h6⟩ := i_both h2
    have h5 := Nat.eq_of_beq_eq_true h5
    subst h5
    have e1 := (local_ _ _ _ _ _ h3).1
    have e2 := (local_ _ _ _ _ _ h4).1
    have hag := agree_eqv e1 e2 h6
    have one : (x.2 ∉ s ∨ ∃ s1 s2, s = s1 ++ x.1 :: s2 ∧ x.2 ∉ s1) → ∃ ρ' w' a', Ext h0 ρ ρ' n n' X'.H w w' ∧ AR ρ' nt X'.T ds a' ∧ Steps P (lone (b.atR a (.inRegion all s :: kk)) cs w) (lone (b.atR a' (.inRegion all [] :: kk)) cs w') := by
      intro hc
      have hk2 := hk.pair (a := x.1) (b := x.2) (fun _ _ => trivial) (hc.imp (fun h => h) .inr) (by omega)
      refine order_sound ok hsub hnum hd (pr := precOr (masks all.toList []) x.1 x.2) ?_ hs (interp_of_T h3) (fun _ => rfl) g ha fresh
      have e : (fun i j => precOr (masks all.toList []) x.1 x.2 i j = true) = fun i j => precB (masks all.toList []) i j = true ∨ (i = x.1 ∧ j = x.2) := by
        funext i j; exact propext precOr_iff
      rw [e]; exact hk2
    have two : (x.1 ∉ s ∨ ∃ s1 s2, s = s1 ++ x.2 :: s2 ∧ x.1 ∉ s1) → ∃ ρ' w' a', Ext h0 ρ ρ' n n' X'.H w w' ∧ AR ρ' nt X'.T ds a' ∧ Steps P (lone (b.atR a (.inRegion all s :: kk)) cs w) (lone (b.atR a' (.inRegion all [] :: kk)) cs w') := by
      intro hc
      have hk2 := hk.pair (a := x.2) (b := x.1) (fun _ _ => trivial) (hc.imp (fun h => h) .inr) (by omega)
      refine order_sound ok hsub (hnum.perm (early_perm _ _ _)) hd (pr := precOr (masks all.toList []) x.2 x.1) ?_ hs (interp_of_T h4) hag g ha fresh
      have e : (fun i j => precOr (masks all.toList []) x.2 x.1 i j = true) = fun i j => precB (masks all.toList []) i j = true ∨ (i = x.2 ∧ j = x.1) := by
        funext i j; exact propext precOr_iff
      rw [e]; exact hk2
    by_cases hi : x.1 ∈ s
    · obtain ⟨s1, s2, q1, q2⟩ := first_split hi
      by_cases hj : x.2 ∈ s1
      · obtain ⟨u1, u2, q3, q4⟩ := first_split hj
        exact two (.inr ⟨u1, u2 ++ x.1 :: s2, by rw [q1, q3]; simp, fun h => q2 (by rw [q3]; simp [h])⟩)
      · exact one (.inr ⟨s1, s2, q1, hj⟩)
    · exact two (.inl hi)

variable {f0 : FuncId} {fr : Fr} {crs : List Fr} {fs : List Frame} {res : Res} {k : List AIt} {ρ : Ren} {X X' : St} {w : World} {n : Nat} {a : Act}

theorem draw_sound (ok : TabOK tab P) (hsub : SubOK P h0 sub) (c : Ctx ρ h0 f0 X w fr crs b fs) (ha : AR ρ fr.nt fr.T fr.defers a) (ht : TodoR ρ fr.nt k kk) (hd : dstsOk fr.nt all.toList = true) (fresh : ∀ id, n ≤ id → id < resN res → ρ id = none) {id : Nat}
    (h : interp (drawF tab sub fr crs n k all) X = some (res, X')) : StepOK P h0 f0 cs (lone (b.atR a (.code (.region id all true) :: kk)) (fs ++ cs) w) ρ X X' w n res := by
  obtain ⟨h1, h2⟩ := i_ifB.mp (show interp (ifB (edgesOk (numbered all.toList 0)) <| .bind (.localT fr.T (regRun tab sub all (masks all.toList []) (numbered all.toList 0) n (swapOf (masks all.toList []) (numbered all.toList 0)))) fun x => .pure (Res.next (mkFr fr x.2 k fr.defers :: crs) x.1)) X = some (res, X') from h)
  obtain ⟨x, X1, h3, h4⟩ := i_bind.mp h2
  obtain ⟨rfl, rfl⟩ := i_pure_inv h4
  obtain ⟨X2, h5, h6, rfl⟩ := i_localT h3
  have hedge : ∀ (i : Nat) (o : Oper), all[i]? = some o → ∀ e ∈ o.after, Region.binds .any e = true → e.on < i := by
    intro i o ho e he hb
    have hm : (i, o) ∈ numbered all.toList 0 := by
      refine List.mem_of_getElem? (i := i) ?_
      rw [numbered_at]
      simp [ho]
    exact edgeOk_mem (edgesOk_mem h1 _ hm) e (by simpa using he) hb
  obtain ⟨d1, d2⟩ := schedule_ok hedge (w.tape w.drawn (.order b.fn id))
  rw [← ok.mixed] at d1 d2
  obtain ⟨ρ', w', a', e1, r1, s1⟩ := regRun_sound (b := b) (cs := fs ++ cs) (kk := kk) (w := { w with drawn := w.drawn + 1 }) ok hsub hd d1 d2 h5 c.g ha fresh
  have hbelow : Below h0 w { w with drawn := w.drawn + 1 } := ⟨rfl, rfl, rfl, Nat.le_refl _, fun _ _ => rfl⟩
  refine ⟨rfl, ρ', w', ⟨e1.le, e1.new, e1.good, hbelow.trans e1.below⟩, .next (.cons (.mk (c.hb.mono e1.le) ?_ (ht.mono e1.le)) (c.hcs.mono e1.le)) c.hl (.head stepR_region_draw (s1.trans (.one stepR_region_end)))⟩
  rw [h6]; exact r1
end
end Ae

/- A whole run. -/
namespace Ae
open Go Go.RowKit

section
variable {tab : Tab} {P : Program} {h0 : Nat} {f0 : FuncId} {sub : Fr → Nat → F (Value × Nat)} {fr : Fr} {crs : List Fr} {b : Frame} {fs cs : List Frame} {res : Res} {k : List AIt} {kk : List Item} {ρ : Ren} {X X' : St} {w : World} {n : Nat} {a : Act}

theorem code_sound (ok : TabOK tab P) (hsub : SubOK P h0 sub) (c : Ctx ρ h0 f0 X w fr crs b fs) (ha : AR ρ fr.nt fr.T fr.defers a) (ht : TodoR ρ fr.nt k kk) (fresh : ∀ id, n ≤ id → id < resN res → ρ id = none) {x : Code}
    (h : interp (codeK x tab sub fr crs n k) X = some (res, X')) : StepOK P h0 f0 cs (lone (b.atR a (.code x :: kk)) (fs ++ cs) w) ρ X X' w n res := by
  cases x with
  | ret => exact ret_sound c ha h
  | skip => exact to_sound c ha ht h stepR_skip
  | label l => exact to_sound c ha ht h stepR_label
  | seq x y => exact to_sound c ha (.cons (.code x) (.cons (.code y) ht)) h stepR_seq
  | cond x y z => exact cond_sound c ha ht h
  | block id body => exact to_sound c ha (.cons (.code body) (.cons (.inBlock id) ht)) h stepR_block
  | loop body => exact to_sound c ha (.cons (.code body) (.cons (.inLoop body) ht)) h stepR_loop
  | scope body => exact to_sound c ha (.cons (.code body) (.cons (.inScope body) ht)) h (step_lone_go (by simp [stepG, stepG.exec, Frame.atR]))
  | exit id => exact exit_sound c ha ht h
  | rangeFunc f params assign body => exact rangeFunc_sound ok c ha ht fresh h
  | region id all draw =>
    obtain ⟨h1, h2⟩ := i_ifB.mp (show interp (ifB (dstsOk fr.nt all.toList) (Bool.rec (motive := fun _ => F Res) (opsF tab fr crs all k all.toList 0 fr.T n) (drawF tab sub fr crs n k all) draw)) X = some (res, X') from h)
    cases draw with
    | true => exact draw_sound ok hsub c ha ht h1 fresh h2
    | false =>
      have hu := opsF_up _ _ _ h2
      have := opsF_sound (cs := cs) ok all.toList (i := 0) c ha ht rfl h1 fresh h2
      rw [show List.range' 0 all.toList.length = List.range all.size by rw [List.range_eq_range']; rfl] at this
      exact this.of_steps (.one stepR_region) rfl (.refl c.g) (Nat.le_refl n) hu
  | _ => cases h

theorem item_sound (ok : TabOK tab P) (hsub : SubOK P h0 sub) (c : Ctx ρ h0 f0 X w fr crs b fs) (ha : AR ρ fr.nt fr.T fr.defers a) (ht : TodoR ρ fr.nt k kk) (fresh : ∀ id, n ≤ id → id < resN res → ρ id = none) {x : AIt} {y : Item} (hi : ItR ρ fr.nt x y)
    (h : interp (itemK x tab sub fr crs n k) X = some (res, X')) : StepOK P h0 f0 cs (lone (b.atR a (y :: kk)) (fs ++ cs) w) ρ X X' w n res := by
  cases hi with
  | code x => exact code_sound ok hsub c ha ht fresh h
  | inBlock id => exact to_sound c ha ht h stepR_inBlock
  | inLoop body => exact to_sound c ha (.cons (.code body) (.cons (.inLoop body) ht)) h stepR_inLoop
  | inScope body => exact to_sound c ha ht h (step_lone_go (by simp [stepG, stepG.exec, Frame.atR]))
  | ops e hd => exact opsF_sound ok _ c ha ht e hd fresh h
  | inRangeFunc hp => cases h
  | endRangeFunc hp => exact endLoop_sound c ha ht hp h
  | beginRound => exact begin_sound c ha ht h

theorem step_sound (ok : TabOK tab P) (hsub : SubOK P h0 sub) {frs : List Fr} {f : Frame} (g : Good h0 ρ X.H w.heap) (hf : FrsR ρ frs (f :: fs)) (hl : lastFn f.fn fs = f0) (fresh : ∀ id, n ≤ id → id < resN res → ρ id = none)
    (h : interp (stepF tab sub frs n) X = some (res, X')) : StepOK P h0 f0 cs (lone f (fs ++ cs) w) ρ X X' w n res := by
  cases hf with
  | @cons fr _ crs _ hfr hcs =>
    have h' : interp (stepFr tab sub fr crs n) X = some (res, X') := h
    unfold stepFr at h'
    cases hfr with
    | @run b a todo hret hb ha ht =>
      rw [hret] at h'
      simp only at h'
      have c : Ctx ρ h0 f0 X w fr crs b fs := ⟨g, hb, hcs, hl⟩
      split at h'
      · rename_i htodo
        rw [htodo] at ht
        rw [ht.nil_inv]
        exact end_sound c ha h'
      · rename_i it k htodo
        rw [htodo] at ht
        obtain ⟨y, kk, rfl, hi, hk⟩ := ht.cons_inv
        exact item_sound ok hsub c ha hk fresh hi h'
    | ret hret he hr hm hb ha =>
      rw [hret] at h'
      exact retF_sound ok g he hret hr hm hb ha hcs hl h'
end

theorem run_sound {tab : Tab} {P : Program} {h0 : Nat} (ok : TabOK tab P) : ∀ (fuel : Nat) {frs : List Fr} {n : Nat} {X X' : St} {y : Value × Nat} {ρ : Ren} {w : World} {f : Frame} {fs : List Frame} {f0 : FuncId} (cs : List Frame),
    interp (run tab fuel frs n) X = some (y, X') → Good h0 ρ X.H w.heap → (∀ id, n ≤ id → id < y.2 → ρ id = none) → FrsR ρ frs (f :: fs) → lastFn f.fn fs = f0 →
    X'.T = X.T ∧ ∃ ρ' w' f' v', Ext h0 ρ ρ' n y.2 X'.H w w' ∧ f'.fn = f0 ∧ f'.leaving P w' (.returned v') ∧ Steps P (lone f (fs ++ cs) w) (lone f' cs w') ∧ VR ρ' y.1 v' := by
  intro fuel
  induction fuel with
  | zero => intro frs n X X' y ρ w f fs f0 cs h; cases h
  | succ fuel ih =>
    intro frs n X X' y ρ w f fs f0 cs h g fresh hf hl
    rw [run_succ] at h
    obtain ⟨res, X1, h1, h2⟩ := i_bind.mp h
    have hsub : SubOK P h0 (fun e n => run tab fuel [e] n) := by
      refine ⟨fun h => run_up h, fun cs h g fr hf => ?_⟩
      obtain ⟨k1, ρ', w', f', v', k2, k3, k4, k5, k6⟩ := ih cs h g fr (.cons hf .nil) rfl
      exact ⟨k1, ρ', w', f', v', k2, k3, k4, k5, k6⟩
    have hup := stepF_up _ _ _ h1
    have hle : resN res ≤ y.2 := by
      cases res with
      | done v m => obtain ⟨rfl, rfl⟩ := i_pure_inv (show interp (.pure (v, m)) X1 = some (y, X') from h2); exact Nat.le_refl _
      | next frs m => exact run_up (show interp (run tab fuel frs m) X1 = some (y, X') from h2)
    obtain ⟨k1, ρ1, w1, e1, r1⟩ := step_sound (cs := cs) ok hsub g hf hl (fun id q1 q2 => fresh id q1 (Nat.lt_of_lt_of_le q2 hle)) h1
    cases r1 with
    | @done v m f' v' q1 q2 q3 q4 =>
      obtain ⟨rfl, rfl⟩ := i_pure_inv (show interp (.pure (v, m)) X1 = some (y, X') from h2)
      exact ⟨k1, ρ1, w1, f', v', e1, q1, q2, q3, q4⟩
    | @next frs m f2 fs2 q1 q2 q3 =>
      obtain ⟨j1, ρ2, w2, f', v', j2, j3, j4, j5, j6⟩ := ih cs (show interp (run tab fuel frs m) X1 = some (y, X') from h2) e1.good (e1.fresh fresh hup) q1 q2
      exact ⟨j1.trans k1, ρ2, w2, f', v', e1.trans j2 hup hle, j3, j4, q3.trans j5, j6⟩

/-- WHAT IS EVALUATED TO TRUE IS TRUE OF EACH RUN. -/
theorem eval_sound {tab : Tab} {P : Program} (ok : TabOK tab P) {fn : Func} {f : FuncId} {e : Fr} (hf : tab.fn.at_ f = some fn) (he : enterFr fn f [] .normal = some e) {fuel : Nat} {yes : Value × Nat → St → Bool}
    (hyes : ∀ y X, yes y X = true → y.1 = .bool true) (h : evalB (run tab fuel [e] 0) ⟨Trie.nil, Trie.nil⟩ yes = true) (w : World) :
    Calls P f #[] w fun e w' => e = .returned (.bool true) ∧ Below w.heap.size w w' := by
  intro cs
  obtain ⟨y, X', h1, h2⟩ := evalB_some _ _ _ h
  have h3 := hyes y X' h2
  have g : Good w.heap.size (fun _ => none) (Trie.nil : Trie Cell) w.heap := by
    refine ⟨fun id c h => ?_, fun i j c d p q h => ?_, Nat.le_refl _⟩
    · rw [Trie.at_nil] at h; cases h
    · rw [Trie.at_nil] at h; cases h
  have hfr : interp (frameF tab f [] .normal) ⟨Trie.nil, Trie.nil⟩ = some (e, ⟨Trie.nil, Trie.nil⟩) := by
    refine i_optB.mpr ⟨fn, hf, i_opt.mpr ⟨he, rfl⟩⟩
  obtain ⟨_, _, _, k1, k2⟩ := enter_sound (P := P) (ρ := fun _ => none) (args' := #[]) ok (.nil _) hfr
  obtain ⟨_, ρ', w', f', v', j2, j3, j4, j5, j6⟩ := run_sound ok fuel cs h1 g (fun _ _ _ => rfl) (.cons k1 .nil) rfl
  rw [h3] at j6
  have hv : v' = .bool true := by cases j6; rfl
  subst hv
  exact ⟨.returned (.bool true), w', f', ⟨rfl, j2.below⟩, j5, j3.trans k2, j4⟩
end Ae
