/- The evaluator is right at the steps of one frame. -/
import Derived.Test.YtfahiennamklgaaGreatDoorA09
import Derived.AtR

set_option linter.all false
set_option linter.unusedVariables false
set_option linter.unusedSimpArgs false
set_option linter.deprecated false

/- Frames, here and in the model. -/
namespace Ae
open Go Go.RowKit

inductive ItR (ρ : Ren) (nt : Nat) : AIt → Item → Prop
  | code (c : Code) : ItR ρ nt (.code c) (.code c)
  | inBlock (id : Nat) : ItR ρ nt (.inBlock id) (.inBlock id)
  | inLoop (c : Code) : ItR ρ nt (.inLoop c) (.inLoop c)
  | inScope (c : Code) : ItR ρ nt (.inScope c) (.inScope c)
  | ops {all : Array Oper} {i : Nat} {rest : List Oper} (h : all.toList.drop i = rest) (hd : dstsOk nt rest = true) : ItR ρ nt (.ops all i rest) (.inRegion all (List.range' i rest.length))
  | inRangeFunc {l : Nat} {p : Place} (h : ρ l = some p) : ItR ρ nt (.inRangeFunc l) (.inRangeFunc p.blk)
  | endRangeFunc {l : Nat} {p : Place} (h : ρ l = some p) : ItR ρ nt (.endRangeFunc l) (.endRangeFunc p.blk)
  | beginRound : ItR ρ nt .beginRound .beginRound

inductive TodoR (ρ : Ren) (nt : Nat) : List AIt → List Item → Prop
  | nil : TodoR ρ nt [] []
  | cons {a : AIt} {b : Item} {k : List AIt} {l : List Item} (h : ItR ρ nt a b) (t : TodoR ρ nt k l) : TodoR ρ nt (a :: k) (b :: l)

inductive DefsR (ρ : Ren) : List Deferred → List Deferred → Prop
  | nil : DefsR ρ [] []
  | cons {a b : Deferred} {k l : List Deferred} (h : DefR ρ a b) (t : DefsR ρ k l) : DefsR ρ (a :: k) (b :: l)

inductive RoundR (ρ : Ren) : Option Nat → Option Nat → Prop
  | none : RoundR ρ none none
  | some {l : Nat} {p : Place} (h : ρ l = some p) : RoundR ρ (some l) (some p.blk)

theorem ItR.mono {ρ σ : Ren} (h : Ren.le ρ σ) {nt : Nat} {a : AIt} {b : Item} (r : ItR ρ nt a b) : ItR σ nt a b := by
  cases r with
  | code c => exact .code c
  | inBlock id => exact .inBlock id
  | inLoop c => exact .inLoop c
  | inScope c => exact .inScope c
  | ops e hd => exact .ops e hd
  | inRangeFunc e => exact .inRangeFunc (h _ _ e)
  | endRangeFunc e => exact .endRangeFunc (h _ _ e)
  | beginRound => exact .beginRound
theorem TodoR.mono {ρ σ : Ren} (h : Ren.le ρ σ) {nt : Nat} {a : List AIt} {b : List Item} (r : TodoR ρ nt a b) : TodoR σ nt a b := by
  induction r with
  | nil => exact .nil
  | cons e _ ih => exact .cons (e.mono h) ih
theorem DefsR.mono {ρ σ : Ren} (h : Ren.le ρ σ) {a b : List Deferred} (r : DefsR ρ a b) : DefsR σ a b := by
  induction r with
  | nil => exact .nil
  | cons e _ ih => exact .cons (e.mono h) ih
theorem RoundR.mono {ρ σ : Ren} (h : Ren.le ρ σ) {a b : Option Nat} (r : RoundR ρ a b) : RoundR σ a b := by
  cases r with
  | none => exact .none
  | some e => exact .some (h _ _ e)

theorem DefsR.append {ρ : Ren} {a b c d : List Deferred} (r : DefsR ρ a b) (s : DefsR ρ c d) : DefsR ρ (a ++ c) (b ++ d) := by
  induction r with
  | nil => exact s
  | cons e _ ih => exact .cons e ih

/-- What of a frame does not turn. -/
structure BR (ρ : Ren) (fr : Fr) (b : Frame) : Prop where
  fn : b.fn = fr.fn
  kind : b.kind = fr.kind
  round : RoundR ρ fr.roundOf b.roundOf

structure AR (ρ : Ren) (nt : Nat) (T : Trie Value) (ds : List Deferred) (a : Act) : Prop where
  tmps : TR ρ T a.tmps
  size : nt ≤ a.tmps.size
  defers : DefsR ρ ds a.defers

inductive FrR (ρ : Ren) : Fr → Frame → Prop
  | run {fr : Fr} {b : Frame} {a : Act} {todo : List Item} (h : fr.ret = false) (hb : BR ρ fr b) (ha : AR ρ fr.nt fr.T fr.defers a) (ht : TodoR ρ fr.nt fr.todo todo) : FrR ρ fr (b.atR a todo)
  | ret {fr : Fr} {f : Frame} (h : fr.ret = true) (he : fr.todo = []) (hr : fr.roundOf = none) (hm : f.mode = .returning) (hb : BR ρ fr f) (ha : AR ρ fr.nt fr.T fr.defers ⟨f.tmps, f.defers⟩) : FrR ρ fr f

inductive FrsR (ρ : Ren) : List Fr → List Frame → Prop
  | nil : FrsR ρ [] []
  | cons {a : Fr} {b : Frame} {k : List Fr} {l : List Frame} (h : FrR ρ a b) (t : FrsR ρ k l) : FrsR ρ (a :: k) (b :: l)

theorem BR.mono {ρ σ : Ren} (h : Ren.le ρ σ) {fr : Fr} {b : Frame} (r : BR ρ fr b) : BR σ fr b := ⟨r.fn, r.kind, r.round.mono h⟩
theorem AR.mono {ρ σ : Ren} (h : Ren.le ρ σ) {nt : Nat} {T : Trie Value} {ds : List Deferred} {a : Act} (r : AR ρ nt T ds a) : AR σ nt T ds a := ⟨r.tmps.mono h, r.size, r.defers.mono h⟩
theorem FrR.mono {ρ σ : Ren} (h : Ren.le ρ σ) {fr : Fr} {f : Frame} (r : FrR ρ fr f) : FrR σ fr f := by
  cases r with
  | run e hb ha ht => exact .run e (hb.mono h) (ha.mono h) (ht.mono h)
  | ret e he hr hm hb ha => exact .ret e he hr hm (hb.mono h) (ha.mono h)
theorem FrsR.mono {ρ σ : Ren} (h : Ren.le ρ σ) {a : List Fr} {b : List Frame} (r : FrsR ρ a b) : FrsR σ a b := by
  induction r with
  | nil => exact .nil
  | cons e _ ih => exact .cons (e.mono h) ih

theorem FrR.mk {ρ : Ren} {fr : Fr} {b : Frame} {a : Act} {T : Trie Value} {todo : List AIt} {todo' : List Item} {ds : List Deferred} (hb : BR ρ fr b) (ha : AR ρ fr.nt T ds a) (ht : TodoR ρ fr.nt todo todo') :
    FrR ρ (mkFr fr T todo ds) (b.atR a todo') := .run rfl ⟨hb.fn, hb.kind, hb.round⟩ ha ht

theorem AR.put {ρ : Ren} {nt : Nat} {T : Trie Value} {ds : List Deferred} {a : Act} (r : AR ρ nt T ds a) {d : Option Tmp} {v v' : Value} (hv : VR ρ v v') (hd : dstOk nt d = true) : AR ρ nt (putDst T d v) ds (a.put d v') := by
  cases d with
  | none => exact r
  | some d =>
    have hlt : d < nt := Nat.le_of_ble_eq_true hd
    exact ⟨r.tmps.put hv (Nat.lt_of_lt_of_le hlt r.size), by simpa [Act.put] using r.size, r.defers⟩

theorem dstsOk_cons {nt : Nat} {o : Oper} {l : List Oper} (h : dstsOk nt (o :: l) = true) : dstOk nt o.dst = true ∧ dstsOk nt l = true := by
  have h' : Bool.rec (motive := fun _ => Bool) false (dstsOk nt l) (dstOk nt o.dst) = true := h
  cases hv : dstOk nt o.dst with
  | false => rw [hv] at h'; cases h'
  | true => rw [hv] at h'; exact ⟨rfl, h'⟩

theorem dstsOk_mem {nt : Nat} {l : List Oper} (h : dstsOk nt l = true) {o : Oper} (ho : o ∈ l) : dstOk nt o.dst = true := by
  induction l with
  | nil => cases ho
  | cons x l ih =>
    obtain ⟨h1, h2⟩ := dstsOk_cons h
    cases ho with
    | head => exact h1
    | tail _ ho => exact ih h2 ho

/-- The reading of operands, the temporaries being at hand. -/
theorem readsT {ρ : Ren} {T T0 : Trie Value} {a : Act} (h : TR ρ T a.tmps) : Reads ρ T0 (opdT T) a.eval := by
  intro x X X' v _ hi
  cases x with
  | tmp t =>
    obtain ⟨h1, h2⟩ := i_opt.mp (show interp (opt (T.at_ t)) X = some (v, X') from hi)
    have := h t
    rw [h1] at this
    obtain ⟨v', h3, h4⟩ := this
    exact ⟨h2, by simpa [Act.eval, Array.getD_eq_getD_getElem?, h3] using h4⟩
  | const c =>
    obtain ⟨h1, h2⟩ := i_ifB.mp (show interp (ifB (fl c) (.pure c)) X = some (v, X') from hi)
    obtain ⟨rfl, rfl⟩ := i_pure_inv h2
    exact ⟨rfl, fl_refl h1⟩
  | global g => cases hi
  | func f =>
    obtain ⟨rfl, rfl⟩ := i_pure_inv (show interp (.pure (.func (.func f) #[] #[])) X = some (v, X') from hi)
    exact ⟨rfl, .func' (.same _ rfl) (.nil ρ) (.nil ρ)⟩

theorem VR.bool_iff {ρ : Ren} {v v' : Value} (h : VR ρ v v') (b : Bool) : v = .bool b ↔ v' = .bool b := by
  cases h <;> simp

theorem boolIs_eq {b : Bool} {c : Option Value} : boolIs b c = true ↔ c = some (.bool b) := by
  unfold boolIs
  cases c with
  | none => simp
  | some v => cases v <;> simp <;> (try (rename_i x; cases x <;> cases b <;> simp))

theorem yielded_some {all : Array Oper} {tmps : Array Value} {j : Nat} {b : Bool} : yielded all tmps j = some b ↔ ∃ d, (all[j]?).bind (·.dst) = some d ∧ tmps[d]? = some (.bool b) := by
  unfold yielded
  cases h1 : (all[j]?).bind (·.dst) with
  | none => simp
  | some d =>
    cases h2 : tmps[d]? with
    | none => simp [h2]
    | some v => cases v <;> simp [h2]

theorem guardDst_eq {all : Array Oper} {j : Nat} : guardDst all j = (all[j]?).bind (·.dst) := by
  unfold guardDst
  rw [nth_eq]
  simp only [Array.getElem?_toList]
  cases all[j]? <;> rfl

theorem TR.bool_iff {ρ : Ren} {T : Trie Value} {tmps : Array Value} (h : TR ρ T tmps) {d : Nat} {b : Bool} : T.at_ d = some (.bool b) ↔ tmps[d]? = some (.bool b) := by
  have := h d
  cases hT : T.at_ d with
  | none =>
    rw [hT] at this
    rcases this with e | e <;> rw [e] <;> simp [undef]
  | some v =>
    rw [hT] at this
    obtain ⟨v', h1, h2⟩ := this
    rw [h1]
    simp only [Option.some.injEq]
    exact h2.bool_iff b

theorem Bool.eq_of {a b : Bool} (h : a = true ↔ b = true) : a = b := by cases a <;> cases b <;> simp_all

theorem wanted_eq {ρ : Ren} {all : Array Oper} {T : Trie Value} {tmps : Array Value} (h : TR ρ T tmps) (o : Oper) : Region.wanted o (yielded all tmps) = wantedT all T o.guard := by
  unfold Region.wanted wantedT
  cases hg : o.guard with
  | none => rfl
  | some g =>
    obtain ⟨j, want⟩ := g
    simp only
    apply Bool.eq_of
    rw [beq_iff_eq, yielded_some, guardDst_eq]
    cases hd : (all[j]?).bind (·.dst) with
    | none => simp
    | some d =>
      simp only [Option.some.injEq]
      rw [boolIs_eq, h.bool_iff]
      exact ⟨fun ⟨d', e1, e2⟩ => e1 ▸ e2, fun e => ⟨d, rfl, e⟩⟩

def lastFn : FuncId → List Frame → FuncId
  | x, [] => x
  | _, g :: gs => lastFn g.fn gs

structure Ext (h0 : Nat) (ρ ρ' : Ren) (n n' : Nat) (H' : Trie Cell) (w w' : World) : Prop where
  le : Ren.le ρ ρ'
  new : ∀ id p, ρ' id = some p → ρ id = some p ∨ (n ≤ id ∧ id < n')
  good : Good h0 ρ' H' w'.heap
  below : Below h0 w w'

theorem Ext.refl {h0 : Nat} {ρ : Ren} {n n' : Nat} {H : Trie Cell} {w : World} (g : Good h0 ρ H w.heap) : Ext h0 ρ ρ n n' H w w := ⟨Ren.le_refl ρ, fun _ _ h => .inl h, g, .refl _ _⟩

theorem Ext.trans {h0 : Nat} {ρ ρ1 ρ2 : Ren} {n n1 n2 : Nat} {H1 H2 : Trie Cell} {w w1 w2 : World} (a : Ext h0 ρ ρ1 n n1 H1 w w1) (b : Ext h0 ρ1 ρ2 n1 n2 H2 w1 w2) (h1 : n ≤ n1) (h2 : n1 ≤ n2) : Ext h0 ρ ρ2 n n2 H2 w w2 :=
  ⟨a.le.trans b.le, fun id p h => by
    rcases b.new id p h with h | ⟨h3, h4⟩
    · rcases a.new id p h with h | ⟨h3, h4⟩
      · exact .inl h
      · exact .inr ⟨h3, by omega⟩
    · exact .inr ⟨by omega, h4⟩, b.good, a.below.trans b.below⟩

/-- What is new after a step is new for the next. -/
theorem Ext.fresh {h0 : Nat} {ρ ρ' : Ren} {n n1 n2 : Nat} {H : Trie Cell} {w w' : World} (a : Ext h0 ρ ρ' n n1 H w w') (fr : ∀ id, n ≤ id → id < n2 → ρ id = none) (h : n ≤ n1) : ∀ id, n1 ≤ id → id < n2 → ρ' id = none := by
  intro id h1 h2
  cases h3 : ρ' id with
  | none => rfl
  | some p =>
    rcases a.new id p h3 with h4 | ⟨_, h5⟩
    · rw [fr id (by omega) h2] at h4; cases h4
    · omega

/-- Where the machine comes to. -/
inductive ResR (P : Program) (f0 : FuncId) (cs : List Frame) (m : Machine) (ρ : Ren) (w : World) : Res → Prop
  | next {frs : List Fr} {n : Nat} {f : Frame} {fs : List Frame} (h : FrsR ρ frs (f :: fs)) (e : lastFn f.fn fs = f0) (s : Steps P m (lone f (fs ++ cs) w)) : ResR P f0 cs m ρ w (.next frs n)
  | done {v : Value} {n : Nat} {f : Frame} {v' : Value} (e : f.fn = f0) (l : f.leaving P w (.returned v')) (s : Steps P m (lone f cs w)) (r : VR ρ v v') : ResR P f0 cs m ρ w (.done v n)

def StepOK (P : Program) (h0 : Nat) (f0 : FuncId) (cs : List Frame) (m : Machine) (ρ : Ren) (X X' : St) (w : World) (n : Nat) (res : Res) : Prop :=
  X'.T = X.T ∧ ∃ ρ' w', Ext h0 ρ ρ' n (resN res) X'.H w w' ∧ ResR P f0 cs m ρ' w' res

theorem ResR.of_steps {P : Program} {f0 : FuncId} {cs : List Frame} {m m1 : Machine} {ρ : Ren} {w : World} {res : Res} (s : Steps P m m1) (r : ResR P f0 cs m1 ρ w res) : ResR P f0 cs m ρ w res := by
  cases r with
  | next h e s2 => exact .next h e (s.trans s2)
  | done e l s2 r => exact .done e l (s.trans s2) r

theorem StepOK.of_steps {P : Program} {h0 : Nat} {f0 : FuncId} {cs : List Frame} {m m1 : Machine} {ρ ρ1 : Ren} {X X1 X' : St} {w w1 : World} {n n1 : Nat} {res : Res} (s : Steps P m m1) (hT : X1.T = X.T) (e : Ext h0 ρ ρ1 n n1 X1.H w w1) (h1 : n ≤ n1) (h2 : n1 ≤ resN res)
    (r : StepOK P h0 f0 cs m1 ρ1 X1 X' w1 n1 res) : StepOK P h0 f0 cs m ρ X X' w n res := by
  obtain ⟨a, ρ', w', b, c⟩ := r
  exact ⟨a.trans hT, ρ', w', e.trans b h1 h2, c.of_steps s⟩

/-- One step of the machine, and nothing turns but the frame in front. -/
theorem StepOK.stay {P : Program} {h0 : Nat} {f0 : FuncId} {cs : List Frame} {ρ : Ren} {X X' : St} {w : World} {n : Nat} {frs : List Fr} {f' : Frame} {fs : List Frame} {m : Machine} (g : Good h0 ρ X.H w.heap) (hX : X' = X)
    (h : FrsR ρ frs (f' :: fs)) (e : lastFn f'.fn fs = f0) (s : step P m = .next (lone f' (fs ++ cs) w)) : StepOK P h0 f0 cs m ρ X X' w n (.next frs n) := by
  subst hX
  exact ⟨rfl, ρ, w, .refl g, .next h e (.one s)⟩
end Ae

/- Steps of one frame. -/
namespace Ae
open Go Go.RowKit

section
variable {tab : Tab} {P : Program} {h0 : Nat} {ρ : Ren} {X X' : St} {w : World} {n : Nat}

theorem TodoR.cons_inv {nt : Nat} {a : AIt} {k : List AIt} {l : List Item} (h : TodoR ρ nt (a :: k) l) : ∃ b kk, l = b :: kk ∧ ItR ρ nt a b ∧ TodoR ρ nt k kk := by
  cases h with
  | cons h t => exact ⟨_, _, rfl, h, t⟩
theorem TodoR.nil_inv {nt : Nat} {l : List Item} (h : TodoR ρ nt [] l) : l = [] := by cases h; rfl

theorem drop_cons {α : Type} {all : Array α} {i : Nat} {o : α} {rest : List α} (h : all.toList.drop i = o :: rest) : all[i]? = some o ∧ all.toList.drop (i + 1) = rest := by
  refine ⟨?_, ?_⟩
  · have := congrArg (·[0]?) h
    simpa using this
  · rw [← List.drop_drop, h]; rfl

theorem finish_sound {c c' : Fr} {f : Frame} (h : FrR ρ c f) {v v' : Value} (rv : VR ρ v v') (e : finishFr c v = some c') : FrR ρ c' (f.finish v') ∧ (f.finish v').fn = f.fn := by
  cases h with
  | @run b a todo hret hb ha ht =>
    unfold finishFr at e
    split at e
    · rename_i all i o rest k htodo
      simp only [Option.some.injEq] at e
      subst e
      rw [htodo] at ht
      obtain ⟨_, kk, rfl, hi, hk⟩ := ht.cons_inv
      cases hi with
      | ops hd ho =>
        obtain ⟨e1, e2⟩ := drop_cons hd
        obtain ⟨d1, d2⟩ := dstsOk_cons ho
        rw [List.length_cons, List.range'_succ, Frame.finish_atR, e1]
        exact ⟨.run hret ⟨hb.fn, hb.kind, hb.round⟩ (ha.put rv d1) (.cons (.ops e2 d2) hk), rfl⟩
    · rename_i l k htodo
      simp only [Option.some.injEq] at e
      subst e
      rw [htodo] at ht
      obtain ⟨_, kk, rfl, hi, hk⟩ := ht.cons_inv
      cases hi with
      | inRangeFunc hp => exact ⟨.run hret ⟨hb.fn, hb.kind, hb.round⟩ ha (.cons (.endRangeFunc hp) hk), rfl⟩
    · cases e
  | ret h1 h2 =>
    unfold finishFr at e
    rw [h2] at e
    cases e

theorem back_sound {kind : CallKind} {crs : List Fr} {fs : List Frame} {v v' : Value} {f : Frame} {res : Res} (hcs : FrsR ρ crs fs) (rv : VR ρ v v') (hk : f.kind = kind) (h : interp (backF kind crs v n) X = some (res, X')) :
    X' = X ∧ ∃ frs c gs, res = .next frs n ∧ FrsR ρ frs (c :: gs) ∧ (∀ x, lastFn x fs = lastFn c.fn gs) ∧
      ∀ cs w, doReturn P true f (fs ++ cs) none v' w = .go { frame := c, callers := gs ++ cs, status := .running, dying := none } w := by
  unfold backF at h
  split at h
  · rename_i c crs
    obtain ⟨c', h1, h2⟩ := i_optB.mp h
    obtain ⟨rfl, rfl⟩ := i_pure_inv h2
    cases hcs with
    | @cons _ g _ gs hc ht =>
      obtain ⟨k1, k2⟩ := finish_sound hc rv h1
      refine ⟨rfl, _, g.finish v', gs, rfl, .cons k1 ht, fun x => ?_, fun cs w => ?_⟩
      · rw [k2]; rfl
      · simp [doReturn, hk]
  · rename_i c crs
    obtain ⟨h1, h2⟩ := i_ifB.mp h
    obtain ⟨rfl, rfl⟩ := i_pure_inv h2
    cases hcs with
    | @cons _ g _ gs hc ht =>
      refine ⟨rfl, _, g, gs, rfl, .cons hc ht, fun x => rfl, fun cs w => ?_⟩
      cases hc with
      | run h3 => rw [h1] at h3; cases h3
      | ret h3 h4 h5 hm => simp [doReturn, hk, hm]
  · cases h

theorem loop_put (g : Good h0 ρ X.H w.heap) {l : Nat} {r r2 r2' : Loop} {T : Trie Value} {nt : Nat} {p : Place} {u : Unit} (h : X.H.at_ l = some (.loop r T nt)) (hp : ρ l = some p) (hr : LoopR ρ r2 r2' T nt)
    (hi : interp (.wr (.o l (some (.loop r2 T nt)))) X = some (u, X')) :
    X'.T = X.T ∧ Good h0 ρ X'.H (setO w p.blk (.loop r2')).heap ∧ Below h0 w (setO w p.blk (.loop r2')) ∧ (setObj p.blk (.loop r2')).run P w = .ok () (setO w p.blk (.loop r2')) := by
  have h' : some ((), X.set (.o l (some (.loop r2 T nt)))) = some (u, X') := hi
  simp only [Option.some.injEq, Prod.mk.injEq] at h'
  obtain ⟨_, rfl⟩ := h'
  obtain ⟨h1, r', h2, h3⟩ := loopAt g h hp
  exact ⟨rfl, g.putObj h hp ⟨_, setO_same h2, hr⟩, setO_below h1, setObj_run h2 (by intro _ _ _ e; cases e)⟩

theorem getLoop_run {r : Nat} {l : Loop} (h : w.heap[r]? = some (.loop l)) : (Instr.getLoop r).run P w = .ok l w := by
  have u1 := getObj_run (P := P) h (by intro _ _ _ e; cases e)
  simp only [Instr.getLoop, Sem.run_bind, u1, Result.andThen_ok, Sem.run_pure]

/-- What a step of the machine is to be shown for. -/
structure Ctx (ρ : Ren) (h0 : Nat) (f0 : FuncId) (X : St) (w : World) (fr : Fr) (crs : List Fr) (b : Frame) (fs : List Frame) : Prop where
  g : Good h0 ρ X.H w.heap
  hb : BR ρ fr b
  hcs : FrsR ρ crs fs
  hl : lastFn b.fn fs = f0

variable {f0 : FuncId} {fr : Fr} {crs : List Fr} {b : Frame} {a : Act} {fs cs : List Frame} {res : Res} {k : List AIt} {kk : List Item}

theorem to_sound (c : Ctx ρ h0 f0 X w fr crs b fs) (ha : AR ρ fr.nt fr.T fr.defers a) {todo : List AIt} {todo0 todo' : List Item} (ht : TodoR ρ fr.nt todo todo') (h : interp (toF fr crs n todo) X = some (res, X'))
    (s : step P (lone (b.atR a todo0) (fs ++ cs) w) = .next (lone (b.atR a todo') (fs ++ cs) w)) : StepOK P h0 f0 cs (lone (b.atR a todo0) (fs ++ cs) w) ρ X X' w n res := by
  obtain ⟨rfl, e⟩ := i_pure_inv h
  exact .stay c.g e (.cons (.mk c.hb ha ht) c.hcs) c.hl s

theorem roundNone {r : Option Nat} (h : RoundR ρ none r) : r = none := by cases h; rfl
theorem roundSome {l : Nat} {r : Option Nat} (h : RoundR ρ (some l) r) : ∃ p, ρ l = some p ∧ r = some p.blk := by
  cases h with
  | some h => exact ⟨_, h, rfl⟩

theorem leave_sound (c : Ctx ρ h0 f0 X w fr crs b fs) (ha : AR ρ fr.nt fr.T fr.defers a) {jump : Option Code} {todo : List Item} (h : interp (leaveF fr crs jump n) X = some (res, X'))
    (s1 : b.roundOf = none → isRet jump = true → step P (lone (b.atR a todo) (fs ++ cs) w) = .next (lone { b.atR a todo with mode := .returning } (fs ++ cs) w))
    (s2 : ∀ l v' w' c gs, b.roundOf = some l → (Instr.endRound l jump).run P w = .ok v' w' → doReturn P true (b.atR a todo) (fs ++ cs) none v' w' = .go { frame := c, callers := gs, status := .running, dying := none } w' →
      step P (lone (b.atR a todo) (fs ++ cs) w) = .next (lone c gs w')) : StepOK P h0 f0 cs (lone (b.atR a todo) (fs ++ cs) w) ρ X X' w n res := by
  have hround := c.hb.round
  unfold leaveF at h
  split at h
  · rename_i hr
    rw [hr] at hround
    have hr' := roundNone hround
    obtain ⟨h1, h2⟩ := i_ifB.mp h
    obtain ⟨rfl, e⟩ := i_pure_inv h2
    refine .stay c.g e (f' := { b.atR a todo with mode := .returning }) (.cons (.ret rfl rfl rfl rfl ⟨c.hb.fn, c.hb.kind, ?_⟩ ha) c.hcs) c.hl (s1 hr' h1)
    show RoundR ρ none b.roundOf
    rw [hr']; exact .none
  · rename_i l hr
    rw [hr] at hround
    obtain ⟨p, hp, hr'⟩ := roundSome hround
    obtain ⟨r, X1, h1, h2⟩ := i_bind.mp h
    obtain ⟨rfl, h3⟩ := loopOf_inv h1
    obtain ⟨u, X2, h4, h5⟩ := i_bind.mp h2
    obtain ⟨h6, r', h7, h8⟩ := loopAt c.g h3 hp
    have hlr : LoopR ρ { r.1 with state := if jump.isNone then .ready else .done, pending := jump } { r' with state := if jump.isNone then .ready else .done, pending := jump } r.2.1 r.2.2 :=
      ⟨rfl, rfl, h8.fn, h8.params, h8.assign, h8.body, h8.defers, h8.tmps, h8.size, h8.ok⟩
    obtain ⟨k1, k2, k3, k4⟩ := loop_put (P := P) c.g h3 hp hlr h4
    obtain ⟨rfl, frs, cf, gs, rfl, k5, k6, k7⟩ := back_sound (P := P) (f := b.atR a todo) c.hcs (.bool jump.isNone) c.hb.kind h5
    have hrun : (Instr.endRound p.blk jump).run P w = .ok (.bool jump.isNone) (setO w p.blk (.loop { r' with state := if jump.isNone then .ready else .done, pending := jump })) := by
      simp only [Instr.endRound, Sem.run_bind, getLoop_run h7, Result.andThen_ok, k4, Sem.run_pure]
    refine ⟨k1, ρ, _, ⟨Ren.le_refl ρ, fun _ _ h => .inl h, k2, k3⟩, .next k5 ?_ (.one (s2 _ _ _ _ _ hr' hrun (k7 cs _)))⟩
    rw [← k6 b.fn]; exact c.hl

theorem exitA_some {nt : Nat} {id : Nat} {k' : List AIt} (h : TodoR ρ nt k kk) (e : exitA id k = some k') : ∃ kk', exitTo id kk = some kk' ∧ TodoR ρ nt k' kk' := by
  induction h with
  | nil => cases e
  | @cons x y k l hxy ht ih =>
    cases hxy with
    | inBlock id' =>
      unfold exitA at e
      simp only at e
      unfold exitTo
      cases hb : Nat.beq id' id with
      | true =>
        rw [hb] at e
        simp only [Option.some.injEq] at e
        subst e
        have : id' = id := Nat.eq_of_beq_eq_true hb
        exact ⟨l, by simp [this], ht⟩
      | false =>
        rw [hb] at e
        have : ¬ id' = id := fun e => by subst e; rw [Nat.beq_refl] at hb; cases hb
        obtain ⟨kk', h1, h2⟩ := ih e
        exact ⟨kk', by simp [this, h1], h2⟩
    | _ =>
      unfold exitA at e
      obtain ⟨kk', h1, h2⟩ := ih e
      exact ⟨kk', by simpa [exitTo] using h1, h2⟩

theorem exitA_none {nt : Nat} {id : Nat} (h : TodoR ρ nt k kk) (e : exitA id k = none) : exitTo id kk = none := by
  induction h with
  | nil => rfl
  | @cons x y k l hxy ht ih =>
    cases hxy with
    | inBlock id' =>
      unfold exitA at e
      simp only at e
      unfold exitTo
      cases hb : Nat.beq id' id with
      | true => rw [hb] at e; cases e
      | false =>
        rw [hb] at e
        have : ¬ id' = id := fun e => by subst e; rw [Nat.beq_refl] at hb; cases hb
        simp [this, ih e]
    | _ =>
      unfold exitA at e
      simpa [exitTo] using ih e

theorem ret_sound (c : Ctx ρ h0 f0 X w fr crs b fs) (ha : AR ρ fr.nt fr.T fr.defers a) (h : interp (leaveF fr crs (some .ret) n) X = some (res, X')) : StepOK P h0 f0 cs (lone (b.atR a (.code .ret :: kk)) (fs ++ cs) w) ρ X X' w n res :=
  leave_sound c ha h (fun hb _ => stepR_ret hb) fun l v' w' c gs hb hr hd => step_lone_go (by
    simp only [Frame.atR, hb] at hd
    simp [stepG, stepG.exec, Frame.atR, hb, Sem.runT_eq, hr, hd])

theorem end_sound (c : Ctx ρ h0 f0 X w fr crs b fs) (ha : AR ρ fr.nt fr.T fr.defers a) (h : interp (leaveF fr crs none n) X = some (res, X')) : StepOK P h0 f0 cs (lone (b.atR a []) (fs ++ cs) w) ρ X X' w n res :=
  leave_sound c ha h (fun hb _ => stepR_end hb) fun l v' w' c gs hb hr hd => step_lone_go (by
    simp only [Frame.atR, hb] at hd
    simp [stepG, stepG.exec, Frame.atR, hb, Sem.runT_eq, hr, hd])

theorem exit_sound (c : Ctx ρ h0 f0 X w fr crs b fs) (ha : AR ρ fr.nt fr.T fr.defers a) (ht : TodoR ρ fr.nt k kk) {id : Nat} (h : interp (exitF fr crs n id (exitA id k)) X = some (res, X')) :
    StepOK P h0 f0 cs (lone (b.atR a (.code (.exit id) :: kk)) (fs ++ cs) w) ρ X X' w n res := by
  cases he : exitA id k with
  | some k' =>
    rw [he] at h
    obtain ⟨kk', h1, h2⟩ := exitA_some ht he
    exact to_sound c ha h2 h (stepR_exit h1)
  | none =>
    rw [he] at h
    have h1 := exitA_none ht he
    exact leave_sound c ha h (fun hb e => by cases e) fun l v' w' c gs hb hr hd => step_lone_go (by
      simp only [Frame.atR, hb] at hd
      simp [stepG, stepG.exec, Frame.atR, hb, h1, Sem.runT_eq, hr, hd])

theorem cond_sound (c : Ctx ρ h0 f0 X w fr crs b fs) (ha : AR ρ fr.nt fr.T fr.defers a) (ht : TodoR ρ fr.nt k kk) {x : Operand} {y z : Code} (h : interp (.bind (opdT fr.T x) (condF fr crs n k y z)) X = some (res, X')) :
    StepOK P h0 f0 cs (lone (b.atR a (.code (.cond x y z) :: kk)) (fs ++ cs) w) ρ X X' w n res := by
  obtain ⟨v, X1, h1, h2⟩ := i_bind.mp h
  obtain ⟨rfl, rv⟩ := readsT (T0 := X.T) ha.tmps x X X1 v rfl h1
  obtain ⟨t, h3, h4⟩ := i_optB.mp h2
  rw [vBool_eq h3] at rv
  have hv := (rv.bool_iff t).mp rfl
  cases t with
  | true => exact to_sound c ha (.cons (.code y) ht) h4 (stepR_cond hv)
  | false => exact to_sound c ha (.cons (.code z) ht) h4 (stepR_cond hv)

theorem begin_sound (c : Ctx ρ h0 f0 X w fr crs b fs) (ha : AR ρ fr.nt fr.T fr.defers a) (ht : TodoR ρ fr.nt k kk) (h : interp (beginF fr crs n k) X = some (res, X')) :
    StepOK P h0 f0 cs (lone (b.atR a (.beginRound :: kk)) (fs ++ cs) w) ρ X X' w n res := by
  obtain ⟨l, h1, h2⟩ := i_optB.mp h
  have hround := c.hb.round
  rw [h1] at hround
  obtain ⟨p, hp, hr'⟩ := roundSome hround
  obtain ⟨r, X1, h3, h4⟩ := i_bind.mp h2
  obtain ⟨rfl, h5⟩ := loopOf_inv h3
  split at h4
  · rename_i hst
    obtain ⟨u, X2, h6, h7⟩ := i_bind.mp h4
    obtain ⟨h8, r', h9, h10⟩ := loopAt c.g h5 hp
    have hlr : LoopR ρ { r.1 with state := .busy } { r' with state := .busy } r.2.1 r.2.2 :=
      ⟨rfl, h10.pending, h10.fn, h10.params, h10.assign, h10.body, h10.defers, h10.tmps, h10.size, h10.ok⟩
    obtain ⟨k1, k2, k3, k4⟩ := loop_put (P := P) c.g h5 hp hlr h6
    obtain ⟨rfl, rfl⟩ := i_pure_inv h7
    have hst' : r'.state = .ready := by rw [h10.state, hst]
    have hrun : (Instr.beginRound p.blk).run P w = .ok () (setO w p.blk (.loop { r' with state := .busy })) := by
      simp only [Instr.beginRound, Sem.run_bind, getLoop_run h9, Result.andThen_ok, k4, hst', Sem.run_pure]
    exact ⟨k1, ρ, _, ⟨Ren.le_refl ρ, fun _ _ h => .inl h, k2, k3⟩, .next (.cons (.mk c.hb ha ht) c.hcs) c.hl (.one (stepR_beginRound hr' hrun))⟩
  · cases h4

theorem TodoR.append {nt : Nat} {k2 : List AIt} {kk2 : List Item} (h : TodoR ρ nt k kk) (t : TodoR ρ nt k2 kk2) : TodoR ρ nt (k ++ k2) (kk ++ kk2) := by
  induction h with
  | nil => exact t
  | cons e _ ih => exact .cons e ih

theorem endLoop_sound (c : Ctx ρ h0 f0 X w fr crs b fs) (ha : AR ρ fr.nt fr.T fr.defers a) (ht : TodoR ρ fr.nt k kk) {l : Nat} {p : Place} (hp : ρ l = some p) (h : interp (endLoopF fr crs n k l) X = some (res, X')) :
    StepOK P h0 f0 cs (lone (b.atR a (.endRangeFunc p.blk :: kk)) (fs ++ cs) w) ρ X X' w n res := by
  obtain ⟨r, X1, h3, h4⟩ := i_bind.mp h
  obtain ⟨rfl, h5⟩ := loopOf_inv h3
  obtain ⟨h8, r', h9, h10⟩ := loopAt c.g h5 hp
  split at h4
  · cases h4
  · rename_i hst
    obtain ⟨u, X2, h6, h7⟩ := i_bind.mp h4
    have hlr : LoopR ρ { r.1 with state := .exhausted } { r' with state := .exhausted } r.2.1 r.2.2 :=
      ⟨rfl, h10.pending, h10.fn, h10.params, h10.assign, h10.body, h10.defers, h10.tmps, h10.size, h10.ok⟩
    obtain ⟨k1, k2, k3, k4⟩ := loop_put (P := P) c.g h5 hp hlr h6
    obtain ⟨rfl, rfl⟩ := i_pure_inv h7
    have hst' : ¬ ((r'.state == LoopState.busy) = true) := by
      rw [h10.state]
      cases hs : r.1.state <;> first | exact absurd hs hst | (intro e; cases e)
    have hrun : (Instr.endLoop p.blk).run P w = .ok r'.pending (setO w p.blk (.loop { r' with state := .exhausted })) := by
      simp only [Instr.endLoop, Sem.run_bind, getLoop_run h9, Result.andThen_ok, if_neg hst', k4, Sem.run_pure]
    have hto : TodoR ρ fr.nt ((match r.1.pending with | some c => [.code c] | none => []) ++ k) ((r'.pending.map Item.code).toList ++ kk) := by
      rw [h10.pending]
      cases r.1.pending with
      | none => exact ht
      | some c => exact .cons (.code c) ht
    exact ⟨k1, ρ, _, ⟨Ren.le_refl ρ, fun _ _ h => .inl h, k2, k3⟩, .next (.cons (.mk c.hb ha hto) c.hcs) c.hl (.one (step_lone_go (by simp [stepG, stepG.exec, Frame.atR, Sem.runT_eq, hrun])))⟩
end
end Ae

/- Frames that are entered and left. -/
namespace Ae
open Go Go.RowKit

section
variable {tab : Tab} {P : Program} {h0 : Nat} {ρ : Ren} {X X' : St} {w : World} {n : Nat}

theorem argsT_at (l : List Value) : ∀ (i : Nat) (T : Trie Value) (j : Nat), (argsT l i T).at_ j = if i ≤ j ∧ j < i + l.length then l[j - i]? else T.at_ j := by
  induction l with
  | nil => intro i T j; rw [if_neg (by rintro ⟨h1, h2⟩; simp at h2; omega)]; rfl
  | cons v l ih =>
    intro i T j
    show (argsT l (Nat.succ i) (T.put i (some v))).at_ j = _
    rw [ih]
    by_cases h : i ≤ j ∧ j < i + (v :: l).length
    · rw [if_pos h]
      by_cases e : j = i
      · subst e
        rw [if_neg (by omega), Trie.at_put_same]
        simp
      · rw [if_pos (by simp at h; omega)]
        obtain ⟨d, rfl⟩ : ∃ d, j = i + 1 + d := ⟨j - (i + 1), by omega⟩
        have e1 : i + 1 + d - Nat.succ i = d := by omega
        have e2 : i + 1 + d - i = d + 1 := by omega
        rw [e1, e2]; rfl
    · rw [if_neg h, if_neg (by simp at h ⊢; omega), Trie.at_put_other _ _ (by intro e; subst e; simp at h)]

theorem TR.args {l : List Value} {args : Array Value} (r : LR ρ l args.toList) (m : Nat) : TR ρ (argsT l 0 .nil) (args ++ Array.replicate m undef) := by
  intro j
  have hl : l.length = args.size := by have := r.1; simpa using this
  rw [argsT_at]
  by_cases h : 0 ≤ j ∧ j < 0 + l.length
  · rw [if_pos h]
    have hj : j < l.length := by omega
    obtain ⟨u, h1, h2⟩ := r.get (i := j) (v := l[j]) (List.getElem?_eq_getElem hj)
    have e : l[j - 0]? = some l[j] := by simp [List.getElem?_eq_getElem hj]
    rw [e]
    refine ⟨u, ?_, h2⟩
    rw [Array.getElem?_append_left (by omega)]
    simpa using h1
  · rw [if_neg h, Trie.at_nil]
    simp only
    rw [Array.getElem?_append_right (by omega)]
    by_cases hj : j - args.size < m
    · right
      rw [Array.getElem?_eq_getElem (by simpa using hj)]
      simp
    · left
      rw [Array.getElem?_eq_none (by simpa using hj)]

theorem enter_sound (ok : TabOK tab P) {f : FuncId} {args : List Value} {args' : Array Value} {kind : CallKind} (ra : LR ρ args args'.toList) {e : Fr} (h : interp (frameF tab f args kind) X = some (e, X')) :
    X' = X ∧ e.kind = kind ∧ (∃ fn, P.funcs[f]? = some fn ∧ fn.body.isSome = true ∧ tab.fn.at_ f = some fn) ∧ FrR ρ e (Frame.enter P f args' kind) ∧ (Frame.enter P f args' kind).fn = f := by
  obtain ⟨fn, h1, h2⟩ := i_optB.mp h
  obtain ⟨h3, rfl⟩ := i_opt.mp h2
  have hf := ok.fn f fn h1
  unfold enterFr at h3
  split at h3
  · rename_i c hb
    simp only [Option.some.injEq] at h3
    have h4 : e = { fn := f, T := argsT args 0 .nil, todo := [.code c], defers := [], ret := false, kind, roundOf := none, nt := fn.ntmps } := h3.symm
    subst h4
    refine ⟨rfl, rfl, ⟨fn, hf, by simp [hb], h1⟩, ?_, rfl⟩
    have e1 : Frame.enter P f args' kind = (Frame.enter P f args' kind).atR ⟨args' ++ Array.replicate (fn.ntmps - args'.size) undef, []⟩ [.code c] := by
      simp [Frame.enter, Frame.atR, hf, hb]
    rw [e1]
    refine .run rfl ⟨rfl, rfl, .none⟩ ⟨TR.args ra _, ?_, .nil⟩ (.cons (.code c) .nil)
    show fn.ntmps ≤ (args' ++ Array.replicate (fn.ntmps - args'.size) undef).size
    simp
    omega
  · cases h3

def resOp (tmps : Array Value) (r : ResultVar) : Sem Value := match r with
  | .tmp t => pure (tmps.getD t undef)
  | .cell a t => do loadVar t (← asAddr (tmps.getD a undef))

theorem results_eq (fn : Func) (tmps : Array Value) : results fn tmps = (do
  let vs ← fn.results.mapM (resOp tmps)
  pure (if h : vs.size = 1 then vs[0] else .tuple vs)) := rfl

theorem res_sound (ok : TabOK tab P) (g : Good h0 ρ X.H w.heap) {T : Trie Value} {tmps : Array Value} (ht : TR ρ T tmps) {r : ResultVar} {v : Value} (h : interp (resF tab T r) X = some (v, X')) :
    Pur P ρ X X' w v (resOp tmps r) := by
  have look : ∀ (t : Nat) (u : Value), T.at_ t = some u → VR ρ u (tmps.getD t undef) := by
    intro t u hu
    have := ht t
    rw [hu] at this
    obtain ⟨v', h1, h2⟩ := this
    simpa [Array.getD_eq_getD_getElem?, h1] using h2
  cases r with
  | tmp t =>
    obtain ⟨h1, h2⟩ := i_opt.mp (show interp (opt (T.at_ t)) X = some (v, X') from h)
    exact ⟨h2, _, rfl, look t v h1⟩
  | cell a t =>
    obtain ⟨b, h1, h2⟩ := i_optB.mp (show interp (optB (T.at_ a) (loadF tab t)) X = some (v, X') from h)
    have hb := look a b h1
    obtain ⟨a', h3, h4⟩ := i_optB.mp h2
    rw [vPtr_eq h3] at hb
    obtain ⟨p, hp, e⟩ := hb.ptr_inv
    obtain ⟨h5, v', h6, h7⟩ := loadVar_sound (P := P) (w := w) ok g hp h4
    refine ⟨h5, v', ?_, h7⟩
    unfold resOp
    simp only [e, asAddr, pure_bind]
    exact h6

theorem ress_sound (ok : TabOK tab P) (g : Good h0 ρ X.H w.heap) {T : Trie Value} {tmps : Array Value} (ht : TR ρ T tmps) : ∀ {l : List ResultVar} {vs : List Value} {X' : St}, interp (resFs tab T l) X = some (vs, X') →
    X' = X ∧ ∃ vs', (l.mapM (resOp tmps)).run P w = .ok vs' w ∧ LR ρ vs vs' := by
  intro l
  induction l with
  | nil => intro vs X' h; obtain ⟨rfl, rfl⟩ := i_pure_inv h; exact ⟨rfl, [], rfl, .nil ρ⟩
  | cons r l ih =>
    intro vs X' h
    obtain ⟨v, X1, h1, h2⟩ := i_bind.mp h
    obtain ⟨rfl, v', h3, h4⟩ := res_sound (P := P) (w := w) ok g ht h1
    obtain ⟨vs1, X2, h5, h6⟩ := i_bind.mp h2
    obtain ⟨rfl, vs', h7, h8⟩ := ih h5
    obtain ⟨rfl, rfl⟩ := i_pure_inv h6
    refine ⟨rfl, v' :: vs', ?_, .cons h4 h8⟩
    rw [List.mapM_cons, Sem.run_bind, h3, Result.andThen_ok, Sem.run_bind, h7, Result.andThen_ok, Sem.run_pure]

theorem results_sound (ok : TabOK tab P) (g : Good h0 ρ X.H w.heap) {T : Trie Value} {tmps : Array Value} (ht : TR ρ T tmps) {fn : Func} {vs : List Value} (h : interp (resFs tab T fn.results.toList) X = some (vs, X')) :
    X' = X ∧ ∃ v', (results fn tmps).run P w = .ok v' w ∧ VR ρ (tupleOf vs) v' := by
  obtain ⟨rfl, vs', h1, h2⟩ := ress_sound (P := P) (w := w) ok g ht h
  refine ⟨rfl, (if h : vs'.toArray.size = 1 then vs'.toArray[0] else .tuple vs'.toArray), ?_, ?_⟩
  · rw [results_eq, Array.mapM_eq_mapM_toList, map_eq_pure_bind, bind_assoc, Sem.run_bind, h1, Result.andThen_ok, pure_bind, Sem.run_pure]
  · unfold tupleOf
    split
    · rename_i v
      obtain ⟨v', k, rfl, h3, h4⟩ := h2.cons_inv
      rw [h4.nil_inv]
      simpa using h3
    · rename_i hne
      have : ¬ vs'.toArray.size = 1 := by
        intro e
        have hl := h2.1
        have : vs.length = 1 := by rw [hl]; simpa using e
        match vs, this with
        | [v], _ => exact hne v rfl
      rw [dif_neg this]
      exact .tuple' (by simpa using h2)

variable {f0 : FuncId} {fr : Fr} {crs : List Fr} {f : Frame} {fs cs : List Frame} {res : Res}

theorem DefsR.cons_inv {d : Deferred} {ds l : List Deferred} (h : DefsR ρ (d :: ds) l) : ∃ d' ds', l = d' :: ds' ∧ DefR ρ d d' ∧ DefsR ρ ds ds' := by
  cases h with
  | cons h t => exact ⟨_, _, rfl, h, t⟩
theorem DefsR.nil_inv {l : List Deferred} (h : DefsR ρ [] l) : l = [] := by cases h; rfl

theorem deferO_eq {o : Obj} {u : Unit} (h : deferO o = some u) : o = .deferred (some []) := by
  unfold deferO at h
  split at h
  · rfl
  · cases h

theorem call_run (ok : TabOK tab P) {g : FuncId} {fn : Func} (h1 : tab.fn.at_ g = some fn) (h2 : fn.body.isSome = true) {args : Array Value} : (callFunc g args).run P w = .ok (.enter g args) w := by
  have h3 := ok.fn g fn h1
  have h4 := ok.name g fn h1
  have h4' : ¬ ((fn.name == "runtime.NumGoroutine") = true) := by rw [h4]; simp
  have hb' : fn.body.isNone = false := by cases hc : fn.body <;> simp_all
  unfold callFunc
  rw [Sem.run_bind, run_program, Result.andThen_ok, h3]
  simp only
  rw [if_neg h4', hb']
  rfl

theorem retF_sound (ok : TabOK tab P) (g : Good h0 ρ X.H w.heap) (he : fr.todo = []) (hret : fr.ret = true) (hr : fr.roundOf = none) (hm : f.mode = .returning) (hb : BR ρ fr f) (ha : AR ρ fr.nt fr.T fr.defers ⟨f.tmps, f.defers⟩) (hcs : FrsR ρ crs fs)
    (hl : lastFn f.fn fs = f0) (h : interp (retF tab fr crs n) X = some (res, X')) : StepOK P h0 f0 cs (lone f (fs ++ cs) w) ρ X X' w n res := by
  unfold retF at h
  split at h
  · rename_i d ds hd
    have hds := ha.defers
    rw [hd] at hds
    obtain ⟨d', ds', e1, r1, r2⟩ := hds.cons_inv
    simp only at e1
    have rfr : FrR ρ (deferFr fr ds) { f with defers := ds' } := .ret hret he hr hm ⟨hb.fn, hb.kind, hb.round⟩ ⟨ha.tmps, ha.size, r2⟩
    cases r1 with
    | @fn g2 c c' a a' q1 q2 =>
      obtain ⟨g', h1, h2⟩ := i_optB.mp (show interp (optB (fnOnly (.func g2)) fun f => .bind (frameF tab f (a.toList ++ c.toList) .deferred) fun e => .pure (.next (e :: deferFr fr ds :: crs) n)) X = some (res, X') from h)
      obtain ⟨e, X1, h3, h4⟩ := i_bind.mp h2
      have hg := fnOnly_eq h1
      simp only [Fn.func.injEq] at hg
      subst hg
      obtain ⟨rfl, k1, ⟨fn, k2, k3, k4⟩, k5, k6⟩ := enter_sound (P := P) (args' := a' ++ c') ok (by rw [Array.toList_append]; exact q2.append q1) h3
      obtain ⟨rfl, rfl⟩ := i_pure_inv h4
      have hi : (invoke (.fn (.func g2) c') a').run P w = .ok (.enter g2 (a' ++ c')) w := call_run ok k4 k3
      exact .stay g rfl (.cons k5 (.cons rfr hcs)) (by rw [← hl]; rfl) (step_defer (by rw [hm]; intro e; cases e) e1 rfl hi)
    | @collected b p hp args =>
      have h1 := i_objOf (show interp (.bind (.rd (.o b)) fun c => optB (deferC c) fun _ => .bind (.wr (.o b (some (.obj (.deferred none))))) fun _ => .pure (.next (deferFr fr ds :: crs) n)) X = some (res, X') from h)
      obtain ⟨u, h2, h3⟩ := i_optB.mp h1
      obtain ⟨u2, X1, h4, h5⟩ := i_bind.mp h3
      obtain ⟨o, h6, h7⟩ := ob_some.mp h2
      have h8 := deferO_eq h7
      subst h8
      have h9 := objC_eq h6
      obtain ⟨hlow, hbase, o', h10, h11⟩ := g.at_ h9 hp
      cases h11 with
      | deferred =>
        have := wr_inv h4
        subst this
        obtain ⟨rfl, rfl⟩ := i_pure_inv h5
        have k2 : Good h0 ρ (X.H.put b (some (.obj (.deferred none)))) (setO w p.blk (.deferred none)).heap := g.putObj h9 hp ⟨hbase, _, setO_same h10, .taken⟩
        have hrun : (Instr.takeDeferred p.blk).run P w = .ok [] (setO w p.blk (.deferred none)) := by
          have u1 := getObj_run (P := P) h10 (by intro _ _ _ e; cases e)
          have u2 := setObj_run (P := P) (o' := .deferred none) h10 (by intro _ _ _ e; cases e)
          simp only [Instr.takeDeferred, Sem.run_bind, u1, Result.andThen_ok, u2, Sem.run_pure]
        refine ⟨rfl, ρ, setO w p.blk (.deferred none), ⟨Ren.le_refl ρ, fun _ _ h => .inl h, k2, setO_below hlow⟩, .next (.cons rfr hcs) hl (.one (step_lone_go ?_))⟩
        simp [stepG, unwind, hm, e1, Sem.runT_eq, hrun]
  · rename_i hd
    have hds := ha.defers
    rw [hd] at hds
    have e1 := hds.nil_inv
    simp only at e1
    rw [hr] at h
    obtain ⟨fn, h1, h2⟩ := i_optB.mp h
    obtain ⟨vs, X1, h3, h4⟩ := i_bind.mp h2
    obtain ⟨rfl, v', h5, h6⟩ := results_sound (P := P) (w := w) ok g ha.tmps h3
    have hf : P.funcs[f.fn]? = some fn := by rw [hb.fn]; exact ok.fn _ _ h1
    unfold handF at h4
    split at h4
    · cases hcs
      split at h4
      · rename_i hk
        obtain ⟨rfl, rfl⟩ := i_pure_inv h4
        exact ⟨rfl, ρ, w, .refl g, .done hl ⟨hm, e1, hb.kind.trans hk, fn, hf, h5⟩ (.refl P _) h6⟩
      · cases h4
    · obtain ⟨rfl, frs, cf, gs, rfl, k5, k6, k7⟩ := back_sound (P := P) (f := f) hcs h6 hb.kind h4
      refine ⟨rfl, ρ, w, .refl g, .next k5 ?_ (.one (step_lone_go ?_))⟩
      · rw [← k6 f.fn]; exact hl
      · have := k7 cs w
        simp [stepG, unwind, hm, e1, hf, Sem.runT_eq, h5, this]
end
end Ae
