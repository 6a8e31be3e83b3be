/- The evaluator is right at statements in their own order and at loops over functions; the orders that the world may draw. -/
import Derived.Test.YtfahiennamklgaaGreatDoorA10
import Derived.Orders
import Derived.Test.YtfahiennamklgaaGreatDoorA01

set_option linter.all false
set_option linter.unusedVariables false
set_option linter.unusedSimpArgs false
set_option linter.deprecated false

/- The operations of a statement in their own order. -/
namespace Ae
open Go Go.RowKit

section
variable {tab : Tab} {P : Program} {h0 : Nat} {f0 : FuncId} {fr : Fr} {crs : List Fr} {b : Frame} {fs cs : List Frame} {res : Res} {k : List AIt} {kk : List Item}

theorem Ctx.mono {ρ ρ' : Ren} {X X1 : St} {w w' : World} {n n1 : Nat} (c : Ctx ρ h0 f0 X w fr crs b fs) (e : Ext h0 ρ ρ' n n1 X1.H w w') : Ctx ρ' h0 f0 X1 w' fr crs b fs :=
  ⟨e.good, c.hb.mono e.le, c.hcs.mono e.le, c.hl⟩

theorem op_defer {rdr : Operand → F Value} {o : Oper} {c : Call} {n n' : Nat} {X X' : St} {out : Out} (ho : o.op = .defer c) (h : interp (opF tab rdr o n) X = some ((out, n'), X')) : ∃ d, out = .defer d := by
  unfold opF at h
  rw [ho] at h
  have h' : interp (deferF rdr c n) X = some ((out, n'), X') := h
  unfold deferF at h'
  split at h'
  · obtain ⟨_, _, _, h2⟩ := i_bind.mp h'
    obtain ⟨_, _, h3⟩ := i_optB.mp h2
    obtain ⟨_, _, h4⟩ := i_optB.mp h3
    obtain ⟨_, _, _, h5⟩ := i_bind.mp h4
    obtain ⟨e, _⟩ := i_pure_inv h5
    simp only [Prod.mk.injEq] at e
    exact ⟨_, e.1.symm⟩
  · cases h'

theorem semAt_of {ρ : Ren} {rdr : Operand → F Value} {o : Oper} {n n' : Nat} {X X' : St} {out : Out} {ev : Operand → Value} (h : interp (opF tab rdr o n) X = some ((out, n'), X')) (r : RoundR ρ fr.roundOf b.roundOf)
    (hd : fr.roundOf = none ∨ ∀ d, out ≠ .defer d) : o.semAt b.roundOf ev = execOp ev o := by
  rcases hd with hd | hd
  · rw [hd] at r
    rw [roundNone r, Oper.semAt_none]
  · exact Oper.semAt_eq _ _ _ fun c hc => by
      obtain ⟨d, e⟩ := op_defer hc h
      exact hd d e

theorem opsF_sound (ok : TabOK tab P) {all : Array Oper} {X' : St} : ∀ (l : List Oper) {i : Nat} {T : Trie Value} {n : Nat} {a : Act} {X : St} {ρ : Ren} {w : World}, Ctx ρ h0 f0 X w fr crs b fs → AR ρ fr.nt T fr.defers a →
    TodoR ρ fr.nt k kk → all.toList.drop i = l → dstsOk fr.nt l = true → (∀ id, n ≤ id → id < resN res → ρ id = none) → interp (opsF tab fr crs all k l i T n) X = some (res, X') →
    StepOK P h0 f0 cs (lone (b.atR a (.inRegion all (List.range' i l.length) :: kk)) (fs ++ cs) w) ρ X X' w n res := by
  intro l
  induction l with
  | nil =>
    intro i T n a X ρ w c ha ht _ _ _ h
    obtain ⟨rfl, e⟩ := i_pure_inv h
    exact .stay c.g e (.cons (.mk c.hb ha ht) c.hcs) c.hl stepR_region_end
  | cons o rest ih =>
    intro i T n a X ρ w c ha ht hdrop hds fresh h
    obtain ⟨e1, e2⟩ := drop_cons hdrop
    obtain ⟨d1, d2⟩ := dstsOk_cons hds
    have hfin : ∀ (a : Act) (v : Value), (b.atR a (.inRegion all (i :: List.range' (i + 1) rest.length) :: kk)).finish v = b.atR (a.put o.dst v) (.inRegion all (List.range' (i + 1) rest.length) :: kk) := by
      intro a v; rw [Frame.finish_atR, e1]; rfl
    have hwant := wanted_eq (all := all) ha.tmps o
    rw [opsF_cons] at h
    rw [List.length_cons, List.range'_succ]
    cases hw : wantedT all T o.guard with
    | false =>
      rw [hw] at h hwant
      have hs := stepR_op_skip (P := P) (b := b) (a := a) (k := kk) (cs := fs ++ cs) (w := w) (ops := all) (i := i) (rest := List.range' (i + 1) rest.length) (by simp [e1, hwant])
      rw [e1] at hs
      exact (ih c (ha.put (VR.undef ρ) d1) ht e2 d2 fresh h).of_steps (.one hs) rfl (.refl c.g) (Nat.le_refl n) (opsF_up _ _ _ h)
    | true =>
      rw [hw] at h hwant
      obtain ⟨⟨out, n1⟩, X1, h1, h2⟩ := i_bind.mp h
      obtain ⟨h3, h4⟩ := i_ifB.mp h2
      rw [force_eq] at h4
      simp only at h4
      have hn1 : n1 ≤ resN res := by
        cases hp : plainOut out with
        | none => rw [hp] at h4; exact outF_up _ _ _ h4
        | some v => rw [hp] at h4; exact opsF_up _ _ _ h4
      obtain ⟨k1, k2, ρ', w', nx, k3, k4, k5, k6, k7, k8⟩ := op_sound (P := P) (w := w) ok c.g (fun id q1 q2 => fresh id q1 (Nat.lt_of_lt_of_le q2 hn1)) (readsT ha.tmps) h1
      have ext : Ext h0 ρ ρ' n n1 X1.H w w' := ⟨k4, k5, k6, k7⟩
      have fresh' := ext.fresh fresh k1
      have c' := c.mono ext
      have ha' := ha.mono k4
      have ht' := ht.mono k4
      have hg := stepGR_op (P := P) (b := b) (a := a) (k := kk) (cs := fs ++ cs) (w := w) (rest := List.range' (i + 1) rest.length) e1 (by rw [hwant])
      have hsem : (fr.roundOf = none ∨ ∀ d, out ≠ .defer d) → stepG P true { frame := b.atR a (.inRegion all (i :: List.range' (i + 1) rest.length) :: kk), callers := fs ++ cs, status := .running, dying := none } w =
          stepG.apply P true (b.atR a (.inRegion all (i :: List.range' (i + 1) rest.length) :: kk)) (fs ++ cs) none (execOp a.eval o) w := by
        intro hd
        rw [hg, semAt_of h1 c.hb.round hd]
      have caller : FrR ρ' (mkFr fr T (.ops all i (o :: rest) :: k) fr.defers) (b.atR a (.inRegion all (i :: List.range' (i + 1) rest.length) :: kk)) :=
        .mk c'.hb ha' (.cons (.ops hdrop hds) ht')
      cases k8 with
      | @val v v' rv =>
        have hs : step P (lone (b.atR a (.inRegion all (i :: List.range' (i + 1) rest.length) :: kk)) (fs ++ cs) w) = .next (lone (b.atR (a.put o.dst v') (.inRegion all (List.range' (i + 1) rest.length) :: kk)) (fs ++ cs) w') :=
          step_lone_go (by rw [hsem (.inr (by intro d e; cases e)), ← hfin]; simp [stepG.apply, k3])
        exact (ih c' (ha'.put rv d1) ht' e2 d2 fresh' h4).of_steps (.one hs) k2 ext k1 hn1
      | skip =>
        have hs : step P (lone (b.atR a (.inRegion all (i :: List.range' (i + 1) rest.length) :: kk)) (fs ++ cs) w) = .next (lone (b.atR (a.put o.dst undef) (.inRegion all (List.range' (i + 1) rest.length) :: kk)) (fs ++ cs) w') :=
          step_lone_go (by rw [hsem (.inr (by intro d e; cases e)), ← hfin]; simp [stepG.apply, k3])
        exact (ih c' (ha'.put (VR.undef ρ') d1) ht' e2 d2 fresh' h4).of_steps (.one hs) k2 ext k1 hn1
      | @enter f args args' ra =>
        obtain ⟨e, X2, q1, q2⟩ := i_bind.mp (show interp (.bind (frameF tab f args .normal) fun e => .pure (.next (e :: mkFr fr T (.ops all i (o :: rest) :: k) fr.defers :: crs) n1)) X1 = some (res, X') from h4)
        obtain ⟨rfl, p1, p2, p3, p4⟩ := enter_sound (P := P) ok ra q1
        obtain ⟨rfl, rfl⟩ := i_pure_inv q2
        refine ⟨k2, ρ', w', ext, .next (.cons p3 (.cons caller c'.hcs)) c.hl (.one (step_lone_go ?_))⟩
        rw [hsem (.inr (by intro d e; cases e))]
        simp [stepG.apply, k3, Frame.atR]
      | @round l r T2 nt args p tmps hp ht2 hn2 =>
        obtain ⟨rfl, rfl⟩ := i_pure_inv (show interp (.pure (.next (roundFr l r T2 nt args :: mkFr fr T (.ops all i (o :: rest) :: k) fr.defers :: crs) n1)) X1 = some (res, X') from h4)
        have rf : FrR ρ' (roundFr l r T2 nt args) (Frame.round p.blk r.fn tmps r.assign r.body .normal) := by
          have e3 : Frame.round p.blk r.fn tmps r.assign r.body .normal = (Frame.round p.blk r.fn tmps r.assign r.body .normal).atR ⟨tmps, []⟩ [.code r.assign, .beginRound, .code r.body] := rfl
          rw [e3]
          exact .run rfl ⟨rfl, rfl, .some hp⟩ ⟨ht2, hn2, .nil⟩ (.cons (.code _) (.cons .beginRound (.cons (.code _) .nil)))
        refine ⟨k2, ρ', w', ext, .next (.cons rf (.cons caller c'.hcs)) c.hl (.one (step_lone_go ?_))⟩
        rw [hsem (.inr (by intro d e; cases e))]
        simp [stepG.apply, k3, Frame.atR]
      | @defer d d' rd =>
        have h5 : interp (match fr.roundOf with
          | none => .pure (.next (mkFr fr (putDst T o.dst undef) (.ops all (Nat.succ i) rest :: k) (d :: fr.defers) :: crs) n1)
          | some _ => .fail) X1 = some (res, X') := h4
        cases hr : fr.roundOf with
        | some l => rw [hr] at h5; cases h5
        | none =>
          rw [hr] at h5
          obtain ⟨rfl, rfl⟩ := i_pure_inv h5
          have ha2 : AR ρ' fr.nt T (d :: fr.defers) { a with defers := d' :: a.defers } := ⟨ha'.tmps, ha'.size, .cons rd ha'.defers⟩
          refine ⟨k2, ρ', w', ext, .next (.cons (.mk c'.hb (ha2.put (VR.undef ρ') d1) (.cons (.ops e2 d2) ht')) c'.hcs) c.hl (.one (step_lone_go ?_))⟩
          rw [hsem (.inl hr), ← hfin]
          simp [stepG.apply, k3, Frame.atR]
      | recover =>
        obtain ⟨q1, q2⟩ := i_ifB.mp (show interp (ifB (recoverB (mkFr fr T (.ops all i (o :: rest) :: k) fr.defers) crs) (.pure (.next (mkFr fr (putDst T o.dst .nilIface) (.ops all (Nat.succ i) rest :: k) fr.defers :: crs) n1))) X1 = some (res, X') from h4)
        obtain ⟨rfl, rfl⟩ := i_pure_inv q2
        unfold recoverB at q1
        split at q1
        · rename_i c2 cs2 hr hk
          have hr' := c.hb.round
          have hr0 : fr.roundOf = none := hr
          have hk0 : b.kind = .deferred := c.hb.kind.trans hk
          rw [hr0] at hr'
          have hbr := roundNone hr'
          have hcs' := c'.hcs
          cases hcs' with
          | @cons _ g _ gs hc2 hgs =>
            have hm : g.mode = .returning := by
              cases hc2 with
              | run h3 => rw [h3] at q1; cases q1
              | ret _ _ _ hm => exact hm
            refine ⟨k2, ρ', w', ext, .next (.cons (.mk c'.hb (ha'.put .nilIface d1) (.cons (.ops e2 d2) ht')) (.cons hc2 hgs)) c.hl (.one (step_lone_go ?_))⟩
            rw [hsem (.inl hr0), ← hfin]
            simp [stepG.apply, k3, Frame.atR, hbr, tryRecover, hk0, hm]
        · cases q1
end
end Ae

/- Loops over functions. -/
namespace Ae
open Go Go.RowKit

section
variable {tab : Tab} {P : Program} {h0 : Nat} {f0 : FuncId} {fr : Fr} {crs : List Fr} {b : Frame} {fs cs : List Frame} {res : Res} {k : List AIt} {kk : List Item} {ρ : Ren} {X X' : St} {w : World} {n : Nat} {a : Act}

theorem newObj_run {o : Obj} : (newObj o).run P w = .ok w.heap.size { w with heap := w.heap.push o } := by simp

theorem mark_sound (c : Ctx ρ h0 f0 X w fr crs b fs) (hn : fr.roundOf = none → ρ n = none) {y : Nat × List Deferred × Nat} (h : interp (markF n fr.roundOf) X = some (y, X')) :
    n ≤ y.2.2 ∧ X'.T = X.T ∧ ∃ ρ' w' p mark, (match b.roundOf with
      | some l => do pure ((← Instr.getLoop l).defers, ([] : List Deferred))
      | none => do
        let r ← newObj (.deferred (some []))
        pure (r, [{ target := .collected r, args := #[] }]) : Sem (Nat × List Deferred)).run P w = .ok (p.blk, mark) w' ∧ Ext h0 ρ ρ' n y.2.2 X'.H w w' ∧ ρ' y.1 = some p ∧ DefsR ρ' y.2.1 mark := by
  have hr := c.hb.round
  unfold markF at h
  split at h
  · rename_i l e
    rw [e] at hr
    obtain ⟨p, hp, hb⟩ := roundSome hr
    obtain ⟨r, X1, h1, h2⟩ := i_bind.mp h
    obtain ⟨rfl, h3⟩ := loopOf_inv h1
    obtain ⟨rfl, rfl⟩ := i_pure_inv h2
    obtain ⟨h6, r', h7, h8⟩ := loopAt c.g h3 hp
    obtain ⟨q, hq, e2⟩ := h8.defers
    refine ⟨Nat.le_refl _, rfl, ρ, w, q, [], ?_, .refl c.g, hq, .nil⟩
    rw [hb]
    simp only [Sem.run_bind, getLoop_run h7, Result.andThen_ok, Sem.run_pure, e2]
  · rename_i e
    rw [e] at hr
    have hb := roundNone hr
    obtain ⟨u, X1, h1, h2⟩ := i_bind.mp h
    have := wr_inv h1
    subst this
    obtain ⟨rfl, rfl⟩ := i_pure_inv h2
    have hn' := hn e
    have k2 : Good h0 (ρ.ext n ⟨w.heap.size, 0, 0, 0⟩) (X.H.put n (some (.obj (.deferred (some []))))) (w.heap.push (.deferred (some []))) :=
      c.g.push _ 0 0 hn' ⟨rfl, _, by simp, .deferred⟩
    refine ⟨Nat.le_succ n, rfl, _, { w with heap := w.heap.push (.deferred (some [])) }, ⟨w.heap.size, 0, 0, 0⟩, [{ target := .collected w.heap.size, args := #[] }], ?_, ⟨Ren.le_ext _ hn', ext_new _, k2, below_push w _ c.g.room⟩, Ren.ext_same .., .cons (.collected (Ren.ext_same ..) #[]) .nil⟩
    rw [hb]
    simp

theorem rangeFunc_sound (ok : TabOK tab P) (c : Ctx ρ h0 f0 X w fr crs b fs) (ha : AR ρ fr.nt fr.T fr.defers a) (ht : TodoR ρ fr.nt k kk) (fresh : ∀ id, n ≤ id → id < resN res → ρ id = none) {x : Operand} {params : Array Tmp} {assign body : Code}
    (h : interp (.bind (opdT fr.T x) (rangeFuncF tab fr crs n k params assign body)) X = some (res, X')) :
    StepOK P h0 f0 cs (lone (b.atR a (.code (.rangeFunc x params assign body) :: kk)) (fs ++ cs) w) ρ X X' w n res := by
  obtain ⟨v, X1, h1, h2⟩ := i_bind.mp h
  obtain ⟨rfl, rv⟩ := readsT (T0 := X.T) ha.tmps x X X1 v rfl h1
  have hup : ∀ (y : Nat × List Deferred × Nat), True := fun _ => trivial
  obtain ⟨fv, h3, h4⟩ := i_optB.mp h2
  obtain ⟨gf, h5, h6⟩ := i_optB.mp h4
  obtain ⟨h7, h8⟩ := i_ifB.mp h6
  obtain ⟨y, X2, h9, h10⟩ := i_bind.mp h8
  obtain ⟨u, X3, h11, h12⟩ := i_bind.mp h10
  obtain ⟨e, X4, h13, h14⟩ := i_bind.mp h12
  obtain ⟨rfl, rfl⟩ := i_pure_inv h14
  have hy := markF_up h9
  have hlt : y.2.2 < Nat.succ y.2.2 := Nat.lt_succ_self _
  obtain ⟨k1, k2, ρ1, w1, p, mark, k3, k4, k5, k6⟩ := mark_sound (P := P) c (fun _ => fresh n (Nat.le_refl n) (Nat.lt_of_le_of_lt hy hlt)) h9
  have fresh1 := k4.fresh (n2 := Nat.succ y.2.2) fresh k1
  have hn1 : ρ1 y.2.2 = none := fresh1 _ (Nat.le_refl _) hlt
  have := wr_inv h11
  subst this
  have hw1 : w1.heap.size ≤ (w1.heap.push (.loop { state := .ready, pending := none, fn := b.fn, tmps := a.tmps, params, assign, body, defers := p.blk })).size := by simp
  have le2 := Ren.le_ext ⟨w1.heap.size, 0, 0, 0⟩ hn1
  have hlr : LoopR (ρ1.ext y.2.2 ⟨w1.heap.size, 0, 0, 0⟩) { state := .ready, pending := none, fn := fr.fn, tmps := #[], params, assign, body, defers := y.1 } { state := .ready, pending := none, fn := b.fn, tmps := a.tmps, params, assign, body, defers := p.blk } fr.T fr.nt :=
    ⟨rfl, rfl, c.hb.fn, rfl, rfl, rfl, ⟨p, le2 _ _ k5, rfl⟩, (ha.tmps.mono k4.le).mono le2, ha.size, h7⟩
  have g2 : Good h0 (ρ1.ext y.2.2 ⟨w1.heap.size, 0, 0, 0⟩) (X2.H.put y.2.2 (some (.loop { state := .ready, pending := none, fn := fr.fn, tmps := #[], params, assign, body, defers := y.1 } fr.T fr.nt)))
      (w1.heap.push (.loop { state := .ready, pending := none, fn := b.fn, tmps := a.tmps, params, assign, body, defers := p.blk })) := k4.good.push _ 0 0 hn1 ⟨_, by simp, hlr⟩
  have ext2 : Ext h0 ρ1 (ρ1.ext y.2.2 ⟨w1.heap.size, 0, 0, 0⟩) y.2.2 (Nat.succ y.2.2) (X2.H.put y.2.2 (some (.loop { state := .ready, pending := none, fn := fr.fn, tmps := #[], params, assign, body, defers := y.1 } fr.T fr.nt))) w1
      { w1 with heap := w1.heap.push (.loop { state := .ready, pending := none, fn := b.fn, tmps := a.tmps, params, assign, body, defers := p.blk }) } := ⟨le2, ext_new _, g2, below_push w1 _ k4.good.room⟩
  have ext := k4.trans ext2 k1 (Nat.le_succ _)
  rw [vFunc_eq h3] at rv
  generalize hev : a.eval x = v' at rv
  cases rv with
  | @func _ f2 _ b2 _ d2 hf a1 a2 a3 a4 =>
    rw [fnOnly_eq h5] at hf
    cases hf with
    | same _ _ =>
      have ra : LR (ρ1.ext y.2.2 ⟨w1.heap.size, 0, 0, 0⟩) (fv.2.1.toList ++ [.func (.yield y.2.2) #[] #[]] ++ fv.2.2.toList) (b2 ++ #[Value.func (.yield w1.heap.size) #[] #[]] ++ d2).toList := by
        rw [Array.toList_append, Array.toList_append]
        exact (LR.append (LR.mono ext.le ⟨a1, a2⟩) (.cons (.func' (.yield (p := ⟨w1.heap.size, 0, 0, 0⟩) (Ren.ext_same ..)) (.nil _) (.nil _)) (.nil _))).append (LR.mono ext.le ⟨a3, a4⟩)
      obtain ⟨rfl, p1, ⟨fn, p5, p6, p7⟩, p3, p4⟩ := enter_sound (P := P) ok ra h13
      have hrun : (Instr.enterLoop b.fn a.tmps params assign body b.roundOf).run P w = .ok (w1.heap.size, mark) { w1 with heap := w1.heap.push (.loop { state := .ready, pending := none, fn := b.fn, tmps := a.tmps, params, assign, body, defers := p.blk }) } := by
        have e1 : Instr.enterLoop b.fn a.tmps params assign body b.roundOf = (do
          let (defers, mark) ← (match b.roundOf with
            | some l => do pure ((← Instr.getLoop l).defers, ([] : List Deferred))
            | none => do
              let r ← newObj (.deferred (some []))
              pure (r, [{ target := .collected r, args := #[] }]) : Sem (Nat × List Deferred))
          pure (← newObj (.loop { state := .ready, pending := none, fn := b.fn, tmps := a.tmps, params, assign, body, defers }), mark)) := by
            unfold Instr.enterLoop
            cases b.roundOf <;> simp only [bind_assoc, pure_bind]
        rw [e1, Sem.run_bind, k3, Result.andThen_ok]
        simp
      have hcall := call_run (w := { w1 with heap := w1.heap.push (.loop { state := .ready, pending := none, fn := b.fn, tmps := a.tmps, params, assign, body, defers := p.blk }) }) ok p7 p6 (args := b2 ++ #[Value.func (.yield w1.heap.size) #[] #[]] ++ d2)
      have caller : FrR (ρ1.ext y.2.2 ⟨w1.heap.size, 0, 0, 0⟩) (mkFr fr fr.T (.inRangeFunc y.2.2 :: k) (y.2.1 ++ fr.defers)) (b.atR { a with defers := mark ++ a.defers } (.inRangeFunc w1.heap.size :: kk)) :=
        .mk (c.hb.mono ext.le) ⟨(ha.mono ext.le).tmps, ha.size, (k6.mono le2).append (ha.mono ext.le).defers⟩ (.cons (.inRangeFunc (p := ⟨w1.heap.size, 0, 0, 0⟩) (Ren.ext_same ..)) (ht.mono ext.le))
      refine ⟨k2, _, _, ext, .next (.cons p3 (.cons caller (c.hcs.mono ext.le))) c.hl (.one (step_lone_go ?_))⟩
      have hev2 : Frame.eval { fn := b.fn, tmps := a.tmps, todo := .inRangeFunc w1.heap.size :: kk, defers := mark ++ a.defers, mode := .run, kind := b.kind, roundOf := b.roundOf } x = .func (.func gf) b2 d2 := by rw [← hev]; cases x <;> rfl
      have hsem : ∀ W, (callFunc gf (b2 ++ #[Value.func (.yield w1.heap.size) #[] #[]] ++ d2)).run P W = .ok (.enter gf (b2 ++ #[Value.func (.yield w1.heap.size) #[] #[]] ++ d2)) W →
          (do let d ← resolve (Frame.eval { fn := b.fn, tmps := a.tmps, todo := .inRangeFunc w1.heap.size :: kk, defers := mark ++ a.defers, mode := .run, kind := b.kind, roundOf := b.roundOf })
                { callee := .value x, args := #[.const (.func (.yield w1.heap.size) #[] #[])], argTypes := #[] } 0
              invoke d.target d.args).run P W = .ok (.enter gf (b2 ++ #[Value.func (.yield w1.heap.size) #[] #[]] ++ d2)) W := by
        intro W hW
        simp only [resolve, hev2, Deferred.ofValue, pure_bind, invoke]
        rw [← hW]
        simp [Frame.eval]
      simp only [stepG, stepG.exec, Frame.atR, Sem.runT_eq, hrun, GStep.bare_after, stepG.apply, if_true, hsem _ hcall, GStep.bare_go, List.cons_append]
end
end Ae

/- Orders that the world draws. -/
namespace Ae
open Go Go.RowKit

/-- Each operation in s comes behind those that its edges name; D has been done. -/
def Direct (md : Region.Mode) (ops : Array Oper) : (Nat → Prop) → List Nat → Prop
  | _, [] => True
  | D, i :: s => i < ops.size ∧ ¬ D i ∧ (∀ o, ops[i]? = some o → ∀ e ∈ o.after, Region.binds md e = true → D e.on) ∧ Direct md ops (fun j => D j ∨ j = i) s

def listedIn (l : Array Bool) (i : Nat) : Prop := l[i]? = some true

theorem listed_set {l : Array Bool} {i : Nat} (hi : i < l.size) (j : Nat) : listedIn (l.setIfInBounds i true) j ↔ listedIn l j ∨ j = i := by
  unfold listedIn
  by_cases e : i = j
  · subst e; simp [hi]
  · rw [Array.getElem?_setIfInBounds_ne e]
    exact ⟨fun h => .inl h, fun h => h.resolve_right fun h => e h.symm⟩

def left (l : Array Bool) : Nat := ((List.range l.size).filter fun i => !l.getD i true).length

theorem filter_lt {α : Type} {p q : α → Bool} (h : ∀ x, q x = true → p x = true) : ∀ (l : List α) {x : α}, x ∈ l → p x = true → q x = false → (l.filter q).length < (l.filter p).length := by
  have le : ∀ l : List α, (l.filter q).length ≤ (l.filter p).length := by
    intro l
    induction l with
    | nil => simp
    | cons a l ih =>
      simp only [List.filter_cons]
      cases hq : q a with
      | true => rw [h a hq]; simpa using ih
      | false => cases p a <;> simp <;> omega
  intro l x hx hp hq
  induction l with
  | nil => cases hx
  | cons a l ih =>
    simp only [List.filter_cons]
    cases hx with
    | head => rw [hp, hq]; have := le l; simp; omega
    | tail _ hx =>
      have := ih hx
      cases hq' : q a with
      | true => rw [h a hq']; simpa using this
      | false => cases p a <;> simp <;> omega

theorem left_set {l : Array Bool} {i : Nat} (hi : l[i]? = some false) : left (l.setIfInBounds i true) < left l := by
  have hlt : i < l.size := (Array.getElem?_eq_some_iff.mp hi).1
  unfold left
  rw [Array.size_setIfInBounds]
  refine filter_lt (x := i) ?_ _ (by simpa using hlt) ?_ ?_
  · intro x hx
    by_cases e : i = x
    · subst e; simp [Array.getD_eq_getD_getElem?, hi]
    · simpa [Array.getD_eq_getD_getElem?, Array.getElem?_setIfInBounds_ne e] using hx
  · simp [Array.getD_eq_getD_getElem?, hi]
  · simp [Array.getD_eq_getD_getElem?, hlt]

theorem ready_mem {md : Region.Mode} {ops : Array Oper} {listed : Array Bool} (hs : listed.size = ops.size) {i : Nat} (h : i ∈ Region.ready md ops listed) :
    i < ops.size ∧ listed[i]? = some false ∧ ∀ o, ops[i]? = some o → ∀ e ∈ o.after, Region.binds md e = true → listedIn listed e.on := by
  unfold Region.ready at h
  rw [List.mem_filter] at h
  obtain ⟨h1, h2⟩ := h
  have hi : i < ops.size := by simpa using h1
  simp only [Bool.and_eq_true, Bool.not_eq_true', Array.getD_eq_getD_getElem?] at h2
  obtain ⟨h3, h4⟩ := h2
  have hl : i < listed.size := by omega
  refine ⟨hi, ?_, fun o ho e he hb => ?_⟩
  · rw [Array.getElem?_eq_getElem hl] at h3 ⊢
    simpa using h3
  · rw [ho] at h4
    simp only [Option.map_some, Option.getD_some, Array.all_eq_true'] at h4
    have := h4 e he
    rw [hb] at this
    simp only [Bool.not_true, Bool.false_or] at this
    unfold listedIn
    cases hx : listed[e.on]? with
    | none => rw [hx] at this; simp at this
    | some b => rw [hx] at this; simpa using this

theorem ready_nil {md : Region.Mode} {ops : Array Oper} {listed : Array Bool} (hs : listed.size = ops.size) (hedge : ∀ (i : Nat) (o : Oper), ops[i]? = some o → ∀ e ∈ o.after, Region.binds md e = true → e.on < i) (h : Region.ready md ops listed = []) :
    ∀ i, i < ops.size → listedIn listed i := by
  intro i
  induction i using Nat.strongRecOn with
  | _ i ih =>
    intro hi
    have hl : i < listed.size := by omega
    cases hb : listed[i] with
    | true => unfold listedIn; rw [Array.getElem?_eq_getElem hl, hb]
    | false =>
      exfalso
      have hmem : i ∈ Region.ready md ops listed := by
        unfold Region.ready
        rw [List.mem_filter]
        refine ⟨by simpa using hi, ?_⟩
        simp only [Bool.and_eq_true, Bool.not_eq_true', Array.getD_eq_getD_getElem?]
        refine ⟨by rw [Array.getElem?_eq_getElem hl, hb]; rfl, ?_⟩
        rw [Array.getElem?_eq_getElem hi]
        simp only [Option.map_some, Option.getD_some, Array.all_eq_true']
        intro e he
        cases hb2 : Region.binds md e with
        | false => simp
        | true =>
          have h1 := hedge i _ (Array.getElem?_eq_getElem hi) e he hb2
          have h2 := ih e.on h1 (by omega)
          unfold listedIn at h2
          rw [h2]; simp
      rw [h] at hmem
      cases hmem

theorem sched_go {md : Region.Mode} {ops : Array Oper} (hedge : ∀ (i : Nat) (o : Oper), ops[i]? = some o → ∀ e ∈ o.after, Region.binds md e = true → e.on < i) : ∀ (fuel t : Nat) (listed : Array Bool), listed.size = ops.size → left listed ≤ fuel →
    Direct md ops (listedIn listed) (Region.linearise.go md ops fuel t listed []) ∧ ∀ i, i < ops.size → listedIn listed i ∨ i ∈ Region.linearise.go md ops fuel t listed [] := by
  intro fuel
  induction fuel with
  | zero =>
    intro t listed hs hle
    refine ⟨by simp [Region.linearise.go, Direct], fun i hi => .inl ?_⟩
    have hl : i < listed.size := by omega
    have h0 : left listed = 0 := by omega
    unfold left at h0
    rw [List.length_eq_zero_iff, List.filter_eq_nil_iff] at h0
    have := h0 i (by simpa using hl)
    unfold listedIn
    simpa [Array.getD_eq_getD_getElem?, Array.getElem?_eq_getElem hl] using this
  | succ fuel ih =>
    intro t listed hs hle
    have hgo : Region.linearise.go md ops (fuel + 1) t listed [] = (match (Region.ready md ops listed)[t % (Region.ready md ops listed).length]? with
      | some i => Region.linearise.go md ops fuel (t / (Region.ready md ops listed).length) (listed.setIfInBounds i true) [i]
      | none => [].reverse) := rfl
    rw [hgo]
    cases hi : (Region.ready md ops listed)[t % (Region.ready md ops listed).length]? with
    | none =>
      have hnil : Region.ready md ops listed = [] := by
        cases hr : Region.ready md ops listed with
        | nil => rfl
        | cons x xs =>
          rw [hr] at hi
          have hlt : t % (x :: xs).length < (x :: xs).length := Nat.mod_lt _ (by simp)
          simp at hi
          simp at hlt
          omega
      exact ⟨by simp [Direct], fun i hi => .inl (ready_nil hs hedge hnil i hi)⟩
    | some i =>
      simp only
      rw [linearise_go_acc, List.reverse_singleton, List.singleton_append]
      obtain ⟨h1, h2, h3⟩ := ready_mem hs (List.mem_of_getElem? hi)
      have hl : i < listed.size := by omega
      obtain ⟨h4, h5⟩ := ih (t / (Region.ready md ops listed).length) (listed.setIfInBounds i true) (by simpa using hs) (by have := left_set h2; omega)
      have e : listedIn (listed.setIfInBounds i true) = fun j => listedIn listed j ∨ j = i := by
        funext j; exact propext (listed_set hl j)
      rw [e] at h4 h5
      refine ⟨⟨h1, by unfold listedIn; rw [h2]; simp, h3, h4⟩, fun j hj => ?_⟩
      rcases h5 j hj with (h6 | h6) | h6
      · exact .inl h6
      · exact .inr (by simp [h6])
      · exact .inr (by simp [h6])

/-- WHAT IS DRAWN: each operation once, behind those that its edges name. -/
theorem schedule_ok {ops : Array Oper} (hedge : ∀ (i : Nat) (o : Oper), ops[i]? = some o → ∀ e ∈ o.after, Region.binds .any e = true → e.on < i) (t : Nat) :
    Direct .any ops (fun _ => False) (Region.schedule true ops t) ∧ ∀ i, i < ops.size → i ∈ Region.schedule true ops t := by
  obtain ⟨h1, h2⟩ := sched_go (md := .any) hedge ops.size t (Array.replicate ops.size false) (by simp) (by
    unfold left
    refine Nat.le_trans (List.length_filter_le _ _) (by simp))
  have e : listedIn (Array.replicate ops.size false) = fun _ => False := by
    funext j
    apply propext
    unfold listedIn
    by_cases hj : j < ops.size <;> simp [hj]
  rw [e] at h1 h2
  have es : Region.schedule true ops t = Region.linearise .any ops t := by simp [Region.schedule]
  rw [es]
  exact ⟨h1, fun i hi => (h2 i hi).resolve_left id⟩
end Ae

/- What a drawn region's run shows. -/
namespace Ae
open Go Go.RowKit

/- Bits of what stands before. -/
theorem bitAt_eq (l : List Nat) (i : Nat) : bitAt l i = (l[i]?).getD 0 := by
  induction l generalizing i with
  | nil => simp [bitAt]
  | cons a l ih =>
    cases i with
    | zero => rfl
    | succ i => show bitAt l i = _; rw [ih i]; simp

theorem precB_iff (ms : List Nat) (i j : Nat) : precB ms i j = true ↔ (bitAt ms j).testBit i = true := by
  unfold precB
  rw [Nat.testBit_eq_decide_div_mod_eq]
  simp only [decide_eq_true_eq]
  exact ⟨fun h => Nat.eq_of_beq_eq_true h, fun h => by
    have h' : Nat.mod (Nat.div (bitAt ms j) (Nat.pow 2 i)) 2 = 1 := h
    rw [h']; rfl⟩

theorem maskOf_bit {acc : List Nat} {l : List Edge} {i : Nat} (h : (maskOf acc l).testBit i = true) : ∃ e ∈ l, Region.binds .any e = true ∧ (e.on = i ∨ (bitAt acc e.on).testBit i = true) := by
  induction l with
  | nil => simp [maskOf] at h
  | cons e l ih =>
    have hm : maskOf acc (e :: l) = match Region.binds .any e with | true => Nat.lor (Nat.lor (Nat.pow 2 e.on) (bitAt acc e.on)) (maskOf acc l) | false => maskOf acc l := rfl
    rw [hm] at h
    cases hb : Region.binds .any e with
    | false =>
      rw [hb] at h
      obtain ⟨x, h1, h2⟩ := ih h
      exact ⟨x, by simp [h1], h2⟩
    | true =>
      rw [hb] at h
      simp only [testBit_lor, testBit_pow, Bool.or_eq_true, decide_eq_true_eq] at h
      rcases h with (h | h) | h
      · exact ⟨e, by simp, hb, .inl h⟩
      · exact ⟨e, by simp, hb, .inr h⟩
      · obtain ⟨x, h1, h2⟩ := ih h
        exact ⟨x, by simp [h1], h2⟩

/-- Each mask comes of the masks before it. -/
theorem masks_spec : ∀ (l : List Oper) (acc : List Nat), ∃ ms, masks l acc = acc ++ ms ∧ ms.length = l.length ∧ ∀ q o, l[q]? = some o → ms[q]? = some (maskOf (acc ++ ms.take q) o.after.toList) := by
  intro l
  induction l with
  | nil => intro acc; exact ⟨[], by simp [masks], rfl, fun q o h => by simp at h⟩
  | cons o l ih =>
    intro acc
    obtain ⟨ms, h1, h2, h3⟩ := ih (acc ++ [maskOf acc o.after.toList])
    refine ⟨maskOf acc o.after.toList :: ms, by simp only [masks]; rw [h1]; simp, by simp [h2], fun q o' hq => ?_⟩
    cases q with
    | zero => simp at hq; subst hq; simp
    | succ q =>
      have := h3 q o' (by simpa using hq)
      simpa using this

theorem prec_step {all : Array Oper} {i j : Nat} (h : precB (masks all.toList []) i j = true) : ∃ o, all[j]? = some o ∧ ∃ e ∈ o.after, Region.binds .any e = true ∧ (e.on = i ∨ (e.on < j ∧ precB (masks all.toList []) i e.on = true)) := by
  obtain ⟨ms, h1, h2, h3⟩ := masks_spec all.toList []
  rw [List.nil_append] at h1
  rw [h1] at h ⊢
  rw [precB_iff, bitAt_eq] at h
  cases ho : all[j]? with
  | none =>
    have : ms[j]? = none := by
      rw [List.getElem?_eq_none]
      rw [h2]
      have := Array.getElem?_eq_none_iff.mp ho
      simpa using this
    rw [this] at h
    simp at h
  | some o =>
    have h4 := h3 j o (by simpa using ho)
    rw [h4] at h
    simp only [Option.getD_some, List.nil_append] at h
    obtain ⟨e, h5, h6, h7⟩ := maskOf_bit h
    refine ⟨o, rfl, e, by simpa using h5, h6, ?_⟩
    rcases h7 with h7 | h7
    · exact .inl h7
    · right
      rw [bitAt_eq, List.getElem?_take] at h7
      by_cases hlt : e.on < j
      · rw [if_pos hlt] at h7
        refine ⟨hlt, ?_⟩
        rw [precB_iff, bitAt_eq]
        exact h7
      · rw [if_neg hlt] at h7
        simp at h7

/-- A drawn order keeps the order pr, if what pr sets before an operation has been done when it is done. -/
def Keeps (pr : Nat → Nat → Prop) : (Nat → Prop) → List Nat → Prop
  | _, [] => True
  | D, i :: s => ¬ D i ∧ (∀ k, pr k i → D k) ∧ Keeps pr (fun j => D j ∨ j = i) s

theorem keeps_of_direct {all : Array Oper} : ∀ {s : List Nat} {D : Nat → Prop}, Direct .any all D s → (∀ i j, D j → precB (masks all.toList []) i j = true → D i) →
    Keeps (fun i j => precB (masks all.toList []) i j = true) D s := by
  intro s
  induction s with
  | nil => intro D _ _; trivial
  | cons i s ih =>
    intro D h hc
    obtain ⟨h1, h2, h3, h4⟩ := h
    have key : ∀ k, precB (masks all.toList []) k i = true → D k := by
      intro k hk
      obtain ⟨o, ho, e, he, hb, h5⟩ := prec_step hk
      have h6 := h3 o ho e he hb
      rcases h5 with rfl | ⟨_, h5⟩
      · exact h6
      · exact hc k e.on h6 h5
    refine ⟨h2, key, ih h4 fun a b hb hab => ?_⟩
    rcases hb with hb | rfl
    · exact .inl (hc a b hb hab)
    · exact .inl (key a hab)

theorem Keeps.notin {pr : Nat → Nat → Prop} : ∀ {s : List Nat} {D : Nat → Prop}, Keeps pr D s → ∀ i ∈ s, ¬ D i := by
  intro s
  induction s with
  | nil => intro D _ i hi; cases hi
  | cons a s ih =>
    intro D h i hi
    obtain ⟨h1, h2, h3⟩ := h
    cases hi with
    | head => exact h1
    | tail _ hi => exact fun hD => ih h3 i hi (.inl hD)

/-- One more pair, which the order keeps. -/
theorem Keeps.pair {pr : Nat → Nat → Prop} {a b : Nat} : ∀ {s : List Nat} {D : Nat → Prop}, Keeps pr D s → (∀ i, D i ∨ i ∈ s → True) → (b ∉ s ∨ D a ∨ ∃ s1 s2, s = s1 ++ a :: s2 ∧ b ∉ s1) → a ≠ b →
    Keeps (fun i j => pr i j ∨ (i = a ∧ j = b)) D s := by
  intro s
  induction s with
  | nil => intro D _ _ _ _; trivial
  | cons i s ih =>
    intro D h _ hb hab
    obtain ⟨h1, h2, h3⟩ := h
    refine ⟨h1, fun k hk => ?_, ih h3 (fun _ _ => trivial) ?_ hab⟩
    · rcases hk with hk | ⟨rfl, rfl⟩
      · exact h2 k hk
      · rcases hb with hb | hb | ⟨s1, s2, e, hb⟩
        · exact absurd (by simp) hb
        · exact hb
        · cases s1 with
          | nil => simp only [List.nil_append, List.cons.injEq] at e; exact absurd e.1.symm hab
          | cons x s1 => simp only [List.cons_append, List.cons.injEq] at e; exact absurd (by simp [e.1]) hb
    · rcases hb with hb | hb | ⟨s1, s2, e, hb⟩
      · exact .inl fun h => hb (by simp [h])
      · exact .inr (.inl (.inl hb))
      · cases s1 with
        | nil => simp only [List.nil_append, List.cons.injEq] at e; exact .inr (.inl (.inr e.1.symm))
        | cons x s1 =>
          simp only [List.cons_append, List.cons.injEq] at e
          exact .inr (.inr ⟨s1, s2, e.2, fun h => hb (by simp [h])⟩)

/- A list of operations, one after another. -/
def opAt (L : List (Nat × Oper)) (q : Nat) : Oper := ((L[q]?).map (·.2)).getD default
def noAt (L : List (Nat × Oper)) (q : Nat) : Nat := ((L[q]?).map (·.1)).getD 0

section
variable {tab : Tab} {sub : Fr → Nat → F (Value × Nat)} {all : Array Oper}

theorem i_traced {α : Type} {m : F α} {X X' : St} {r : α × M} (h : interp (.traced m) X = some (r, X')) : ∃ t, interpT m X = some (r.1, X', t) ∧ r.2 = t.bits := by
  have h' : ob (interpT m X) (fun r => some ((r.1, r.2.2.bits), r.2.1)) = some (r, X') := h
  obtain ⟨x, h1, h2⟩ := ob_some.mp h'
  simp only [Option.some.injEq, Prod.mk.injEq] at h2
  obtain ⟨rfl, rfl⟩ := h2
  exact ⟨x.2.2, h1, rfl⟩

theorem regOps_canon {L : List (Nat × Oper)} : ∀ {n : Nat} {X0 X' : St} {y : Nat × List (Nat × M)}, interp (regOps tab sub all L n) X0 = some (y, X') →
    ∃ (X : Nat → St) (N : Nat → Nat) (tr : Nat → Tr), Canon (fun q => regOp tab sub all (opAt L q) (N q)) L.length X (fun q => N (q + 1)) tr ∧ X 0 = X0 ∧ X L.length = X' ∧ N 0 = n ∧ N L.length = y.1 ∧ (∀ q, q < L.length → N q ≤ N (q + 1)) ∧
      y.2.length = L.length ∧ ∀ q, q < L.length → y.2[q]? = some (noAt L q, (tr q).bits) := by
  induction L with
  | nil =>
    intro n X0 X' y h
    obtain ⟨rfl, rfl⟩ := i_pure_inv (show interp (.pure (n, [])) X0 = some (y, X') from h)
    exact ⟨fun _ => X', fun _ => n, fun _ => ⟨[], []⟩, ⟨fun i hi => absurd hi (by simp)⟩, rfl, rfl, rfl, rfl, fun q hq => absurd hq (by simp), rfl, fun q hq => absurd hq (by simp)⟩
  | cons o L ih =>
    intro n X0 X' y h
    rw [regOps_cons] at h
    obtain ⟨x, X1, h1, h2⟩ := i_bind.mp h
    obtain ⟨h3, h4⟩ := i_ifB.mp h2
    obtain ⟨z, X2, h5, h6⟩ := i_bind.mp h4
    obtain ⟨rfl, rfl⟩ := i_pure_inv h6
    rw [force_eq] at h5
    obtain ⟨t, h7, h8⟩ := i_traced h1
    obtain ⟨X, N, tr, c, e1, e2, e3, e4, e5, e6, e7⟩ := ih h5
    refine ⟨fun | 0 => X0 | q + 1 => X q, fun | 0 => n | q + 1 => N q, fun | 0 => t | q + 1 => tr q, ⟨fun i hi => ?_⟩, rfl, by simpa using e2, rfl, by simpa using e4, fun q hq => ?_, by simp [e6], fun q hq => ?_⟩
    · cases i with
      | zero =>
        show interpT (regOp tab sub all o.2 n) X0 = some (N 0, X 0, t)
        rw [e1, e3]; exact h7
      | succ i => exact c.run i (by simpa using hi)
    · cases q with
      | zero => show n ≤ N 0; rw [e3]; exact Nat.le_of_ble_eq_true h3
      | succ q => exact e5 q (by simpa using hq)
    · cases q with
      | zero => simp [noAt, h8]
      | succ q =>
        have := e7 q (by simpa using hq)
        simpa [noAt] using this

theorem land_bit {a b i : Nat} (h : Nat.land a b = 0) (ha : a.testBit i = true) : b.testBit i = false := by
  have : (a &&& b).testBit i = false := by
    show (Nat.land a b).testBit i = false
    rw [h]; simp
  rw [Nat.testBit_and, ha] at this
  simpa using this

theorem confl_apart {t u : Tr} (h : conflB t.bits u.bits = false) : (∀ l, l ∈ wl t → l ∉ u.r ∧ l ∉ wl u) ∧ ∀ l, l ∈ wl u → l ∉ t.r := by
  unfold conflB at h
  split at h
  · rename_i hb
    simp only [Bool.and_eq_true] at hb
    obtain ⟨h1, h2, h3, h4⟩ := hb
    have h1 := Nat.eq_of_beq_eq_true h1
    have h2 := Nat.eq_of_beq_eq_true h2
    have h3 := Nat.eq_of_beq_eq_true h3
    have h4 := Nat.eq_of_beq_eq_true h4
    refine ⟨fun l hl => ?_, fun l hl => ?_⟩
    · cases l with
      | t i =>
        have hw : t.bits.wt.testBit i = true := mem_bitT hl _
        have := land_bit h3 hw
        rw [testBit_lor] at this
        simp only [Bool.or_eq_false_iff] at this
        refine ⟨fun hr => ?_, fun hr => ?_⟩
        · have : u.bits.rt.testBit i = true := mem_bitT hr _
          simp_all
        · have : u.bits.wt.testBit i = true := mem_bitT hr _
          simp_all
      | o i =>
        have hw : t.bits.wh.testBit i = true := mem_bitH hl _
        have := land_bit h1 hw
        rw [testBit_lor] at this
        simp only [Bool.or_eq_false_iff] at this
        refine ⟨fun hr => ?_, fun hr => ?_⟩
        · have : u.bits.rh.testBit i = true := mem_bitH hr _
          simp_all
        · have : u.bits.wh.testBit i = true := mem_bitH hr _
          simp_all
    · intro hr
      cases l with
      | t i =>
        have hw : u.bits.wt.testBit i = true := mem_bitT hl _
        have := land_bit h4 hw
        have : t.bits.rt.testBit i = true := mem_bitT hr _
        simp_all
      | o i =>
        have hw : u.bits.wh.testBit i = true := mem_bitH hl _
        have := land_bit h2 hw
        have : t.bits.rh.testBit i = true := mem_bitH hr _
        simp_all
  · cases h

theorem apartGo_at {pr : Nat → Nat → Bool} {i : Nat} {t : M} {l : List (Nat × M)} (h : apartGo pr i t l = true) {q : Nat} {u : Nat × M} (hq : l[q]? = some u) : pr i u.1 = true ∨ conflB t u.2 = false := by
  induction l generalizing q with
  | nil => simp at hq
  | cons a l ih =>
    have h' : Bool.rec (motive := fun _ => Bool) (apartGo pr i t l) (Bool.rec (motive := fun _ => Bool) false (apartGo pr i t l) (pr i a.1)) (conflB t a.2) = true := h
    have key : (pr i a.1 = true ∨ conflB t a.2 = false) ∧ apartGo pr i t l = true := by
      cases hc : conflB t a.2 with
      | false => rw [hc] at h'; exact ⟨.inr rfl, h'⟩
      | true =>
        rw [hc] at h'
        cases hp : pr i a.1 with
        | false => rw [hp] at h'; cases h'
        | true => rw [hp] at h'; exact ⟨.inl rfl, h'⟩
    cases q with
    | zero => simp at hq; subst hq; exact key.1
    | succ q => exact ih key.2 (by simpa using hq)

theorem apartB_at {pr : Nat → Nat → Bool} {l : List (Nat × M)} (h : apartB pr l = true) {p q : Nat} (hpq : p < q) {t u : Nat × M} (hp : l[p]? = some t) (hq : l[q]? = some u) : pr t.1 u.1 = true ∨ conflB t.2 u.2 = false := by
  induction l generalizing p q with
  | nil => simp at hp
  | cons a l ih =>
    have h' : Bool.rec (motive := fun _ => Bool) false (apartB pr l) (apartGo pr a.1 a.2 l) = true := h
    have key : apartGo pr a.1 a.2 l = true ∧ apartB pr l = true := by
      cases hc : apartGo pr a.1 a.2 l with
      | false => rw [hc] at h'; cases h'
      | true => rw [hc] at h'; exact ⟨rfl, h'⟩
    cases q with
    | zero => omega
    | succ q =>
      cases p with
      | zero => simp at hp hq; subst hp; exact apartGo_at key.1 hq
      | succ p => exact ih (p := p) (q := q) key.2 (by omega) (by simpa using hp) (by simpa using hq)

/-- The run of a region, taken apart. -/
theorem regChk_canon {pr : Nat → Nat → Bool} {L : List (Nat × Oper)} {n n' : Nat} {X0 X' : St} (h : interp (regChk tab sub all pr L n) X0 = some (n', X')) :
    ∃ (X : Nat → St) (N : Nat → Nat) (tr : Nat → Tr), Canon (fun q => regOp tab sub all (opAt L q) (N q)) L.length X (fun q => N (q + 1)) tr ∧ X 0 = X0 ∧ X L.length = X' ∧ N 0 = n ∧ N L.length = n' ∧ (∀ q, q < L.length → N q ≤ N (q + 1)) ∧
      Apart L.length tr (fun p q => p < q ∧ q < L.length ∧ pr (noAt L p) (noAt L q) = true) := by
  obtain ⟨x, X1, h1, h2⟩ := i_bind.mp h
  obtain ⟨h3, h4⟩ := i_ifB.mp h2
  obtain ⟨rfl, rfl⟩ := i_pure_inv h4
  obtain ⟨X, N, tr, c, e1, e2, e3, e4, e5, e6, e7⟩ := regOps_canon h1
  refine ⟨X, N, tr, c, e1, e2, e3, e4, e5, fun p q hpq hq => ?_⟩
  rcases apartB_at h3 hpq (e7 p (by omega)) (e7 q hq) with h5 | h5
  · exact .inl ⟨hpq, hq, h5⟩
  · exact .inr (confl_apart h5)
end
end Ae
