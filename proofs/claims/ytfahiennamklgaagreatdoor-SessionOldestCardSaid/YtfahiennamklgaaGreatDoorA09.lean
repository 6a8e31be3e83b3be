/- The evaluator is right at each operation; its places are numbered upwards. -/
import Derived.Test.YtfahiennamklgaaGreatDoorA08

set_option linter.all false
set_option linter.unusedVariables false
set_option linter.unusedSimpArgs false
set_option linter.deprecated false

/- Each operation. -/
namespace Ae
open Go Go.RowKit

section
variable {tab : Tab} {P : Program} {h0 : Nat} {ρ : Ren} {X X' : St} {w : World} {n : Nat}

/-- What is shown of an operation. -/
abbrev OpOK (P : Program) (h0 : Nat) (ρ : Ren) (X X' : St) (w : World) (n n' : Nat) (out : Out) (s : Sem Next) : Prop :=
  n ≤ n' ∧ New P h0 ρ X X' w n n' s (fun ρ' _ b => OutR ρ' out b)

theorem OpOK.of_value {n' : Nat} {v v' : Value} {w' : World} {s : Sem Value} (hn : n' = n) (hT : X'.T = X.T) (hr : s.run P w = .ok v' w') (g : Good h0 ρ X'.H w'.heap) (b : Below h0 w w') (r : VR ρ v v') :
    OpOK P h0 ρ X X' w n n' (.val v) (do pure (.value (← s))) := by
  subst hn
  exact ⟨Nat.le_refl _, hT, ρ, w', .value v', by simp [hr], Ren.le_refl ρ, fun _ _ h => .inl h, g, b, .val r⟩

/-- A value operation that makes no place. -/
theorem OpOK.of_pur (g : Good h0 ρ X.H w.heap) {n' : Nat} {m : F Value} {out : Out} {s : Sem Value} (h : interp (vF n m) X = some ((out, n'), X')) (k : ∀ v, interp m X = some (v, X') → Pur P ρ X X' w v s) :
    OpOK P h0 ρ X X' w n n' out (do pure (.value (← s))) := by
  obtain ⟨v, X1, h1, h2⟩ := i_bind.mp h
  obtain ⟨e, rfl⟩ := i_pure_inv h2
  simp only [Prod.mk.injEq] at e
  obtain ⟨rfl, rfl⟩ := e
  obtain ⟨rfl, v', h3, h4⟩ := k v h1
  exact .of_value rfl rfl h3 g (.refl _ _) h4

theorem OpOK.of_new {n' : Nat} {out : Out} {s : Sem Value} (h : n ≤ n' ∧ New P h0 ρ X X' w n n' s (fun ρ' _ b => ∃ v, out = .val v ∧ VR ρ' v b)) : OpOK P h0 ρ X X' w n n' out (do pure (.value (← s))) := by
  obtain ⟨k1, k2, ρ', w', b, k3, k4, k5, k6, k7, v, rfl, k9⟩ := h
  exact ⟨k1, k2, ρ', w', .value b, by simp [k3], k4, k5, k6, k7, .val k9⟩

theorem OpOK.of_unit {n' : Nat} {out : Out} {s : Sem Unit} (h : n' = n ∧ out = .skip ∧ X'.T = X.T ∧ ∃ w', s.run P w = .ok () w' ∧ Good h0 ρ X'.H w'.heap ∧ Below h0 w w') : OpOK P h0 ρ X X' w n n' out (do s; pure .skip) := by
  obtain ⟨rfl, rfl, h1, w', h2, h3, h4⟩ := h
  exact ⟨Nat.le_refl _, h1, ρ, w', .skip, by simp [h2], Ren.le_refl ρ, fun _ _ h => .inl h, h3, h4, .skip⟩

theorem headF_inv {β : Type} {args : List Value} {f : Value → F β} {r : β} (h : interp (headF args f) X = some (r, X')) : ∃ x l, args = x :: l ∧ interp (f x) X = some (r, X') := by
  cases args with
  | nil => cases h
  | cons x l => exact ⟨x, l, rfl, h⟩

theorem argType_inv {β : Type} {c : Call} {f : TInfo → F β} {r : β} (h : interp (argType tab c f) X = some (r, X')) : ∃ t i, c.argTypes[0]? = some t ∧ tab.ty.at_ t = some i ∧ interp (f i) X = some (r, X') := by
  obtain ⟨t, h1, h2⟩ := i_optB.mp h
  obtain ⟨i, h3, h4⟩ := i_tiB.mp h2
  rw [nth_eq] at h1
  exact ⟨t, i, by simpa using h1, h3, h4⟩

theorem len_more {ts : Array TypeId} {ty : TypeId} {x : Value} {l : List Value} : Builtin.len_ ts ty (x :: l).toArray = Builtin.len_ ts ty #[x] := by simp [Builtin.len_]

theorem builtin_sound (ok : TabOK tab P) (g : Good h0 ρ X.H w.heap) {n' : Nat} (fr : ∀ id, n ≤ id → id < n' → ρ id = none) {b : Builtin} {c : Call} {ty : TypeId} {consts : Array Bool} {args : List Value} {args' : Array Value} (ra : LR ρ args args'.toList) {out : Out}
    (h : interp (builtinK b tab c ty n args) X = some ((out, n'), X')) : OpOK P h0 ρ X X' w n n' out (builtin b c.argTypes ty consts args') := by
  have ha : args' = args'.toList.toArray := by simp
  cases b with
  | append =>
    obtain ⟨y, X1, h1, h2⟩ := i_bind.mp (show interp (.bind (appendF tab c.argTypes args n) fun x => .pure (Out.val x.1, x.2)) X = some ((out, n'), X') from h)
    obtain ⟨e, rfl⟩ := i_pure_inv h2
    simp only [Prod.mk.injEq] at e
    obtain ⟨rfl, rfl⟩ := e
    unfold appendF at h1
    split at h1
    · rename_i s x
      obtain ⟨s', k1, e1, rs, hk⟩ := ra.cons_inv
      obtain ⟨x', k2, e2, rx, hk2⟩ := hk.cons_inv
      have e3 := hk2.nil_inv
      subst e3; subst e2
      have e4 : args' = #[s', x'] := by rw [ha, e1]
      subst e4
      obtain ⟨v, m⟩ := y
      obtain ⟨a1, a2, ρ', w', bb, a3, a4, a5, a6, a7, a8⟩ := append_sound (P := P) (w := w) ok g fr rs rx h1 ty
      exact .of_new ⟨a1, a2, ρ', w', bb, a3, a4, a5, a6, a7, v, rfl, a8⟩
    · cases h1
  | len =>
    refine .of_pur g h fun v hv => ?_
    obtain ⟨x, l, rfl, hv⟩ := headF_inv hv
    obtain ⟨t, i, h1, h2, h3⟩ := argType_inv hv
    obtain ⟨x', k, e1, rx, hk⟩ := ra.cons_inv
    obtain ⟨h4, v', h5, h6⟩ := len_sound (w := w) (ok.ty t i h2) rx h3 c.argTypes h1 ty
    exact ⟨h4, v', by rw [ha, e1, len_more]; exact h5, h6⟩
  | copy =>
    obtain ⟨v, X1, h1, h2⟩ := i_bind.mp (show interp (vF n (argType tab c fun i => copyF tab i args)) X = some ((out, n'), X') from h)
    obtain ⟨e, rfl⟩ := i_pure_inv h2
    simp only [Prod.mk.injEq] at e
    obtain ⟨rfl, rfl⟩ := e
    obtain ⟨t, i, h3, h4, h5⟩ := argType_inv h1
    have h5' := h5
    unfold copyF at h5
    split at h5
    · rename_i s x
      obtain ⟨s', k1, e1, rs, hk⟩ := ra.cons_inv
      obtain ⟨x', k2, e2, rx, hk2⟩ := hk.cons_inv
      have e3 := hk2.nil_inv
      subst e3; subst e2
      have e4 : args' = #[s', x'] := by rw [ha, e1]
      subst e4
      obtain ⟨a1, w', v', a2, a3, a4, a5⟩ := copy_sound (P := P) (w := w) ok g h4 rs rx h5' c.argTypes h3 ty
      exact .of_value rfl a1 a2 a3 a4 a5
    · cases h5
  | max => exact .of_pur g h fun v hv => by rw [ha]; exact maxmin_sound ok ra hv
  | min => exact .of_pur g h fun v hv => by rw [ha]; exact maxmin_sound ok ra hv
  | recover =>
    obtain ⟨e, rfl⟩ := i_pure_inv (show interp (.pure (Out.recover, n)) X = some ((out, n'), X') from h)
    simp only [Prod.mk.injEq] at e
    obtain ⟨rfl, rfl⟩ := e
    exact ⟨Nat.le_refl _, rfl, ρ, w, .recover, rfl, Ren.le_refl ρ, fun _ _ h => .inl h, g, .refl _ _, .recover⟩
  | _ => cases h

theorem callV_sound (ok : TabOK tab P) (g : Good h0 ρ X.H w.heap) {n' : Nat} (fr : ∀ id, n ≤ id → id < n' → ρ id = none) {rdr : Operand → F Value} {ev : Operand → Value} (hr : Reads ρ X.T rdr ev) {c : Call} {f f' : Value} (rf : VR ρ f f') {out : Out}
    (h : interp (callVF tab rdr n c f) X = some ((out, n'), X')) : OpOK P h0 ρ X X' w n n' out (do let d ← Deferred.ofValue f' (c.args.map ev); invoke d.target d.args) := by
  obtain ⟨fv, h1, h2⟩ := i_optB.mp h
  obtain ⟨args, X1, h3, h4⟩ := i_bind.mp h2
  obtain ⟨rfl, ra⟩ := opds_sound hr _ rfl h3
  rw [vFunc_eq h1] at rf
  cases rf with
  | @func _ f2 _ b _ d hf a1 a2 a3 a4 =>
    have ra' : LR ρ (fv.2.1.toList ++ args) (b ++ c.args.map ev).toList := by
      rw [Array.toList_append, Array.toList_map]
      exact LR.append ⟨a1, a2⟩ ra
    obtain ⟨k1, k2, ρ', w', b', k3, k4⟩ := target_sound (P := P) (w := w) ok g fr hf ra' (cap' := d) ⟨a3, a4⟩ h4
    exact ⟨k1, k2, ρ', w', b', by simpa [Deferred.ofValue] using k3, k4⟩

theorem callee_sound (ok : TabOK tab P) (g : Good h0 ρ X.H w.heap) {n' : Nat} (fr : ∀ id, n ≤ id → id < n' → ρ id = none) {rdr : Operand → F Value} {ev : Operand → Value} (hr : Reads ρ X.T rdr ev) {c : Call} {ty : TypeId} {out : Out}
    (h : interp (calleeK c.callee tab rdr c ty n) X = some ((out, n'), X')) : OpOK P h0 ρ X X' w n n' out (do let d ← resolve ev c ty; invoke d.target d.args) := by
  unfold resolve
  cases hc : c.callee with
  | value f =>
    rw [hc] at h
    obtain ⟨fv, X1, h1, h2⟩ := i_bind.mp (show interp (.bind (rdr f) (callVF tab rdr n c)) X = some ((out, n'), X') from h)
    obtain ⟨rfl, rf⟩ := hr f X X1 fv rfl h1
    exact callV_sound ok g fr hr rf h2
  | invoke recv name =>
    rw [hc] at h
    obtain ⟨r, X1, h1, h2⟩ := i_bind.mp (show interp (.bind (rdr recv) fun r => .bind (opds rdr c.args.toList) fun args => targetK (.method name) tab (r :: args) [] n) X = some ((out, n'), X') from h)
    obtain ⟨rfl, rf⟩ := hr recv X X1 r rfl h1
    obtain ⟨args, X2, h3, h4⟩ := i_bind.mp h2
    obtain ⟨rfl, ra⟩ := opds_sound hr _ rfl h3
    obtain ⟨k1, k2, ρ', w', b', k3, k4⟩ := target_sound (P := P) (w := w) (args' := #[ev recv] ++ c.args.map ev) (cap' := #[]) ok g fr (.same (.method name) rfl) (by simpa using LR.cons rf ra) (.nil ρ) h4
    exact ⟨k1, k2, ρ', w', b', by simpa using k3, k4⟩
  | builtin b =>
    rw [hc] at h
    obtain ⟨args, X2, h3, h4⟩ := i_bind.mp (show interp (.bind (opds rdr c.args.toList) (builtinK b tab c ty n)) X = some ((out, n'), X') from h)
    obtain ⟨rfl, ra⟩ := opds_sound hr _ rfl h3
    obtain ⟨k1, k2, ρ', w', b', k3, k4⟩ := builtin_sound (P := P) (w := w) (args' := c.args.map ev) (consts := c.args.map fun | .const _ => true | _ => false) ok g fr (by simpa using ra) h4
    exact ⟨k1, k2, ρ', w', b', k3, k4⟩
end
end Ae

/- Each operation. -/
namespace Ae
open Go Go.RowKit

section
variable {tab : Tab} {P : Program} {h0 : Nat} {ρ : Ren} {X X' : St} {w : World} {n : Nat}

theorem rd_inv {β : Type} {T : Trie Value} {rdr : Operand → F Value} {ev : Operand → Value} (hr : Reads ρ T rdr ev) (hT : X.T = T) {x : Operand} {f : Value → F β} {r : β} (h : interp (.bind (rdr x) f) X = some (r, X')) :
    ∃ v, VR ρ v (ev x) ∧ interp (f v) X = some (r, X') := by
  obtain ⟨v, X1, h1, h2⟩ := i_bind.mp h
  obtain ⟨rfl, rf⟩ := hr x X X1 v hT h1
  exact ⟨v, rf, h2⟩

theorem rdO_inv {β : Type} {T : Trie Value} {rdr : Operand → F Value} {ev : Operand → Value} (hr : Reads ρ T rdr ev) (hT : X.T = T) {x : Option Operand} {f : Option Value → F β} {r : β} (h : interp (.bind (opdO rdr x) f) X = some (r, X')) :
    ∃ v, OptR ρ v (x.map ev) ∧ interp (f v) X = some (r, X') := by
  obtain ⟨v, X1, h1, h2⟩ := i_bind.mp h
  cases x with
  | none =>
    obtain ⟨rfl, rfl⟩ := i_pure_inv h1
    exact ⟨none, .none, h2⟩
  | some x =>
    obtain ⟨v', rf, h3⟩ := rd_inv (f := fun v => .pure (some v)) hr hT h1
    obtain ⟨rfl, rfl⟩ := i_pure_inv h3
    exact ⟨some v', .some rf, h2⟩

theorem rds_inv {β : Type} {T : Trie Value} {rdr : Operand → F Value} {ev : Operand → Value} (hr : Reads ρ T rdr ev) (hT : X.T = T) {l : List Operand} {f : List Value → F β} {r : β} (h : interp (.bind (opds rdr l) f) X = some (r, X')) :
    ∃ vs, LR ρ vs (l.map ev) ∧ interp (f vs) X = some (r, X') := by
  obtain ⟨v, X1, h1, h2⟩ := i_bind.mp h
  obtain ⟨rfl, rf⟩ := opds_sound hr l hT h1
  exact ⟨v, rf, h2⟩

theorem vF_inv {n' : Nat} {m : F Value} {out : Out} (h : interp (vF n m) X = some ((out, n'), X')) : n' = n ∧ ∃ v, out = .val v ∧ interp m X = some (v, X') := by
  obtain ⟨v, X1, h1, h2⟩ := i_bind.mp h
  obtain ⟨e, rfl⟩ := i_pure_inv h2
  simp only [Prod.mk.injEq] at e
  obtain ⟨rfl, rfl⟩ := e
  exact ⟨rfl, v, rfl, h1⟩

theorem fnOnly_eq {f : Fn} {g : FuncId} (h : fnOnly f = some g) : f = .func g := by
  cases f with
  | func f => cases h; rfl
  | _ => cases h

theorem defer_sound (g : Good h0 ρ X.H w.heap) {n' : Nat} {rdr : Operand → F Value} {ev : Operand → Value} (hr : Reads ρ X.T rdr ev) {c : Call} {ty : TypeId} {out : Out}
    (h : interp (deferF rdr c n) X = some ((out, n'), X')) : OpOK P h0 ρ X X' w n n' out (do pure (.defer (← resolve ev c ty))) := by
  unfold deferF at h
  unfold resolve
  split at h
  · rename_i f hc
    rw [hc]
    obtain ⟨fv, rf, h2⟩ := rd_inv hr rfl h
    obtain ⟨fn, h3, h4⟩ := i_optB.mp h2
    obtain ⟨g', h5, h6⟩ := i_optB.mp h4
    obtain ⟨args, ra, h7⟩ := rds_inv hr rfl h6
    obtain ⟨e, rfl⟩ := i_pure_inv h7
    simp only [Prod.mk.injEq] at e
    obtain ⟨rfl, rfl⟩ := e
    rw [vFunc_eq h3] at rf
    generalize he : ev f = f' at rf
    cases rf with
    | @func _ f2 _ b _ d hf a1 a2 a3 a4 =>
      rw [fnOnly_eq h5] at hf
      cases hf with
      | same _ _ =>
        refine ⟨Nat.le_refl _, rfl, ρ, w, .defer { target := .fn (.func g') d, args := b ++ c.args.map ev }, ?_, Ren.le_refl ρ, fun _ _ h => .inl h, g, .refl _ _, .defer (.fn ⟨a3, a4⟩ ?_)⟩
        · simp [he, Deferred.ofValue]
        · rw [Array.toList_append, Array.toList_append, Array.toList_map]
          exact LR.append ⟨a1, a2⟩ ra
  · cases h

theorem op_sound (ok : TabOK tab P) (g : Good h0 ρ X.H w.heap) {n' : Nat} (fr : ∀ id, n ≤ id → id < n' → ρ id = none) {rdr : Operand → F Value} {ev : Operand → Value} (hr : Reads ρ X.T rdr ev) {o : Oper} {out : Out}
    (h : interp (opF tab rdr o n) X = some ((out, n'), X')) : OpOK P h0 ρ X X' w n n' out (execOp ev o) := by
  obtain ⟨dst, op, type⟩ := o
  unfold opF at h
  unfold execOp
  cases op with
  | move x => exact .of_pur (s := pure (ev x)) g h fun v hv => let ⟨e, r⟩ := hr x X X' v rfl hv; ⟨e, _, rfl, r⟩
  | assign x => exact .of_pur (s := pure (ev x)) g h fun v hv => let ⟨e, r⟩ := hr x X X' v rfl hv; ⟨e, _, rfl, r⟩
  | pick c a b =>
    obtain ⟨rfl, v, rfl, h1⟩ := vF_inv h
    obtain ⟨cv, rc, h2⟩ := rd_inv hr rfl h1
    obtain ⟨rfl, t, e, r⟩ := pick_sound hr rfl rc h2
    refine ⟨Nat.le_refl _, rfl, ρ, w, .value _, ?_, Ren.le_refl ρ, fun _ _ h => .inl h, g, .refl _ _, .val r⟩
    simp [e, asBool]
  | alloc elem => exact .of_new (alloc_sound ok g fr h)
  | box elem x =>
    obtain ⟨v, rv, h2⟩ := rd_inv hr rfl h
    exact .of_new (box_sound g fr rv h2)
  | build t parts =>
    obtain ⟨i, h1, h2⟩ := i_tiB.mp h
    obtain ⟨vs, rv, h3⟩ := rds_inv hr rfl h2
    obtain ⟨rfl, rfl, v, v', rfl, h4, h5⟩ := build_sound (w := w) ok h1 rv h3
    exact .of_value rfl rfl h4 g (.refl _ _) h5
  | buildSlice t len parts =>
    obtain ⟨i, h1, h2⟩ := i_tiB.mp h
    obtain ⟨vs, rv, h3⟩ := rds_inv hr rfl h2
    exact .of_new (buildSlice_sound ok g fr h1 rv h3)
  | load t a => exact .of_pur g h fun v hv => let ⟨x, rx, h2⟩ := rd_inv hr rfl hv; load_sound ok g rx h2
  | store t a x =>
    obtain ⟨a, ra, h2⟩ := rd_inv hr rfl h
    obtain ⟨x, rx, h3⟩ := rd_inv hr rfl h2
    exact .of_unit (store_sound ok g ra rx h3)
  | nilCheck x =>
    obtain ⟨rfl, v, rfl, h1⟩ := vF_inv h
    obtain ⟨cv, rc, h2⟩ := rd_inv hr rfl h1
    obtain ⟨rfl, r, a, e⟩ := nilCheck_sound rc h2
    refine ⟨Nat.le_refl _, rfl, ρ, w, .value (ev x), ?_, Ren.le_refl ρ, fun _ _ h => .inl h, g, .refl _ _, .val r⟩
    simp [e]
  | binOp op t x y _ =>
    refine .of_pur g h fun v hv => ?_
    obtain ⟨a, ra, h2⟩ := rd_inv hr rfl hv
    obtain ⟨b, rb, h3⟩ := rd_inv hr rfl h2
    exact bin_sound ok ra rb h3
  | unOp op _ x => exact .of_pur g h fun v hv => let ⟨x, rx, h2⟩ := rd_inv hr rfl hv; not_sound rx h2
  | convert src dst x => exact .of_pur g h fun v hv => let ⟨x, rx, h2⟩ := rd_inv hr rfl hv; convert_sound ok g rx h2
  | makeInterface t x => exact .of_pur g h fun v hv => iface_sound ok hr rfl hv
  | makeFunc fn first captured => exact .of_pur g h fun v hv => makeFunc_sound hr rfl hv
  | makeMap t r =>
    obtain ⟨h1, h2⟩ := i_ifB.mp h
    exact .of_new (makeMap_sound g fr (by simpa using h1) h2)
  | makeSlice t l c =>
    obtain ⟨l, rl, h2⟩ := rd_inv hr rfl h
    obtain ⟨c, rc, h3⟩ := rd_inv hr rfl h2
    obtain ⟨l', h4, h5⟩ := i_optB.mp h3
    obtain ⟨c', h6, h7⟩ := i_optB.mp h5
    exact .of_new (makeSlice_sound ok g fr rl rc h4 h6 h7)
  | slice t x lo hi mx =>
    refine .of_pur g h fun v hv => ?_
    obtain ⟨a, ra, h2⟩ := rd_inv hr rfl hv
    obtain ⟨lo, rl, h3⟩ := rdO_inv hr rfl h2
    obtain ⟨hi, rh, h4⟩ := rdO_inv hr rfl h3
    obtain ⟨mx, rm, h5⟩ := rdO_inv hr rfl h4
    exact slice_sound ok g ra rl rh rm h5
  | fieldAddr s x f => exact .of_pur g h fun v hv => let ⟨x, rx, h2⟩ := rd_inv hr rfl hv; fieldAddr_sound ok rx h2
  | field t x f => exact .of_pur g h fun v hv => let ⟨x, rx, h2⟩ := rd_inv hr rfl hv; field_sound ok rx h2
  | indexAddr t x ix =>
    refine .of_pur g h fun v hv => ?_
    obtain ⟨a, ra, h2⟩ := rd_inv hr rfl hv
    obtain ⟨b, rb, h3⟩ := rd_inv hr rfl h2
    obtain ⟨j, h4, h5⟩ := i_optB.mp h3
    exact indexAddr_sound ok ra h4 rb h5
  | index t x ix =>
    refine .of_pur g h fun v hv => ?_
    obtain ⟨a, ra, h2⟩ := rd_inv hr rfl hv
    obtain ⟨b, rb, h3⟩ := rd_inv hr rfl h2
    obtain ⟨j, h4, h5⟩ := i_optB.mp h3
    exact index_sound ok ra h4 rb h5
  | lookup t x ix c =>
    refine .of_pur g h fun v hv => ?_
    obtain ⟨a, ra, h2⟩ := rd_inv hr rfl hv
    obtain ⟨b, rb, h3⟩ := rd_inv hr rfl h2
    exact lookup_sound ok g ra rb h3
  | mapUpdate t m k x =>
    obtain ⟨m, rm, h2⟩ := rd_inv hr rfl h
    obtain ⟨k, rk, h3⟩ := rd_inv hr rfl h2
    obtain ⟨x, rx, h4⟩ := rd_inv hr rfl h3
    exact .of_unit (mapUpdate_sound ok g rm rk rx h4)
  | mapEntry t m k =>
    obtain ⟨m, rm, h2⟩ := rd_inv hr rfl h
    obtain ⟨k, rk, h3⟩ := rd_inv hr rfl h2
    obtain ⟨h4, h5, w', v, v', rfl, h6, h7, h8, h9⟩ := mapEntry_sound (w := w) ok g rm rk h3
    exact .of_value h4 h5 h6 h7 h8 h9
  | entryStore t m s x =>
    obtain ⟨m, rm, h2⟩ := rd_inv hr rfl h
    obtain ⟨k, rk, h3⟩ := rd_inv hr rfl h2
    obtain ⟨x, rx, h4⟩ := rd_inv hr rfl h3
    exact .of_unit (entryStore_sound g rm rk rx h4)
  | range t x =>
    obtain ⟨v, rv, h2⟩ := rd_inv hr rfl h
    exact .of_new (range_sound ok g fr rv h2)
  | next it isS =>
    obtain ⟨h1, v, rfl, h2⟩ := vF_inv h
    obtain ⟨x, rx, h3⟩ := rd_inv (f := fun v => .bind (iterOf v) (nextF isS)) hr rfl h2
    obtain ⟨h5, w', v', h6, h7, h8, h9⟩ := next_sound (P := P) (w := w) g type rx h3
    exact .of_value h1 h5 h6 h7 h8 h9
  | entry it => exact .of_pur g h fun v hv => let ⟨x, rx, h2⟩ := rd_inv (f := fun v => .bind (iterOf v) entryF) hr rfl hv; entry_sound g rx h2
  | typeAssert x xt asserted c => exact .of_pur g h fun v hv => let ⟨x, rx, h2⟩ := rd_inv hr rfl hv; typeAssert_sound ok rx h2
  | extract t ix => exact .of_pur g h fun v hv => let ⟨x, rx, h2⟩ := rd_inv hr rfl hv; extract_sound rx h2
  | call c => exact callee_sound ok g fr hr h
  | defer c => exact defer_sound g hr h
  | _ => cases h
end
end Ae

/- New places have higher and higher numbers. -/
namespace Ae
open Go Go.RowKit

def resN : Res → Nat
  | .done _ n => n
  | .next _ n => n

def Up (n : Nat) (m : F Res) : Prop := ∀ (X : St) (r : Res) (X' : St), interp m X = some (r, X') → n ≤ resN r

section
variable {n : Nat} {α : Type}
theorem Up.pure {r : Res} (h : n ≤ resN r) : Up n (.pure r) := by
  intro X r' X' e; obtain ⟨rfl, rfl⟩ := i_pure_inv e; exact h
theorem Up.fail : Up n (.fail : F Res) := by intro X r X' e; cases e
theorem Up.bind {m : F α} {f : α → F Res} (h : ∀ a, Up n (f a)) : Up n (.bind m f) := by
  intro X r X' e; obtain ⟨a, X1, _, h2⟩ := i_bind.mp e; exact h a _ _ _ h2
theorem Up.optB {x : Option α} {f : α → F Res} (h : ∀ a, Up n (f a)) : Up n (optB x f) := by
  intro X r X' e; obtain ⟨a, _, h2⟩ := i_optB.mp e; exact h a _ _ _ h2
theorem Up.ifB {b : Bool} {m : F Res} (h : b = true → Up n m) : Up n (ifB b m) := by
  intro X r X' e; obtain ⟨h1, h2⟩ := i_ifB.mp e; exact h h1 _ _ _ h2
theorem Up.le {k : Nat} {m : F Res} (h : n ≤ k) (u : Up k m) : Up n m := fun X r X' e => Nat.le_trans h (u X r X' e)
end

section
variable {tab : Tab} {fr : Fr} {cs : List Fr} {n : Nat} {k : List AIt}
theorem toF_up {todo : List AIt} : Up n (toF fr cs n todo) := .pure (Nat.le_refl _)
theorem backF_up {kind : CallKind} {v : Value} : Up n (backF kind cs v n) := by
  unfold backF
  split
  · exact .optB fun _ => .pure (Nat.le_refl _)
  · exact .ifB fun _ => .pure (Nat.le_refl _)
  · exact .fail
theorem leaveF_up {jump : Option Code} : Up n (leaveF fr cs jump n) := by
  unfold leaveF
  split
  · exact .ifB fun _ => .pure (Nat.le_refl _)
  · exact .bind fun _ => .bind fun _ => backF_up
theorem outF_up {all : Array Oper} {i : Nat} {o : Oper} {rest : List Oper} {x : Out} : Up n (outF tab fr cs n all i o rest k x) := by
  unfold outF
  split
  · exact .bind fun _ => .pure (Nat.le_refl _)
  · exact .pure (Nat.le_refl _)
  · split
    · exact .pure (Nat.le_refl _)
    · exact .fail
  · exact .ifB fun _ => .pure (Nat.le_refl _)
  · exact .fail
theorem opsF_cons {all : Array Oper} {i : Nat} {o : Oper} {rest : List Oper} {T : Trie Value} : opsF tab fr cs all k (o :: rest) i T n =
    Bool.rec (motive := fun _ => F Res) (opsF tab fr cs all k rest (Nat.succ i) (putDst T o.dst undef) n)
      (.bind (opF tab (opdT T) o n) fun x => ifB (Nat.ble n x.2) <| force x.2 fun n => Option.rec (motive := fun _ => F Res)
        (outF tab (mkFr fr T (.ops all i (o :: rest) :: k) fr.defers) cs n all i o rest k x.1)
        (fun v => opsF tab fr cs all k rest (Nat.succ i) (putDst T o.dst v) n) (plainOut x.1))
      (wantedT all T o.guard) := rfl
theorem opsF_up {all : Array Oper} {l : List Oper} : ∀ {i : Nat} {T : Trie Value} {n : Nat}, Up n (opsF tab fr cs all k l i T n) := by
  induction l with
  | nil => intro i T n; exact .pure (Nat.le_refl _)
  | cons o rest ih =>
    intro i T n
    rw [opsF_cons]
    cases wantedT all T o.guard with
    | false => exact ih
    | true =>
      refine .bind fun x => .ifB fun hb => ?_
      rw [force_eq]
      have hb' := Nat.le_of_ble_eq_true hb
      cases plainOut x.1 with
      | none => exact .le hb' outF_up
      | some v => exact .le hb' ih
theorem retF_up : Up n (retF tab fr cs n) := by
  unfold retF
  split
  · rename_i d ds _
    obtain ⟨target, args⟩ := d
    cases target with
    | collected b => exact .bind fun _ => .optB fun _ => .bind fun _ => .pure (Nat.le_refl _)
    | fn f captured => exact .optB fun _ => .bind fun _ => .pure (Nat.le_refl _)
    | _ => exact .fail
  · split
    · refine .optB fun _ => .bind fun _ => ?_
      unfold handF
      split
      · split
        · exact .pure (Nat.le_refl _)
        · exact .fail
      · exact backF_up
    · exact .fail
theorem condF_up {a b : Code} {v : Value} : Up n (condF fr cs n k a b v) := by
  refine .optB fun c => ?_
  cases c <;> exact toF_up
theorem exitF_up {id : Nat} {o : Option (List AIt)} : Up n (exitF fr cs n id o) := by
  cases o with
  | none => exact leaveF_up
  | some k => exact toF_up
theorem beginF_up : Up n (beginF fr cs n k) := by
  refine .optB fun l => .bind fun r => ?_
  split
  · exact .bind fun _ => toF_up
  · exact .fail
theorem endLoopF_up {l : Nat} : Up n (endLoopF fr cs n k l) := by
  refine .bind fun r => ?_
  split
  · exact .fail
  · exact .bind fun _ => toF_up

theorem markF_up {r : Option Nat} {X X' : St} {y : Nat × List Deferred × Nat} (h : interp (markF n r) X = some (y, X')) : n ≤ y.2.2 := by
  unfold markF at h
  split at h
  · obtain ⟨_, _, _, h2⟩ := i_bind.mp h
    obtain ⟨rfl, rfl⟩ := i_pure_inv h2
    exact Nat.le_refl _
  · obtain ⟨_, _, _, h2⟩ := i_bind.mp h
    obtain ⟨rfl, rfl⟩ := i_pure_inv h2
    exact Nat.le_succ _

theorem rangeFuncF_up {params : Array Tmp} {assign body : Code} {v : Value} : Up n (rangeFuncF tab fr cs n k params assign body v) := by
  refine .optB fun f => .optB fun g => .ifB fun _ => ?_
  intro X r X' e
  obtain ⟨y, X1, h1, h2⟩ := i_bind.mp e
  have h3 := markF_up h1
  refine Nat.le_trans h3 ?_
  obtain ⟨_, X2, _, h4⟩ := i_bind.mp h2
  obtain ⟨_, X3, _, h5⟩ := i_bind.mp h4
  obtain ⟨rfl, rfl⟩ := i_pure_inv h5
  exact Nat.le_succ _

variable {sub : Fr → Nat → F (Value × Nat)}
theorem regOps_cons {all : Array Oper} {o : Nat × Oper} {l : List (Nat × Oper)} : regOps tab sub all (o :: l) n =
    .bind (.traced (regOp tab sub all o.2 n)) fun x => ifB (Nat.ble n x.1) <| .bind (force x.1 (regOps tab sub all l)) fun y => .pure (y.1, (o.1, x.2) :: y.2) := rfl
theorem regOps_up {all : Array Oper} {l : List (Nat × Oper)} : ∀ {n : Nat} {X X' : St} {y : Nat × List (Nat × M)}, interp (regOps tab sub all l n) X = some (y, X') → n ≤ y.1 := by
  induction l with
  | nil => intro n X X' y h; obtain ⟨rfl, rfl⟩ := i_pure_inv h; exact Nat.le_refl _
  | cons o l ih =>
    intro n X X' y h
    rw [regOps_cons] at h
    obtain ⟨x, X1, h1, h2⟩ := i_bind.mp h
    obtain ⟨h3, h4⟩ := i_ifB.mp h2
    obtain ⟨z, X2, h5, h6⟩ := i_bind.mp h4
    obtain ⟨rfl, rfl⟩ := i_pure_inv h6
    rw [force_eq] at h5
    exact Nat.le_trans (Nat.le_of_ble_eq_true h3) (ih (y := z) h5)
theorem regChk_up {all : Array Oper} {pr : Nat → Nat → Bool} {l : List (Nat × Oper)} {X X' : St} {y : Nat} (h : interp (regChk tab sub all pr l n) X = some (y, X')) : n ≤ y := by
  obtain ⟨x, X1, h1, h2⟩ := i_bind.mp h
  obtain ⟨h3, h4⟩ := i_ifB.mp h2
  obtain ⟨rfl, rfl⟩ := i_pure_inv h4
  exact regOps_up h1

theorem i_both {α : Type} {m m' : F α} {same : α → α → Bool} {X X' : St} {a : α} (h : interp (.both m m' same) X = some (a, X')) :
    ∃ t b X2 t2, interpT m X = some (a, X', t) ∧ interpT m' X = some (b, X2, t2) ∧ same a b = true ∧ agree X' X2 t.bits t2.bits = true := by
  rw [interp_eq] at h
  simp only [interpT] at h
  cases h1 : interpT m X with
  | none => rw [h1] at h; cases h
  | some x =>
    obtain ⟨a1, X1, t1⟩ := x
    rw [h1] at h
    simp only at h
    cases h2 : interpT m' X with
    | none => rw [h2] at h; cases h
    | some y =>
      obtain ⟨a2, X2, t2⟩ := y
      rw [h2] at h
      simp only at h
      cases h3 : (same a1 a2 && agree X1 X2 t1.bits t2.bits) with
      | false => rw [h3] at h; cases h
      | true =>
        rw [h3] at h
        simp only [Option.map_some, Option.some.injEq, Prod.mk.injEq] at h
        obtain ⟨rfl, rfl⟩ := h
        simp only [Bool.and_eq_true] at h3
        exact ⟨t1, a2, X2, t2, rfl, rfl, h3.1, h3.2⟩

theorem regRun_up {all : Array Oper} {ms : List Nat} {l : List (Nat × Oper)} {o : Option (Nat × Nat)} {X X' : St} {y : Nat} (h : interp (regRun tab sub all ms l n o) X = some (y, X')) : n ≤ y := by
  unfold regRun at h
  split at h
  · exact regChk_up h
  · obtain ⟨t, _, _, _, h1, _⟩ := i_both (i_ifB.mp h).2
    exact regChk_up (interp_of_T h1)

theorem i_localT {α : Type} {m : F α} {T : Trie Value} {X X' : St} {r : α × Trie Value} (h : interp (.localT T m) X = some (r, X')) :
    ∃ X1, interp m ⟨T, X.H⟩ = some (r.1, X1) ∧ r.2 = X1.T ∧ X' = ⟨X.T, X1.H⟩ := by
  have h' : ob (interp m ⟨T, X.H⟩) (fun r => some ((r.1, r.2.T), St.mk X.T r.2.H)) = some (r, X') := h
  obtain ⟨a, h1, h2⟩ := ob_some.mp h'
  simp only [Option.some.injEq, Prod.mk.injEq] at h2
  obtain ⟨rfl, rfl⟩ := h2
  exact ⟨a.2, h1, rfl, rfl⟩

theorem drawF_up {all : Array Oper} : Up n (drawF tab sub fr cs n k all) := by
  intro X r X' e
  obtain ⟨_, h0⟩ := i_ifB.mp (show interp (ifB (edgesOk (numbered all.toList 0)) <| .bind (.localT fr.T (regRun tab sub all (masks all.toList []) (numbered all.toList 0) n (swapOf (masks all.toList []) (numbered all.toList 0)))) fun x => .pure (Res.next (mkFr fr x.2 k fr.defers :: cs) x.1)) X = some (r, X') from e)
  obtain ⟨x, X1, h1, h2⟩ := i_bind.mp h0
  obtain ⟨rfl, rfl⟩ := i_pure_inv h2
  obtain ⟨X2, h3, _, _⟩ := i_localT h1
  exact regRun_up h3

theorem codeK_up {c : Code} : Up n (codeK c tab sub fr cs n k) := by
  cases c with
  | ret => exact leaveF_up
  | skip => exact toF_up
  | label => exact toF_up
  | seq => exact toF_up
  | cond => exact .bind fun _ => condF_up
  | block => exact toF_up
  | loop => exact toF_up
  | scope => exact toF_up
  | exit => exact exitF_up
  | rangeFunc => exact .bind fun _ => rangeFuncF_up
  | region id all draw =>
    refine .ifB fun _ => ?_
    cases draw with
    | false => exact opsF_up
    | true => exact drawF_up
  | _ => exact .fail
theorem itemK_up {it : AIt} : Up n (itemK it tab sub fr cs n k) := by
  cases it with
  | code => exact codeK_up
  | ops => exact opsF_up
  | beginRound => exact beginF_up
  | endRangeFunc => exact endLoopF_up
  | inRangeFunc => exact .fail
  | _ => exact toF_up
theorem stepF_up {frs : List Fr} : Up n (stepF tab sub frs n) := by
  cases frs with
  | nil => exact .fail
  | cons fr cs =>
    show Up n (stepFr tab sub fr cs n)
    unfold stepFr
    split
    · exact retF_up
    · split
      · exact leaveF_up
      · exact itemK_up
end

theorem run_succ (tab : Tab) (fuel : Nat) (frs : List Fr) (n : Nat) : run tab (fuel + 1) frs n = .bind (stepF tab (fun e n => run tab fuel [e] n) frs n) (thenF (run tab fuel)) := rfl

theorem run_up {tab : Tab} {fuel : Nat} : ∀ {frs : List Fr} {n : Nat} {X X' : St} {y : Value × Nat}, interp (run tab fuel frs n) X = some (y, X') → n ≤ y.2 := by
  induction fuel with
  | zero => intro frs n X X' y h; cases h
  | succ fuel ih =>
    intro frs n X X' y h
    rw [run_succ] at h
    obtain ⟨r, X1, h1, h2⟩ := i_bind.mp h
    have h3 := stepF_up _ _ _ h1
    cases r with
    | done v m => obtain ⟨rfl, rfl⟩ := i_pure_inv (show interp (.pure (v, m)) X1 = some (y, X') from h2); exact h3
    | next frs m => exact Nat.le_trans h3 (ih h2)
end Ae
