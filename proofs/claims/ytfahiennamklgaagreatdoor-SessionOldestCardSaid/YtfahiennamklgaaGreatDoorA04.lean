/- The evaluator is right at loads, fields and sums. -/
import Derived.Test.YtfahiennamklgaaGreatDoorA03

set_option linter.all false
set_option linter.unusedVariables false
set_option linter.unusedSimpArgs false
set_option linter.deprecated false

/- Each operation's outcome here stands for the model's. First: those that make no place. -/
namespace Ae
open Go Go.RowKit

structure TypeOK (P : Program) (t : TypeId) (i : TInfo) : Prop where
  ok : ∃ ti d, P.info? t = some ti ∧ P.underlying t = some d ∧ i.desc = d ∧ i.size = ti.size ∧ i.bytes = ti.bytes ∧
    i.agg = (match d with | .struct _ => true | .array _ _ => true | _ => false) ∧
    ∀ z, i.zero = some z → ∃ v, ti.zero = some v ∧ v.cells = z ∧ zeroOf i z = v ∧ fl v = true

structure TabOK (tab : Tab) (P : Program) : Prop where
  prog : tab.P = P
  mixed : P.follows .mixedOrders = true
  ty : ∀ t i, tab.ty.at_ t = some i → TypeOK P t i
  fn : ∀ f fn, tab.fn.at_ f = some fn → P.funcs[f]? = some fn
  name : ∀ f fn, tab.fn.at_ f = some fn → (fn.name == "runtime.NumGoroutine") = false
  clone : ∀ f fn, tab.fn.at_ f = some fn → bodyB fn = false → (fn.name == "maps.clone") = true → Extern.findNext fn = none ∧ Extern.find fn = some Extern.MapsClone.clone

def Reads (ρ : Ren) (T : Trie Value) (rdr : Operand → F Value) (ev : Operand → Value) : Prop :=
  ∀ (x : Operand) (X X' : St) (v : Value), X.T = T → interp (rdr x) X = some (v, X') → X' = X ∧ VR ρ v (ev x)

theorem Reads.mono {ρ σ : Ren} (h : Ren.le ρ σ) {T : Trie Value} {rdr : Operand → F Value} {ev : Operand → Value} (r : Reads ρ T rdr ev) : Reads σ T rdr ev :=
  fun x X X' v hT hi => let ⟨a, b⟩ := r x X X' v hT hi; ⟨a, b.mono h⟩

section types
variable {P : Program} {t : TypeId} {i : TInfo} {w : World}
theorem TypeOK.under (h : TypeOK P t i) : (underlying t).run P w = .ok i.desc w := by
  obtain ⟨ti, d, h1, h2, h3, _⟩ := h.ok
  simp [underlying, h2, h3]
theorem TypeOK.sized (h : TypeOK P t i) : (Go.sizeOf t).run P w = .ok i.size w := by
  obtain ⟨ti, d, h1, h2, h3, h4, _⟩ := h.ok
  simp [Go.sizeOf, typeInfo, h1, h4]
theorem TypeOK.aggr (h : TypeOK P t i) : (isAgg t).run P w = .ok i.agg w := by
  obtain ⟨ti, d, h1, h2, h3, h4, h5, h6, _⟩ := h.ok
  rw [isAgg, Sem.run_bind, h.under, h6]
  simp only [Result.andThen_ok, h3]
  cases d <;> simp
theorem TypeOK.zeroed (h : TypeOK P t i) {z : Array Value} (hz : i.zero = some z) : (zeroValue t).run P w = .ok (zeroOf i z) w ∧ (zeroOf i z).cells = z ∧ fl (zeroOf i z) = true := by
  obtain ⟨ti, d, h1, h2, h3, h4, h5, h6, h7⟩ := h.ok
  obtain ⟨v, h8, h9, h10, h11⟩ := h7 z hz
  refine ⟨?_, by rw [h10, h9], by rw [h10, h11]⟩
  simp [zeroValue, typeInfo, h1, h8, h10]
theorem TypeOK.infoed (h : TypeOK P t i) : ∃ ti, (typeInfo t).run P w = .ok ti w ∧ ti.bytes = i.bytes ∧ ti.size = i.size := by
  obtain ⟨ti, d, h1, h2, h3, h4, h5, _⟩ := h.ok
  exact ⟨ti, by simp [typeInfo, h1], h5.symm, h4.symm⟩
end types

theorem addrOf_eq {a : Option Addr} {b : Nat × Nat} (h : addrOf a = some b) : a = some ⟨b.1, b.2, none⟩ := by
  cases a with
  | none => cases h
  | some a =>
    obtain ⟨x, y, z⟩ := a
    cases z with
    | none => have h' : some (x, y) = some b := h
              simp only [Option.some.injEq] at h'; subst h'; rfl
    | some z => cases h

theorem vPtr_eq {v : Value} {b : Nat × Nat} (h : vPtr v = some b) : v = .pointer (some ⟨b.1, b.2, none⟩) := by
  cases v with
  | pointer a => rw [addrOf_eq (show addrOf a = some b from h)]
  | _ => cases h

theorem VR.ptr_inv {ρ : Ren} {id off : Nat} {v : Value} (r : VR ρ (.pointer (some ⟨id, off, none⟩)) v) :
    ∃ p, ρ id = some p ∧ v = .pointer (some ⟨p.blk, p.base + off, none⟩) := by
  cases r with
  | ptr off h => exact ⟨_, h, rfl⟩

theorem vBool_eq {v : Value} {b : Bool} (h : vBool v = some b) : v = .bool b := by
  cases v with
  | bool c => have h' : some c = some b := h
              simp only [Option.some.injEq] at h'; rw [h']
  | _ => cases h
theorem vInt_eq {v : Value} {b : IntKind × Int} (h : vInt v = some b) : v = .int b.1 b.2 := by
  cases v with
  | int k n => have h' : some (k, n) = some b := h
               simp only [Option.some.injEq] at h'; subst h'; rfl
  | _ => cases h
theorem intNat_eq {i : Int} {n : Nat} (h : intNat i = some n) : i = (n : Int) := by
  cases i with
  | ofNat m => have h' : some m = some n := h
               simp only [Option.some.injEq] at h'; subst h'; rfl
  | negSucc m => cases h
theorem vNat_eq {v : Value} {n : Nat} (h : vNat v = some n) : ∃ k, v = .int k (n : Int) := by
  cases v with
  | int k i => exact ⟨k, by rw [intNat_eq (show intNat i = some n from h)]⟩
  | _ => cases h
theorem vStr_eq {v : Value} {s : ByteArray} (h : vStr v = some s) : v = .string s := by
  cases v with
  | string c => have h' : some c = some s := h
                simp only [Option.some.injEq] at h'; rw [h']
  | _ => cases h
theorem vSlice_eq {v : Value} {s : Option Addr × Nat × Nat} (h : vSlice v = some s) : v = .slice s.1 s.2.1 s.2.2 := by
  cases v with
  | slice a b c => have h' : some (a, b, c) = some s := h
                   simp only [Option.some.injEq] at h'; subst h'; rfl
  | _ => cases h
theorem vMap_eq {v : Value} {r : Option Nat} (h : vMap v = some r) : v = .map r := by
  cases v with
  | map c => have h' : some c = some r := h
             simp only [Option.some.injEq] at h'; rw [h']
  | _ => cases h
theorem vAgg_eq {v : Value} {r : Array Value} (h : vAgg v = some r) : v = .agg r := by
  cases v with
  | agg c => have h' : some c = some r := h
             simp only [Option.some.injEq] at h'; rw [h']
  | _ => cases h
theorem vTuple_eq {v : Value} {r : Array Value} (h : vTuple v = some r) : v = .tuple r := by
  cases v with
  | tuple c => have h' : some c = some r := h
               simp only [Option.some.injEq] at h'; rw [h']
  | _ => cases h
theorem vFunc_eq {v : Value} {r : Fn × Array Value × Array Value} (h : vFunc v = some r) : v = .func r.1 r.2.1 r.2.2 := by
  cases v with
  | func f a b => have h' : some (f, a, b) = some r := h
                  simp only [Option.some.injEq] at h'; subst h'; rfl
  | _ => cases h
theorem vFace_eq {v : Value} {r : TypeId × Value} (h : vFace v = some r) : v = .iface r.1 r.2 := by
  cases v with
  | iface t w => have h' : some (t, w) = some r := h
                 simp only [Option.some.injEq] at h'; subst h'; rfl
  | _ => cases h
theorem dStruct_eq {d : TypeDesc} {fs : Array Field} (h : dStruct d = some fs) : d = .struct fs := by
  cases d with
  | struct c => have h' : some c = some fs := h
                simp only [Option.some.injEq] at h'; rw [h']
  | _ => cases h
theorem dArray_eq {d : TypeDesc} {r : Nat × TypeId} (h : dArray d = some r) : d = .array r.1 r.2 := by
  cases d with
  | array n e => have h' : some (n, e) = some r := h
                 simp only [Option.some.injEq] at h'; subst h'; rfl
  | _ => cases h
theorem dMap_eq {d : TypeDesc} {r : TypeId × TypeId} (h : dMap d = some r) : d = .map r.1 r.2 := by
  cases d with
  | map n e => have h' : some (n, e) = some r := h
               simp only [Option.some.injEq] at h'; subst h'; rfl
  | _ => cases h
theorem dSlice_eq {d : TypeDesc} {e : TypeId} (h : dSlice d = some e) : d = .slice e := by
  cases d with
  | slice c => have h' : some c = some e := h
               simp only [Option.some.injEq] at h'; rw [h']
  | _ => cases h
theorem dInt_eq {d : TypeDesc} {k : IntKind} (h : dInt d = some k) : d = .int k := by
  cases d with
  | int c => have h' : some c = some k := h
             simp only [Option.some.injEq] at h'; rw [h']
  | _ => cases h
theorem dStr_eq {d : TypeDesc} (h : dStr d = true) : d = .string := by cases d <;> first | rfl | cases h
theorem dFace_false {d : TypeDesc} (h : dFace d = false) : ∀ m, d ≠ .interface m := by intro m e; subst e; cases h

/-- A value found without a change. -/
def Pur (P : Program) (ρ : Ren) (X X' : St) (w : World) (v : Value) (s : Sem Value) : Prop := X' = X ∧ ∃ v', s.run P w = .ok v' w ∧ VR ρ v v'

section
variable {tab : Tab} {P : Program} {h0 : Nat} {ρ : Ren} {X X' : St} {w : World}

theorem loadVar_sound (ok : TabOK tab P) (g : Good h0 ρ X.H w.heap) {t : TypeId} {a : Nat × Nat} {p : Place} {v : Value} (hp : ρ a.1 = some p)
    (h : interp (loadVar_ tab t a) X = some (v, X')) : Pur P ρ X X' w v (loadVar t ⟨p.blk, p.base + a.2, none⟩) := by
  obtain ⟨i, h1, h2⟩ := i_tiB.mp h
  have ti := ok.ty t i h1
  rw [i_if] at h2
  cases ha : i.agg with
  | false =>
    simp only [ha, if_true, Bool.false_eq_true, if_false] at h2
    obtain ⟨h3, v', h4, h5⟩ := loadCell_sound (P := P) g hp h2
    refine ⟨h3, v', ?_, h5⟩
    simp only [loadVar, Sem.run_bind, ti.aggr, Result.andThen_ok, ha]
    exact h4
  | true =>
    simp only [ha, if_true, Bool.false_eq_true, if_false] at h2
    obtain ⟨cs, X1, h3, h4⟩ := i_bind.mp h2
    obtain ⟨rfl, h6, cs', h7, h8⟩ := loadCells_sound (P := P) g hp h3
    have h4' : some (Value.agg (Array.mk cs), X1) = some (v, X') := h4
    simp only [Option.some.injEq, Prod.mk.injEq] at h4'
    obtain ⟨rfl, rfl⟩ := h4'
    refine ⟨rfl, .agg cs'.toArray, ?_, .agg' h8⟩
    simp only [loadVar, Sem.run_bind, ti.aggr, Result.andThen_ok, ha, if_true, ti.sized, h7, Sem.run_pure]

theorem load_sound (ok : TabOK tab P) (g : Good h0 ρ X.H w.heap) {t : TypeId} {a a' v : Value} (ra : VR ρ a a') (h : interp (loadF tab t a) X = some (v, X')) :
    Pur P ρ X X' w v (Instr.loadAt t a') := by
  obtain ⟨b, h1, h2⟩ := i_optB.mp h
  rw [vPtr_eq h1] at ra
  obtain ⟨p, hp, rfl⟩ := ra.ptr_inv
  obtain ⟨h3, v', h4, h5⟩ := loadVar_sound ok g hp h2
  exact ⟨h3, v', by simp only [Instr.loadAt, Instr.sureAddr, Sem.run_bind, Sem.run_pure, Result.andThen_ok]; exact h4, h5⟩

theorem part_sound (ok : TabOK tab P) {t : TypeId} {cs cs' : Array Value} {off : Nat} {v : Value} (rc : LR ρ cs.toList cs'.toList) (h : interp (part_ tab t cs off) X = some (v, X')) :
    Pur P ρ X X' w v (part t cs' off) := by
  obtain ⟨i, h1, h2⟩ := i_tiB.mp h
  have ti := ok.ty t i h1
  rw [i_if] at h2
  cases ha : i.agg with
  | false =>
    simp only [ha, if_true, Bool.false_eq_true, if_false] at h2
    obtain ⟨h3, h4⟩ := i_opt.mp h2
    rw [nth_eq] at h3
    obtain ⟨v', h5, h6⟩ := rc.get h3
    refine ⟨h4, v', ?_, h6⟩
    have h7 : cs'[off]? = some v' := by simpa using h5
    simp only [part, Sem.run_bind, ti.aggr, Result.andThen_ok, ha, h7]
    rfl
  | true =>
    simp only [ha, if_true, Bool.false_eq_true, if_false] at h2
    have h2' : some (Value.agg (cs.extract off (Nat.add off i.size)), X) = some (v, X') := h2
    simp only [Option.some.injEq, Prod.mk.injEq] at h2'
    obtain ⟨rfl, rfl⟩ := h2'
    refine ⟨rfl, .agg (cs'.extract off (off + i.size)), ?_, .agg' ?_⟩
    · simp only [part, Sem.run_bind, ti.aggr, Result.andThen_ok, ha, if_true, ti.sized, Sem.run_pure]
    · simp only [Array.toList_extract, List.extract_eq_take_drop]
      exact (rc.drop _).take _

theorem field_sound (ok : TabOK tab P) {t : TypeId} {f : Nat} {x x' v : Value} (rx : VR ρ x x') (h : interp (fieldF tab t f x) X = some (v, X')) :
    Pur P ρ X X' w v (Instr.field t x' f) := by
  obtain ⟨cs, h1, h2⟩ := i_optB.mp h
  obtain ⟨i, h3, h4⟩ := i_tiB.mp h2
  obtain ⟨fs, h5, h6⟩ := i_optB.mp h4
  obtain ⟨fd, h7, h8⟩ := i_optB.mp h6
  rw [vAgg_eq h1] at rx
  cases rx with
  | agg r1 r2 =>
    obtain ⟨h9, v', h10, h11⟩ := part_sound (w := w) ok ⟨r1, r2⟩ h8
    refine ⟨h9, v', ?_, h11⟩
    rw [nth_eq] at h7
    have h12 : fs[f]? = some fd := by simpa using h7
    simp only [Instr.field, Sem.run_bind, (ok.ty t i h3).under, Result.andThen_ok, dStruct_eq h5, h12, asAgg, Sem.run_pure, h10]

theorem nilCheck_sound {v x x' : Value} (rx : VR ρ x x') (h : interp (nilCheckF x) X = some (v, X')) : X' = X ∧ VR ρ v x' ∧ ∃ a, x' = .pointer (some a) := by
  cases x with
  | pointer a =>
    cases a with
    | none => cases h
    | some a =>
      have h' : some (Value.pointer (some a), X) = some (v, X') := h
      simp only [Option.some.injEq, Prod.mk.injEq] at h'
      obtain ⟨rfl, rfl⟩ := h'
      refine ⟨rfl, rx, ?_⟩
      cases rx with
      | ptr off h => exact ⟨_, rfl⟩
  | _ => cases h

theorem extract_sound {ix : Nat} {x x' v : Value} (rx : VR ρ x x') (h : interp (extractF ix x) X = some (v, X')) : Pur P ρ X X' w v (Instr.extract x' ix) := by
  obtain ⟨vs, h1, h2⟩ := i_optB.mp h
  obtain ⟨h3, h4⟩ := i_opt.mp h2
  rw [vTuple_eq h1] at rx
  rw [nth_eq] at h3
  cases rx with
  | @tuple _ b r1 r2 =>
    obtain ⟨v', h5, h6⟩ := LR.get (ρ := ρ) ⟨r1, r2⟩ h3
    have h7 : b[ix]? = some v' := by simpa using h5
    exact ⟨h4, v', by simp [Instr.extract, h7], h6⟩

theorem typeAssert_sound (ok : TabOK tab P) {xt asserted : TypeId} {c : Bool} {x x' v : Value} (rx : VR ρ x x') (h : interp (assertF tab asserted c x) X = some (v, X')) :
    Pur P ρ X X' w v (Instr.typeAssert x' xt asserted c) := by
  cases x with
  | iface t w0 =>
    cases c with
    | true => cases h
    | false =>
      obtain ⟨i, h1, h2⟩ := i_tiB.mp h
      cases h3 : dFace i.desc with
      | true => rw [h3] at h2; cases h2
      | false =>
        cases h4 : Nat.beq t asserted with
        | false => rw [h3, h4] at h2; cases h2
        | true =>
          rw [h3, h4] at h2
          have h2' : some (w0, X) = some (v, X') := h2
          simp only [Option.some.injEq, Prod.mk.injEq] at h2'
          obtain ⟨rfl, rfl⟩ := h2'
          have e := Nat.eq_of_beq_eq_true h4
          cases rx with
          | @iface _ _ w1 r =>
            refine ⟨rfl, w1, ?_, r⟩
            have hd := dFace_false h3
            have hu := (ok.ty _ _ h1).under (w := w)
            unfold Instr.typeAssert
            rw [Sem.run_bind, hu, Result.andThen_ok]
            split
            · rename_i hd2 _ ; exact absurd hd2 (hd _)
            · rename_i hd2 _ ; exact absurd hd2 (hd _)
            · rename_i e2 _; cases e2
            · rename_i e2 _; cases e2; simp [e]
            · rename_i h5 _ _; exact (h5 _ _ rfl).elim
  | _ => cases h

theorem iface_sound (ok : TabOK tab P) {T : Trie Value} {rdr : Operand → F Value} {ev : Operand → Value} (hr : Reads ρ T rdr ev) (hT : X.T = T) {t : TypeId} {x : Operand} {v : Value}
    (h : interp (ifaceF tab rdr t x) X = some (v, X')) : Pur P ρ X X' w v (Instr.makeInterface t (ev x)) := by
  obtain ⟨i, h1, h2⟩ := i_tiB.mp h
  cases hd : dFace i.desc with
  | true => rw [hd] at h2; cases h2
  | false =>
    rw [hd] at h2
    obtain ⟨a, X1, h3, h4⟩ := i_bind.mp h2
    obtain ⟨rfl, ra⟩ := hr x X X1 a hT h3
    have h4' : some (Value.iface t a, X1) = some (v, X') := h4
    simp only [Option.some.injEq, Prod.mk.injEq] at h4'
    obtain ⟨rfl, rfl⟩ := h4'
    refine ⟨rfl, _, ?_, .iface t ra⟩
    unfold Instr.makeInterface
    rw [Sem.run_bind, (ok.ty _ _ h1).under, Result.andThen_ok]
    split
    · rename_i hd2; exact absurd hd2 (dFace_false hd _)
    · rfl

theorem fieldAddr_sound (ok : TabOK tab P) {s : TypeId} {f : Nat} {x x' v : Value} (rx : VR ρ x x') (h : interp (fieldAddrF tab s f x) X = some (v, X')) :
    Pur P ρ X X' w v (Instr.fieldAt s x' f) := by
  obtain ⟨a, h1, h2⟩ := i_optB.mp h
  obtain ⟨i, h3, h4⟩ := i_tiB.mp h2
  obtain ⟨fs, h5, h6⟩ := i_optB.mp h4
  obtain ⟨fd, h7, h8⟩ := i_optB.mp h6
  obtain ⟨fi, h9, h10⟩ := i_tiB.mp h8
  obtain ⟨h11, h12⟩ := i_ifB.mp h10
  unfold placeF at h12
  rw [i_force] at h12
  have h12' : some (Value.pointer (some ⟨a.1, a.2 + fd.offset, none⟩), X) = some (v, X') := h12
  simp only [Option.some.injEq, Prod.mk.injEq] at h12'
  obtain ⟨rfl, rfl⟩ := h12'
  rw [vPtr_eq h1] at rx
  obtain ⟨p, hp, rfl⟩ := rx.ptr_inv
  refine ⟨rfl, .pointer (some ⟨p.blk, p.base + (a.2 + fd.offset), none⟩), ?_, .ptr _ hp⟩
  rw [nth_eq] at h7
  have h13 : fs[f]? = some fd := by simpa using h7
  simp only [Instr.fieldAt, Sem.run_bind, (ok.ty s i h3).under, Result.andThen_ok, dStruct_eq h5, h13, Instr.sureAddr, Sem.run_pure]
  have hs : ¬ fi.size = 0 := by have := Nat.le_of_ble_eq_true h11; omega
  simp only [fieldPlace, Sem.run_bind, (ok.ty _ fi h9).sized, Result.andThen_ok, Sem.run_ite, hs, if_false, Sem.run_pure, add_none, Nat.add_assoc]
end
end Ae

/- Operations on numbers, comparisons. -/
namespace Ae
open Go Go.RowKit

section
variable {tab : Tab} {P : Program} {h0 : Nat} {ρ : Ren} {X X' : St} {w : World}

theorem psem_run {α : Type} {m : Sem α} {a : α} (h : psem P m = some a) : m.run P w = .ok a w := by
  induction m with
  | pure b => have h' : some b = some a := h
              simp only [Option.some.injEq] at h'; subst h'; rfl
  | program k ih => exact ih P h
  | mark m k ih => exact ih h
  | _ => cases h

theorem psem_bind {α β : Type} {m : Sem α} {f : α → Sem β} {b : β} (h : psem P (m >>= f) = some b) : ∃ a, psem P m = some a ∧ psem P (f a) = some b := by
  have h' : psem P (m.bind f) = some b := h
  clear h
  induction m with
  | pure a => exact ⟨a, rfl, h'⟩
  | program k ih => exact ih P h'
  | mark m k ih => exact ih h'
  | _ => cases h'

theorem psF_sound (ok : TabOK tab P) {m : Sem Value} {v : Value} (h : interp (psF tab m) X = some (v, X')) : Pur P ρ X X' w v m := by
  obtain ⟨u, h1, h2⟩ := i_optB.mp h
  obtain ⟨h3, h4⟩ := i_ifB.mp h2
  have h4' : some (u, X) = some (v, X') := h4
  simp only [Option.some.injEq, Prod.mk.injEq] at h4'
  obtain ⟨rfl, rfl⟩ := h4'
  rw [ok.prog] at h1
  exact ⟨rfl, u, psem_run h1, fl_refl h3⟩

theorem pick_sound {T : Trie Value} {rdr : Operand → F Value} {ev : Operand → Value} (hr : Reads ρ T rdr ev) (hT : X.T = T) {a b : Operand} {c c' v : Value} (rc : VR ρ c c')
    (h : interp (pickF rdr a b c) X = some (v, X')) : X' = X ∧ ∃ t, c' = .bool t ∧ VR ρ v (if t then ev a else ev b) := by
  obtain ⟨t, h1, h2⟩ := i_optB.mp h
  rw [vBool_eq h1] at rc
  cases rc
  cases t with
  | true => obtain ⟨h3, h4⟩ := hr a X X' v hT h2; exact ⟨h3, true, rfl, h4⟩
  | false => obtain ⟨h3, h4⟩ := hr b X X' v hT h2; exact ⟨h3, false, rfl, h4⟩

theorem not_sound {op : UnOp} {x x' v : Value} (rx : VR ρ x x') (h : interp (optB (vBool x) (notF op)) X = some (v, X')) : Pur P ρ X X' w v (Op.unary op x') := by
  obtain ⟨b, h1, h2⟩ := i_optB.mp h
  rw [vBool_eq h1] at rx
  cases rx
  cases op with
  | not =>
    have key : ∀ b' : Bool, some (Value.bool b', X) = some (v, X') → b' = (!b) → Pur P ρ X X' w v (Op.unary .not (.bool b)) := by
      intro b' h' e
      simp only [Option.some.injEq, Prod.mk.injEq] at h'
      obtain ⟨rfl, rfl⟩ := h'
      subst e
      exact ⟨rfl, .bool !b, by simp [Op.unary], .bool _⟩
    cases b with
    | true => exact key false h2 rfl
    | false => exact key true h2 rfl
  | _ => cases h2

theorem wrap_small {k : IntKind} {r : Nat} (h : r ≤ most k) : k.wrap (r : Int) = (r : Int) := by
  cases k <;> simp only [most] at h <;> simp only [IntKind.wrap, IntKind.bits, IntKind.signed] <;> simp <;> omega

theorem most_lt {k : IntKind} {a : Nat} (h : a ≤ most k) : a < 2 ^ k.bits := by
  cases k <;> simp only [most] at h <;> simp only [IntKind.bits] <;> omega

theorem ltI_eq (a b : Int) : ltI a b = decide (a < b) := by
  cases a with
  | ofNat a => cases b with
    | ofNat b => show Nat.blt a b = _
                 rw [Bool.eq_iff_iff]; simp only [decide_eq_true_eq]
                 exact ⟨fun h => Int.ofNat_lt.mpr (Nat.le_of_ble_eq_true h), fun h => Nat.ble_eq_true_of_le (Int.ofNat_lt.mp h)⟩
    | negSucc b => show false = _; symm; simp only [decide_eq_false_iff_not]; simp only [Int.ofNat_eq_natCast]; omega
  | negSucc a => cases b with
    | ofNat b => show true = _; symm; simp only [decide_eq_true_eq]; simp only [Int.ofNat_eq_natCast]; omega
    | negSucc b => show Nat.blt b a = _
                   rw [Bool.eq_iff_iff]; simp only [decide_eq_true_eq]
                   refine ⟨fun h => ?_, fun h => Nat.ble_eq_true_of_le ?_⟩
                   · have := Nat.le_of_ble_eq_true h; omega
                   · show b + 1 ≤ a; omega

theorem eqI_eq (a b : Int) : eqI a b = decide (a = b) := by
  cases a with
  | ofNat a => cases b with
    | ofNat b => show Nat.beq a b = _
                 rw [Bool.eq_iff_iff]; simp only [decide_eq_true_eq]
                 exact ⟨fun h => congrArg _ (Nat.eq_of_beq_eq_true h), fun h => by cases h; exact Nat.beq_refl a⟩
    | negSucc b => show false = _; symm; simp only [decide_eq_false_iff_not]; intro h; cases h
  | negSucc a => cases b with
    | ofNat b => show false = _; symm; simp only [decide_eq_false_iff_not]; intro h; cases h
    | negSucc b => show Nat.beq a b = _
                   rw [Bool.eq_iff_iff]; simp only [decide_eq_true_eq]
                   exact ⟨fun h => congrArg _ (Nat.eq_of_beq_eq_true h), fun h => by cases h; exact Nat.beq_refl a⟩

theorem cmp_sound {op : BinOp} {f : Int → Int → Bool} (h : cmpK op = some f) (t : TypeId) (k : IntKind) (m m' : Int) :
    (binOp op t (.int k m) (.int k m')).run P w = .ok (.bool (f m m')) w := by
  cases op <;> (first | (cases h; done) | skip)
  all_goals
    have h' := Option.some.inj h
    subst h'
    simp only [binOp, ne_eq, not_true_eq_false, if_false, Op.intCmp, Sem.run_pure, ltI_eq, eqI_eq]
    try (congr 2; done)
  all_goals
    congr 2
    rw [Bool.eq_iff_iff]
    simp
    try omega

theorem int_of_toNat_xor {n a b : Nat} (ha : a < 2 ^ n) (hb : b < 2 ^ n) : (BitVec.ofInt n (a : Int) ^^^ BitVec.ofInt n (b : Int)).toNat = a ^^^ b := by
  simp [BitVec.toNat_xor, BitVec.ofInt_natCast, BitVec.toNat_ofNat, Nat.mod_eq_of_lt ha, Nat.mod_eq_of_lt hb]
theorem int_of_toNat_or {n a b : Nat} (ha : a < 2 ^ n) (hb : b < 2 ^ n) : (BitVec.ofInt n (a : Int) ||| BitVec.ofInt n (b : Int)).toNat = a ||| b := by
  simp [BitVec.toNat_or, BitVec.ofInt_natCast, BitVec.toNat_ofNat, Nat.mod_eq_of_lt ha, Nat.mod_eq_of_lt hb]

theorem sum_sound {op : BinOp} {f : Nat → Nat → Option Nat} {k : IntKind} {a b r : Nat} (h : sumK op = some f) (ha : a ≤ most k) (hb : b ≤ most k) (hr : f a b = some r) (hm : r ≤ most k) (t : TypeId) :
    (binOp op t (.int k (a : Int)) (.int k (b : Int))).run P w = .ok (.int k (r : Int)) w := by
  have hw := wrap_small hm
  cases op <;> (first | (cases h; done) | skip)
  all_goals
    have h' := Option.some.inj h
    subst h'
  case add =>
    have e : a + b = r := Option.some.inj hr
    simp only [binOp, ne_eq, not_true_eq_false, if_false, Op.intArith, Sem.run_pure, ← Int.natCast_add, e, hw]
  case sub =>
    simp only at hr
    cases hle : Nat.ble b a with
    | false => rw [hle] at hr; cases hr
    | true =>
      rw [hle] at hr
      have e : a - b = r := Option.some.inj hr
      have := Nat.le_of_ble_eq_true hle
      have e2 : (a : Int) - (b : Int) = (r : Int) := by omega
      simp only [binOp, ne_eq, not_true_eq_false, if_false, Op.intArith, Sem.run_pure, e2, hw]
  case mul =>
    have e : a * b = r := Option.some.inj hr
    simp only [binOp, ne_eq, not_true_eq_false, if_false, Op.intArith, Sem.run_pure, ← Int.natCast_mul, e, hw]
  case quo =>
    simp only at hr
    cases hz : Nat.beq b 0 with
    | true => rw [hz] at hr; cases hr
    | false =>
      rw [hz] at hr
      have e : a / b = r := Option.some.inj hr
      have hb0 : ¬ ((b : Int) = 0) := by
        intro h0
        have : b = 0 := by omega
        subst this; cases hz
      have e2 : (a : Int).tdiv (b : Int) = (r : Int) := by rw [← e]; rfl
      simp only [binOp, ne_eq, not_true_eq_false, if_false, Op.intDiv, hb0, Sem.run_pure, e2, hw]
  case rem =>
    simp only at hr
    cases hz : Nat.beq b 0 with
    | true => rw [hz] at hr; cases hr
    | false =>
      rw [hz] at hr
      have e : a % b = r := Option.some.inj hr
      have hb0 : ¬ ((b : Int) = 0) := by
        intro h0
        have : b = 0 := by omega
        subst this; cases hz
      have e2 : (a : Int).tmod (b : Int) = (r : Int) := by rw [← e]; rfl
      simp only [binOp, ne_eq, not_true_eq_false, if_false, Op.intDiv, hb0, Sem.run_pure, e2]
  case or =>
    have e : a ||| b = r := Option.some.inj hr
    simp only [binOp, ne_eq, not_true_eq_false, if_false, Op.intBits, Sem.run_pure, int_of_toNat_or (most_lt ha) (most_lt hb), e, hw]
  case xor =>
    have e : a ^^^ b = r := Option.some.inj hr
    simp only [binOp, ne_eq, not_true_eq_false, if_false, Op.intBits, Sem.run_pure, int_of_toNat_xor (most_lt ha) (most_lt hb), e, hw]

theorem shift_sound {op : BinOp} {f : Nat → Nat → Nat} {k k' : IntKind} {a b : Nat} (h : shiftK op = some f) (hb : b ≤ k.bits) (hm : f a b ≤ most k) (t : TypeId) :
    (binOp op t (.int k (a : Int)) (.int k' (b : Int))).run P w = .ok (.int k (f a b : Int)) w := by
  have hw := wrap_small hm
  have hneg : ¬ ((b : Int) < 0) := by omega
  have hmin : min b k.bits = b := Nat.min_eq_left hb
  cases op <;> (first | (cases h; done) | skip)
  all_goals
    have h' := Option.some.inj h
    subst h'
  case shl =>
    have e : (a : Int) * 2 ^ b = ((Nat.mul a (Nat.pow 2 b) : Nat) : Int) := by
      show _ = ((a * 2 ^ b : Nat) : Int); simp
    simp only [binOp, Op.shift, hneg, if_false, Int.toNat_natCast, hmin, Sem.run_pure, e, hw]
  case shr =>
    have e : (a : Int).fdiv (2 ^ b) = ((Nat.div a (Nat.pow 2 b) : Nat) : Int) := by
      show _ = ((a / 2 ^ b : Nat) : Int)
      rw [Int.fdiv_eq_ediv_of_nonneg _ (by exact_mod_cast Nat.zero_le (2 ^ b))]
      simp
    simp only [binOp, Op.shift, hneg, if_false, Int.toNat_natCast, hmin, Sem.run_pure, e]

theorem kindNo_inj {k k' : IntKind} (h : Nat.beq (kindNo k) (kindNo k') = true) : k = k' := by
  cases k <;> cases k' <;> first | rfl | (exact absurd h (by decide))

theorem i_pure_inv {α : Type} {a b : α} (h : interp (.pure a) X = some (b, X')) : a = b ∧ X' = X := by
  have h' : some (a, X) = some (b, X') := h
  simp only [Option.some.injEq, Prod.mk.injEq] at h'
  exact ⟨h'.1, h'.2.symm⟩

theorem small_sound {k : IntKind} {r : Nat} {other : F Value} {v : Value} {s : Sem Value} (h : interp (smallF k r other) X = some (v, X'))
    (h1 : r ≤ most k → s.run P w = .ok (.int k (r : Int)) w) (h2 : interp other X = some (v, X') → Pur P ρ X X' w v s) : Pur P ρ X X' w v s := by
  unfold smallF at h
  rw [i_force] at h
  cases hb : Nat.ble r (most k) with
  | false => rw [hb] at h; exact h2 h
  | true =>
    rw [hb] at h
    obtain ⟨rfl, rfl⟩ := i_pure_inv h
    exact ⟨rfl, _, h1 (Nat.le_of_ble_eq_true hb), .int _ _⟩

theorem arith_sound (ok : TabOK tab P) {op : BinOp} {t : TypeId} {k : IntKind} {m m' : Int} {v : Value} (h : interp (arithF tab op t k m m') X = some (v, X')) :
    Pur P ρ X X' w v (binOp op t (.int k m) (.int k m')) := by
  unfold arithF at h
  split at h
  · rename_i f a b h1 h2 h3
    rw [intNat_eq h2, intNat_eq h3] at h ⊢
    split at h
    · rename_i r h4 h5
      simp only [Bool.and_eq_true] at h4
      exact small_sound h (fun hr => sum_sound h1 (Nat.le_of_ble_eq_true h4.1) (Nat.le_of_ble_eq_true h4.2) h5 hr t) (psF_sound ok)
    · exact psF_sound ok h
  · exact psF_sound ok h

theorem shiftF_sound (ok : TabOK tab P) {op : BinOp} {f : Nat → Nat → Nat} (hf : shiftK op = some f) {t : TypeId} {k k' : IntKind} {m m' : Int} {v : Value}
    (h : interp (shiftF tab op f t k m k' m') X = some (v, X')) : Pur P ρ X X' w v (binOp op t (.int k m) (.int k' m')) := by
  unfold shiftF at h
  split at h
  · rename_i a b h2 h3
    rw [intNat_eq h2, intNat_eq h3] at h ⊢
    split at h
    · rename_i h4
      exact small_sound h (fun hr => shift_sound hf (Nat.le_of_ble_eq_true h4) hr t) (psF_sound ok)
    · exact psF_sound ok h
  · exact psF_sound ok h

theorem int_sound (ok : TabOK tab P) {op : BinOp} {t : TypeId} {k k' : IntKind} {m m' : Int} {v : Value} (h : interp (intF tab op t k m k' m') X = some (v, X')) :
    Pur P ρ X X' w v (binOp op t (.int k m) (.int k' m')) := by
  unfold intF at h
  split at h
  · rename_i f h1; exact shiftF_sound ok h1 h
  · unfold sameF at h
    split at h
    · rename_i h2
      have e := kindNo_inj h2
      subst e
      split at h
      · rename_i f h3
        obtain ⟨rfl, rfl⟩ := i_pure_inv h
        exact ⟨rfl, _, cmp_sound h3 t k m m', .bool _⟩
      · exact arith_sound ok h
    · exact psF_sound ok h

theorem eqGuard_int (op : BinOp) (t : TypeId) (x y : Operand) (k k' : IntKind) (m m' : Int) : (eqGuard op t x y (.int k m) (.int k' m')).run P w = .ok () w := by
  unfold eqGuard
  split <;> rfl

theorem equal_step (t : TypeId) (x y : Value) : Op.equal t x y = Op.equalIn (9999 + 1) t x y := rfl

theorem nilEq_sound {d : TypeDesc} {a a' b b' : Value} {r : Bool} (h : nilEq d a b = some r) (ra : VR ρ a a') (rb : VR ρ b b') (t : TypeId) (hu : (underlying t).run P w = .ok d w) :
    (Op.equal t a' b').run P w = .ok r w ∧ (∀ op x y, (eqGuard op t x y a' b').run P w = .ok () w) ∧ (∀ k m, a' ≠ .int k m) ∧ (∀ s, a' ≠ .string s) ∧ (∀ k s, a' ≠ .float k s) ∧ (∀ k s u, a' ≠ .complex k s u) := by
  unfold nilEq at h
  split at h
  · split at h
    · rename_i hd
      cases h
      cases ra; cases rb
      cases d <;> (first | (cases hd; done) | skip)
      refine ⟨?_, fun op x y => ?_, by simp, by simp, by simp, by simp⟩
      · rw [equal_step, Op.equalIn, Sem.run_bind, hu]; rfl
      · unfold eqGuard; split <;> rfl
    · cases h
  · split at h
    · rename_i e hd
      cases h
      cases rb
      cases d <;> (first | (cases hd; done) | skip)
      cases ra <;> (refine ⟨?_, fun op x y => ?_, by simp, by simp, by simp, by simp⟩) <;> first
        | (rw [equal_step, Op.equalIn, Sem.run_bind, hu]; rfl)
        | (unfold eqGuard; split <;> rfl)
    · cases h
  · split at h
    · rename_i e hd
      cases h
      cases ra; cases rb
      cases d <;> (first | (cases hd; done) | skip)
      refine ⟨?_, fun op x y => ?_, by simp, by simp, by simp, by simp⟩
      · rw [equal_step, Op.equalIn, Sem.run_bind, hu]; rfl
      · unfold eqGuard; split <;> rfl
    · cases h
  · cases h

theorem binOp_eql {t : TypeId} {a b : Value} (h1 : ∀ k m, a ≠ .int k m) (h2 : ∀ s, a ≠ .string s) (h3 : ∀ k s, a ≠ .float k s) (h4 : ∀ k s u, a ≠ .complex k s u) :
    binOp .eql t a b = (do pure (.bool (← Op.equal t a b))) := by
  unfold binOp
  split <;> first | rfl | (exfalso; simp_all; done) | skip
theorem binOp_neq {t : TypeId} {a b : Value} (h1 : ∀ k m, a ≠ .int k m) (h2 : ∀ s, a ≠ .string s) (h3 : ∀ k s, a ≠ .float k s) (h4 : ∀ k s u, a ≠ .complex k s u) :
    binOp .neq t a b = (do pure (.bool (!(← Op.equal t a b)))) := by
  unfold binOp
  split <;> first | rfl | (exfalso; simp_all; done) | skip

theorem other_sound (ok : TabOK tab P) {op : BinOp} {t : TypeId} {x y : Operand} {a a' b b' v : Value} (ra : VR ρ a a') (rb : VR ρ b b') (h : interp (otherF tab op t x y a b) X = some (v, X')) :
    Pur P ρ X X' w v (do eqGuard op t x y a' b'; binOp op t a' b') := by
  unfold otherF at h
  split at h
  · rename_i e r h1 h2
    obtain ⟨rfl, rfl⟩ := i_pure_inv h
    split at h2
    · rename_i i hi
      have hu := (ok.ty t i hi).under (w := w)
      obtain ⟨h3, h4, h5, h6, h7, h8⟩ := nilEq_sound h2 ra rb t hu
      cases op <;> (first | (cases h1; done) | skip)
      · have e1 := Option.some.inj h1
        subst e1
        exact ⟨rfl, .bool r, by rw [Sem.run_bind, h4, Result.andThen_ok, binOp_eql h5 h6 h7 h8, Sem.run_bind, h3]; rfl, .bool _⟩
      · have e1 := Option.some.inj h1
        subst e1
        exact ⟨rfl, .bool !r, by rw [Sem.run_bind, h4, Result.andThen_ok, binOp_neq h5 h6 h7 h8, Sem.run_bind, h3]; rfl, .bool _⟩
    · cases h2
  · obtain ⟨h1, h2⟩ := i_ifB.mp h
    simp only [Bool.and_eq_true] at h1
    rw [fl_eq h1.1 ra, fl_eq h1.2 rb]
    exact psF_sound ok h2

theorem bin_sound (ok : TabOK tab P) {op : BinOp} {t : TypeId} {x y : Operand} {a a' b b' v : Value} (ra : VR ρ a a') (rb : VR ρ b b') (h : interp (binF tab op t x y a b) X = some (v, X')) :
    Pur P ρ X X' w v (do eqGuard op t x y a' b'; binOp op t a' b') := by
  unfold binF at h
  split at h
  · rename_i k k' h1 h2
    rw [vInt_eq h1] at ra
    rw [vInt_eq h2] at rb
    cases ra; cases rb
    obtain ⟨h3, v', h4, h5⟩ := int_sound (w := w) ok h
    exact ⟨h3, v', by rw [Sem.run_bind, eqGuard_int]; exact h4, h5⟩
  · exact other_sound ok ra rb h
end
end Ae
