/- The evaluator is right at conversions and maps. -/
import Derived.Test.YtfahiennamklgaaGreatDoorA06

set_option linter.all false
set_option linter.unusedVariables false
set_option linter.unusedSimpArgs false
set_option linter.deprecated false

/- Conversions; maps. -/
namespace Ae
open Go Go.RowKit

section
variable {tab : Tab} {P : Program} {h0 : Nat} {ρ : Ren} {X X' : St} {w : World} {n : Nat}

theorem wrapI_eq (k : IntKind) (m : Int) : wrapI k m = k.wrap m := by
  unfold wrapI
  split
  · rename_i a ha
    split
    · rename_i hb
      rw [intNat_eq ha]
      exact (wrap_small (Nat.le_of_ble_eq_true hb)).symm
    · rfl
  · rfl

theorem bytesOf_sound (f : Value → ByteArray → Sem (ForInStep ByteArray)) (hf : ∀ n s, f (.int .u8 n) s = pure (.yield (s.push (UInt8.ofNat n.toNat)))) : ∀ (cs cs' : List Value) (s r : ByteArray), LR ρ cs cs' →
    bytesOf cs s = some r → cs' = cs ∧ (forIn cs s f).run P w = .ok r w := by
  intro cs
  induction cs with
  | nil =>
    intro cs' s r h1 h2
    have h2' : some s = some r := h2
    simp only [Option.some.injEq] at h2'
    subst h2'
    exact ⟨h1.nil_inv, rfl⟩
  | cons v cs ih =>
    intro cs' s r h1 h2
    obtain ⟨v', cs2, rfl, hv, hcs⟩ := h1.cons_inv
    cases v with
    | int k m =>
      cases k <;> (first | (cases h2; done) | skip)
      obtain ⟨e1, e2⟩ := ih cs2 _ r hcs h2
      cases hv
      refine ⟨by rw [e1], ?_⟩
      rw [List.forIn_cons, hf]
      simp only [Sem.run_bind, Sem.run_pure, Result.andThen_ok]
      exact e2
    | _ => cases h2

theorem bytesOf_same {cs cs' : List Value} {s r : ByteArray} (h : LR ρ cs cs') (k : bytesOf cs s = some r) : cs' = cs := by
  induction cs generalizing cs' s with
  | nil => exact h.nil_inv
  | cons v cs ih =>
    obtain ⟨v', cs2, rfl, hv, hcs⟩ := h.cons_inv
    cases v with
    | int kk m =>
      cases kk <;> (first | (cases k; done) | skip)
      cases hv
      rw [ih hcs k]
    | _ => cases k

theorem convert_sound (ok : TabOK tab P) (g : Good h0 ρ X.H w.heap) {src dst : TypeId} {a a' v : Value} (ra : VR ρ a a') (h : interp (convertF tab src dst a) X = some (v, X')) : Pur P ρ X X' w v (convert src dst a') := by
  cases a with
  | int k m =>
    cases ra
    obtain ⟨i0, g1, g2⟩ := i_tiB.mp h
    obtain ⟨i, h1, h2⟩ := i_tiB.mp g2
    have h2' : interp (match dInt i.desc with | some k' => F.pure (Value.int k' (wrapI k' m)) | none => .fail) X = some (v, X') := h2
    cases hd : dInt i.desc with
    | none => rw [hd] at h2'; cases h2'
    | some k' =>
      rw [hd] at h2'
      obtain ⟨rfl, rfl⟩ := i_pure_inv h2'
      have hdd := (ok.ty dst i h1).under (w := w)
      rw [dInt_eq hd] at hdd
      refine ⟨rfl, .int k' (k'.wrap m), ?_, by rw [wrapI_eq]; exact .int _ _⟩
      have u0 := (ok.ty src i0 g1).under (w := w)
      simp only [convert, Sem.run_bind, u0, hdd, Result.andThen_ok]
      cases i0.desc <;> rfl
  | slice a len cap =>
    cases a with
    | none => cases h
    | some a =>
      obtain ⟨b, h1, h2⟩ := i_optB.mp h
      obtain ⟨i, h3, h4⟩ := i_tiB.mp h2
      obtain ⟨j, h5, h6⟩ := i_tiB.mp h4
      obtain ⟨e, h7, h8⟩ := i_optB.mp h6
      obtain ⟨h9, h10⟩ := i_ifB.mp h8
      obtain ⟨ei, h11, h12⟩ := i_tiB.mp h10
      obtain ⟨h13, h14⟩ := i_ifB.mp h12
      obtain ⟨cs, X1, h15, h16⟩ := i_bind.mp h14
      obtain ⟨s, h17, h18⟩ := i_optB.mp h16
      obtain ⟨rfl, rfl⟩ := i_pure_inv h18
      have hb := addrOf_eq h1
      simp only [Option.some.injEq] at hb
      subst hb
      obtain ⟨p, a', cap', hp, rfl, ha, _⟩ := ra.slice_inv
      obtain ⟨rfl, k1, cs', k2, k3⟩ := loadsAt_sound (P := P) g hp ha h15
      have k5 := fun f hf => bytesOf_sound (P := P) (w := w) f hf cs cs' _ _ k3 h17
      refine ⟨rfl, .string s, ?_, .string _⟩
      have u1 := (ok.ty src i h3).under (w := w)
      have u2 := (ok.ty dst j h5).under (w := w)
      have u3 := (ok.ty e ei h11).under (w := w)
      rw [dSlice_eq h7] at u1
      rw [dStr_eq h9] at u2
      have hei : ei.desc = .int .u8 := by
        cases hd : dInt ei.desc with
        | none => rw [hd] at h13; cases h13
        | some k => rw [hd] at h13; cases k <;> first | exact dInt_eq hd | cases h13
      rw [hei] at u3
      simp only [convert, Sem.run_bind, u1, u2, Result.andThen_ok, u3, Conv.bytesToString, k2, List.forIn_toArray]
      have e5 : cs' = cs := (bytesOf_same k3 h17)
      rw [e5, (k5 _ (fun n s => rfl)).2]
      rfl
  | _ => cases h

theorem maxmin_sound (ok : TabOK tab P) {f : Array TypeId → TypeId → Array Value → Sem Value} {ts : Array TypeId} {ty : TypeId} {args args' : List Value} (ra : LR ρ args args') {v : Value}
    (h : interp (ifB (allB fl args) (psF tab (f ts ty args.toArray))) X = some (v, X')) : Pur P ρ X X' w v (f ts ty args'.toArray) := by
  obtain ⟨h1, h2⟩ := i_ifB.mp h
  rw [ra.eq_of fun v hv w hw => fl_eq (allB_mem h1 v hv) hw]
  exact psF_sound ok h2

theorem makeFunc_sound {T : Trie Value} {rdr : Operand → F Value} {ev : Operand → Value} (hr : Reads ρ T rdr ev) (hT : X.T = T) {fn : Fn} {first captured : Array Operand} {v : Value}
    (h : interp (ifB (notYield fn) (.bind (opds rdr first.toList) fun a => .bind (opds rdr captured.toList) fun b => .pure (.func fn a.toArray b.toArray))) X = some (v, X')) :
    Pur P ρ X X' w v (Instr.makeFunc fn (first.map ev) (captured.map ev)) := by
  obtain ⟨h1, h2⟩ := i_ifB.mp h
  obtain ⟨a, X1, h3, h4⟩ := i_bind.mp h2
  obtain ⟨rfl, r1⟩ := opds_sound hr _ hT h3
  obtain ⟨b, X2, h5, h6⟩ := i_bind.mp h4
  obtain ⟨rfl, r2⟩ := opds_sound hr _ hT h5
  obtain ⟨rfl, rfl⟩ := i_pure_inv h6
  exact ⟨rfl, _, rfl, .func' (.same fn h1) (by simpa using r1) (by simpa using r2)⟩

/- Maps. -/
theorem mapC_eq {c : Option Cell} {m : Array MapEntry × Nat} (h : mapC c = some m) : c = some (.obj (.map m.1 m.2)) := by
  obtain ⟨o, h1, h2⟩ := ob_some.mp h
  rw [objC_eq h1]
  cases o <;> first | (cases h2; done) | skip
  cases h2
  rfl

theorem mapOf_inv {m : Value} {y : Nat × Array MapEntry × Nat} (h : interp (mapOf m) X = some (y, X')) : X' = X ∧ m = .map (some y.1) ∧ X.H.at_ y.1 = some (.obj (.map y.2.1 y.2.2)) := by
  obtain ⟨r, h1, h2⟩ := i_optB.mp h
  obtain ⟨b, h3, h4⟩ := i_optB.mp h2
  have h5 := i_objOf h4
  obtain ⟨es, h6, h7⟩ := i_optB.mp h5
  obtain ⟨rfl, rfl⟩ := i_pure_inv h7
  rw [vMap_eq h1, h3]
  exact ⟨rfl, rfl, mapC_eq h6⟩

theorem mapAt (g : Good h0 ρ X.H w.heap) {b : Nat} {es : Array MapEntry} {clock : Nat} {p : Place} (h : X.H.at_ b = some (.obj (.map es clock))) (hp : ρ b = some p) :
    h0 ≤ p.blk ∧ ∃ es', w.heap[p.blk]? = some (.map es' clock) ∧ EsR ρ es.toList es'.toList := by
  obtain ⟨h1, _, o', h2, h3⟩ := g.at_ h hp
  cases h3 with
  | map clock e => exact ⟨h1, _, h2, e⟩

theorem getObj_run {r : Nat} {o : Obj} (h : w.heap[r]? = some o) (hc : ∀ c e f, o ≠ .cells c e f) : (getObj r).run P w = .ok o w := by
  cases o <;> first | exact absurd rfl (hc _ _ _) | simp [getObj, Sem.run, h]

def setO (w : World) (r : Nat) (o : Obj) : World := { w with heap := w.heap.setIfInBounds r o }

theorem setObj_run {r : Nat} {o o' : Obj} (h : w.heap[r]? = some o) (hc : ∀ c e f, o ≠ .cells c e f) : (setObj r o').run P w = .ok () (setO w r o') := by
  cases o <;> first | exact absurd rfl (hc _ _ _) | simp [setObj, Sem.run, h, setO]

theorem setO_same {r : Nat} {o o' : Obj} (h : w.heap[r]? = some o) : (setO w r o').heap[r]? = some o' := by
  have := (Array.getElem?_eq_some_iff.mp h).1
  simp [setO, this]
theorem setO_other {r k : Nat} {o' : Obj} (h : k ≠ r) : (setO w r o').heap[k]? = w.heap[k]? := by
  simp only [setO]
  rw [Array.getElem?_setIfInBounds_ne (fun e => h e.symm)]
theorem setO_below {r : Nat} {o' : Obj} (h : h0 ≤ r) : Below h0 w (setO w r o') :=
  ⟨rfl, rfl, rfl, by simp [setO], fun k hk => setO_other (by omega)⟩

/-- Something else in the place of an object. -/
theorem Good.putObj (g : Good h0 ρ X.H w.heap) {id : Nat} {c c' : Cell} {p : Place} {o' : Obj} (h : X.H.at_ id = some c) (hp : ρ id = some p) (hc : CellR ρ p (setO w p.blk o').heap c') : Good h0 ρ (X.H.put id (some c')) (setO w p.blk o').heap :=
  g.put h hp (fun b hb => setO_other hb) (by simp [setO]) hc

theorem putMap_sound (g : Good h0 ρ X.H w.heap) {b : Nat} {es es2 es2' : Array MapEntry} {clock clock2 : Nat} {p : Place} {u : Unit} (h : X.H.at_ b = some (.obj (.map es clock))) (hp : ρ b = some p) (r : EsR ρ es2.toList es2'.toList)
    (hi : interp (putMap b es2 clock2) X = some (u, X')) : X'.T = X.T ∧ Good h0 ρ X'.H (setO w p.blk (.map es2' clock2)).heap ∧ Below h0 w (setO w p.blk (.map es2' clock2)) := by
  have h' : some ((), X.set (.o b (some (.obj (.map es2 clock2))))) = some (u, X') := hi
  simp only [Option.some.injEq, Prod.mk.injEq] at h'
  obtain ⟨_, rfl⟩ := h'
  obtain ⟨h1, es', h2, h3⟩ := mapAt g h hp
  exact ⟨rfl, g.putObj h hp ⟨(g.at_ h hp).2.1, _, setO_same h2, .map clock2 r⟩, setO_below h1⟩

theorem keysFl_mem {l : List MapEntry} (h : keysFl l = true) : ∀ e ∈ l, fl e.key = true := by
  induction l with
  | nil => simp
  | cons a l ih =>
    have h' : Bool.rec (motive := fun _ => Bool) false (keysFl l) (fl a.key) = true := h
    cases ha : fl a.key with
    | false => rw [ha] at h'; cases h'
    | true =>
      rw [ha] at h'
      intro e he
      cases he with
      | head => exact ha
      | tail _ he => exact ih h' e he

/-- Two lists of entries with the same keys. -/
def SameKeys (l k : List MapEntry) : Prop := l.map (·.key) = k.map (·.key)

theorem EsR.keys {l k : List MapEntry} (r : EsR ρ l k) (h : keysFl l = true) : SameKeys l k := by
  apply List.ext_getElem?
  intro i
  simp only [List.getElem?_map]
  cases hi : l[i]? with
  | none =>
    have : k[i]? = none := by rw [List.getElem?_eq_none_iff] at hi ⊢; rw [← r.1]; exact hi
    rw [this]
  | some a =>
    have hk : i < k.length := by rw [← r.1]; exact (List.getElem?_eq_some_iff.mp hi).1
    rw [List.getElem?_eq_getElem hk]
    obtain ⟨h1, _, _⟩ := r.2 i a _ hi (List.getElem?_eq_getElem hk)
    simp only [Option.map_some, Option.some.injEq]
    exact (fl_eq (keysFl_mem h a (List.mem_of_getElem? hi)) h1).symm

def FoundR (l k : List MapEntry) (i : Nat) : Option (Nat × Value) → Option (Nat × Value) → Prop
  | none, none => True
  | some a, some b => b.1 = a.1 ∧ ∃ m e e', a.1 = i + m ∧ l[m]? = some e ∧ k[m]? = some e' ∧ a.2 = e.val ∧ b.2 = e'.val
  | _, _ => False

theorem FoundR.cons {l k : List MapEntry} {i : Nat} {e e' : MapEntry} {a b : Option (Nat × Value)} (h : FoundR l k (i + 1) a b) : FoundR (e :: l) (e' :: k) i a b := by
  cases a <;> cases b <;> first | trivial | exact h.elim | skip
  obtain ⟨h1, m, x, x', h2, h3, h4, h5, h6⟩ := h
  exact ⟨h1, m + 1, x, x', by omega, h3, h4, h5, h6⟩

theorem findNow_same (kind : TypeDesc) (q : Value) : ∀ (l k : List MapEntry) (i : Nat), SameKeys l k →
    match Instr.findNow kind q l i, Instr.findNow kind q k i with
    | none, none => True
    | some a, some b => FoundR l k i a b
    | _, _ => False := by
  intro l
  induction l with
  | nil => intro k i h
           have : k = [] := by simpa [SameKeys] using h.symm
           subst this; trivial
  | cons e l ih =>
    intro k i h
    cases k with
    | nil => simp [SameKeys] at h
    | cons e' k =>
      simp only [SameKeys, List.map_cons, List.cons.injEq] at h
      have := ih k (i + 1) h.2
      simp only [Instr.findNow, ← h.1]
      cases hs : Instr.sameNow kind q e.key with
      | none => trivial
      | some b =>
        cases b with
        | true => exact ⟨rfl, 0, e, e', rfl, rfl, rfl, rfl, rfl⟩
        | false =>
          simp only
          revert this
          cases Instr.findNow kind q l (i + 1) <;> cases Instr.findNow kind q k (i + 1) <;> intro this <;> first | trivial | exact this.elim | exact this.cons

theorem findAsking_same (kt : TypeId) (q : Value) : ∀ (l k : List MapEntry) (i : Nat), SameKeys l k → ∀ a, psem P (Instr.findAsking kt q l i) = some a → ∃ b, psem P (Instr.findAsking kt q k i) = some b ∧ FoundR l k i a b := by
  intro l
  induction l with
  | nil => intro k i h a ha
           have : k = [] := by simpa [SameKeys] using h.symm
           subst this
           have ha' : some none = some a := ha
           simp only [Option.some.injEq] at ha'
           subst ha'
           exact ⟨none, rfl, trivial⟩
  | cons e l ih =>
    intro k i h a ha
    cases k with
    | nil => simp [SameKeys] at h
    | cons e' k =>
      simp only [SameKeys, List.map_cons, List.cons.injEq] at h
      simp only [Instr.findAsking] at ha ⊢
      obtain ⟨b, h1, h2⟩ := psem_bind ha
      rw [← h.1]
      cases b with
      | true =>
        have h2' : some (some (i, e.val)) = some a := h2
        simp only [Option.some.injEq] at h2'
        subst h2'
        refine ⟨some (i, e'.val), ?_, rfl, 0, e, e', rfl, rfl, rfl, rfl, rfl⟩
        exact psem_bind' h1 rfl
      | false =>
        obtain ⟨b, h3, h4⟩ := ih k (i + 1) h.2 a h2
        exact ⟨b, psem_bind' h1 h3, h4.cons⟩
where
  psem_bind' {α β : Type} {m : Sem α} {f : α → Sem β} {a : α} {b : β} (h : psem P m = some a) (k : psem P (f a) = some b) : psem P (m >>= f) = some b := by
    show psem P (m.bind f) = some b
    induction m with
    | pure c => have h' : some c = some a := h
                simp only [Option.some.injEq] at h'; subst h'; exact k
    | program g ih => exact ih P h
    | mark m g ih => exact ih h
    | _ => cases h

theorem findKey_sound (kt : TypeId) (q : Value) {l k : List MapEntry} (hs : SameKeys l k) {a : Option (Nat × Value)} (h : psem P (Instr.findKey kt q l) = some a) :
    ∃ b, (Instr.findKey kt q k).run P w = .ok b w ∧ FoundR l k 0 a b := by
  unfold Instr.findKey at h ⊢
  obtain ⟨d, h1, h2⟩ := psem_bind h
  have := findNow_same d q l k 0 hs
  rw [Sem.run_bind, psem_run h1]
  simp only [Result.andThen_ok]
  revert h2 this
  cases Instr.findNow d q l 0 with
  | none =>
    cases Instr.findNow d q k 0 with
    | none =>
      intro h2 _
      obtain ⟨b, h3, h4⟩ := findAsking_same kt q l k 0 hs a h2
      exact ⟨b, psem_run h3, h4⟩
    | some b => intro _ this; exact this.elim
  | some r =>
    cases Instr.findNow d q k 0 with
    | none => intro _ this; exact this.elim
    | some b =>
      intro h2 this
      have h2' : some r = some a := h2
      simp only [Option.some.injEq] at h2'
      subst h2'
      exact ⟨b, rfl, this⟩

theorem EsR.get {l k : List MapEntry} (r : EsR ρ l k) {i : Nat} {a b : MapEntry} (ha : l[i]? = some a) (hb : k[i]? = some b) : VR ρ a.key b.key ∧ VR ρ a.val b.val ∧ b.born = a.born := r.2 i a b ha hb

theorem psem_check (ok : TabOK tab P) {α : Type} {m : Sem α} {a : α} (h : psem tab.P m = some a) : m.run P w = .ok a w := by
  rw [ok.prog] at h; exact psem_run h

theorem lookup_sound (ok : TabOK tab P) (g : Good h0 ρ X.H w.heap) {t : TypeId} {m m' k k' : Value} {c : Bool} {v : Value} (rm : VR ρ m m') (rk : VR ρ k k')
    (h : interp (lookupF tab t m k c) X = some (v, X')) : Pur P ρ X X' w v (Instr.lookup t m' k' c) := by
  obtain ⟨i, h1, h2⟩ := i_tiB.mp h
  obtain ⟨ke, h3, h4⟩ := i_optB.mp h2
  obtain ⟨ei, h5, h6⟩ := i_tiB.mp h4
  obtain ⟨z, h7, h8⟩ := i_optB.mp h6
  obtain ⟨h9, h10⟩ := i_ifB.mp h8
  obtain ⟨es, X1, h11, h12⟩ := i_bind.mp h10
  obtain ⟨h13, h14⟩ := i_ifB.mp h12
  obtain ⟨u, h15, h16⟩ := i_optB.mp h14
  obtain ⟨r, h17, h18⟩ := i_optB.mp h16
  obtain ⟨rfl, rfl⟩ := i_pure_inv h18
  obtain ⟨y, X2, h19, h20⟩ := i_bind.mp h11
  obtain ⟨rfl, rfl⟩ := i_pure_inv h20
  obtain ⟨rfl, rfl, h21⟩ := mapOf_inv h19
  rw [fl_eq h9 rk]
  cases rm with
  | @map _ p hp =>
    obtain ⟨_, es', h22, h23⟩ := mapAt g h21 hp
    have hk := h23.keys h13
    rw [ok.prog] at h17
    obtain ⟨b, h24, h25⟩ := findKey_sound (w := w) ke.1 k hk h17
    have hemp : es'.isEmpty = y.2.1.isEmpty := by
      have := h23.1
      simp only [Array.length_toList] at this
      simp only [Array.isEmpty, this]
    have u1 := (ok.ty t i h1).under (w := w)
    rw [dMap_eq h3] at u1
    have u2 := psem_check (w := w) ok h15
    obtain ⟨z1, z2, z3⟩ := (ok.ty _ ei h5).zeroed (w := w) h7
    have u3 := getObj_run (P := P) h22 (by intro _ _ _ e; cases e)
    refine ⟨rfl, foundV (zeroOf ei z) c b, ?_, ?_⟩
    · cases b with
      | none => cases c <;> simp [Instr.lookup, u1, u3, hemp, u2, h24, z1, foundV]
      | some b => cases c <;> simp [Instr.lookup, u1, u3, hemp, u2, h24, foundV]
    · cases r with
      | none =>
        cases b with
        | some b => exact h25.elim
        | none => cases c with
          | true => exact .tuple' (.cons (fl_refl z3) (.cons (.bool _) (.nil ρ)))
          | false => exact fl_refl z3
      | some r =>
        cases b with
        | none => exact h25.elim
        | some b =>
          obtain ⟨_, mm, e, e', _, e3, e4, e5, e6⟩ := h25
          have hv := (h23.get e3 e4).2.1
          rw [← e5, ← e6] at hv
          cases c with
          | true => exact .tuple' (.cons hv (.cons (.bool _) (.nil ρ)))
          | false => exact hv
end
end Ae

/- Maps changed; iterators. -/
namespace Ae
open Go Go.RowKit

section
variable {tab : Tab} {P : Program} {h0 : Nat} {ρ : Ren} {X X' : St} {w : World} {n : Nat}

structure FoundOK (P : Program) (ρ : Ren) (h0 : Nat) (X : St) (w : World) (y : Found) (t : TypeId) (m' k : Value) (kt : TypeId) (p : Place) (es' : Array MapEntry) (b : Option (Nat × Value)) : Prop where
  at_ : X.H.at_ y.r = some (.obj (.map y.es y.clock))
  map : m' = .map (some p.blk)
  pl : ρ y.r = some p
  heap : w.heap[p.blk]? = some (.map es' y.clock)
  es : EsR ρ y.es.toList es'.toList
  check : (Instr.checkKey false 10000 kt k).run P w = .ok () w
  find : (Instr.findKey kt k es'.toList).run P w = .ok b w
  found : FoundR y.es.toList es'.toList 0 y.at_ b
  keys : SameKeys y.es.toList es'.toList

theorem find_sound (ok : TabOK tab P) (g : Good h0 ρ X.H w.heap) {t : TypeId} {m m' k k' : Value} {y : Found} (rm : VR ρ m m') (rk : VR ρ k k') (h : interp (findF tab t m k) X = some (y, X')) :
    X' = X ∧ k' = k ∧ fl k = true ∧ ∃ i ke p es' b, tab.ty.at_ t = some i ∧ dMap i.desc = some ke ∧ FoundOK P ρ h0 X w y t m' k ke.1 p es' b := by
  obtain ⟨i, h1, h2⟩ := i_tiB.mp h
  obtain ⟨ke, h3, h4⟩ := i_optB.mp h2
  obtain ⟨h9, h10⟩ := i_ifB.mp h4
  obtain ⟨z, X1, h11, h12⟩ := i_bind.mp h10
  obtain ⟨h13, h14⟩ := i_ifB.mp h12
  obtain ⟨u, h15, h16⟩ := i_optB.mp h14
  obtain ⟨r, h17, h18⟩ := i_optB.mp h16
  obtain ⟨rfl, rfl⟩ := i_pure_inv h18
  obtain ⟨rfl, rfl, h21⟩ := mapOf_inv h11
  cases rm with
  | @map _ p hp =>
    obtain ⟨_, es', h22, h23⟩ := mapAt g h21 hp
    have hk := h23.keys h13
    rw [ok.prog] at h17
    obtain ⟨b, h24, h25⟩ := findKey_sound (w := w) ke.1 k hk h17
    exact ⟨rfl, fl_eq h9 rk, h9, i, ke, p, es', b, h1, h3, h21, rfl, hp, h22, h23, psem_check ok h15, h24, h25, hk⟩

theorem EsR.push {l k : List MapEntry} (r : EsR ρ l k) {a b : MapEntry} (h1 : VR ρ a.key b.key) (h2 : VR ρ a.val b.val) (h3 : b.born = a.born) : EsR ρ (l ++ [a]) (k ++ [b]) := by
  refine ⟨by simp [r.1], fun i x y hx hy => ?_⟩
  by_cases hi : i < l.length
  · rw [List.getElem?_append_left hi] at hx
    rw [List.getElem?_append_left (by rw [← r.1]; exact hi)] at hy
    exact r.2 i x y hx hy
  · rw [List.getElem?_append_right (by omega)] at hx
    rw [List.getElem?_append_right (by rw [← r.1]; omega)] at hy
    rw [← r.1] at hy
    cases hj : i - l.length with
    | zero =>
      rw [hj] at hx hy
      simp only [List.getElem?_cons_zero, Option.some.injEq] at hx hy
      subst hx; subst hy
      exact ⟨h1, h2, h3⟩
    | succ j => rw [hj] at hx; simp at hx

theorem EsR.modify {l k : Array MapEntry} (r : EsR ρ l.toList k.toList) (i : Nat) {f f' : MapEntry → MapEntry} (h : ∀ a b : MapEntry, VR ρ a.key b.key ∧ VR ρ a.val b.val ∧ b.born = a.born → VR ρ (f a).key (f' b).key ∧ VR ρ (f a).val (f' b).val ∧ (f' b).born = (f a).born) :
    EsR ρ (l.modify i f).toList (k.modify i f').toList := by
  have hs : l.size = k.size := by have := r.1; simpa using this
  refine ⟨by simp [hs], fun j x y hx hy => ?_⟩
  simp only [Array.getElem?_toList, Array.getElem?_modify] at hx hy
  by_cases e : i = j
  · rw [if_pos e] at hx hy
    cases h1 : l[j]? with
    | none => rw [h1] at hx; cases hx
    | some a =>
      cases h2 : k[j]? with
      | none => rw [h2] at hy; cases hy
      | some b =>
        rw [h1] at hx; rw [h2] at hy
        simp only [Option.map_some, Option.some.injEq] at hx hy
        subst hx; subst hy
        exact h a b (r.2 j a b (by simpa using h1) (by simpa using h2))
  · rw [if_neg e] at hx hy
    exact r.2 j x y (by simpa using hx) (by simpa using hy)

theorem keyF_sound {es es' : Array MapEntry} (r : SameKeys es.toList es'.toList) {i : Nat} {k : Value} {u : Unit} (h : interp (keyF es i k) X = some (u, X')) :
    X' = X ∧ (Instr.keyThatStays (((es'[i]?).map (·.key)).getD k) k).run P w = .ok k w := by
  obtain ⟨e, h1, h2⟩ := i_optB.mp h
  obtain ⟨h3, h4⟩ := i_ifB.mp h2
  obtain ⟨_, rfl⟩ := i_pure_inv h4
  rw [nth_eq] at h1
  have h5 : (es'.toList.map (·.key))[i]? = some e.key := by rw [← show es.toList.map (·.key) = es'.toList.map (·.key) from r]; simp only [List.getElem?_map, h1, Option.map_some]
  have h6 : (es'[i]?).map (·.key) = some e.key := by simpa using h5
  refine ⟨rfl, ?_⟩
  rw [h6, Option.getD_some, Instr.keyThatStays, if_pos h3]
  rfl

theorem wr_inv {id : Nat} {c : Option Cell} {u : Unit} (h : interp (.wr (.o id c)) X = some (u, X')) : X' = X.set (.o id c) := by
  have h' : some ((), X.set (.o id c)) = some (u, X') := h
  simp only [Option.some.injEq, Prod.mk.injEq] at h'
  exact h'.2.symm

theorem mapUpdate_sound (ok : TabOK tab P) (g : Good h0 ρ X.H w.heap) {n' : Nat} {t : TypeId} {m m' k k' x x' : Value} (rm : VR ρ m m') (rk : VR ρ k k') (rx : VR ρ x x') {out : Out}
    (h : interp (.bind (findF tab t m k) (mapUpdateF n k x)) X = some ((out, n'), X')) :
    n' = n ∧ out = .skip ∧ X'.T = X.T ∧ ∃ w', (Instr.mapUpdate t m' k' x').run P w = .ok () w' ∧ Good h0 ρ X'.H w'.heap ∧ Below h0 w w' := by
  obtain ⟨y, X1, h1, h2⟩ := i_bind.mp h
  obtain ⟨rfl, rfl, hfl, i, ke, p, es', b, h3, h4, F⟩ := find_sound (w := w) ok g rm rk h1
  have u1 := (ok.ty t i h3).under (w := w)
  rw [dMap_eq h4] at u1
  have hm := F.map
  subst hm
  have hne : ∀ c e f, Obj.map es' y.clock ≠ .cells c e f := by intro _ _ _ e; cases e
  have u3 := getObj_run (P := P) F.heap hne
  unfold mapUpdateF at h2
  cases hat : y.at_ with
  | none =>
    rw [hat] at h2
    obtain ⟨u, X2, h5, h6⟩ := i_bind.mp h2
    obtain ⟨e, rfl⟩ := i_pure_inv h6
    simp only [Prod.mk.injEq] at e
    obtain ⟨rfl, rfl⟩ := e
    have hf := F.found
    rw [hat] at hf
    cases b with
    | some b => exact hf.elim
    | none =>
      obtain ⟨a1, a2, a3⟩ := putMap_sound (w := w) g F.at_ F.pl (es2' := es'.push { key := k', val := x', born := y.clock }) (by
        simp only [Array.toList_push]
        exact F.es.push (fl_refl hfl) rx rfl) h5
      refine ⟨rfl, rfl, a1, _, ?_, a2, a3⟩
      simp [Instr.mapUpdate, u1, u3, F.check, F.find, setObj_run F.heap hne]
  | some f =>
    rw [hat] at h2
    obtain ⟨u0, X2, h5, h6⟩ := i_bind.mp h2
    obtain ⟨u, X3, h7, h8⟩ := i_bind.mp h6
    obtain ⟨e, rfl⟩ := i_pure_inv h8
    simp only [Prod.mk.injEq] at e
    obtain ⟨rfl, rfl⟩ := e
    have hf := F.found
    rw [hat] at hf
    cases b with
    | none => exact hf.elim
    | some b =>
      obtain ⟨rfl, h9⟩ := keyF_sound (P := P) (w := w) F.keys h5
      obtain ⟨a1, a2, a3⟩ := putMap_sound (w := w) g F.at_ F.pl (es2' := es'.modify f.1 fun e => { e with key := k', val := x' }) (F.es.modify _ (f := fun e => { e with key := k', val := x }) (f' := fun e => { e with key := k', val := x' }) fun a b hab => ⟨fl_refl hfl, rx, hab.2.2⟩) h7
      refine ⟨rfl, rfl, a1, _, ?_, a2, a3⟩
      have hb : b.1 = f.1 := hf.1
      obtain ⟨b1, b2⟩ := b
      simp only at hb
      subst hb
      simp [Instr.mapUpdate, u1, u3, F.check, F.find, h9, setObj_run F.heap hne]

theorem mapEntry_sound (ok : TabOK tab P) (g : Good h0 ρ X.H w.heap) {n' : Nat} {t : TypeId} {m m' k k' : Value} (rm : VR ρ m m') (rk : VR ρ k k') {out : Out}
    (h : interp (.bind (findF tab t m k) (mapEntryF tab n t k)) X = some ((out, n'), X')) :
    n' = n ∧ X'.T = X.T ∧ ∃ w' v v', out = .val v ∧ (Instr.mapEntry t m' k').run P w = .ok v' w' ∧ Good h0 ρ X'.H w'.heap ∧ Below h0 w w' ∧ VR ρ v v' := by
  obtain ⟨y, X1, h1, h2⟩ := i_bind.mp h
  obtain ⟨rfl, rfl, hfl, i, ke, p, es', b, h3, h4, F⟩ := find_sound (w := w) ok g rm rk h1
  have u1 := (ok.ty t i h3).under (w := w)
  rw [dMap_eq h4] at u1
  have hm := F.map
  subst hm
  have hne : ∀ c e f, Obj.map es' y.clock ≠ .cells c e f := by intro _ _ _ e; cases e
  have u3 := getObj_run (P := P) F.heap hne
  unfold mapEntryF at h2
  cases hat : y.at_ with
  | none =>
    rw [hat] at h2
    obtain ⟨i2, g1, g2⟩ := i_tiB.mp h2
    obtain ⟨ke2, g3, g4⟩ := i_optB.mp g2
    obtain ⟨ei, g5, g6⟩ := i_tiB.mp g4
    obtain ⟨z, g7, g8⟩ := i_optB.mp g6
    obtain ⟨u, X2, h5, h6⟩ := i_bind.mp g8
    obtain ⟨e, rfl⟩ := i_pure_inv h6
    simp only [Prod.mk.injEq] at e
    obtain ⟨rfl, rfl⟩ := e
    rw [h3] at g1
    simp only [Option.some.injEq] at g1
    subst g1
    rw [h4] at g3
    simp only [Option.some.injEq] at g3
    subst g3
    obtain ⟨z1, z2, z3⟩ := (ok.ty _ ei g5).zeroed (w := w) g7
    have hf := F.found
    rw [hat] at hf
    cases b with
    | some b => exact hf.elim
    | none =>
      obtain ⟨a1, a2, a3⟩ := putMap_sound (w := w) g F.at_ F.pl (es2' := es'.push { key := k', val := zeroOf ei z, born := y.clock }) (by
        simp only [Array.toList_push]
        exact F.es.push (fl_refl hfl) (fl_refl z3) rfl) h5
      refine ⟨rfl, a1, _, _, .tuple #[zeroOf ei z, goInt y.clock], rfl, ?_, a2, a3, .tuple' (.cons (fl_refl z3) (.cons (.int _ _) (.nil ρ)))⟩
      simp [Instr.mapEntry, u1, u3, F.check, F.find, z1, setObj_run F.heap hne]
  | some f =>
    rw [hat] at h2
    obtain ⟨u0, X2, h5, h6⟩ := i_bind.mp h2
    obtain ⟨u, X3, h7, h8⟩ := i_bind.mp h6
    obtain ⟨e, rfl⟩ := i_pure_inv h8
    simp only [Prod.mk.injEq] at e
    obtain ⟨rfl, rfl⟩ := e
    have hf := F.found
    rw [hat] at hf
    cases b with
    | none => exact hf.elim
    | some b =>
      obtain ⟨rfl, h9⟩ := keyF_sound (P := P) (w := w) F.keys h5
      obtain ⟨a1, a2, a3⟩ := putMap_sound (w := w) g F.at_ F.pl (es2' := es'.modify f.1 fun e => { e with key := k' }) (F.es.modify _ (f := fun e => { e with key := k' }) (f' := fun e => { e with key := k' }) fun a b hab => ⟨fl_refl hfl, hab.2.1, hab.2.2⟩) h7
      obtain ⟨hb, mm, e, e', q1, q2, q3, q4, q5⟩ := hf
      have hv := (F.es.get q2 q3)
      have hmm : mm = f.1 := by omega
      subst hmm
      have hborn : ((es'[f.1]?).map (fun x => (x.born : Int))).getD 0 = ((nth y.es.toList f.1).map (fun x => (x.born : Int))).getD 0 := by
        have e1 : es'[f.1]? = some e' := by simpa using q3
        rw [nth_eq, q2, e1]
        exact congrArg _ hv.2.2
      obtain ⟨b1, b2⟩ := b
      simp only at hb q5
      subst hb
      refine ⟨rfl, a1, _, _, .tuple #[b2, goInt (((es'[f.1]?).map (·.born)).getD 0)], rfl, ?_, a2, a3, .tuple' (.cons (by rw [q4, q5]; exact hv.2.1) (.cons (by rw [hborn]; exact .int _ _) (.nil ρ)))⟩
      simp [Instr.mapEntry, u1, u3, F.check, F.find, h9, setObj_run F.heap hne]

theorem findIdx_same {es es' : Array MapEntry} (r : EsR ρ es.toList es'.toList) (q : Int) : es'.findIdx? (fun e => (e.born : Int) == q) = es.findIdx? (fun e => (e.born : Int) == q) := by
  have hb : es'.toList.map (fun e => (e.born : Int)) = es.toList.map (fun e => (e.born : Int)) := by
    apply List.ext_getElem?
    intro i
    simp only [List.getElem?_map]
    cases hi : es.toList[i]? with
    | none =>
      have : es'.toList[i]? = none := by rw [List.getElem?_eq_none_iff] at hi ⊢; rw [← r.1]; exact hi
      rw [this]
    | some a =>
      have hk : i < es'.toList.length := by rw [← r.1]; exact (List.getElem?_eq_some_iff.mp hi).1
      rw [List.getElem?_eq_getElem hk]
      simp only [Option.map_some, Option.some.injEq]
      exact congrArg (fun n : Nat => (n : Int)) (r.2 i a _ hi (List.getElem?_eq_getElem hk)).2.2
  have key : ∀ l : List MapEntry, l.findIdx? (fun e => (e.born : Int) == q) = (l.map (fun e => (e.born : Int))).findIdx? (fun n => n == q) := by
    intro l; rw [List.findIdx?_map]; rfl
  have e1 : es'.findIdx? (fun e => (e.born : Int) == q) = es'.toList.findIdx? (fun e => (e.born : Int) == q) := by rw [← List.findIdx?_toArray]
  have e2 : es.findIdx? (fun e => (e.born : Int) == q) = es.toList.findIdx? (fun e => (e.born : Int) == q) := by rw [← List.findIdx?_toArray]
  rw [e1, e2, key, key, hb]

theorem entryStore_sound (g : Good h0 ρ X.H w.heap) {n' : Nat} {t : TypeId} {m m' s s' x x' : Value} (rm : VR ρ m m') (rs : VR ρ s s') (rx : VR ρ x x') {out : Out}
    (h : interp (entryStoreF n m s x) X = some ((out, n'), X')) :
    n' = n ∧ out = .skip ∧ X'.T = X.T ∧ ∃ w', (Instr.entryStore t m' s' x').run P w = .ok () w' ∧ Good h0 ρ X'.H w'.heap ∧ Below h0 w w' := by
  obtain ⟨y, X1, h1, h2⟩ := i_bind.mp h
  obtain ⟨rfl, rfl, h3⟩ := mapOf_inv h1
  obtain ⟨born, h4, h5⟩ := i_optB.mp h2
  obtain ⟨i, h6, h7⟩ := i_optB.mp h5
  obtain ⟨u, X2, h8, h9⟩ := i_bind.mp h7
  obtain ⟨e, rfl⟩ := i_pure_inv h9
  simp only [Prod.mk.injEq] at e
  obtain ⟨rfl, rfl⟩ := e
  rw [vInt_eq h4] at rs
  cases rs
  cases rm with
  | @map _ p hp =>
    obtain ⟨_, es', h22, h23⟩ := mapAt g h3 hp
    have hne : ∀ c e f, Obj.map es' y.2.2 ≠ .cells c e f := by intro _ _ _ e; cases e
    have u3 := getObj_run (P := P) h22 hne
    obtain ⟨a1, a2, a3⟩ := putMap_sound (w := w) g h3 hp (es2' := es'.modify i fun e => { e with val := x' }) (h23.modify _ (f := fun e => { e with val := x }) (f' := fun e => { e with val := x' }) fun a b hab => ⟨hab.1, rx, hab.2.2⟩) h8
    refine ⟨rfl, rfl, a1, _, ?_, a2, a3⟩
    have h6' := findIdx_same h23 born.2
    rw [h6] at h6'
    simp [Instr.entryStore, u3, asInt, asIntOf, h6', setObj_run h22 hne]
end
end Ae
