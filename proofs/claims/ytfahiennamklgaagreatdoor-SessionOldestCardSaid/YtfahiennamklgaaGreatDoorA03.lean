/- The numbered places stand for blocks of the heap: the relation, and reading and writing under it. -/
import Derived.Test.YtfahiennamklgaaGreatDoorA02
import Derived.Laws.CopyRow
import Derived.Laws.Cells
import Derived.Below

set_option linter.all false
set_option linter.unusedVariables false
set_option linter.unusedSimpArgs false
set_option linter.deprecated false

/- The places of a run on numbers and the blocks of the model's heap. -/
namespace Ae
open Go

/-- Where a numbered place lies. -/
structure Place where
  blk : Nat
  base : Nat
  cap : Nat
  sz : Nat

abbrev Ren := Nat → Option Place

def Ren.le (ρ σ : Ren) : Prop := ∀ id p, ρ id = some p → σ id = some p
theorem Ren.le_refl (ρ : Ren) : Ren.le ρ ρ := fun _ _ h => h
theorem Ren.le.trans {ρ σ τ : Ren} (h : Ren.le ρ σ) (k : Ren.le σ τ) : Ren.le ρ τ := fun _ _ e => k _ _ (h _ _ e)

inductive FnR (ρ : Ren) : Fn → Fn → Prop
  | same (f : Fn) (h : notYield f = true) : FnR ρ f f
  | yield {l : Nat} {p : Place} (h : ρ l = some p) : FnR ρ (.yield l) (.yield p.blk)

theorem FnR.mono {ρ σ : Ren} (h : Ren.le ρ σ) {f g : Fn} : FnR ρ f g → FnR σ f g
  | .same f e => .same f e
  | .yield e => .yield (h _ _ e)

inductive VR (ρ : Ren) : Value → Value → Prop
  | bool (b : Bool) : VR ρ (.bool b) (.bool b)
  | int (k : IntKind) (n : Int) : VR ρ (.int k n) (.int k n)
  | string (s : ByteArray) : VR ρ (.string s) (.string s)
  | nilPtr : VR ρ (.pointer none) (.pointer none)
  | ptr {id : Nat} {p : Place} (off : Nat) (h : ρ id = some p) : VR ρ (.pointer (some ⟨id, off, none⟩)) (.pointer (some ⟨p.blk, p.base + off, none⟩))
  | nilSlice : VR ρ (.slice none 0 0) (.slice none 0 0)
  | slice {id : Nat} {p : Place} (off len cap : Nat) (h : ρ id = some p) (hc : open_ cap = false) :
      VR ρ (.slice (some ⟨id, off, none⟩) len cap) (.slice (some ⟨p.blk, p.base + off, none⟩) len cap)
  | openSlice {id : Nat} {p : Place} (L len cap off : Nat) (a : Addr) (h : ρ id = some p) (hs : 0 < p.sz) (ho : open_ cap = true) (hcap : cap + L = BIG) (hoff : off = L * p.sz)
      (hL : L + len ≤ p.cap) (ha : p.cap = L ∨ a = ⟨p.blk, p.base + off, none⟩) : VR ρ (.slice (some ⟨id, off, none⟩) len cap) (.slice (some a) len (p.cap - L))
  | nilMap : VR ρ (.map none) (.map none)
  | map {id : Nat} {p : Place} (h : ρ id = some p) : VR ρ (.map (some id)) (.map (some p.blk))
  | nilFunc : VR ρ .nilFunc .nilFunc
  | nilIface : VR ρ .nilIface .nilIface
  | func {f g : Fn} {a b c d : Array Value} (hf : FnR ρ f g) (h1 : a.toList.length = b.toList.length)
      (h2 : ∀ (i : Nat) (v w : Value), a.toList[i]? = some v → b.toList[i]? = some w → VR ρ v w) (h3 : c.toList.length = d.toList.length)
      (h4 : ∀ (i : Nat) (v w : Value), c.toList[i]? = some v → d.toList[i]? = some w → VR ρ v w) : VR ρ (.func f a c) (.func g b d)
  | iface (t : TypeId) {v w : Value} (h : VR ρ v w) : VR ρ (.iface t v) (.iface t w)
  | agg {a b : Array Value} (h1 : a.toList.length = b.toList.length) (h2 : ∀ (i : Nat) (v w : Value), a.toList[i]? = some v → b.toList[i]? = some w → VR ρ v w) : VR ρ (.agg a) (.agg b)
  | tuple {a b : Array Value} (h1 : a.toList.length = b.toList.length) (h2 : ∀ (i : Nat) (v w : Value), a.toList[i]? = some v → b.toList[i]? = some w → VR ρ v w) : VR ρ (.tuple a) (.tuple b)

/-- Two lists, value by value. -/
def LR (ρ : Ren) (l k : List Value) : Prop := l.length = k.length ∧ ∀ (i : Nat) (v w : Value), l[i]? = some v → k[i]? = some w → VR ρ v w

theorem VR.mono {ρ σ : Ren} (h : Ren.le ρ σ) {v w : Value} (r : VR ρ v w) : VR σ v w := by
  induction r with
  | bool b => exact .bool b
  | int k n => exact .int k n
  | string s => exact .string s
  | nilPtr => exact .nilPtr
  | ptr off e => exact .ptr off (h _ _ e)
  | nilSlice => exact .nilSlice
  | slice off len cap e hc => exact .slice off len cap (h _ _ e) hc
  | openSlice L len cap off a e hs ho hcap hoff hL ha => exact .openSlice L len cap off a (h _ _ e) hs ho hcap hoff hL ha
  | nilMap => exact .nilMap
  | map e => exact .map (h _ _ e)
  | nilFunc => exact .nilFunc
  | nilIface => exact .nilIface
  | func hf h1 _ h3 _ i2 i4 => exact .func (hf.mono h) h1 i2 h3 i4
  | iface t _ ih => exact .iface t ih
  | agg h1 _ ih => exact .agg h1 ih
  | tuple h1 _ ih => exact .tuple h1 ih

theorem LR.mono {ρ σ : Ren} (h : Ren.le ρ σ) {l k : List Value} (r : LR ρ l k) : LR σ l k := ⟨r.1, fun i v w a b => (r.2 i v w a b).mono h⟩

theorem LR.nil (ρ : Ren) : LR ρ [] [] := ⟨rfl, fun i v w a => by simp at a⟩
theorem LR.cons {ρ : Ren} {v w : Value} {l k : List Value} (h : VR ρ v w) (r : LR ρ l k) : LR ρ (v :: l) (w :: k) := by
  refine ⟨by simp [r.1], fun i a b ha hb => ?_⟩
  cases i with
  | zero => simp at ha hb; subst ha; subst hb; exact h
  | succ i => exact r.2 i a b (by simpa using ha) (by simpa using hb)
theorem LR.nil_inv {ρ : Ren} {k : List Value} (r : LR ρ [] k) : k = [] := by
  have := r.1; cases k <;> simp_all
theorem LR.cons_inv {ρ : Ren} {v : Value} {l k : List Value} (r : LR ρ (v :: l) k) : ∃ w k', k = w :: k' ∧ VR ρ v w ∧ LR ρ l k' := by
  cases k with
  | nil => have := r.1; simp at this
  | cons w k' => exact ⟨w, k', rfl, r.2 0 v w (by simp) (by simp), by simpa using r.1, fun i a b ha hb => r.2 (i + 1) a b (by simpa using ha) (by simpa using hb)⟩
theorem LR.append {ρ : Ren} {l k l' k' : List Value} (r : LR ρ l k) (r' : LR ρ l' k') : LR ρ (l ++ l') (k ++ k') := by
  induction l generalizing k with
  | nil => rw [r.nil_inv]; exact r'
  | cons v l ih =>
    obtain ⟨w, k2, rfl, h, h2⟩ := r.cons_inv
    exact .cons h (ih h2)
theorem LR.take {ρ : Ren} {l k : List Value} (r : LR ρ l k) (n : Nat) : LR ρ (l.take n) (k.take n) :=
  ⟨by simp [r.1], fun i v w a b => by
    rw [List.getElem?_take] at a b
    split at a
    · rename_i hi; rw [if_pos hi] at b; exact r.2 i v w a b
    · simp at a⟩
theorem LR.drop {ρ : Ren} {l k : List Value} (r : LR ρ l k) (n : Nat) : LR ρ (l.drop n) (k.drop n) :=
  ⟨by simp [r.1], fun i v w a b => by rw [List.getElem?_drop] at a b; exact r.2 _ v w a b⟩
theorem LR.get {ρ : Ren} {l k : List Value} (r : LR ρ l k) {i : Nat} {v : Value} (h : l[i]? = some v) : ∃ w, k[i]? = some w ∧ VR ρ v w := by
  have hi : i < k.length := by rw [← r.1]; exact (List.getElem?_eq_some_iff.mp h).1
  exact ⟨k[i], List.getElem?_eq_getElem hi, r.2 i v _ h (List.getElem?_eq_getElem hi)⟩
theorem LR.set {ρ : Ren} {l k : List Value} (r : LR ρ l k) {v w : Value} (h : VR ρ v w) (i : Nat) : LR ρ (l.set i v) (k.set i w) := by
  refine ⟨by simp [r.1], fun j a b ha hb => ?_⟩
  rw [List.getElem?_set] at ha hb
  by_cases e : i = j
  · rw [if_pos e] at ha hb
    split at ha
    · simp only [Option.some.injEq] at ha; subst ha
      split at hb
      · simp only [Option.some.injEq] at hb; subst hb; exact h
      · simp at hb
    · simp at ha
  · rw [if_neg e] at ha hb; exact r.2 j a b ha hb

theorem VR.agg' {ρ : Ren} {a b : Array Value} (h : LR ρ a.toList b.toList) : VR ρ (.agg a) (.agg b) := .agg h.1 h.2
theorem VR.tuple' {ρ : Ren} {a b : Array Value} (h : LR ρ a.toList b.toList) : VR ρ (.tuple a) (.tuple b) := .tuple h.1 h.2
theorem VR.func' {ρ : Ren} {f g : Fn} {a b c d : Array Value} (hf : FnR ρ f g) (h : LR ρ a.toList b.toList) (k : LR ρ c.toList d.toList) : VR ρ (.func f a c) (.func g b d) :=
  .func hf h.1 h.2 k.1 k.2
theorem VR.undef (ρ : Ren) : VR ρ undef undef := .tuple' (LR.nil ρ)

theorem VR.cells {ρ : Ren} {v w : Value} (h : VR ρ v w) : LR ρ v.cells.toList w.cells.toList := by
  cases h with
  | agg h1 h2 => exact ⟨h1, h2⟩
  | bool => exact .cons (.bool _) (.nil ρ)
  | int => exact .cons (.int _ _) (.nil ρ)
  | string => exact .cons (.string _) (.nil ρ)
  | nilPtr => exact .cons .nilPtr (.nil ρ)
  | ptr off e => exact .cons (.ptr off e) (.nil ρ)
  | nilSlice => exact .cons .nilSlice (.nil ρ)
  | slice off len cap e hc => exact .cons (.slice off len cap e hc) (.nil ρ)
  | openSlice L len cap off a e hs ho hcap hoff hL ha => exact .cons (.openSlice L len cap off a e hs ho hcap hoff hL ha) (.nil ρ)
  | nilMap => exact .cons .nilMap (.nil ρ)
  | map e => exact .cons (.map e) (.nil ρ)
  | nilFunc => exact .cons .nilFunc (.nil ρ)
  | nilIface => exact .cons .nilIface (.nil ρ)
  | func hf h1 h2 h3 h4 => exact .cons (.func hf h1 h2 h3 h4) (.nil ρ)
  | iface t h => exact .cons (.iface t h) (.nil ρ)
  | tuple h1 h2 => exact .cons (.tuple h1 h2) (.nil ρ)

theorem allB_mem {f : Value → Bool} {l : List Value} (h : allB f l = true) : ∀ v ∈ l, f v = true := by
  induction l with
  | nil => simp
  | cons v l ih =>
    have h' : Bool.rec (motive := fun _ => Bool) false (allB f l) (f v) = true := h
    cases hv : f v with
    | false => rw [hv] at h'; cases h'
    | true =>
      rw [hv] at h'
      intro w hw
      cases hw with
      | head => exact hv
      | tail _ hw => exact ih h' w hw

theorem LR.of_flat {ρ : Ren} {l : List Value} (h : ∀ v ∈ l, VR ρ v v) : LR ρ l l :=
  ⟨rfl, fun i v w a b => by
    rw [a] at b; simp only [Option.some.injEq] at b; subst b
    exact h v (List.mem_of_getElem? a)⟩

/-- A value that leads to no place stands for itself. -/
theorem flat_refl (ρ : Ren) : ∀ (d : Nat) (v : Value), flat d v = true → VR ρ v v := by
  intro d
  induction d with
  | zero => intro v h; cases h
  | succ d ih =>
    intro v h
    have lr : ∀ l : List Value, allB (flat d) l = true → LR ρ l l := fun l hl => .of_flat fun v hv => ih v (allB_mem hl v hv)
    cases v with
    | bool b => exact .bool b
    | int k n => exact .int k n
    | string s => exact .string s
    | nilFunc => exact .nilFunc
    | nilIface => exact .nilIface
    | pointer a => cases a with
      | none => exact .nilPtr
      | some a => cases h
    | slice a n c =>
      cases a with
      | some a => cases h
      | none =>
        cases n with
        | succ n => cases h
        | zero => cases c with
          | succ c => cases h
          | zero => exact .nilSlice
    | map a => cases a with
      | none => exact .nilMap
      | some a => cases h
    | func fn a b =>
      have h' : (notYield fn && allB (flat d) a.toList && allB (flat d) b.toList) = true := h
      simp only [Bool.and_eq_true] at h'
      exact .func' (.same fn h'.1.1) (lr _ h'.1.2) (lr _ h'.2)
    | iface t v => exact .iface t (ih v h)
    | agg cs => exact .agg' (lr _ h)
    | tuple cs => exact .tuple' (lr _ h)
    | float => cases h
    | complex => cases h
    | chan => cases h

theorem LR.eq_of {ρ : Ren} {l k : List Value} (r : LR ρ l k) (h : ∀ v ∈ l, ∀ w, VR ρ v w → w = v) : k = l := by
  induction l generalizing k with
  | nil => exact r.nil_inv
  | cons v l ih =>
    obtain ⟨w, k2, rfl, h1, h2⟩ := r.cons_inv
    rw [h v (by simp) w h1, ih h2 fun u hu => h u (by simp [hu])]

theorem flat_eq {ρ : Ren} : ∀ (d : Nat) (v w : Value), flat d v = true → VR ρ v w → w = v := by
  intro d
  induction d with
  | zero => intro v w h; cases h
  | succ d ih =>
    intro v w h r
    have lr : ∀ l k : List Value, allB (flat d) l = true → LR ρ l k → k = l := fun l k hl hr => hr.eq_of fun v hv w hw => ih v w (allB_mem hl v hv) hw
    cases r with
    | bool => rfl
    | int => rfl
    | string => rfl
    | nilPtr => rfl
    | nilSlice => rfl
    | nilMap => rfl
    | nilFunc => rfl
    | nilIface => rfl
    | ptr => cases h
    | slice => cases h
    | openSlice => cases h
    | map => cases h
    | iface t r => rw [ih _ _ h r]
    | agg h1 h2 => rw [Array.toList_inj.mp (lr _ _ h ⟨h1, h2⟩)]
    | tuple h1 h2 => rw [Array.toList_inj.mp (lr _ _ h ⟨h1, h2⟩)]
    | @func f g a b c e hf h1 h2 h3 h4 =>
      have h' : (notYield f && allB (flat d) a.toList && allB (flat d) c.toList) = true := h
      simp only [Bool.and_eq_true] at h'
      rw [Array.toList_inj.mp (lr _ _ h'.1.2 ⟨h1, h2⟩), Array.toList_inj.mp (lr _ _ h'.2 ⟨h3, h4⟩)]
      cases hf with
      | same => rfl
      | yield => cases h'.1.1

theorem fl_refl {ρ : Ren} {v : Value} (h : fl v = true) : VR ρ v v := flat_refl ρ 12 v h
theorem fl_eq {ρ : Ren} {v w : Value} (h : fl v = true) (r : VR ρ v w) : w = v := flat_eq 12 v w h r

/-- The temporaries. -/
def TR (ρ : Ren) (T : Trie Value) (tmps : Array Value) : Prop := ∀ i, match T.at_ i with
  | some v => ∃ v', tmps[i]? = some v' ∧ VR ρ v v'
  | none => tmps[i]? = none ∨ tmps[i]? = some undef

theorem TR.mono {ρ σ : Ren} (h : Ren.le ρ σ) {T : Trie Value} {tmps : Array Value} (r : TR ρ T tmps) : TR σ T tmps := by
  intro i
  have := r i
  cases hT : T.at_ i with
  | none => rw [hT] at this; exact this
  | some v => rw [hT] at this; obtain ⟨v', h1, h2⟩ := this; exact ⟨v', h1, h2.mono h⟩

structure LoopR (ρ : Ren) (l l' : Loop) (T : Trie Value) (nt : Nat) : Prop where
  state : l'.state = l.state
  pending : l'.pending = l.pending
  fn : l'.fn = l.fn
  params : l'.params = l.params
  assign : l'.assign = l.assign
  body : l'.body = l.body
  defers : ∃ p, ρ l.defers = some p ∧ l'.defers = p.blk
  tmps : TR ρ T l'.tmps
  size : nt ≤ l'.tmps.size
  ok : tmpsOk nt l.params.toList = true

def EsR (ρ : Ren) (l k : List MapEntry) : Prop := l.length = k.length ∧ ∀ (i : Nat) (a b : MapEntry), l[i]? = some a → k[i]? = some b → VR ρ a.key b.key ∧ VR ρ a.val b.val ∧ b.born = a.born

inductive ObjR (ρ : Ren) : Obj → Obj → Prop
  | map {es es' : Array MapEntry} (clock : Nat) (h : EsR ρ es.toList es'.toList) : ObjR ρ (.map es clock) (.map es' clock)
  | stringIter (s : ByteArray) (pos : Nat) : ObjR ρ (.stringIter s pos) (.stringIter s pos)
  | mapIter {m : Nat} {p : Place} (since : Nat) (seen : Array Nat) (last : Nat) (h : ρ m = some p) : ObjR ρ (.mapIter (some m) since seen last) (.mapIter (some p.blk) since seen last)
  | deferred : ObjR ρ (.deferred (some [])) (.deferred (some []))
  | taken : ObjR ρ (.deferred none) (.deferred none)

def CellR (ρ : Ren) (p : Place) (hp : Array Obj) : Cell → Prop
  | .row cs sz => ∃ c e, hp[p.blk]? = some (.cells c e (0, 0)) ∧ p.base + cs.length ≤ c.size ∧ (0 < sz → p.sz = sz ∧ cs.length ≤ p.cap * sz ∧ p.base + p.cap * sz ≤ c.size) ∧
      ∀ (i : Nat) (v w : Value), cs[i]? = some v → c[p.base + i]? = some w → VR ρ v w
  | .obj o => p.base = 0 ∧ ∃ o', hp[p.blk]? = some o' ∧ ObjR ρ o o'
  | .loop l T nt => ∃ l', hp[p.blk]? = some (.loop l') ∧ LoopR ρ l l' T nt
  | .val _ => False

theorem EsR.mono {ρ σ : Ren} (h : Ren.le ρ σ) {l k : List MapEntry} (r : EsR ρ l k) : EsR σ l k :=
  ⟨r.1, fun i a b ha hb => let ⟨x, y, z⟩ := r.2 i a b ha hb; ⟨x.mono h, y.mono h, z⟩⟩
theorem ObjR.mono {ρ σ : Ren} (h : Ren.le ρ σ) {o o' : Obj} (r : ObjR ρ o o') : ObjR σ o o' := by
  cases r with
  | map clock e => exact .map clock (e.mono h)
  | stringIter s pos => exact .stringIter s pos
  | mapIter since seen last e => exact .mapIter since seen last (h _ _ e)
  | deferred => exact .deferred
  | taken => exact .taken
theorem LoopR.mono {ρ σ : Ren} (h : Ren.le ρ σ) {l l' : Loop} {T : Trie Value} {nt : Nat} (r : LoopR ρ l l' T nt) : LoopR σ l l' T nt :=
  { r with defers := let ⟨p, a, b⟩ := r.defers; ⟨p, h _ _ a, b⟩, tmps := r.tmps.mono h }

theorem CellR.mono {ρ σ : Ren} (h : Ren.le ρ σ) {p : Place} {hp : Array Obj} {c : Cell} (r : CellR ρ p hp c) : CellR σ p hp c := by
  cases c with
  | row cs sz => obtain ⟨c, e, h1, h2, h3, h4⟩ := r; exact ⟨c, e, h1, h2, h3, fun i v w a b => (h4 i v w a b).mono h⟩
  | obj o => obtain ⟨b, o', h1, h2⟩ := r; exact ⟨b, o', h1, h2.mono h⟩
  | loop l T nt => obtain ⟨l', h1, h2⟩ := r; exact ⟨l', h1, h2.mono h⟩
  | val v => exact r

/-- It depends on its own block alone. -/
theorem CellR.congr {ρ : Ren} {p : Place} {hp hp' : Array Obj} {c : Cell} (e : hp'[p.blk]? = hp[p.blk]?) (r : CellR ρ p hp c) : CellR ρ p hp' c := by
  cases c with
  | row cs sz => simpa only [CellR, e] using r
  | obj o => simpa only [CellR, e] using r
  | loop l T nt => simpa only [CellR, e] using r
  | val v => exact r

theorem CellR.lt {ρ : Ren} {p : Place} {hp : Array Obj} {c : Cell} (r : CellR ρ p hp c) : p.blk < hp.size := by
  have key : ∀ o, hp[p.blk]? = some o → p.blk < hp.size := fun o h => (Array.getElem?_eq_some_iff.mp h).1
  cases c with
  | row cs sz => obtain ⟨c, e, h1, _⟩ := r; exact key _ h1
  | obj o => obtain ⟨_, o', h1, _⟩ := r; exact key _ h1
  | loop l T nt => obtain ⟨l', h1, _⟩ := r; exact key _ h1
  | val v => exact r.elim

structure Good (h0 : Nat) (ρ : Ren) (H : Trie Cell) (hp : Array Obj) : Prop where
  cells : ∀ id c, H.at_ id = some c → ∃ p, ρ id = some p ∧ h0 ≤ p.blk ∧ CellR ρ p hp c
  apart : ∀ i j c d p q, H.at_ i = some c → H.at_ j = some d → ρ i = some p → ρ j = some q → p.blk = q.blk → i = j
  room : h0 ≤ hp.size

theorem Good.at_ {h0 : Nat} {ρ : Ren} {H : Trie Cell} {hp : Array Obj} (g : Good h0 ρ H hp) {id : Nat} {c : Cell} {p : Place} (h : H.at_ id = some c) (hp' : ρ id = some p) :
    h0 ≤ p.blk ∧ CellR ρ p hp c := by
  obtain ⟨q, h1, h2, h3⟩ := g.cells id c h
  rw [hp'] at h1; simp only [Option.some.injEq] at h1; subst h1
  exact ⟨h2, h3⟩
end Ae

/- Reading, writing and making places, here and in the model. -/
namespace Ae
open Go Go.RowKit

def Ren.ext (ρ : Ren) (n : Nat) (p : Place) : Ren := fun id => if id = n then some p else ρ id
theorem Ren.ext_same (ρ : Ren) (n : Nat) (p : Place) : ρ.ext n p n = some p := by simp [Ren.ext]
theorem Ren.le_ext {ρ : Ren} {n : Nat} (p : Place) (h : ρ n = none) : Ren.le ρ (ρ.ext n p) := by
  intro id q e
  by_cases hi : id = n
  · subst hi; rw [h] at e; cases e
  · simp [Ren.ext, hi, e]

/- What an evaluation comes to. -/
section
variable {α β : Type} {X X' : St}
theorem i_pure {a : α} : interp (.pure a) X = some (a, X) := rfl
theorem i_fail : interp (.fail : F α) X = none := rfl
theorem i_rd {l : Loc} : interp (.rd l) X = some (X.get l, X) := rfl
theorem i_wr {w : W} : interp (.wr w) X = some ((), X.set w) := rfl
theorem i_bind {m : F α} {f : α → F β} {r : β × St} : interp (.bind m f) X = some r ↔ ∃ a X1, interp m X = some (a, X1) ∧ interp (f a) X1 = some r := by
  rw [interp_bind]
  cases interp m X with
  | none => simp
  | some x => exact ⟨fun h => ⟨x.1, x.2, rfl, h⟩, fun ⟨a, X1, h, k⟩ => by simp only [Option.some.injEq] at h; rw [h]; exact k⟩
theorem i_optB {x : Option α} {f : α → F β} {r : β × St} : interp (optB x f) X = some r ↔ ∃ a, x = some a ∧ interp (f a) X = some r := by
  cases x with
  | none => exact ⟨fun h => (by cases h), fun ⟨a, h, _⟩ => by cases h⟩
  | some a => exact ⟨fun h => ⟨a, rfl, h⟩, fun ⟨b, h, k⟩ => by simp only [Option.some.injEq] at h; subst h; exact k⟩
theorem i_opt {x : Option α} {r : α × St} : interp (opt x) X = some r ↔ x = some r.1 ∧ r.2 = X := by
  cases x with
  | none => exact ⟨fun h => (by cases h), fun ⟨h, _⟩ => by cases h⟩
  | some a =>
    obtain ⟨b, Y⟩ := r
    exact ⟨fun h => by have h' : some (a, X) = some (b, Y) := h
                       simp only [Option.some.injEq, Prod.mk.injEq] at h'; exact ⟨by rw [h'.1], h'.2.symm⟩,
      fun ⟨h, k⟩ => by simp only [Option.some.injEq] at h; subst h; subst k; rfl⟩
theorem i_ifB {b : Bool} {m : F β} {r : β × St} : interp (ifB b m) X = some r ↔ b = true ∧ interp m X = some r := by
  cases b with
  | false => exact ⟨fun h => (by cases h), fun ⟨h, _⟩ => by cases h⟩
  | true => exact ⟨fun h => ⟨rfl, h⟩, fun h => h.2⟩
theorem i_force {n : Nat} {f : Nat → F β} : interp (force n f) X = interp (f n) X := by rw [force_eq]
theorem i_tiB {tab : Tab} {t : TypeId} {f : TInfo → F β} {r : β × St} : interp (tiB tab t f) X = some r ↔ ∃ i, tab.ty.at_ t = some i ∧ interp (f i) X = some r := i_optB
theorem i_if {b : Bool} {m m' : F β} : interp (Bool.rec (motive := fun _ => F β) m m' b) X = if b then interp m' X else interp m X := by cases b <;> rfl
end

theorem forceL_eq {β : Type _} (l : List Value) (k : List Value → β) : forceL l k = k l := by
  induction l generalizing k with
  | nil => rfl
  | cons v l ih => exact ih fun t => k (v :: t)

theorem newRow_run {sz : Nat} {cs : List Value} {n : Nat} {X X' : St} {u : Unit} (h : interp (newRow_ sz cs n) X = some (u, X')) : some ((), X.set (.o n (some (.row cs sz)))) = some (u, X') := by
  unfold newRow_ at h
  rw [forceL_eq] at h
  exact h

theorem ob_some {α β : Type} {x : Option α} {f : α → Option β} {b : β} : ob x f = some b ↔ ∃ a, x = some a ∧ f a = some b := by
  cases x with
  | none => exact ⟨fun h => (by cases h), fun ⟨a, h, _⟩ => by cases h⟩
  | some a => exact ⟨fun h => ⟨a, rfl, h⟩, fun ⟨b, h, k⟩ => by simp only [Option.some.injEq] at h; subst h; exact k⟩

theorem dropN_eq (n : Nat) (l : List Value) : dropN n l = l.drop n := by
  induction n generalizing l with
  | zero => rfl
  | succ n ih => cases l with
    | nil => rfl
    | cons v l => exact ih l
theorem headL_eq (l : List Value) : headL l = l[0]? := by cases l <;> rfl
theorem takeN_eq (n : Nat) (l : List Value) {r : List Value} (h : takeN n l = some r) : r = l.take n ∧ r.length = n := by
  induction n generalizing l r with
  | zero => have h' : some [] = some r := h
            simp only [Option.some.injEq] at h'
            subst h'; simp
  | succ n ih => cases l with
    | nil => cases h
    | cons v l =>
      have h' : ob (takeN n l) (fun vs => some (v :: vs)) = some r := h
      obtain ⟨vs, h1, h2⟩ := ob_some.mp h'
      simp only [Option.some.injEq] at h2
      subst h2
      obtain ⟨h3, h4⟩ := ih l h1
      subst h3
      exact ⟨rfl, by simp [h4] ⟩
theorem over_eq (vs l : List Value) {r : List Value} (h : over vs l = some r) : r = vs ++ l.drop vs.length ∧ vs.length ≤ l.length := by
  induction vs generalizing l r with
  | nil => have : r = l := by simpa [over] using h.symm
           subst this; simp
  | cons v vs ih => cases l with
    | nil => cases h
    | cons u l =>
      have h' : ob (over vs l) (fun r => some (v :: r)) = some r := h
      obtain ⟨r', h1, h2⟩ := ob_some.mp h'
      simp only [Option.some.injEq] at h2
      subst h2
      obtain ⟨h3, h4⟩ := ih l h1
      exact ⟨by simp [h3], by simp; omega⟩
theorem splice_eq (vs : List Value) (off : Nat) (l : List Value) {r : List Value} (h : splice vs off l = some r) :
    r = l.take off ++ vs ++ l.drop (off + vs.length) ∧ off + vs.length ≤ l.length := by
  induction off generalizing l r with
  | zero => obtain ⟨h1, h2⟩ := over_eq vs l h
            exact ⟨by simp [h1], by omega⟩
  | succ n ih => cases l with
    | nil => cases h
    | cons u l =>
      have h' : ob (splice vs n l) (fun r => some (u :: r)) = some r := h
      obtain ⟨r', h1, h2⟩ := ob_some.mp h'
      simp only [Option.some.injEq] at h2
      subst h2
      obtain ⟨h3, h4⟩ := ih l h1
      exact ⟨by simp [h3, Nat.add_right_comm], by simp; omega⟩

theorem rowC_eq {c : Option Cell} {r : List Value × Nat} (h : rowC c = some r) : c = some (.row r.1 r.2) := by
  cases c with
  | none => cases h
  | some c => cases c with
    | row cs sz => have h' : some (cs, sz) = some r := h
                   simp only [Option.some.injEq] at h'; subst h'; rfl
    | val => cases h
    | obj => cases h
    | loop => cases h
theorem objC_eq {c : Option Cell} {o : Obj} (h : objC c = some o) : c = some (.obj o) := by
  cases c with
  | none => cases h
  | some c => cases c with
    | obj x => have h' : some x = some o := h
               simp only [Option.some.injEq] at h'; subst h'; rfl
    | val => cases h
    | row => cases h
    | loop => cases h
theorem loopC_eq {c : Option Cell} {r : Loop × Trie Value × Nat} (h : loopC c = some r) : c = some (.loop r.1 r.2.1 r.2.2) := by
  cases c with
  | none => cases h
  | some c => cases c with
    | loop l T nt => have h' : some (l, T, nt) = some r := h
                     simp only [Option.some.injEq] at h'; subst h'; rfl
    | val => cases h
    | row => cases h
    | obj => cases h

theorem i_rowOf {id : Nat} {X X' : St} {r : List Value × Nat} (h : interp (rowOf id) X = some (r, X')) : X' = X ∧ X.H.at_ id = some (.row r.1 r.2) := by
  obtain ⟨c, X1, h1, h2⟩ := i_bind.mp h
  obtain ⟨h3, h4⟩ := i_opt.mp h2
  have h1' : some (X.H.at_ id, X) = some (c, X1) := h1
  simp only [Option.some.injEq, Prod.mk.injEq] at h1'
  obtain ⟨h5, rfl⟩ := h1'
  exact ⟨h4, h5 ▸ rowC_eq h3⟩
theorem i_objOf {id : Nat} {X X' : St} {β : Type} {f : Option Cell → F β} {r : β} (h : interp (.bind (.rd (.o id)) f) X = some (r, X')) : interp (f (X.H.at_ id)) X = some (r, X') := by
  obtain ⟨c, X1, h1, h2⟩ := i_bind.mp h
  have h1' : some (X.H.at_ id, X) = some (c, X1) := h1
  simp only [Option.some.injEq, Prod.mk.injEq] at h1'
  obtain ⟨rfl, rfl⟩ := h1'
  exact h2

section
variable {h0 : Nat} {ρ : Ren} {H : Trie Cell} {hp hp' : Array Obj}

theorem Good.put (g : Good h0 ρ H hp) {id : Nat} {c c' : Cell} {p : Place} (hid : H.at_ id = some c) (hpl : ρ id = some p)
    (hsame : ∀ b, b ≠ p.blk → hp'[b]? = hp[b]?) (hsz : hp.size ≤ hp'.size) (hc : CellR ρ p hp' c') : Good h0 ρ (H.put id (some c')) hp' := by
  refine ⟨fun j d hj => ?_, fun i j c1 d1 p1 q1 hi hj hpi hqj e => ?_, Nat.le_trans g.room hsz⟩
  · by_cases e : j = id
    · subst e
      rw [Trie.at_put_same] at hj
      simp only [Option.some.injEq] at hj; subst hj
      exact ⟨p, hpl, (g.at_ hid hpl).1, hc⟩
    · rw [Trie.at_put_other _ _ (fun x => e x.symm)] at hj
      obtain ⟨q, h1, h2, h3⟩ := g.cells j d hj
      refine ⟨q, h1, h2, h3.congr (hsame _ fun x => e ?_)⟩
      exact g.apart j id d c q p hj hid h1 hpl x
  · have key : ∀ k d, (H.put id (some c')).at_ k = some d → ∃ d', H.at_ k = some d' := by
      intro k d hk
      by_cases e : k = id
      · subst e; exact ⟨c, hid⟩
      · rw [Trie.at_put_other _ _ (fun x => e x.symm)] at hk; exact ⟨d, hk⟩
    obtain ⟨d2, h2⟩ := key i c1 hi
    obtain ⟨d3, h3⟩ := key j d1 hj
    exact g.apart i j d2 d3 p1 q1 h2 h3 hpi hqj e

theorem Good.kill (g : Good h0 ρ H hp) (id : Nat) : Good h0 ρ (H.put id none) hp := by
  have key : ∀ k d, (H.put id none).at_ k = some d → H.at_ k = some d := by
    intro k d hk
    by_cases e : k = id
    · subst e; rw [Trie.at_put_same] at hk; cases hk
    · rw [Trie.at_put_other _ _ (fun x => e x.symm)] at hk; exact hk
  exact ⟨fun j d hj => g.cells j d (key j d hj), fun i j c1 d1 p1 q1 hi hj => g.apart i j c1 d1 p1 q1 (key _ _ hi) (key _ _ hj), g.room⟩

theorem Good.new (g : Good h0 ρ H hp) {n : Nat} {c' : Cell} {p : Place} (hn : ρ n = none) (hfree : ∀ id c q, H.at_ id = some c → ρ id = some q → q.blk ≠ p.blk) (hb : h0 ≤ p.blk)
    (hsame : ∀ b, b ≠ p.blk → hp'[b]? = hp[b]?) (hsz : hp.size ≤ hp'.size) (hc : CellR (ρ.ext n p) p hp' c') : Good h0 (ρ.ext n p) (H.put n (some c')) hp' := by
  have hle := Ren.le_ext p hn
  have live : ∀ id c, H.at_ id = some c → id ≠ n := by
    intro id c h e
    subst e
    obtain ⟨q, h1, _⟩ := g.cells _ _ h
    rw [hn] at h1; cases h1
  refine ⟨fun j d hj => ?_, fun i j c1 d1 p1 q1 hi hj hpi hqj e => ?_, Nat.le_trans g.room hsz⟩
  · by_cases e : j = n
    · subst e
      rw [Trie.at_put_same] at hj
      simp only [Option.some.injEq] at hj; subst hj
      exact ⟨p, Ren.ext_same .., hb, hc⟩
    · rw [Trie.at_put_other _ _ (fun x => e x.symm)] at hj
      obtain ⟨q, h1, h2, h3⟩ := g.cells j d hj
      exact ⟨q, hle _ _ h1, h2, (h3.congr (hsame _ (hfree j d q hj h1))).mono hle⟩
  · have key : ∀ k d q, (H.put n (some c')).at_ k = some d → (ρ.ext n p) k = some q → (k = n ∧ q = p) ∨ (k ≠ n ∧ H.at_ k = some d ∧ ρ k = some q) := by
      intro k d q hk hq
      by_cases e : k = n
      · subst e; rw [Ren.ext_same] at hq; exact .inl ⟨rfl, by simpa using hq.symm⟩
      · rw [Trie.at_put_other _ _ (fun x => e x.symm)] at hk
        simp only [Ren.ext, if_neg e] at hq
        exact .inr ⟨e, hk, hq⟩
    rcases key i c1 p1 hi hpi with ⟨rfl, rfl⟩ | ⟨ei, hi', hpi'⟩
    · rcases key j d1 q1 hj hqj with ⟨rfl, rfl⟩ | ⟨ej, hj', hqj'⟩
      · rfl
      · exact absurd e.symm (hfree j d1 q1 hj' hqj')
    · rcases key j d1 q1 hj hqj with ⟨rfl, rfl⟩ | ⟨ej, hj', hqj'⟩
      · exact absurd e (hfree i c1 p1 hi' hpi')
      · exact g.apart i j c1 d1 p1 q1 hi' hj' hpi' hqj' e

/-- A new block. -/
theorem Good.push (g : Good h0 ρ H hp) {n : Nat} {c' : Cell} (o : Obj) (cap sz : Nat) (hn : ρ n = none)
    (hc : CellR (ρ.ext n ⟨hp.size, 0, cap, sz⟩) ⟨hp.size, 0, cap, sz⟩ (hp.push o) c') : Good h0 (ρ.ext n ⟨hp.size, 0, cap, sz⟩) (H.put n (some c')) (hp.push o) := by
  refine g.new hn (fun id c q hid hq => ?_) g.room (fun b hb => ?_) (by simp) hc
  · have := (g.at_ hid hq).2.lt
    exact Nat.ne_of_lt this
  · rw [Array.getElem?_push]
    simp only at hb
    rw [if_neg hb]
end

section
variable {P : Program} {h0 : Nat} {ρ : Ren} {X X' : St} {w : World}

theorem cell_row {w : World} {b : Nat} {c : Array Value} {e : TypeId} {fr : Nat × Nat} (h : w.heap[b]? = some (.cells c e fr)) (i : Nat) : w.cell? ⟨b, i, none⟩ = c[i]? := by
  simp [World.cell?, h]

theorem add_none (b o i : Nat) : (⟨b, o, none⟩ : Addr).add i = ⟨b, o + i, none⟩ := by unfold Addr.add; split <;> simp_all

/-- Cells read. -/
theorem loadCells_sound (g : Good h0 ρ X.H w.heap) {id k off : Nat} {p : Place} {cs : List Value} (hp : ρ id = some p) (h : interp (loadCells_ id k off) X = some (cs, X')) :
    X' = X ∧ cs.length = k ∧ ∃ cs' : List Value, (loadCells ⟨p.blk, p.base + off, none⟩ k).run P w = .ok cs'.toArray w ∧ LR ρ cs cs' := by
  obtain ⟨r, X1, h1, h2⟩ := i_bind.mp h
  obtain ⟨rfl, h3⟩ := i_rowOf h1
  obtain ⟨h4, h5⟩ := i_opt.mp h2
  obtain ⟨_, c, e, h6, h7, _, h8⟩ := g.at_ h3 hp
  rw [dropN_eq] at h4
  obtain ⟨h9, h10⟩ := takeN_eq _ _ h4
  simp only at h9 h10 h5
  subst h5
  have hlen : off + k ≤ r.1.length ∨ k = 0 := by
    rw [h9] at h10
    simp at h10
    omega
  refine ⟨rfl, h10, ((c.toList.drop (p.base + off)).take k), ?_, ?_⟩
  · have hk : ((c.toList.drop (p.base + off)).take k).length = k := by
      simp
      omega
    have := run_loadCells_list (P := P) w ⟨p.blk, p.base + off, none⟩ ((c.toList.drop (p.base + off)).take k) (fun j v hv => by
      rw [add_none, cell_row h6]
      rw [List.getElem?_take] at hv
      split at hv
      · rw [List.getElem?_drop] at hv
        simpa using hv
      · cases hv)
    rw [hk] at this
    exact this
  · refine ⟨by rw [h10]; simp; omega, fun i v u hv hu => ?_⟩
    rw [h9] at hv
    rw [List.getElem?_take] at hv hu
    split at hv
    · rename_i hi
      rw [if_pos hi, List.getElem?_drop] at hu
      rw [List.getElem?_drop] at hv
      exact h8 (off + i) v u hv (by rw [← Nat.add_assoc]; simpa using hu)
    · cases hv

theorem loadCell_sound (g : Good h0 ρ X.H w.heap) {id off : Nat} {p : Place} {v : Value} (hp : ρ id = some p) (h : interp (loadCell_ id off) X = some (v, X')) :
    X' = X ∧ ∃ v', (load ⟨p.blk, p.base + off, none⟩).run P w = .ok v' w ∧ VR ρ v v' := by
  obtain ⟨r, X1, h1, h2⟩ := i_bind.mp h
  obtain ⟨rfl, h3⟩ := i_rowOf h1
  obtain ⟨h4, h5⟩ := i_opt.mp h2
  obtain ⟨_, c, e, h6, h7, _, h8⟩ := g.at_ h3 hp
  rw [dropN_eq, headL_eq, List.getElem?_drop] at h4
  simp only [Nat.add_zero] at h4 h5
  subst h5
  have hi := (List.getElem?_eq_some_iff.mp h4).1
  have hlt : p.base + off < c.size := by omega
  refine ⟨rfl, c[p.base + off], ?_, h8 off v _ h4 (by simp)⟩
  simp [load, Sem.run, cell_row h6, hlt]

theorem single_cell {v : Value} (h : single v = true) : v.oneCell' = true := by
  cases v <;> first | rfl | cases h

theorem VR.single {v v' : Value} (r : VR ρ v v') (h : single v = true) : v'.oneCell' = true := by
  cases r <;> first | rfl | cases h

theorem LR.singles {l k : List Value} (r : LR ρ l k) (h : allB single l = true) : ∀ v ∈ k, v.oneCell' = true := by
  intro v hv
  obtain ⟨i, hi⟩ := List.getElem?_of_mem hv
  have hi2 : i < l.length := by rw [r.1]; exact (List.getElem?_eq_some_iff.mp hi).1
  exact (r.2 i _ v (List.getElem?_eq_getElem hi2) hi).single (allB_mem h _ (List.getElem_mem hi2))

theorem setRow_other (w : World) (g : Nat) (cs : Array Value) (b : Nat) (h : b ≠ g) : (w.setRow g cs).heap[b]? = w.heap[b]? := by
  simp only [World.setRow, Array.getElem?_modify]
  rw [if_neg (fun e => h e.symm)]

theorem setRow_size (w : World) (g : Nat) (cs : Array Value) : (w.setRow g cs).heap.size = w.heap.size := by
  simp [World.setRow]

theorem below_setRow {h0 : Nat} (w : World) (g : Nat) (cs : Array Value) (h : h0 ≤ g) : Below h0 w (w.setRow g cs) :=
  ⟨rfl, rfl, rfl, by rw [setRow_size]; exact Nat.le_refl _, fun k hk => setRow_other w g cs k (by omega)⟩

/-- Cells written. -/
theorem storeCells_sound (g : Good h0 ρ X.H w.heap) {id off : Nat} {p : Place} {vs vs' : List Value} {u : Unit} (hp : ρ id = some p) (hv : LR ρ vs vs')
    (h : interp (storeCells_ id vs off) X = some (u, X')) :
    X'.T = X.T ∧ ∃ w', (storeCells ⟨p.blk, p.base + off, none⟩ vs').run P w = .ok () w' ∧ Good h0 ρ X'.H w'.heap ∧ Below h0 w w' := by
  obtain ⟨r, X1, h1, h2⟩ := i_bind.mp h
  obtain ⟨rfl, h3⟩ := i_rowOf h1
  obtain ⟨h4, h5⟩ := i_ifB.mp h2
  obtain ⟨cs, h6, h7⟩ := i_optB.mp h5
  have h7' : some ((), X1.set (.o id (some (.row cs r.2)))) = some (u, X') := h7
  simp only [Option.some.injEq, Prod.mk.injEq] at h7'
  obtain ⟨_, rfl⟩ := h7'
  obtain ⟨h8, h9⟩ := splice_eq _ _ _ h6
  obtain ⟨h10, c, e, h11, h12, h13, h14⟩ := g.at_ h3 hp
  have hvl := hv.1
  refine ⟨rfl, _, run_storeCells_at P p.blk (p.base + off) e vs' 0 c w h11 (by omega) (hv.singles h4), ?_, below_setRow _ _ _ h10⟩
  refine g.put h3 hp (fun b hb => setRow_other _ _ _ b hb) (by rw [setRow_size]; exact Nat.le_refl _) ?_
  have hcs : cs.length = r.1.length := by rw [h8]; simp; omega
  refine ⟨_, e, setRow_heap w p.blk c _ e _ h11, ?_, fun hs => ?_, fun i v v' hi hi' => ?_⟩
  · simp; omega
  · obtain ⟨a, b, d⟩ := h13 hs
    exact ⟨a, by omega, by simp; omega⟩
  · rw [h8, List.append_assoc] at hi
    simp only [Nat.add_zero, List.getElem?_toArray, List.append_assoc] at hi'
    by_cases hlo : i < off
    · rw [List.getElem?_append_left (by simp; omega)] at hi
      rw [List.getElem?_append_left (by simp; omega)] at hi'
      rw [List.getElem?_take] at hi hi'
      rw [if_pos hlo] at hi
      rw [if_pos (by omega)] at hi'
      exact h14 i v v' hi (by simpa using hi')
    · rw [List.getElem?_append_right (by simp; omega)] at hi
      rw [List.getElem?_append_right (by simp; omega)] at hi'
      have e1 : i - (r.1.take off).length = i - off := by simp; omega
      have e2 : p.base + i - (c.toList.take (p.base + off)).length = i - off := by simp; omega
      rw [e1] at hi
      rw [e2] at hi'
      by_cases hmid : i - off < vs.length
      · rw [List.getElem?_append_left hmid] at hi
        rw [List.getElem?_append_left (by omega)] at hi'
        exact hv.2 _ v v' hi hi'
      · rw [List.getElem?_append_right (by omega)] at hi
        rw [List.getElem?_append_right (by omega)] at hi'
        rw [List.getElem?_drop] at hi hi'
        have e3 : off + vs.length + (i - off - vs.length) = i := by omega
        have e4 : p.base + off + vs'.length + (i - off - vs'.length) = p.base + i := by omega
        rw [e3] at hi
        rw [e4] at hi'
        exact h14 i v v' hi (by simpa using hi')
end
end Ae
