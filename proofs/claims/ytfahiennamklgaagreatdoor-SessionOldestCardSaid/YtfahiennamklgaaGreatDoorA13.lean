/- The tables of a program; a call from outside; the cases of a request among the sessions. -/
import Derived.Test.YtfahiennamklgaaGreatDoorA04
import Derived.Test.YtfahiennamklgaaGreatDoorA12
import Derived.Test.YtfahiennamklgaaGreatDoorA01

set_option linter.all false
set_option linter.unusedVariables false
set_option linter.unusedSimpArgs false
set_option linter.deprecated false

/- The tables of types and functions of a program. -/
namespace Ae
open Go

/-- A type, reckoned out. -/
noncomputable def zeroTI (agg : Bool) (z : Value) : Option (Array Value) := match fl z with
  | false => none
  | true => match agg, z with
    | true, .agg cs => some cs
    | true, _ => none
    | false, .agg _ => none
    | false, v => some #[v]

def aggD (d : TypeDesc) : Bool := match d with | .struct _ => true | .array _ _ => true | _ => false

noncomputable def mkTI (P : Program) (t : Nat) : TInfo :=
  match P.underlying t, P.info? t with
  | some d, some i => { desc := d, agg := aggD d, size := i.size, bytes := i.bytes, zero := match i.zero with | some z => zeroTI (aggD d) z | none => none }
  | _, _ => { desc := .invalid, agg := false, size := 0, bytes := 0, zero := none }

theorem zeroTI_ok {agg : Bool} {z : Value} {cs : Array Value} {i : TInfo} (hi : i.agg = agg) (h : zeroTI agg z = some cs) : z.cells = cs ∧ zeroOf i cs = z ∧ fl z = true := by
  unfold zeroTI at h
  cases hf : fl z with
  | false => rw [hf] at h; cases h
  | true =>
    rw [hf] at h
    simp only at h
    unfold zeroOf
    rw [hi]
    cases agg with
    | true =>
      cases z <;> first | (cases h; done) | skip
      simp only [Option.some.injEq] at h
      subst h
      exact ⟨rfl, rfl, rfl⟩
    | false =>
      cases z <;> first | (cases h; done) | (simp only [Option.some.injEq] at h; subst h; exact ⟨rfl, rfl, rfl⟩)

theorem mkTI_ok {P : Program} {t : Nat} (h1 : (P.underlying t).isSome = true) (h2 : (P.info? t).isSome = true) : TypeOK P t (mkTI P t) := by
  cases hd : P.underlying t with
  | none => rw [hd] at h1; cases h1
  | some d =>
    cases hi : P.info? t with
    | none => rw [hi] at h2; cases h2
    | some ti =>
      have e : mkTI P t = { desc := d, agg := aggD d, size := ti.size, bytes := ti.bytes, zero := match ti.zero with | some z => zeroTI (aggD d) z | none => none } := by
        unfold mkTI
        rw [hd, hi]
      rw [e]
      refine ⟨ti, d, hi, hd, rfl, rfl, rfl, ?_, ?_⟩
      · unfold aggD; cases d <;> rfl
      · intro cs hc
        cases hz : ti.zero with
        | none => rw [hz] at hc; cases hc
        | some z =>
          rw [hz] at hc
          obtain ⟨a, b, c⟩ := zeroTI_ok (i := { desc := d, agg := aggD d, size := ti.size, bytes := ti.bytes, zero := match ti.zero with | some z => zeroTI (aggD d) z | none => none }) rfl hc
          exact ⟨z, rfl, a, by rw [hz] at b; exact b, c⟩

/-- Tables of the first n. -/
noncomputable def tableOf {α : Type} (f : Nat → Option α) (n : Nat) : BTrie α := Nat.rec (motive := fun _ => BTrie α) .nil (fun k T => T.put k (f k)) n

theorem tableOf_at {α : Type} {f : Nat → Option α} {n k : Nat} {x : α} (h : (tableOf f n).at_ k = some x) : k < n ∧ f k = some x := by
  induction n with
  | zero => rw [show tableOf f 0 = .nil from rfl, BTrie.at_nil] at h; cases h
  | succ n ih =>
    rw [show tableOf f (n + 1) = (tableOf f n).put n (f n) from rfl, BTrie.at_put] at h
    by_cases e : n = k
    · subst e; rw [if_pos rfl] at h; exact ⟨Nat.lt_succ_self _, h⟩
    · rw [if_neg e] at h
      obtain ⟨a, b⟩ := ih h
      exact ⟨by omega, b⟩

/-- Whether p holds of each number below n. -/
noncomputable def allBelow (p : Nat → Bool) (n : Nat) : Bool := Nat.rec (motive := fun _ => Bool) true (fun k ih => Bool.rec (motive := fun _ => Bool) false ih (p k)) n

theorem allBelow_at {p : Nat → Bool} {n k : Nat} (h : allBelow p n = true) (hk : k < n) : p k = true := by
  induction n with
  | zero => omega
  | succ n ih =>
    have h' : Bool.rec (motive := fun _ => Bool) false (allBelow p n) (p n) = true := h
    cases hp : p n with
    | false => rw [hp] at h'; cases h'
    | true =>
      rw [hp] at h'
      by_cases e : k = n
      · subst e; exact hp
      · exact ih h' (by omega)

def tyOK (P : Program) (t : Nat) : Bool := (P.underlying t).isSome && (P.info? t).isSome

/-- Of a function's name: none that the machine answers for, and the one without a body that is maps.clone has the number K. -/
noncomputable def fnOK (P : Program) (K f : Nat) : Bool := match P.funcs[f]? with
  | some fn => !(fn.name == "runtime.NumGoroutine") && (bodyB fn || (!(fn.name == "maps.clone") || Nat.beq f K))
  | none => false

theorem tabOK_of {tab : Tab} {P : Program} {N M K : Nat} (hP : tab.P = P) (hmix : P.follows .mixedOrders = true) (hty : tab.ty = tableOf (fun t => some (mkTI P t)) N) (hfn : tab.fn = tableOf (fun f => P.funcs[f]?) M) (h1 : allBelow (tyOK P) N = true) (h2 : allBelow (fnOK P K) M = true)
    (h3 : ∀ fn, P.funcs[K]? = some fn → Extern.findNext fn = none ∧ Extern.find fn = some Extern.MapsClone.clone) : TabOK tab P := by
  have hf : ∀ f fn, tab.fn.at_ f = some fn → f < M ∧ P.funcs[f]? = some fn := by
    intro f fn h; rw [hfn] at h; exact tableOf_at h
  have hk : ∀ f fn, tab.fn.at_ f = some fn → (fn.name == "runtime.NumGoroutine") = false ∧ (bodyB fn = true ∨ (fn.name == "maps.clone") = false ∨ f = K) := by
    intro f fn h
    obtain ⟨a, b⟩ := hf f fn h
    have := allBelow_at h2 a
    unfold fnOK at this
    rw [b] at this
    simp only [Bool.and_eq_true, Bool.or_eq_true, Bool.not_eq_true'] at this
    refine ⟨this.1, ?_⟩
    rcases this.2 with h | h | h
    · exact .inl h
    · exact .inr (.inl h)
    · exact .inr (.inr (Nat.eq_of_beq_eq_true h))
  refine ⟨hP, hmix, fun t i h => ?_, fun f fn h => (hf f fn h).2, fun f fn h => (hk f fn h).1, fun f fn h hb hn => ?_⟩
  · rw [hty] at h
    obtain ⟨a, b⟩ := tableOf_at h
    simp only [Option.some.injEq] at b
    subst b
    have := allBelow_at h1 a
    unfold tyOK at this
    simp only [Bool.and_eq_true] at this
    exact mkTI_ok this.1 this.2
  · rcases (hk f fn h).2 with h4 | h4 | rfl
    · rw [hb] at h4; cases h4
    · rw [hn] at h4; cases h4
    · exact h3 fn (hf _ fn h).2
end Ae

/- A call of a function from outside. -/
namespace Ae
open Go Go.RowKit

theorem call_of {tab : Tab} {P : Program} (ok : TabOK tab P) {fn : Func} {f : FuncId} {e : Fr} {args : List Value} {args' : Array Value} (hf : tab.fn.at_ f = some fn) (he : enterFr fn f args .normal = some e)
    {h0 : Nat} {ρ : Ren} {H : Trie Cell} {w : World} (g : Good h0 ρ H w.heap) (ra : LR ρ args args'.toList) {n : Nat} (fresh : ∀ id, n ≤ id → ρ id = none) {fuel : Nat} {y : Value × Nat} {X' : St} (h : interp (run tab fuel [e] n) ⟨Trie.nil, H⟩ = some (y, X')) :
    Calls P f args' w fun e w' => ∃ ρ' v', e = .returned v' ∧ VR ρ' y.1 v' ∧ Good h0 ρ' X'.H w'.heap ∧ Below h0 w w' := by
  intro cs
  have hfr : interp (frameF tab f args .normal) ⟨Trie.nil, H⟩ = some (e, ⟨Trie.nil, H⟩) := i_optB.mpr ⟨fn, hf, i_opt.mpr ⟨he, rfl⟩⟩
  obtain ⟨_, _, _, k1, k2⟩ := enter_sound (P := P) (ρ := ρ) ok ra hfr
  obtain ⟨_, ρ', w', f', v', j2, j3, j4, j5, j6⟩ := run_sound ok fuel cs h g (fun id a _ => fresh id a) (.cons k1 .nil) rfl
  exact ⟨.returned v', w', f', ⟨ρ', v', rfl, j6, j2.good, j2.below⟩, j5, j3.trans k2, j4⟩

/-- A slice of len elements of k cells in a block of the call's own. -/
def Row (h0 : Nat) (w : World) (v : Value) (k len : Nat) (cs : List Value) : Prop :=
  ∃ blk off cap c e, h0 ≤ blk ∧ v = .slice (some ⟨blk, off, none⟩) len cap ∧ w.heap[blk]? = some (.cells c e (0, 0)) ∧ cs.length = len * k ∧ len ≤ cap ∧ off + cap * k ≤ c.size ∧ ∀ (i : Nat) (u : Value), cs[i]? = some u → c[off + i]? = some u

theorem Row.mono {h0 : Nat} {w w' : World} {v : Value} {k len : Nat} {cs : List Value} (h : Row h0 w v k len cs) {B : Nat} (b : ∀ j, j < B → w'.heap[j]? = w.heap[j]?) (hB : w.heap.size ≤ B) : Row h0 w' v k len cs := by
  obtain ⟨blk, off, cap, c, e, h1, h2, h3, h4, h5, h6, h7⟩ := h
  have hlt := (Array.getElem?_eq_some_iff.mp h3).1
  exact ⟨blk, off, cap, c, e, h1, h2, by rw [b blk (by omega)]; exact h3, h4, h5, h6, h7⟩

/-- The one place of a call with one slice. -/
noncomputable def rowH (cs : List Value) (k : Nat) : Trie Cell := (Trie.nil : Trie Cell).put 1 (some (.row cs k))
def sliceA (len : Nat) : Value := .slice (some ⟨1, 0, none⟩) len BIG

theorem row_in {h0 : Nat} {w : World} {v : Value} {k len : Nat} {cs : List Value} (h : Row h0 w v k len cs) (hk : 0 < k) (hfl : ∀ u ∈ cs, ∀ ρ, VR ρ u u) (hroom : h0 ≤ w.heap.size) :
    ∃ ρ : Ren, Good h0 ρ (rowH cs k) w.heap ∧ VR ρ (sliceA len) v ∧ ∀ id, 2 ≤ id → ρ id = none := by
  obtain ⟨blk, off, cap, c, e, h1, h2, h3, h4, h5, h6, h7⟩ := h
  refine ⟨fun id => if id = 1 then some ⟨blk, off, cap, k⟩ else none, ⟨fun id d hd => ?_, fun i j c1 d1 p q hi hj _ _ _ => ?_, hroom⟩, ?_, fun id hid => by simp only; rw [if_neg (by omega)]⟩
  · by_cases e1 : id = 1
    · subst e1
      unfold rowH at hd
      rw [Trie.at_put_same] at hd
      simp only [Option.some.injEq] at hd
      subst hd
      refine ⟨⟨blk, off, cap, k⟩, by simp, h1, c, e, h3, ?_, fun _ => ⟨rfl, ?_, h6⟩, fun i u u' hu hu' => ?_⟩
      · simp only
        have : len * k ≤ cap * k := Nat.mul_le_mul_right k h5
        omega
      · simp only
        rw [h4]; exact Nat.mul_le_mul_right k h5
      · have h8 := h7 i u hu
        simp only at hu'
        rw [h8] at hu'
        simp only [Option.some.injEq] at hu'
        subst hu'
        exact hfl u (List.mem_of_getElem? hu) _
    · unfold rowH at hd
      rw [Trie.at_put_other _ _ (fun x => e1 x.symm), Trie.at_nil] at hd
      cases hd
  · have one : ∀ i d, (rowH cs k).at_ i = some d → i = 1 := by
      intro i d hi
      by_cases e1 : i = 1
      · exact e1
      · unfold rowH at hi
        rw [Trie.at_put_other _ _ (fun x => e1 x.symm), Trie.at_nil] at hi
        cases hi
    rw [one i _ hi, one j _ hj]
  · subst h2
    have := VR.openSlice (ρ := fun id => if id = 1 then some (⟨blk, off, cap, k⟩ : Place) else none) (id := 1) (p := ⟨blk, off, cap, k⟩) 0 len BIG 0 ⟨blk, off + 0, none⟩ (by simp) hk rfl rfl (by simp) (by simpa using h5) (.inr rfl)
    simpa [sliceA] using this

/-- What a slice in the end holds. -/
noncomputable def rowOut (k : Nat) (y : Value × Nat) (X : St) : Option (Nat × List Value) := match y.1 with
  | .slice (some ⟨id, 0, none⟩) len cap => match open_ cap, X.H.at_ id with
    | true, some (.row cs sz) => match Nat.beq sz k, Nat.beq cs.length (Nat.mul len k) with
      | true, true => some (len, cs)
      | _, _ => none
    | _, _ => none
  | _ => none

theorem row_out {h0 : Nat} {ρ : Ren} {w : World} {y : Value × Nat} {X : St} {v : Value} {k len : Nat} {cs : List Value} (hk : 0 < k) (hl : 0 < len) (h : rowOut k y X = some (len, cs)) (g : Good h0 ρ X.H w.heap) (rv : VR ρ y.1 v) (hfl : ∀ u ∈ cs, ∀ u', VR ρ u u' → u' = u) : Row h0 w v k len cs := by
  unfold rowOut at h
  split at h
  · rename_i id len' cap hy
    split at h
    · rename_i cs' sz ho hat
      split at h
      · rename_i hsz hlen
        simp only [Option.some.injEq, Prod.mk.injEq] at h
        obtain ⟨rfl, rfl⟩ := h
        have hsz := Nat.eq_of_beq_eq_true hsz
        have hlen := Nat.eq_of_beq_eq_true hlen
        subst hsz
        rw [hy] at rv
        cases rv with
        | slice off len cap hp hc => rw [ho] at hc; cases hc
        | @openSlice _ p L _ _ _ a hp hs _ hcap hoff hL ha =>
          have hL0 : L = 0 := by
            rcases Nat.mul_eq_zero.mp hoff.symm with h | h
            · exact h
            · omega
          subst hL0
          obtain ⟨h1, c, e, h2, h3, h4, h5⟩ := g.at_ hat hp
          obtain ⟨h6, h7, h8⟩ := h4 hk
          rcases ha with ha | rfl
          · omega
          · refine ⟨p.blk, p.base, p.cap, c, e, h1, by simp, h2, hlen, by omega, h8, fun i u hu => ?_⟩
            have hi : i < cs'.length := (List.getElem?_eq_some_iff.mp hu).1
            have hi' : p.base + i < c.size := by omega
            have := h5 i u c[p.base + i] hu (Array.getElem?_eq_getElem hi')
            rw [Array.getElem?_eq_getElem hi', hfl u (List.mem_of_getElem? hu) _ this]
      · cases h
    · cases h
  · cases h
end Ae

/- The sessions after a request, run on places that are filled with what is not known. -/
namespace Ae
open Go Go.RowKit

/-- What of a session turns; all else of it is zero. -/
structure Sess where
  dev : Int
  round : Int
  cut : Int

def nilS : Value := .slice none 0 0
def encS (x : Sess) : List Value := [.int .i64 x.dev, .int .i64 0, .int .i64 x.round, .int .i64 0, .slice none 0 0, .int .i64 x.cut, .slice none 0 0]
def flatS : List Sess → List Value
  | [] => []
  | x :: l => encS x ++ flatS l
def msgV (d r c : Int) : Value := .agg #[.int .i64 1, .int .i64 d, .int .i64 r, .int .i64 0, .int .i64 0, .slice none 0 0, .int .i64 c, .slice none 0 0, .int .i64 0, .int .i64 0, .slice none 0 0, .int .i64 0, .int .i64 0, .int .i64 0, .slice none 0 0,
  .int .i64 0, .int .i64 0, .int .i64 0, .slice none 0 0, .bool false, .slice none 0 0, .int .i64 0, .int .i64 0, .int .i64 0, .slice none 0 0, .int .i64 0, .int .i64 0, .int .i64 0, .int .i64 0, .int .i64 0, .slice none 0 0]

/-- A request among the sessions, by device. -/
noncomputable def ins (x : Sess) : List Sess → List Sess
  | [] => [x]
  | y :: l => match ltI x.dev y.dev with
    | true => x :: y :: l
    | false => match eqI x.dev y.dev with
      | true => (match ltI x.round y.round with
        | true => y :: l
        | false => x :: l)
      | false => y :: ins x l

theorem ltI_iff (a b : Int) : ltI a b = true ↔ a < b := by rw [ltI_eq]; simp
theorem eqI_iff (a b : Int) : eqI a b = true ↔ a = b := by rw [eqI_eq]; simp

theorem ins_cons (x y : Sess) (l : List Sess) : ins x (y :: l) = if x.dev < y.dev then x :: y :: l else if x.dev = y.dev then (if x.round < y.round then y :: l else x :: l) else y :: ins x l := by
  have h1 := ltI_iff x.dev y.dev
  have h2 := eqI_iff x.dev y.dev
  have h3 := ltI_iff x.round y.round
  simp only [ins]
  cases e1 : ltI x.dev y.dev with
  | true => rw [e1] at h1; rw [if_pos (h1.mp rfl)]
  | false =>
    rw [e1] at h1
    rw [if_neg (fun h => by have := h1.mpr h; cases this)]
    cases e2 : eqI x.dev y.dev with
    | true =>
      rw [e2] at h2
      rw [if_pos (h2.mp rfl)]
      cases e3 : ltI x.round y.round with
      | true => rw [e3] at h3; rw [if_pos (h3.mp rfl)]
      | false => rw [e3] at h3; rw [if_neg (fun h => by have := h3.mpr h; cases this)]
    | false =>
      rw [e2] at h2
      rw [if_neg (fun h => by have := h2.mpr h; cases this)]

theorem ins_ne (x : Sess) (L : List Sess) : ins x L ≠ [] := by
  cases L with
  | nil => simp [ins]
  | cons y l => rw [ins_cons]; split <;> (try split) <;> (try split) <;> simp

theorem flatS_length (L : List Sess) : (flatS L).length = L.length * 7 := by
  induction L with
  | nil => rfl
  | cons x l ih => simp [flatS, encS, ih]; omega

theorem flatS_mem {L : List Sess} {u : Value} (h : u ∈ flatS L) : (∃ n, u = .int .i64 n) ∨ u = .slice none 0 0 := by
  induction L with
  | nil => cases h
  | cons x l ih =>
    simp only [flatS, List.mem_append] at h
    rcases h with h | h
    · simp only [encS, List.mem_cons, List.not_mem_nil, or_false] at h
      rcases h with rfl | rfl | rfl | rfl | rfl | rfl | rfl <;> first | exact .inl ⟨_, rfl⟩ | exact .inr rfl
    · exact ih h

theorem flatS_refl {L : List Sess} : ∀ u ∈ flatS L, ∀ ρ, VR ρ u u := by
  intro u hu ρ
  rcases flatS_mem hu with ⟨n, rfl⟩ | rfl
  · exact .int _ _
  · exact .nilSlice
theorem flatS_eq {L : List Sess} {ρ : Ren} : ∀ u ∈ flatS L, ∀ u', VR ρ u u' → u' = u := by
  intro u hu u' r
  rcases flatS_mem hu with ⟨n, rfl⟩ | rfl
  · cases r; rfl
  · cases r; rfl

noncomputable def inHl : List Sess → List Value → Trie Cell
  | [], _ => .nil
  | _ :: _, l => rowH l 7
noncomputable def inH (L : List Sess) : Trie Cell := inHl L (flatS L)
def inV : List Sess → Value
  | [] => .slice none 0 0
  | x :: l => sliceA (x :: l).length

noncomputable def runFr (tab : Tab) (L : List Sess) (e : Option Fr) : Option (Nat × List Value) := match e with
  | some e => forceL (flatS L) fun l => evalBK none (run tab 100000 [e] 2) ⟨Trie.nil, inHl L l⟩ (rowOut 7)
  | none => none
noncomputable def updRun (tab : Tab) (fn : Func) (f : FuncId) (L : List Sess) (m : Sess) : Option (Nat × List Value) := runFr tab L (enterFr fn f [inV L, msgV m.dev m.round m.cut] .normal)

/-- A slice of sessions. -/
def RowS (h0 : Nat) (w : World) (v : Value) (L : List Sess) : Prop := (L = [] ∧ v = .slice none 0 0) ∨ (L ≠ [] ∧ Row h0 w v 7 L.length (flatS L))

theorem upd_of_run {tab : Tab} {P : Program} (ok : TabOK tab P) {fn : Func} {f : FuncId} (hf : tab.fn.at_ f = some fn) {L L' : List Sess} {m : Sess} (hne : L' ≠ []) (h : updRun tab fn f L m = some (L'.length, flatS L')) {h0 : Nat} {w : World} {v : Value}
    (hv : RowS h0 w v L) (hroom : h0 ≤ w.heap.size) : Calls P f #[v, msgV m.dev m.round m.cut] w fun e w' => ∃ v', e = .returned v' ∧ RowS h0 w' v' L' ∧ Below h0 w w' := by
  unfold updRun runFr at h
  cases he : enterFr fn f [inV L, msgV m.dev m.round m.cut] .normal with
  | none => rw [he] at h; cases h
  | some e =>
    rw [he] at h
    simp only at h
    rw [forceL_eq] at h
    obtain ⟨y, X', h1, h2⟩ := evalBK_some (by intro e; cases e) _ _ _ h
    have key : ∃ ρ : Ren, Good h0 ρ (inH L) w.heap ∧ VR ρ (inV L) v ∧ ∀ id, 2 ≤ id → ρ id = none := by
      rcases hv with ⟨rfl, rfl⟩ | ⟨hL, hr⟩
      · refine ⟨fun _ => none, ⟨fun id c h => ?_, fun i j c d p q h => ?_, hroom⟩, .nilSlice, fun _ _ => rfl⟩
        · rw [show inH [] = Trie.nil from rfl, Trie.at_nil] at h; cases h
        · rw [show inH [] = Trie.nil from rfl, Trie.at_nil] at h; cases h
      · cases L with
        | nil => exact absurd rfl hL
        | cons x l => exact row_in hr (by omega) flatS_refl hroom
    obtain ⟨ρ, g, rv, fresh⟩ := key
    have hm : VR ρ (msgV m.dev m.round m.cut) (msgV m.dev m.round m.cut) := fl_refl (by rfl)
    refine (call_of (P := P) (args' := #[v, msgV m.dev m.round m.cut]) ok hf he g (.cons rv (.cons hm (.nil ρ))) fresh h1).mono fun e' w' ⟨ρ', v', q1, q2, q3, q4⟩ => ?_
    have hl : 0 < L'.length := List.length_pos_iff.mpr hne
    exact ⟨v', q1, .inr ⟨hne, row_out (by omega) hl h2 q3 q2 flatS_eq⟩, q4⟩

/- The cases. -/
def mkL : List Nat → Nat → (Nat → Int) → (Nat → Int) → List Sess
  | [], _, _, _ => []
  | d :: D, j, rs, cs => ⟨Int.ofNat d, rs j, cs j⟩ :: mkL D (j + 1) rs cs

def setR (p : Nat) (r : Int) (rs : Nat → Int) (j : Nat) : Int := match Nat.beq j p with | true => r | false => rs j

def outS (L : List Sess) : Option (Nat × List Value) := some (L.length, flatS L)

noncomputable def goN (tab : Tab) (fn : Func) (f : FuncId) (rs cs : Nat → Int) (r c : Int) (x : List Nat × Nat) : Option (Nat × List Value) := updRun tab fn f (mkL x.1 0 rs cs) ⟨Int.ofNat x.2, r, c⟩
noncomputable def specN (rs cs : Nat → Int) (r c : Int) (x : List Nat × Nat) : Option (Nat × List Value) := outS (ins ⟨Int.ofNat x.2, r, c⟩ (mkL x.1 0 rs cs))
noncomputable def goM (tab : Tab) (fn : Func) (f : FuncId) (rs cs : Nat → Int) (c : Int) (y : Nat) (x : List Nat × Nat × Nat × Nat) : Option (Nat × List Value) :=
  updRun tab fn f (mkL x.1 0 (setR x.2.2.1 (Int.ofNat x.2.2.2) rs) cs) ⟨Int.ofNat x.2.1, Int.ofNat (Nat.add y x.2.2.2), c⟩
noncomputable def specM (rs cs : Nat → Int) (c : Int) (y : Nat) (x : List Nat × Nat × Nat × Nat) : Option (Nat × List Value) :=
  outS (ins ⟨Int.ofNat x.2.1, Int.ofNat (Nat.add y x.2.2.2), c⟩ (mkL x.1 0 (setR x.2.2.1 (Int.ofNat x.2.2.2) rs) cs))
noncomputable def goE (tab : Tab) (fn : Func) (f : FuncId) (rs cs : Nat → Int) (c : Int) (y : Nat) (x : List Nat × Nat × Nat × Nat) : Option (Nat × List Value) :=
  updRun tab fn f (mkL x.1 0 (setR x.2.2.1 (Int.ofNat (Nat.add y (Nat.succ x.2.2.2))) rs) cs) ⟨Int.ofNat x.2.1, Int.ofNat x.2.2.2, c⟩
noncomputable def specE (rs cs : Nat → Int) (c : Int) (y : Nat) (x : List Nat × Nat × Nat × Nat) : Option (Nat × List Value) :=
  outS (ins ⟨Int.ofNat x.2.1, Int.ofNat x.2.2.2, c⟩ (mkL x.1 0 (setR x.2.2.1 (Int.ofNat (Nat.add y (Nat.succ x.2.2.2))) rs) cs))

/-- Two ways to map, for the kernel's sake under two names. -/
noncomputable def mapA {α β : Type} (f : α → β) : List α → List β := List.rec (motive := fun _ => List β) [] (fun a _ ih => f a :: ih)
noncomputable def mapB {α β : Type} (f : α → β) : List α → List β := List.rec (motive := fun _ => List β) [] (fun a _ ih => f a :: ih)
theorem map_at {α β : Type} {f g : α → β} {l : List α} (h : mapA f l = mapB g l) : ∀ x ∈ l, f x = g x := by
  induction l with
  | nil => intro x hx; cases hx
  | cons a l ih =>
    have h' : f a :: mapA f l = g a :: mapB g l := h
    simp only [List.cons.injEq] at h'
    intro x hx
    cases hx with
    | head => exact h'.1
    | tail _ hx => exact ih h'.2 x hx
end Ae

/- Each request that may come, by cases. -/
namespace Ae
open Go Go.RowKit

def subsOf : List Nat → List (List Nat)
  | [] => [[]]
  | a :: l => subsOf l ++ (subsOf l).map (a :: ·)

theorem nil_subs : ∀ l, [] ∈ subsOf l
  | [] => by simp [subsOf]
  | a :: l => by simp [subsOf, nil_subs l]

theorem mem_subs : ∀ (k a : Nat) (D : List Nat), D.Pairwise (· < ·) → (∀ x ∈ D, a ≤ x ∧ x < a + k) → D ∈ subsOf (List.range' a k) := by
  intro k
  induction k with
  | zero =>
    intro a D _ h
    cases D with
    | nil => simp [subsOf]
    | cons x D => have := h x (by simp); omega
  | succ k ih =>
    intro a D hp h
    rw [List.range'_succ]
    simp only [subsOf, List.mem_append, List.mem_map]
    cases D with
    | nil => exact .inl (nil_subs _)
    | cons x D =>
      have hx := h x (by simp)
      have hp' := List.pairwise_cons.mp hp
      by_cases e : x = a
      · subst e
        exact .inr ⟨D, ih (x + 1) D hp'.2 (fun y hy => by have := hp'.1 y hy; have := h y (by simp [hy]); omega), rfl⟩
      · refine .inl (ih (a + 1) (x :: D) hp (fun y hy => ?_))
        have h1 := h y hy
        cases hy with
        | head => omega
        | tail _ hy => have := hp'.1 y hy; omega

def subs : List (List Nat) := (subsOf (List.range' 1 6)).filter fun D => Nat.ble D.length 4
def casesN : List (List Nat × Nat) := subs.flatMap fun D => ((List.range' 1 6).filter fun d => !D.contains d).map fun d => (D, d)
def casesOf (n : Nat) : List (List Nat × Nat × Nat × Nat) := subs.flatMap fun D => (List.range D.length).flatMap fun p => (List.range n).map fun r => (D, D.getD p 0, p, r)
def casesM : List (List Nat × Nat × Nat × Nat) := casesOf 3
def casesE : List (List Nat × Nat × Nat × Nat) := casesOf 2

def chunk {α : Type} (n : Nat) (l : List α) (k : Nat) : List α := (l.drop (n * k)).take n

theorem mem_chunk {α : Type} {n : Nat} (hn : 0 < n) {l : List α} {x : α} (h : x ∈ l) : ∃ k, k * n < l.length ∧ x ∈ chunk n l k := by
  obtain ⟨i, hi, rfl⟩ := List.getElem_of_mem h
  refine ⟨i / n, Nat.lt_of_le_of_lt (Nat.div_mul_le_self i n) hi, ?_⟩
  unfold chunk
  have e : n * (i / n) + i % n = i := Nat.div_add_mod i n
  have h1 : ((l.drop (n * (i / n))).take n)[i % n]? = some l[i] := by
    rw [List.getElem?_take, if_pos (Nat.mod_lt _ hn), List.getElem?_drop, e, List.getElem?_eq_getElem hi]
  exact List.mem_of_getElem? h1

/-- What is known of the sessions. -/
structure Inv (L : List Sess) : Prop where
  sorted : L.Pairwise fun a b => a.dev < b.dev
  range : ∀ x ∈ L, 1 ≤ x.dev ∧ x.dev ≤ 6 ∧ 0 ≤ x.round ∧ x.round ≤ 2

theorem ins_mem {x : Sess} {L : List Sess} {y : Sess} (h : y ∈ ins x L) : y = x ∨ y ∈ L := by
  induction L with
  | nil => simp [ins] at h; exact .inl h
  | cons z l ih =>
    rw [ins_cons] at h
    split at h
    · simpa using h
    · split at h
      · split at h
        · exact .inr h
        · simp at h; rcases h with h | h <;> simp [h]
      · simp only [List.mem_cons] at h
        rcases h with h | h
        · simp [h]
        · rcases ih h with h | h <;> simp [h]

theorem ins_length (x : Sess) (L : List Sess) : (ins x L).length ≤ L.length + 1 := by
  induction L with
  | nil => simp [ins]
  | cons y l ih =>
    rw [ins_cons]
    split
    · simp
    · split
      · split <;> simp
      · simp; omega

theorem ins_inv {x : Sess} {L : List Sess} (h : Inv L) (hx : 1 ≤ x.dev ∧ x.dev ≤ 6 ∧ 0 ≤ x.round ∧ x.round ≤ 2) : Inv (ins x L) := by
  refine ⟨?_, fun y hy => ?_⟩
  · have hs := h.sorted
    clear h
    induction L with
    | nil => simp [ins]
    | cons y l ih =>
      obtain ⟨h1, h2⟩ := List.pairwise_cons.mp hs
      rw [ins_cons]
      split
      · rename_i hlt
        refine List.pairwise_cons.mpr ⟨fun z hz => ?_, hs⟩
        simp only [List.mem_cons] at hz
        rcases hz with rfl | hz
        · exact hlt
        · have := h1 z hz; omega
      · rename_i hlt
        split
        · rename_i he
          split
          · exact hs
          · exact List.pairwise_cons.mpr ⟨fun z hz => by have := h1 z hz; omega, h2⟩
        · rename_i hne
          refine List.pairwise_cons.mpr ⟨fun z hz => ?_, ih h2⟩
          rcases ins_mem hz with rfl | hz
          · omega
          · exact h1 z hz
  · rcases ins_mem hy with rfl | hy
    · exact hx
    · exact h.range y hy

theorem mkL_of : ∀ (l : List Sess) (j : Nat) (rs cs : Nat → Int), (∀ i x, l[i]? = some x → rs (j + i) = x.round ∧ cs (j + i) = x.cut ∧ 0 ≤ x.dev) → mkL (l.map fun x => x.dev.toNat) j rs cs = l := by
  intro l
  induction l with
  | nil => intro j rs cs _; rfl
  | cons x l ih =>
    intro j rs cs h
    obtain ⟨h1, h2, h3⟩ := h 0 x rfl
    simp only [List.map_cons, mkL]
    rw [ih (j + 1) rs cs (fun i y hy => by
      have := h (i + 1) y (by simpa using hy)
      rw [show j + 1 + i = j + (i + 1) by omega]; exact this)]
    congr 1
    obtain ⟨d, r, c⟩ := x
    simp only at h1 h2 h3 ⊢
    rw [← h1, ← h2]
    congr 1
    exact Int.toNat_of_nonneg h3

theorem devs_mem {L : List Sess} (h : Inv L) (hl : L.length ≤ 4) : (L.map fun x => x.dev.toNat) ∈ subs := by
  refine List.mem_filter.mpr ⟨mem_subs 6 1 _ ?_ ?_, ?_⟩
  · refine List.pairwise_map.mpr (List.Pairwise.imp_of_mem ?_ h.sorted)
    intro a b ha hb hab
    have := h.range a ha
    have := h.range b hb
    omega
  · intro x hx
    obtain ⟨y, hy, rfl⟩ := List.mem_map.mp hx
    have := h.range y hy
    omega
  · simp only [List.length_map]
    exact Nat.ble_eq.mpr hl

section
variable {tab : Tab} {fn : Func} {f : FuncId}

/-- THE SESSIONS AFTER A REQUEST: whatever stands in them. -/
theorem upd_all (hN : ∀ (rs cs : Nat → Int) (r c : Int), ∀ x ∈ casesN, goN tab fn f rs cs r c x = specN rs cs r c x) (hM : ∀ (rs cs : Nat → Int) (c : Int) (y : Nat), ∀ x ∈ casesM, goM tab fn f rs cs c y x = specM rs cs c y x)
    (hE : ∀ (rs cs : Nat → Int) (c : Int) (y : Nat), ∀ x ∈ casesE, goE tab fn f rs cs c y x = specE rs cs c y x)
    {L : List Sess} (h : Inv L) (hl : L.length ≤ 4) {m : Sess} (hm : 1 ≤ m.dev ∧ m.dev ≤ 6 ∧ 0 ≤ m.round ∧ m.round ≤ 2) : updRun tab fn f L m = outS (ins m L) := by
  have hD := devs_mem h hl
  let rs : Nat → Int := fun j => ((L[j]?).map (·.round)).getD 0
  let cs : Nat → Int := fun j => ((L[j]?).map (·.cut)).getD 0
  have hL : mkL (L.map fun x => x.dev.toNat) 0 rs cs = L := mkL_of L 0 rs cs fun i x hi => by
    have hx := h.range x (List.mem_of_getElem? hi)
    simp only [Nat.zero_add, rs, cs, hi, Option.map_some, Option.getD_some, true_and]
    omega
  obtain ⟨d, r, c⟩ := m
  simp only at hm
  have hd : Int.ofNat d.toNat = d := Int.toNat_of_nonneg (by omega)
  have hr : Int.ofNat r.toNat = r := Int.toNat_of_nonneg (by omega)
  by_cases hmem : d.toNat ∈ L.map fun x => x.dev.toNat
  · obtain ⟨p, hp, hpd⟩ := List.getElem_of_mem hmem
    have hp' : p < L.length := by simpa using hp
    have hrp : rs p = L[p].round := by simp [rs, List.getElem?_eq_getElem hp']
    have hR := h.range L[p] (List.getElem_mem hp')
    have hset : ∀ r0 : Int, r0 = rs p → setR p r0 rs = rs := by
      intro r0 e
      funext j
      unfold setR
      cases hb : Nat.beq j p with
      | true => have := Nat.eq_of_beq_eq_true hb; subst this; exact e
      | false => rfl
    have hx : ∀ n k, k < n → ((L.map fun x => x.dev.toNat), d.toNat, p, k) ∈ casesOf n := by
      intro n k hk
      refine List.mem_flatMap.mpr ⟨_, hD, List.mem_flatMap.mpr ⟨p, by simpa using hp', List.mem_map.mpr ⟨k, by rw [List.mem_range]; exact hk, ?_⟩⟩⟩
      simp only [Prod.mk.injEq, true_and, and_true]
      rw [← hpd, List.getD_eq_getElem?_getD, List.getElem?_eq_getElem hp]; rfl
    by_cases hge : rs p ≤ r
    · have e1 : Int.ofNat (rs p).toNat = rs p := Int.toNat_of_nonneg (by omega)
      have e2 : Int.ofNat (Nat.add (r.toNat - (rs p).toNat) (rs p).toNat) = r := by
        show ((r.toNat - (rs p).toNat + (rs p).toNat : Nat) : Int) = r
        omega
      have := hM rs cs c (r.toNat - (rs p).toNat) _ (hx 3 (rs p).toNat (by omega))
      unfold goM specM at this
      simp only at this
      rw [hset _ e1, hL, hd, e2] at this
      exact this
    · have e1 : Int.ofNat (Nat.add ((rs p).toNat - (r.toNat + 1)) (Nat.succ r.toNat)) = rs p := by
        show (((rs p).toNat - (r.toNat + 1) + (r.toNat + 1) : Nat) : Int) = rs p
        omega
      have := hE rs cs c ((rs p).toNat - (r.toNat + 1)) _ (hx 2 r.toNat (by omega))
      unfold goE specE at this
      simp only at this
      rw [hset _ e1, hL, hd, hr] at this
      exact this
  · have hx : ((L.map fun x => x.dev.toNat), d.toNat) ∈ casesN := by
      refine List.mem_flatMap.mpr ⟨_, hD, List.mem_map.mpr ⟨d.toNat, List.mem_filter.mpr ⟨?_, ?_⟩, rfl⟩⟩
      · rw [List.mem_range']; exact ⟨d.toNat - 1, by omega, by omega⟩
      · simp only [Bool.not_eq_true', List.contains_eq_mem]
        simpa using hmem
    have := hN rs cs r c _ hx
    unfold goN specN at this
    simp only at this
    rw [hL, hd] at this
    exact this
end
end Ae
