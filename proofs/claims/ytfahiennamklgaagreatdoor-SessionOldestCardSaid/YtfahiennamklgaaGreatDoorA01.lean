/- Programs over numbered places: what they do depends on what they read alone; their evaluation in the kernel. -/
import GoSem.Core.World

set_option linter.all false
set_option linter.unusedVariables false
set_option linter.unusedSimpArgs false
set_option linter.deprecated false

/- Tries over natural numbers: what stands at a number, and after a change. -/
namespace Ae

def digits : Nat → Nat → List Bool
  | 0, _ => []
  | f + 1, n => match Nat.beq n 0 with | true => [] | false => Nat.beq (Nat.mod n 2) 1 :: digits f (Nat.div n 2)

def undigits : List Bool → Nat
  | [] => 0
  | b :: l => 2 * undigits l + (if b then 1 else 0)

theorem nbeq_false {a b : Nat} (h : a ≠ b) : Nat.beq a b = false := by
  rw [Bool.eq_false_iff]; exact fun e => h (Nat.eq_of_beq_eq_true e)

theorem undigits_digits : ∀ (f n : Nat), n < 2 ^ f → undigits (digits f n) = n
  | 0, n, h => by simp at h; subst h; rfl
  | f + 1, n, h => by
    unfold digits
    by_cases h0 : n = 0
    · subst h0; rfl
    · have hb : Nat.beq n 0 = false := nbeq_false h0
      simp only [hb, undigits]
      show 2 * undigits (digits f (n / 2)) + (if Nat.beq (n % 2) 1 = true then 1 else 0) = n
      have := undigits_digits f (n / 2) (by omega)
      rw [this]
      by_cases h1 : n % 2 = 1
      · simp [h1]; omega
      · have : Nat.beq (n % 2) 1 = false := nbeq_false h1
        simp [this]; omega

def path (n : Nat) : List Bool := digits (Nat.succ (Nat.log2 n)) n

theorem path_inj {n m : Nat} (h : path n = path m) : n = m := by
  have a := undigits_digits (n.log2 + 1) n Nat.lt_log2_self
  have b := undigits_digits (m.log2 + 1) m Nat.lt_log2_self
  unfold path at h
  rw [← a, ← b, h]

inductive BTrie (α : Type) where
  | nil
  | node (v : Option α) (l r : BTrie α)

namespace BTrie
variable {α : Type}

noncomputable def root (t : BTrie α) : Option α := BTrie.rec (motive := fun _ => Option α) none (fun v _ _ _ _ => v) t
noncomputable def L (t : BTrie α) : BTrie α := BTrie.rec (motive := fun _ => BTrie α) .nil (fun _ l _ _ _ => l) t
noncomputable def R (t : BTrie α) : BTrie α := BTrie.rec (motive := fun _ => BTrie α) .nil (fun _ _ r _ _ => r) t
noncomputable def get_ (p : List Bool) : BTrie α → Option α :=
  List.rec (motive := fun _ => BTrie α → Option α) (fun t => root t) (fun b _ ih t => Bool.rec (motive := fun _ => Option α) (ih (L t)) (ih (R t)) b) p
noncomputable def set_ (x : Option α) (p : List Bool) : BTrie α → BTrie α :=
  List.rec (motive := fun _ => BTrie α → BTrie α)
    (fun t => BTrie.rec (motive := fun _ => BTrie α) (.node x .nil .nil) (fun _ l r _ _ => .node x l r) t)
    (fun b _ ih t => BTrie.rec (motive := fun _ => BTrie α) (Bool.rec (motive := fun _ => BTrie α) (.node none (ih .nil) .nil) (.node none .nil (ih .nil)) b)
      (fun v l r _ _ => Bool.rec (motive := fun _ => BTrie α) (.node v (ih l) r) (.node v l (ih r)) b) t) p
noncomputable def get (t : BTrie α) (p : List Bool) : Option α := get_ p t
noncomputable def set (t : BTrie α) (p : List Bool) (x : Option α) : BTrie α := set_ x p t

theorem get_nil : ∀ (p : List Bool), (nil : BTrie α).get p = none
  | [] => rfl
  | true :: p => get_nil p
  | false :: p => get_nil p

theorem get_set_same : ∀ (p : List Bool) (t : BTrie α) (x : Option α), (t.set p x).get p = x
  | [], nil, _ => rfl
  | [], node _ _ _, _ => rfl
  | true :: p, nil, x => get_set_same p nil x
  | false :: p, nil, x => get_set_same p nil x
  | true :: p, node _ _ r, x => get_set_same p r x
  | false :: p, node _ l _, x => get_set_same p l x

theorem get_set_other : ∀ (p : List Bool) (t : BTrie α) (q : List Bool) (x : Option α), p ≠ q → (t.set p x).get q = t.get q
  | [], t, [], x, h => absurd rfl h
  | [], nil, true :: q, x, h => rfl
  | [], nil, false :: q, x, h => rfl
  | [], node _ _ _, true :: q, x, h => rfl
  | [], node _ _ _, false :: q, x, h => rfl
  | true :: p, nil, [], x, h => rfl
  | false :: p, nil, [], x, h => rfl
  | true :: p, node _ _ _, [], x, h => rfl
  | false :: p, node _ _ _, [], x, h => rfl
  | true :: p, nil, true :: q, x, h => get_set_other p nil q x fun e => h (by rw [e])
  | true :: p, nil, false :: q, x, h => rfl
  | false :: p, nil, true :: q, x, h => rfl
  | false :: p, nil, false :: q, x, h => get_set_other p nil q x fun e => h (by rw [e])
  | true :: p, node _ _ r, true :: q, x, h => get_set_other p r q x fun e => h (by rw [e])
  | true :: p, node _ _ r, false :: q, x, h => rfl
  | false :: p, node _ l _, true :: q, x, h => rfl
  | false :: p, node _ l _, false :: q, x, h => get_set_other p l q x fun e => h (by rw [e])

/-- What stands at a number. -/
noncomputable def at_ (t : BTrie α) (n : Nat) : Option α := get_ (path n) t
noncomputable def put (t : BTrie α) (n : Nat) (x : Option α) : BTrie α := set_ x (path n) t
theorem at_put_same (t : BTrie α) (n : Nat) (x : Option α) : (t.put n x).at_ n = x := get_set_same _ _ _
theorem at_put_other (t : BTrie α) {n m : Nat} (x : Option α) (h : n ≠ m) : (t.put n x).at_ m = t.at_ m :=
  get_set_other _ _ _ _ fun e => h (path_inj e)
theorem at_nil (n : Nat) : (nil : BTrie α).at_ n = none := get_nil _
theorem at_put (t : BTrie α) (n m : Nat) (x : Option α) : (t.put n x).at_ m = if n = m then x else t.at_ m := by
  by_cases h : n = m
  · subst h; rw [if_pos rfl, at_put_same]
  · rw [if_neg h, at_put_other _ _ h]
end BTrie

/- Eight fields, four levels deep: the numbers below 4096; a binary one for the others. -/
structure N8 (α : Type) where
  a0 : α
  a1 : α
  a2 : α
  a3 : α
  a4 : α
  a5 : α
  a6 : α
  a7 : α

inductive D8 where
  | d0 | d1 | d2 | d3 | d4 | d5 | d6 | d7
  deriving DecidableEq

namespace N8
variable {α : Type}
def all (x : α) : N8 α := ⟨x, x, x, x, x, x, x, x⟩
noncomputable def sel (d : D8) (x : N8 α) : α := D8.rec (motive := fun _ => α) x.a0 x.a1 x.a2 x.a3 x.a4 x.a5 x.a6 x.a7 d
def u0 (f : α → α) (x : N8 α) : N8 α := ⟨f x.a0, x.a1, x.a2, x.a3, x.a4, x.a5, x.a6, x.a7⟩
def u1 (f : α → α) (x : N8 α) : N8 α := ⟨x.a0, f x.a1, x.a2, x.a3, x.a4, x.a5, x.a6, x.a7⟩
def u2 (f : α → α) (x : N8 α) : N8 α := ⟨x.a0, x.a1, f x.a2, x.a3, x.a4, x.a5, x.a6, x.a7⟩
def u3 (f : α → α) (x : N8 α) : N8 α := ⟨x.a0, x.a1, x.a2, f x.a3, x.a4, x.a5, x.a6, x.a7⟩
def u4 (f : α → α) (x : N8 α) : N8 α := ⟨x.a0, x.a1, x.a2, x.a3, f x.a4, x.a5, x.a6, x.a7⟩
def u5 (f : α → α) (x : N8 α) : N8 α := ⟨x.a0, x.a1, x.a2, x.a3, x.a4, f x.a5, x.a6, x.a7⟩
def u6 (f : α → α) (x : N8 α) : N8 α := ⟨x.a0, x.a1, x.a2, x.a3, x.a4, x.a5, f x.a6, x.a7⟩
def u7 (f : α → α) (x : N8 α) : N8 α := ⟨x.a0, x.a1, x.a2, x.a3, x.a4, x.a5, x.a6, f x.a7⟩
noncomputable def upd (d : D8) : (α → α) → N8 α → N8 α := D8.rec (motive := fun _ => (α → α) → N8 α → N8 α) u0 u1 u2 u3 u4 u5 u6 u7 d
theorem sel_all (d : D8) (x : α) : sel d (all x) = x := by cases d <;> rfl
theorem sel_upd_same (d : D8) (f : α → α) (x : N8 α) : sel d (upd d f x) = f (sel d x) := by cases d <;> rfl
theorem sel_upd_other {d e : D8} (f : α → α) (x : N8 α) (h : d ≠ e) : sel e (upd d f x) = sel e x := by
  cases d <;> cases e <;> first | rfl | exact absurd rfl h
end N8

def dig : Nat → D8
  | 0 => .d0 | 1 => .d1 | 2 => .d2 | 3 => .d3 | 4 => .d4 | 5 => .d5 | 6 => .d6 | _ => .d7
theorem dig_inj {a b : Nat} (ha : a < 8) (hb : b < 8) (h : dig a = dig b) : a = b := by
  have key : ∀ a b : Fin 8, dig a.1 = dig b.1 → a = b := by decide
  exact congrArg Fin.val (key ⟨a, ha⟩ ⟨b, hb⟩ h)

def g0 (n : Nat) : D8 := dig (Nat.mod n 8)
def g1 (n : Nat) : D8 := dig (Nat.mod (Nat.div n 8) 8)
def g2 (n : Nat) : D8 := dig (Nat.mod (Nat.div n 64) 8)
def g3 (n : Nat) : D8 := dig (Nat.mod (Nat.div n 512) 8)
theorem g_inj {n m : Nat} (hn : n < 4096) (hm : m < 4096) (h0 : g0 n = g0 m) (h1 : g1 n = g1 m) (h2 : g2 n = g2 m) (h3 : g3 n = g3 m) : n = m := by
  have a0 : n % 8 = m % 8 := dig_inj (Nat.mod_lt _ (by omega)) (Nat.mod_lt _ (by omega)) h0
  have a1 : n / 8 % 8 = m / 8 % 8 := dig_inj (Nat.mod_lt _ (by omega)) (Nat.mod_lt _ (by omega)) h1
  have a2 : n / 64 % 8 = m / 64 % 8 := dig_inj (Nat.mod_lt _ (by omega)) (Nat.mod_lt _ (by omega)) h2
  have a3 : n / 512 % 8 = m / 512 % 8 := dig_inj (Nat.mod_lt _ (by omega)) (Nat.mod_lt _ (by omega)) h3
  omega

structure Trie (α : Type) where
  fast : N8 (N8 (N8 (N8 (Option α))))
  slow : BTrie α

namespace Trie
variable {α : Type}
def nil : Trie α := ⟨N8.all (N8.all (N8.all (N8.all none))), .nil⟩
noncomputable def at_ (t : Trie α) (n : Nat) : Option α := Bool.rec (motive := fun _ => Option α) (t.slow.at_ n) (N8.sel (g0 n) (N8.sel (g1 n) (N8.sel (g2 n) (N8.sel (g3 n) t.fast)))) (Nat.blt n 4096)
noncomputable def putFast (t : Trie α) (n : Nat) (x : Option α) : Trie α := ⟨N8.upd (g3 n) (N8.upd (g2 n) (N8.upd (g1 n) (N8.upd (g0 n) fun _ => x))) t.fast, t.slow⟩
noncomputable def putSlow (t : Trie α) (n : Nat) (x : Option α) : Trie α := ⟨t.fast, t.slow.put n x⟩
noncomputable def put (t : Trie α) (n : Nat) (x : Option α) : Trie α := Bool.rec (motive := fun _ => Trie α) (putSlow t n x) (putFast t n x) (Nat.blt n 4096)

theorem at_fast (t : Trie α) {n : Nat} (h : n < 4096) : t.at_ n = N8.sel (g0 n) (N8.sel (g1 n) (N8.sel (g2 n) (N8.sel (g3 n) t.fast))) := by
  have : Nat.blt n 4096 = true := Nat.ble_eq_true_of_le h
  unfold at_; rw [this]
theorem at_slow (t : Trie α) {n : Nat} (h : ¬ n < 4096) : t.at_ n = t.slow.at_ n := by
  have : Nat.blt n 4096 = false := by rw [Bool.eq_false_iff]; exact fun e => h (Nat.le_of_ble_eq_true e)
  unfold at_; rw [this]
theorem put_fast (t : Trie α) {n : Nat} (x : Option α) (h : n < 4096) : t.put n x = putFast t n x := by
  have : Nat.blt n 4096 = true := Nat.ble_eq_true_of_le h
  unfold put; rw [this]
theorem put_slow (t : Trie α) {n : Nat} (x : Option α) (h : ¬ n < 4096) : t.put n x = putSlow t n x := by
  have : Nat.blt n 4096 = false := by rw [Bool.eq_false_iff]; exact fun e => h (Nat.le_of_ble_eq_true e)
  unfold put; rw [this]

theorem at_put_same (t : Trie α) (n : Nat) (x : Option α) : (t.put n x).at_ n = x := by
  by_cases h : n < 4096
  · rw [put_fast _ _ h, at_fast _ h]; simp only [putFast, N8.sel_upd_same]
  · rw [put_slow _ _ h, at_slow _ h]; exact BTrie.at_put_same _ _ _
theorem at_put_other (t : Trie α) {n m : Nat} (x : Option α) (h : n ≠ m) : (t.put n x).at_ m = t.at_ m := by
  by_cases hn : n < 4096
  · rw [put_fast _ _ hn]
    by_cases hm : m < 4096
    · rw [at_fast _ hm, at_fast _ hm]
      simp only [putFast]
      by_cases h3 : g3 n = g3 m
      · rw [h3, N8.sel_upd_same]
        by_cases h2 : g2 n = g2 m
        · rw [h2, N8.sel_upd_same]
          by_cases h1 : g1 n = g1 m
          · rw [h1, N8.sel_upd_same]
            by_cases h0 : g0 n = g0 m
            · exact absurd (g_inj hn hm h0 h1 h2 h3) h
            · rw [N8.sel_upd_other _ _ h0]
          · rw [N8.sel_upd_other _ _ h1]
        · rw [N8.sel_upd_other _ _ h2]
      · rw [N8.sel_upd_other _ _ h3]
    · rw [at_slow _ hm, at_slow _ hm]; rfl
  · rw [put_slow _ _ hn]
    by_cases hm : m < 4096
    · rw [at_fast _ hm, at_fast _ hm]; rfl
    · rw [at_slow _ hm, at_slow _ hm]; exact BTrie.at_put_other _ _ h
theorem at_nil (n : Nat) : (nil : Trie α).at_ n = none := by
  by_cases h : n < 4096
  · rw [at_fast _ h]; simp only [nil, N8.sel_all]
  · rw [at_slow _ h]; exact BTrie.at_nil _
end Trie
end Ae

/- Programs over places that are read and written: what they do depends on what they read alone. -/
namespace Ae
open Go (Value Obj)

inductive Cell where
  | val (v : Value)
  | obj (o : Obj)
  | row (cs : List Value) (sz : Nat)
  | loop (l : Go.Loop) (T : Trie Value) (nt : Nat)

inductive Loc where
  | t (i : Nat)
  | o (id : Nat)
  deriving DecidableEq

def Loc.same : Loc → Loc → Bool
  | .t i, .t j => Nat.beq i j
  | .o i, .o j => Nat.beq i j
  | _, _ => false

theorem Loc.same_self (l : Loc) : l.same l = true := by
  cases l <;> simp [Loc.same, Nat.beq_refl]

structure St where
  T : Trie Value
  H : Trie Cell

noncomputable def cellOf (v : Option Value) : Option Cell := Option.rec (motive := fun _ => Option Cell) none (fun v => some (.val v)) v

/-- What is written. -/
inductive W where
  | t (i : Nat) (v : Option Value)
  | o (id : Nat) (c : Option Cell)

def W.loc : W → Loc
  | .t i _ => .t i
  | .o id _ => .o id
noncomputable def W.val : W → Option Cell
  | .t _ v => cellOf v
  | .o _ c => c

namespace St
noncomputable def get (X : St) : Loc → Option Cell
  | .t i => cellOf (X.T.at_ i)
  | .o id => X.H.at_ id

noncomputable def set (X : St) (w : W) : St :=
  match w with
  | .t i v => ⟨X.T.put i v, X.H⟩
  | .o id c => ⟨X.T, X.H.put id c⟩

theorem get_set_same (X : St) (w : W) : (X.set w).get w.loc = w.val := by
  cases w <;> simp [set, get, W.loc, W.val, Trie.at_put_same]

theorem get_set_other (X : St) (w : W) {m : Loc} (h : w.loc ≠ m) : (X.set w).get m = X.get m := by
  cases w with
  | t i v =>
    cases m with
    | t j => exact congrArg cellOf (Trie.at_put_other _ _ fun e => h (by rw [e]; rfl))
    | o j => rfl
  | o i c =>
    cases m with
    | t j => rfl
    | o j => exact Trie.at_put_other _ _ fun e => h (by rw [e]; rfl)

theorem get_set (X : St) (w : W) (m : Loc) : (X.set w).get m = if w.loc = m then w.val else X.get m := by
  by_cases h : w.loc = m
  · subst h; rw [if_pos rfl, get_set_same]
  · rw [if_neg h, get_set_other _ _ h]

/-- Changes one after another. -/
noncomputable def apply (X : St) : List W → St
  | [] => X
  | x :: w => (X.set x).apply w

theorem apply_append (X : St) (a b : List W) : X.apply (a ++ b) = (X.apply a).apply b := by
  induction a generalizing X with
  | nil => rfl
  | cons x a ih => exact ih _

theorem get_apply_congr {X Y : St} {l : Loc} (w : List W) (h : X.get l = Y.get l) : (X.apply w).get l = (Y.apply w).get l := by
  induction w generalizing X Y with
  | nil => exact h
  | cons x w ih =>
    refine ih ?_
    rw [get_set, get_set, h]

theorem get_apply_of_written {X Y : St} {l : Loc} (w : List W) (h : l ∈ w.map W.loc) : (X.apply w).get l = (Y.apply w).get l := by
  induction w generalizing X Y with
  | nil => simp at h
  | cons x w ih =>
    by_cases hl : l ∈ w.map W.loc
    · exact ih hl
    · have : l = x.loc := by simp only [List.map_cons, List.mem_cons] at h; exact h.resolve_right hl
      subst this
      exact get_apply_congr w (by rw [get_set_same, get_set_same])

theorem get_apply_of_not {X : St} {l : Loc} (w : List W) (h : l ∉ w.map W.loc) : (X.apply w).get l = X.get l := by
  induction w generalizing X with
  | nil => rfl
  | cons x w ih =>
    simp only [List.map_cons, List.mem_cons, not_or] at h
    rw [apply, ih h.2, get_set_other _ _ (Ne.symm h.1)]
end St

structure Tr where
  r : List Loc
  w : List W

def isHeap : Loc → Bool
  | .t _ => false
  | _ => true

def Tr.heap (a : Tr) : Tr := ⟨a.r.filter isHeap, a.w.filter fun x => isHeap x.loc⟩

/-- What is read and written, as bits: temporaries and the rest. -/
structure M where
  rt : Nat
  rh : Nat
  wt : Nat
  wh : Nat

def bitT : List Loc → Nat → Nat
  | [], a => a
  | .t i :: l, a => bitT l (Nat.lor a (Nat.pow 2 i))
  | .o _ :: l, a => bitT l a
def bitH : List Loc → Nat → Nat
  | [], a => a
  | .t _ :: l, a => bitH l a
  | .o i :: l, a => bitH l (Nat.lor a (Nat.pow 2 i))

def M.add (m : M) (t : Tr) : M := ⟨bitT t.r m.rt, bitH t.r m.rh, bitT (t.w.map W.loc) m.wt, bitH (t.w.map W.loc) m.wh⟩
def M.none : M := ⟨0, 0, 0, 0⟩
def Tr.bits (t : Tr) : M := M.none.add t

theorem bitT_append (a b : List Loc) (n : Nat) : bitT (a ++ b) n = bitT b (bitT a n) := by
  induction a generalizing n with
  | nil => rfl
  | cons l a ih => cases l <;> exact ih _
theorem bitH_append (a b : List Loc) (n : Nat) : bitH (a ++ b) n = bitH b (bitH a n) := by
  induction a generalizing n with
  | nil => rfl
  | cons l a ih => cases l <;> exact ih _
theorem bitT_lor (a : List Loc) (n m : Nat) : bitT a (Nat.lor n m) = Nat.lor n (bitT a m) := by
  induction a generalizing m with
  | nil => rfl
  | cons l a ih =>
    cases l with
    | t i => show bitT a (Nat.lor (Nat.lor n m) _) = Nat.lor n (bitT a (Nat.lor m _)); rw [← ih]; congr 1; exact Nat.or_assoc ..
    | o i => exact ih _
theorem bitH_lor (a : List Loc) (n m : Nat) : bitH a (Nat.lor n m) = Nat.lor n (bitH a m) := by
  induction a generalizing m with
  | nil => rfl
  | cons l a ih =>
    cases l with
    | o i => show bitH a (Nat.lor (Nat.lor n m) _) = Nat.lor n (bitH a (Nat.lor m _)); rw [← ih]; congr 1; exact Nat.or_assoc ..
    | t i => exact ih _
theorem bitT_zero (a : List Loc) (n : Nat) : bitT a n = Nat.lor n (bitT a 0) := by
  rw [← bitT_lor]; congr 1; exact (Nat.or_zero n).symm
theorem bitH_zero (a : List Loc) (n : Nat) : bitH a n = Nat.lor n (bitH a 0) := by
  rw [← bitH_lor]; congr 1; exact (Nat.or_zero n).symm

theorem testBit_pow (i j : Nat) : (Nat.pow 2 i).testBit j = decide (i = j) := Nat.testBit_two_pow
theorem testBit_lor (a b j : Nat) : (Nat.lor a b).testBit j = (a.testBit j || b.testBit j) := Nat.testBit_or a b j

theorem mem_bitT {a : List Loc} {i : Nat} (h : Loc.t i ∈ a) (n : Nat) : (bitT a n).testBit i = true := by
  induction a generalizing n with
  | nil => cases h
  | cons l a ih =>
    cases h with
    | head => show (bitT a (Nat.lor n (Nat.pow 2 i))).testBit i = true
              rw [bitT_zero, testBit_lor, testBit_lor, testBit_pow]; simp
    | tail _ h => cases l <;> exact ih h _
theorem mem_bitH {a : List Loc} {i : Nat} (h : Loc.o i ∈ a) (n : Nat) : (bitH a n).testBit i = true := by
  induction a generalizing n with
  | nil => cases h
  | cons l a ih =>
    cases h with
    | head => show (bitH a (Nat.lor n (Nat.pow 2 i))).testBit i = true
              rw [bitH_zero, testBit_lor, testBit_lor, testBit_pow]; simp
    | tail _ h => cases l <;> exact ih h _

theorem M.add_add (m : M) (a b : Tr) : (m.add a).add b = m.add ⟨a.r ++ b.r, a.w ++ b.w⟩ := by
  simp only [M.add, bitT_append, bitH_append, List.map_append]

/-- Whether f holds at each bit of n. -/
noncomputable def eachBit (f : Nat → Bool) (fuel : Nat) : Nat → Bool :=
  Nat.rec (motive := fun _ => Nat → Bool) (fun n => Nat.beq n 0)
    (fun _ ih n => Bool.rec (motive := fun _ => Bool) (Bool.rec (motive := fun _ => Bool) false (ih (Nat.xor n (Nat.pow 2 (Nat.log2 n)))) (f (Nat.log2 n))) true (Nat.beq n 0)) fuel

theorem eachBit_at {f : Nat → Bool} {fuel n : Nat} (h : eachBit f fuel n = true) {i : Nat} (hi : n.testBit i = true) : f i = true := by
  induction fuel generalizing n with
  | zero =>
    have : n = 0 := Nat.eq_of_beq_eq_true h
    subst this; simp at hi
  | succ k ih =>
    cases hb : Nat.beq n 0 with
    | true => have : n = 0 := Nat.eq_of_beq_eq_true hb
              subst this; simp at hi
    | false =>
      simp only [eachBit, hb] at h
      cases hf : f (Nat.log2 n) with
      | false => simp [hf] at h
      | true =>
        simp only [hf] at h
        by_cases e : Nat.log2 n = i
        · subst e; exact hf
        · refine ih h ?_
          show (n ^^^ 2 ^ Nat.log2 n).testBit i = true
          rw [Nat.testBit_xor, hi, Nat.testBit_two_pow]
          simp [e]

/-- The same value, by its look. -/
noncomputable def sameV (d : Nat) : Value → Value → Bool := Nat.rec (motive := fun _ => Value → Value → Bool) (fun _ _ => false) (fun _ ih v w => match v, w with
  | .bool a, .bool b => (match a, b with | true, true => true | false, false => true | _, _ => false)
  | .int k n, .int l m => decide (k = l) && decide (n = m)
  | .string a, .string b => decide (a = b)
  | .pointer a, .pointer b => decide (a = b)
  | .slice a n c, .slice b m d => decide (a = b) && (Nat.beq n m && Nat.beq c d)
  | .map a, .map b => decide (a = b)
  | .nilFunc, .nilFunc => true
  | .nilIface, .nilIface => true
  | .iface t v, .iface u w => Nat.beq t u && ih v w
  | .agg a, .agg b => sameL ih a.toList b.toList
  | .tuple a, .tuple b => sameL ih a.toList b.toList
  | _, _ => false) d
where
  sameL (f : Value → Value → Bool) : List Value → List Value → Bool
    | [], [] => true
    | a :: l, b :: k => f a b && sameL f l k
    | _, _ => false

theorem sameL_eq {f : Value → Value → Bool} (hf : ∀ v w, f v w = true → v = w) : ∀ {l k : List Value}, sameV.sameL f l k = true → l = k
  | [], [], _ => rfl
  | a :: l, b :: k, h => by
    simp only [sameV.sameL, Bool.and_eq_true] at h
    rw [hf _ _ h.1, sameL_eq hf h.2]
  | [], _ :: _, h => by simp [sameV.sameL] at h
  | _ :: _, [], h => by simp [sameV.sameL] at h

theorem sameV_eq {d : Nat} : ∀ {v w : Value}, sameV d v w = true → v = w := by
  induction d with
  | zero => intro v w h; simp [sameV] at h
  | succ d ih =>
    intro v w h
    cases v <;> cases w <;> try (simp [sameV] at h; done)
    case bool a b => cases a <;> cases b <;> first | rfl | simp [sameV] at h
    case int => simp only [sameV, Bool.and_eq_true, decide_eq_true_eq] at h; rw [h.1, h.2]
    case string => simp only [sameV, decide_eq_true_eq] at h; rw [h]
    case pointer => simp only [sameV, decide_eq_true_eq] at h; rw [h]
    case slice => simp only [sameV, Bool.and_eq_true, decide_eq_true_eq] at h; rw [h.1, Nat.eq_of_beq_eq_true h.2.1, Nat.eq_of_beq_eq_true h.2.2]
    case map => simp only [sameV, decide_eq_true_eq] at h; rw [h]
    case nilFunc => rfl
    case nilIface => rfl
    case iface => simp only [sameV, Bool.and_eq_true] at h; rw [Nat.eq_of_beq_eq_true h.1, ih h.2]
    case agg => simp only [sameV] at h; rw [Array.toList_inj.mp (sameL_eq (fun _ _ => ih) h)]
    case tuple => simp only [sameV] at h; rw [Array.toList_inj.mp (sameL_eq (fun _ _ => ih) h)]

noncomputable def sameEs : List Go.MapEntry → List Go.MapEntry → Bool
  | [], [] => true
  | a :: l, b :: k => sameV 12 a.key b.key && (sameV 12 a.val b.val && (Nat.beq a.born b.born && sameEs l k))
  | _, _ => false

theorem sameEs_eq : ∀ {l k : List Go.MapEntry}, sameEs l k = true → l = k
  | [], [], _ => rfl
  | a :: l, b :: k, h => by
    simp only [sameEs, Bool.and_eq_true] at h
    obtain ⟨h1, h2, h3, h4⟩ := h
    have := sameV_eq h1; have := sameV_eq h2; have := Nat.eq_of_beq_eq_true h3
    cases a; cases b; simp_all [sameEs_eq h4]
  | [], _ :: _, h => by simp [sameEs] at h
  | _ :: _, [], h => by simp [sameEs] at h

noncomputable def sameC : Option Cell → Option Cell → Bool
  | none, none => true
  | some (.val v), some (.val w) => sameV 12 v w
  | some (.row a n), some (.row b m) => sameV.sameL (sameV 12) a b && Nat.beq n m
  | some (.obj (.map a n)), some (.obj (.map b m)) => sameEs a.toList b.toList && Nat.beq n m
  | _, _ => false

theorem sameC_eq : ∀ {a b : Option Cell}, sameC a b = true → a = b := by
  intro a b h
  unfold sameC at h
  split at h
  · rfl
  · rw [sameV_eq h]
  · simp only [Bool.and_eq_true] at h
    rw [sameL_eq (fun _ _ => sameV_eq) h.1, Nat.eq_of_beq_eq_true h.2]
  · simp only [Bool.and_eq_true] at h
    rw [Array.toList_inj.mp (sameEs_eq h.1), Nat.eq_of_beq_eq_true h.2]
  · simp at h

/-- Two states the same at the places of these bits, which both have written. -/
noncomputable def agree (X Y : St) (a b : M) : Bool :=
  Nat.beq a.wt b.wt && (Nat.beq a.wh b.wh && (eachBit (fun i => sameC (X.get (.t i)) (Y.get (.t i))) 10000 a.wt && eachBit (fun i => sameC (X.get (.o i)) (Y.get (.o i))) 10000 a.wh))

inductive F : Type → Type 1 where
  | pure {α : Type} (a : α) : F α
  | fail {α : Type} : F α
  | rd (l : Loc) : F (Option Cell)
  | wr (w : W) : F Unit
  | bind {α β : Type} (m : F α) (f : α → F β) : F β
  | traced {α : Type} (m : F α) : F (α × M)
  | localT {α : Type} (T : Trie Value) (m : F α) : F (α × Trie Value)
  | both {α : Type} (m m' : F α) (same : α → α → Bool) : F α

instance : Monad F where
  pure := F.pure
  bind := F.bind

noncomputable def interpT : {α : Type} → F α → St → Option (α × St × Tr)
  | _, .pure a, X => some (a, X, ⟨[], []⟩)
  | _, .fail, _ => none
  | _, .rd l, X => some (X.get l, X, ⟨[l], []⟩)
  | _, .wr w, X => some ((), X.set w, ⟨[], [w]⟩)
  | _, .bind m f, X => match interpT m X with
    | none => none
    | some (a, X1, t1) => match interpT (f a) X1 with
      | none => none
      | some (b, X2, t2) => some (b, X2, ⟨t1.r ++ t2.r, t1.w ++ t2.w⟩)
  | _, .traced m, X => match interpT m X with
    | none => none
    | some (a, X1, t) => some ((a, t.bits), X1, t)
  | _, .localT T m, X => match interpT m ⟨T, X.H⟩ with
    | none => none
    | some (a, X1, t) => some ((a, X1.T), ⟨X.T, X1.H⟩, t.heap)
  | _, .both m m' same, X => match interpT m X with
    | none => none
    | some (a, X1, t1) => match interpT m' X with
      | none => none
      | some (b, X2, t2) => match same a b && agree X1 X2 t1.bits t2.bits with
        | true => some (a, X1, ⟨t1.r ++ t2.r, t1.w⟩)
        | false => none

noncomputable def ob {α β : Type} (x : Option α) (f : α → Option β) : Option β := Option.rec (motive := fun _ => Option β) none f x

/-- The same without what is read and written; by the recursor, for the kernel's sake. -/
noncomputable def interp {α : Type} (m : F α) : St → Option (α × St) :=
  F.rec (motive := fun {α} _ => St → Option (α × St))
    (fun a X => some (a, X)) (fun _ => none) (fun l X => some (X.get l, X)) (fun w X => some ((), X.set w))
    (fun _ _ im if_ X => ob (im X) fun r => if_ r.1 r.2)
    (fun m _ X => ob (interpT m X) fun r => some ((r.1, r.2.2.bits), r.2.1))
    (fun T _ im X => ob (im ⟨T, X.H⟩) fun r => some ((r.1, r.2.T), ⟨X.T, r.2.H⟩))
    (fun m m' same _ _ X => ob (interpT m X) fun r => ob (interpT m' X) fun r' => Bool.rec (motive := fun _ => _) none (some (r.1, r.2.1)) (same r.1 r'.1 && agree r.2.1 r'.2.1 r.2.2.bits r'.2.2.bits)) m

theorem interp_bind {α β : Type} (m : F α) (f : α → F β) (X : St) : interp (.bind m f) X = match interp m X with
    | none => none
    | some r => interp (f r.1) r.2 := by
  show ob (interp m X) (fun r => interp (f r.1) r.2) = _
  cases interp m X <;> rfl

theorem interp_eq : ∀ {α : Type} (m : F α) (X : St), interp m X = (interpT m X).map fun x => (x.1, x.2.1)
  | _, .pure _, _ => rfl
  | _, .fail, _ => rfl
  | _, .rd _, _ => rfl
  | _, .wr _, _ => rfl
  | _, .bind m f, X => by
    rw [interp_bind]
    unfold interpT
    rw [interp_eq m X]
    cases h : interpT m X with
    | none => rfl
    | some x =>
      obtain ⟨a, X1, t1⟩ := x
      simp only [Option.map_some]
      rw [interp_eq (f a) X1]
      cases h2 : interpT (f a) X1 with
      | none => rfl
      | some y => rfl
  | _, .traced m, X => by
    show ob (interpT m X) (fun r => some ((r.1, r.2.2.bits), r.2.1)) = _
    simp only [interpT]
    cases h : interpT m X <;> rfl
  | _, .localT T m, X => by
    show ob (interp m ⟨T, X.H⟩) (fun r => some ((r.1, r.2.T), St.mk X.T r.2.H)) = _
    unfold interpT
    rw [interp_eq m]
    cases h : interpT m ⟨T, X.H⟩ <;> rfl
  | _, .both m m' same, X => by
    show ob (interpT m X) (fun r => ob (interpT m' X) fun r' => Bool.rec (motive := fun _ => _) none (some (r.1, r.2.1)) (same r.1 r'.1 && agree r.2.1 r'.2.1 r.2.2.bits r'.2.2.bits)) = _
    simp only [interpT]
    cases h : interpT m X with
    | none => rfl
    | some r =>
      cases h2 : interpT m' X with
      | none => rfl
      | some r' =>
        simp only [ob]
        cases h3 : (same r.1 r'.1 && agree r.2.1 r'.2.1 r.2.2.bits r'.2.2.bits) <;> simp

theorem interp_of_T {α : Type} {m : F α} {X X1 : St} {a : α} {t : Tr} (h : interpT m X = some (a, X1, t)) : interp m X = some (a, X1) := by
  rw [interp_eq, h]; rfl

theorem T_of_interp {α : Type} {m : F α} {X X1 : St} {a : α} (h : interp m X = some (a, X1)) : ∃ t, interpT m X = some (a, X1, t) := by
  rw [interp_eq] at h
  cases hh : interpT m X with
  | none => rw [hh] at h; simp at h
  | some x =>
    obtain ⟨a', X', t⟩ := x
    rw [hh] at h
    simp only [Option.map_some, Option.some.injEq, Prod.mk.injEq] at h
    obtain ⟨rfl, rfl⟩ := h
    exact ⟨t, rfl⟩

theorem H_apply_heap (T : Trie Value) (H : Trie Cell) (w : List W) :
    (St.apply ⟨T, H⟩ w).H = (St.apply ⟨T, H⟩ (w.filter fun x => isHeap x.loc)).H := by
  induction w generalizing T H with
  | nil => rfl
  | cons x w ih =>
    cases x with
    | t i c => simp only [List.filter, W.loc, isHeap]; rw [St.apply]; exact (ih (T.put i c) H).trans (hT _ _ _ _)
    | o i c => simp only [List.filter, W.loc, isHeap]; rw [St.apply, St.apply]; exact ih _ _
where
  hT (T T' : Trie Value) (H : Trie Cell) (w : List W) :
      (St.apply ⟨T, H⟩ (w.filter fun x => isHeap x.loc)).H = (St.apply ⟨T', H⟩ (w.filter fun x => isHeap x.loc)).H := by
    induction w generalizing T T' H with
    | nil => rfl
    | cons x w ih =>
      cases x with
      | t i c => simp only [List.filter, W.loc, isHeap]; exact ih _ _ _
      | o i c => simp only [List.filter, W.loc, isHeap]; rw [St.apply, St.apply]; exact ih _ _ _

theorem T_apply_heap (T : Trie Value) (H : Trie Cell) (w : List W) :
    (St.apply ⟨T, H⟩ (w.filter fun x => isHeap x.loc)).T = T := by
  induction w generalizing T H with
  | nil => rfl
  | cons x w ih =>
    cases x with
    | t i c => simp only [List.filter, W.loc, isHeap]; exact ih _ _
    | o i c => simp only [List.filter, W.loc, isHeap]; rw [St.apply]; exact ih _ _

/-- The temporaries behind changes depend on the temporaries before them alone. -/
theorem T_apply (T : Trie Value) (H H' : Trie Cell) (w : List W) : (St.apply ⟨T, H⟩ w).T = (St.apply ⟨T, H'⟩ w).T := by
  induction w generalizing T H H' with
  | nil => rfl
  | cons x w ih =>
    cases x <;> exact ih _ _ _

theorem get_heap_congr {T T' : Trie Value} {X Y : St} {l : Loc} (hl : isHeap l = true) (h : X.get l = Y.get l) : (St.mk T X.H).get l = (St.mk T' Y.H).get l := by
  cases l with
  | t i => simp [isHeap] at hl
  | o i => exact h

theorem eachBit_congr {f g : Nat → Bool} {fuel n : Nat} (h : ∀ i, n.testBit i = true → f i = g i) : eachBit f fuel n = eachBit g fuel n := by
  induction fuel generalizing n with
  | zero => rfl
  | succ k ih =>
    simp only [eachBit]
    cases hb : Nat.beq n 0 with
    | true => rfl
    | false =>
      have hn : n ≠ 0 := fun e => by subst e; cases hb
      have hl : n.testBit (Nat.log2 n) = true := by
        rw [Nat.testBit_log2 hn]
      rw [h _ hl]
      cases g (Nat.log2 n) with
      | false => rfl
      | true =>
        refine ih fun i hi => ?_
        refine h i ?_
        have : (n ^^^ 2 ^ Nat.log2 n).testBit i = true := hi
        rw [Nat.testBit_xor, Nat.testBit_two_pow] at this
        by_cases e : Nat.log2 n = i
        · subst e; exact hl
        · simpa [e] using this

theorem bitT_mem {a : List Loc} {n i : Nat} (h : (bitT a n).testBit i = true) : n.testBit i = true ∨ Loc.t i ∈ a := by
  induction a generalizing n with
  | nil => exact .inl h
  | cons l a ih =>
    cases l with
    | t j =>
      rcases ih h with h | h
      · rw [testBit_lor, testBit_pow] at h
        simp only [Bool.or_eq_true, decide_eq_true_eq] at h
        rcases h with h | rfl
        · exact .inl h
        · exact .inr (by simp)
      · exact .inr (by simp [h])
    | o j => rcases ih h with h | h
             · exact .inl h
             · exact .inr (by simp [h])
theorem bitH_mem {a : List Loc} {n i : Nat} (h : (bitH a n).testBit i = true) : n.testBit i = true ∨ Loc.o i ∈ a := by
  induction a generalizing n with
  | nil => exact .inl h
  | cons l a ih =>
    cases l with
    | o j =>
      rcases ih h with h | h
      · rw [testBit_lor, testBit_pow] at h
        simp only [Bool.or_eq_true, decide_eq_true_eq] at h
        rcases h with h | rfl
        · exact .inl h
        · exact .inr (by simp)
      · exact .inr (by simp [h])
    | t j => rcases ih h with h | h
             · exact .inl h
             · exact .inr (by simp [h])

theorem wrote_t {t : Tr} {i : Nat} : t.bits.wt.testBit i = true ↔ Loc.t i ∈ t.w.map W.loc :=
  ⟨fun h => (bitT_mem h).resolve_left (by simp [M.none]), fun h => mem_bitT h _⟩
theorem wrote_o {t : Tr} {i : Nat} : t.bits.wh.testBit i = true ↔ Loc.o i ∈ t.w.map W.loc :=
  ⟨fun h => (bitH_mem h).resolve_left (by simp [M.none]), fun h => mem_bitH h _⟩

theorem agree_congr {X1 X2 Y1 Y2 : St} {t1 t2 : Tr}
    (h : ∀ l, l ∈ t1.w.map W.loc → l ∈ t2.w.map W.loc → Y1.get l = X1.get l ∧ Y2.get l = X2.get l) :
    agree Y1 Y2 t1.bits t2.bits = agree X1 X2 t1.bits t2.bits := by
  unfold agree
  cases h1 : Nat.beq t1.bits.wt t2.bits.wt with
  | false => simp only [Bool.false_and]
  | true =>
    cases h2 : Nat.beq t1.bits.wh t2.bits.wh with
    | false => simp only [Bool.false_and, Bool.and_false]
    | true =>
      have e1 := Nat.eq_of_beq_eq_true h1
      have e2 := Nat.eq_of_beq_eq_true h2
      simp only [Bool.true_and]
      refine (fun {a b c d : Bool} (h : a = b) (h2 : c = d) => (by rw [h, h2] : (a && c) = (b && d))) ?_ ?_
      · refine eachBit_congr fun i hi => ?_
        obtain ⟨a, b⟩ := h (.t i) (wrote_t.mp hi) (wrote_t.mp (e1 ▸ hi))
        rw [a, b]
      · refine eachBit_congr fun i hi => ?_
        obtain ⟨a, b⟩ := h (.o i) (wrote_o.mp hi) (wrote_o.mp (e2 ▸ hi))
        rw [a, b]

/-- WHAT A PROGRAM DOES DEPENDS ON WHAT IT READS ALONE, AND IT CHANGES WHAT IT SAYS. -/
theorem local_ : ∀ {α : Type} (m : F α) (X X' : St) (a : α) (tr : Tr), interpT m X = some (a, X', tr) →
    X' = X.apply tr.w ∧ ∀ Y : St, (∀ l ∈ tr.r, Y.get l = X.get l) → interpT m Y = some (a, Y.apply tr.w, tr)
  | _, .pure a, X, X', b, tr, h => by
    simp only [interpT, Option.some.injEq, Prod.mk.injEq] at h
    obtain ⟨rfl, rfl, rfl⟩ := h
    exact ⟨rfl, fun Y _ => rfl⟩
  | _, .fail, X, X', b, tr, h => by simp [interpT] at h
  | _, .rd l, X, X', b, tr, h => by
    simp only [interpT, Option.some.injEq, Prod.mk.injEq] at h
    obtain ⟨rfl, rfl, rfl⟩ := h
    exact ⟨rfl, fun Y hY => by simp only [interpT]; rw [hY l (by simp)]; rfl⟩
  | _, .wr w, X, X', b, tr, h => by
    simp only [interpT, Option.some.injEq, Prod.mk.injEq] at h
    obtain ⟨_, rfl, rfl⟩ := h
    exact ⟨rfl, fun Y _ => rfl⟩
  | _, .bind m f, X, X', b, tr, h => by
    unfold interpT at h
    cases h1 : interpT m X with
    | none => rw [h1] at h; simp at h
    | some x =>
      obtain ⟨a, X1, t1⟩ := x
      rw [h1] at h
      simp only at h
      cases h2 : interpT (f a) X1 with
      | none => rw [h2] at h; simp at h
      | some y =>
        obtain ⟨b', X2, t2⟩ := y
        rw [h2] at h
        simp only [Option.some.injEq, Prod.mk.injEq] at h
        obtain ⟨rfl, rfl, rfl⟩ := h
        obtain ⟨e1, g1⟩ := local_ m X X1 a t1 h1
        obtain ⟨e2, g2⟩ := local_ (f a) X1 X2 b' t2 h2
        refine ⟨by rw [e2, e1, St.apply_append], fun Y hY => ?_⟩
        unfold interpT
        rw [g1 Y fun l hl => hY l (by simp [hl])]
        simp only
        rw [g2 (Y.apply t1.w) fun l hl => by rw [e1]; exact St.get_apply_congr _ (hY l (by simp [hl]))]
        simp only [St.apply_append]
  | _, .traced m, X, X', b, tr, h => by
    unfold interpT at h
    cases h1 : interpT m X with
    | none => rw [h1] at h; simp at h
    | some x =>
      obtain ⟨a, X1, t1⟩ := x
      rw [h1] at h
      simp only [Option.some.injEq, Prod.mk.injEq] at h
      obtain ⟨rfl, rfl, rfl⟩ := h
      obtain ⟨e1, g1⟩ := local_ m X X1 a t1 h1
      refine ⟨e1, fun Y hY => ?_⟩
      unfold interpT
      rw [g1 Y hY]
  | _, .localT T m, X, X', b, tr, h => by
    unfold interpT at h
    cases h1 : interpT m ⟨T, X.H⟩ with
    | none => rw [h1] at h; simp at h
    | some x =>
      obtain ⟨a, X1, t1⟩ := x
      rw [h1] at h
      simp only [Option.some.injEq, Prod.mk.injEq] at h
      obtain ⟨rfl, rfl, rfl⟩ := h
      obtain ⟨e1, g1⟩ := local_ m ⟨T, X.H⟩ X1 a t1 h1
      have key : ∀ Z : St, Z.apply t1.heap.w = ⟨Z.T, (St.apply ⟨T, Z.H⟩ t1.w).H⟩ := by
        intro Z
        obtain ⟨ZT, ZH⟩ := Z
        have a1 := T_apply_heap ZT ZH t1.w
        have a2 := H_apply_heap T ZH t1.w
        have a3 := H_apply_heap.hT ZT T ZH t1.w
        show St.apply ⟨ZT, ZH⟩ (t1.w.filter fun x => isHeap x.loc) = _
        rw [a2, ← a3]
        conv => lhs; rw [show St.apply ⟨ZT, ZH⟩ (t1.w.filter fun x => isHeap x.loc) = ⟨(St.apply ⟨ZT, ZH⟩ (t1.w.filter fun x => isHeap x.loc)).T, (St.apply ⟨ZT, ZH⟩ (t1.w.filter fun x => isHeap x.loc)).H⟩ from rfl]
        rw [a1]
      refine ⟨by rw [key, e1], fun Y hY => ?_⟩
      unfold interpT
      rw [g1 ⟨T, Y.H⟩ ?_]
      · simp only [key, e1]
        rw [T_apply T X.H Y.H]
      · intro l hl
        cases hl' : isHeap l with
        | false =>
          cases l with
          | t i => rfl
          | o i => simp [isHeap] at hl'
        | true => exact get_heap_congr hl' (hY l (by simp [Tr.heap, hl, hl']))

  | _, .both m m' same, X, X', b, tr, h => by
    unfold interpT at h
    cases h1 : interpT m X with
    | none => rw [h1] at h; simp at h
    | some x =>
      obtain ⟨a1, X1, t1⟩ := x
      rw [h1] at h
      simp only at h
      cases h2 : interpT m' X with
      | none => rw [h2] at h; simp at h
      | some y =>
        obtain ⟨a2, X2, t2⟩ := y
        rw [h2] at h
        simp only at h
        cases h3 : (same a1 a2 && agree X1 X2 t1.bits t2.bits) with
        | false => rw [h3] at h; simp at h
        | true =>
          rw [h3] at h
          simp only [Option.some.injEq, Prod.mk.injEq] at h
          obtain ⟨rfl, rfl, rfl⟩ := h
          obtain ⟨e1, g1⟩ := local_ m X X1 a1 t1 h1
          obtain ⟨e2, g2⟩ := local_ m' X X2 a2 t2 h2
          refine ⟨e1, fun Y hY => ?_⟩
          unfold interpT
          rw [g1 Y fun l hl => hY l (by simp [hl]), g2 Y fun l hl => hY l (by simp [hl])]
          simp only
          rw [agree_congr (X1 := X1) (X2 := X2), h3]
          · intro l h1 h2
            rw [e1, e2]
            exact ⟨St.get_apply_of_written _ h1, St.get_apply_of_written _ h2⟩

/-- Two states that answer alike. -/
def St.Eqv (X Y : St) : Prop := ∀ l, X.get l = Y.get l
end Ae

/- Operations of one statement, in whatever order their edges allow: the same outcome. -/
namespace Ae

/-- What was done last stands there. -/
def Stands (X : Nat → St) (W : Nat → List Loc) (D : Nat → Prop) (Y : St) : Prop :=
  (∀ l, (∀ j, D j → l ∉ W j) → Y.get l = (X 0).get l) ∧
  ∀ j l, D j → l ∈ W j → (∀ k, D k → j < k → l ∉ W k) → Y.get l = (X (j + 1)).get l

theorem last_of {D : Nat → Prop} {p : Nat → Prop} {m : Nat} (hD : ∀ j, D j → j < m) :
    ∀ (d j : Nat), m - j = d → D j → p j → ∃ k, D k ∧ p k ∧ (∀ k', D k' → k < k' → ¬ p k') := by
  intro d
  induction d using Nat.strongRecOn with
  | _ d ih =>
    intro j hd hj hp
    by_cases h : ∃ k', D k' ∧ j < k' ∧ p k'
    · obtain ⟨k', hk, hlt, hpk⟩ := h
      have := hD k' hk
      have := hD j hj
      exact ih (m - k') (by omega) k' rfl hk hpk
    · exact ⟨j, hj, hp, fun k' hk hlt hpk => h ⟨k', hk, hlt, hpk⟩⟩

structure Canon (p : Nat → F Nat) (m : Nat) (X : Nat → St) (r : Nat → Nat) (tr : Nat → Tr) : Prop where
  run : ∀ i, i < m → interpT (p i) (X i) = some (r i, X (i + 1), tr i)

section
variable {p : Nat → F Nat} {m : Nat} {X : Nat → St} {r : Nat → Nat} {tr : Nat → Tr}

def wl (t : Tr) : List Loc := t.w.map W.loc

theorem Canon.step (h : Canon p m X r tr) {i : Nat} (hi : i < m) : X (i + 1) = (X i).apply (tr i).w := (local_ _ _ _ _ _ (h.run i hi)).1

theorem Canon.good (h : Canon p m X r tr) : ∀ i, i ≤ m → Stands X (fun j => wl (tr j)) (fun j => j < i) (X i) := by
  intro i
  induction i with
  | zero => intro _; exact ⟨fun l _ => rfl, fun j l hj => absurd hj (by omega)⟩
  | succ i ih =>
    intro hi
    obtain ⟨g1, g2⟩ := ih (by omega)
    have e := h.step (i := i) (by omega)
    refine ⟨fun l hl => ?_, fun j l hj hl hk => ?_⟩
    · rw [e, St.get_apply_of_not _ (hl i (by omega))]
      exact g1 l fun j hj => hl j (by omega)
    · by_cases hji : j = i
      · subst hji; rfl
      · rw [e, St.get_apply_of_not _ (hk i (by omega) (by omega))]
        exact g2 j l (by omega) hl fun k hk' hjk => hk k (by omega) hjk

/-- No two operations without an order between them meet at a place that one of them writes. -/
def Apart (m : Nat) (tr : Nat → Tr) (prec : Nat → Nat → Prop) : Prop :=
  ∀ i j, i < j → j < m → prec i j ∨ ((∀ l, l ∈ wl (tr i) → l ∉ (tr j).r ∧ l ∉ wl (tr j)) ∧ ∀ l, l ∈ wl (tr j) → l ∉ (tr i).r)

inductive Runs (p : Nat → F Nat) (r : Nat → Nat) : List Nat → St → St → Prop where
  | nil (Y : St) : Runs p r [] Y Y
  | cons {i : Nat} {s : List Nat} {Y Y1 Z : St} (h : interp (p i) Y = some (r i, Y1)) (t : Runs p r s Y1 Z) : Runs p r (i :: s) Y Z

def Respects (prec : Nat → Nat → Prop) (D : Nat → Prop) : List Nat → Prop
  | [] => True
  | i :: s => ¬ D i ∧ (∀ k, prec k i → D k) ∧ Respects prec (fun j => D j ∨ j = i) s

theorem runs_of (h : Canon p m X r tr) {prec : Nat → Nat → Prop} (ha : Apart m tr prec) (hp : ∀ i j, prec i j → i < j) :
    ∀ (s : List Nat) (D : Nat → Prop) (Y : St), (∀ j, D j → j < m) → (∀ i ∈ s, i < m) → (∀ i j, D j → prec i j → D i) → Respects prec D s → Stands X (fun j => wl (tr j)) D Y →
      ∃ Z, Runs p r s Y Z ∧ Stands X (fun j => wl (tr j)) (fun j => D j ∨ j ∈ s) Z := by
  intro s
  induction s with
  | nil => intro D Y _ _ _ _ hg; exact ⟨Y, .nil Y, by simpa using hg⟩
  | cons i s ih =>
    intro D Y hD hs hdown hr hg
    obtain ⟨hni, hpre, hrest⟩ := hr
    have him : i < m := hs i (by simp)
    obtain ⟨c1, c2⟩ := h.good i (by omega)
    obtain ⟨g1, g2⟩ := hg
    -- a writer above i in D does not meet i
    have above : ∀ j, D j → i < j → (∀ l, l ∈ wl (tr i) → l ∉ wl (tr j)) ∧ ∀ l, l ∈ wl (tr j) → l ∉ (tr i).r := by
      intro j hj hij
      rcases ha i j hij (hD j hj) with hb | ⟨hb1, hb2⟩
      · exact absurd (hdown i j hj hb) hni
      · exact ⟨fun l hl => (hb1 l hl).2, hb2⟩
    have agree : ∀ l ∈ (tr i).r, Y.get l = (X i).get l := by
      intro l hl
      by_cases hw : ∃ j, D j ∧ l ∈ wl (tr j)
      · obtain ⟨j, hj, hlj⟩ := hw
        obtain ⟨k, hk, hlk, hmax⟩ := last_of (p := fun j => l ∈ wl (tr j)) hD (m - j) j rfl hj hlj
        have hki : k < i := by
          rcases Nat.lt_trichotomy k i with hh | hh | hh
          · exact hh
          · subst hh; exact absurd hk hni
          · exact absurd hl ((above k hk hh).2 l hlk)
        rw [g2 k l hk hlk hmax]
        refine (c2 k l hki hlk fun k' hk' hkk' hlk' => ?_).symm
        -- k' < i writes l, i reads l: so k' precedes i, so it is in D
        rcases ha k' i hk' him with hb | ⟨hb1, _⟩
        · exact hmax k' (hpre k' hb) hkk' hlk'
        · exact (hb1 l hlk').1 hl
      · rw [g1 l fun j hj hlj => hw ⟨j, hj, hlj⟩]
        refine (c1 l fun j hj hlj => ?_).symm
        rcases ha j i hj him with hb | ⟨hb1, _⟩
        · exact hw ⟨j, hpre j hb, hlj⟩
        · exact (hb1 l hlj).1 hl
    have hrun := h.run i him
    obtain ⟨e1, loc⟩ := local_ _ _ _ _ _ hrun
    have hrunY := interp_of_T (loc Y agree)
    have hg' : Stands X (fun j => wl (tr j)) (fun j => D j ∨ j = i) (Y.apply (tr i).w) := by
      refine ⟨fun l hl => ?_, fun j l hj hlj hmax => ?_⟩
      · rw [St.get_apply_of_not _ (hl i (.inr rfl))]
        exact g1 l fun j hj => hl j (.inl hj)
      · rcases hj with hj | hj
        · by_cases hli : l ∈ wl (tr i)
          · -- both write: j < i would be beaten, j > i cannot be
            rcases Nat.lt_trichotomy j i with hh | hh | hh
            · exact absurd hli (hmax i (.inr rfl) hh)
            · subst hh; exact absurd hj hni
            · exact absurd hlj ((above j hj hh).1 l hli)
          · rw [St.get_apply_of_not _ hli]
            exact g2 j l hj hlj fun k hk hjk => hmax k (.inl hk) hjk
        · subst hj
          rw [e1]
          exact St.get_apply_of_written _ hlj
    obtain ⟨Z, hz, hgz⟩ := ih (fun j => D j ∨ j = i) (Y.apply (tr i).w) (fun j hj => hj.elim (hD j) fun e => e ▸ him) (fun k hk => hs k (by simp [hk]))
      (fun a b hb hab => hb.elim (fun hb => .inl (hdown a b hb hab)) fun hb => .inl (hpre a (hb ▸ hab))) hrest hg'
    refine ⟨Z, .cons hrunY hz, ?_⟩
    have e : (fun j => (D j ∨ j = i) ∨ j ∈ s) = fun j => D j ∨ j ∈ i :: s := by
      funext j; simp only [List.mem_cons, or_assoc]
    rw [← e]; exact hgz

/-- THE SAME OUTCOME IN EACH ORDER. -/
theorem runs_eqv (h : Canon p m X r tr) {prec : Nat → Nat → Prop} (ha : Apart m tr prec) (hp : ∀ i j, prec i j → i < j) {s : List Nat}
    (hs : ∀ i, i ∈ s ↔ i < m) (hr : Respects prec (fun _ => False) s) : ∃ Z, Runs p r s (X 0) Z ∧ ∀ l, Z.get l = (X m).get l := by
  obtain ⟨Z, hz, g1, g2⟩ := runs_of h ha hp s (fun _ => False) (X 0) (fun _ h => h.elim) (fun i hi => (hs i).1 hi) (fun _ _ h => h.elim) hr
    ⟨fun _ _ => rfl, fun _ _ h => h.elim⟩
  obtain ⟨c1, c2⟩ := h.good m (Nat.le_refl _)
  refine ⟨Z, hz, fun l => ?_⟩
  by_cases hw : ∃ j, j < m ∧ l ∈ wl (tr j)
  · obtain ⟨j, hj, hlj⟩ := hw
    obtain ⟨k, hk, hlk, hmax⟩ := last_of (D := fun j => j < m) (p := fun j => l ∈ wl (tr j)) (fun _ h => h) (m - j) j rfl hj hlj
    rw [c2 k l hk hlk hmax]
    exact g2 k l (.inr ((hs k).2 hk)) hlk fun k' hk' => hmax k' (hk'.elim (fun h => h.elim) (hs k').1)
  · rw [c1 l fun j hj hlj => hw ⟨j, hj, hlj⟩]
    exact g1 l fun j hj hlj => hw ⟨j, hj.elim (fun h => h.elim) (hs j).1, hlj⟩
end
end Ae

/- The same runs with what comes behind them at hand. -/
namespace Ae
universe u

/-- The same number, reckoned out (for the kernel's sake). -/
noncomputable def force {α : Type u} (n : Nat) (f : Nat → α) : α := Nat.rec (motive := fun _ => α) (f 0) (fun m _ => f (Nat.succ m)) n
theorem force_eq {α : Type u} (n : Nat) (f : Nat → α) : force n f = f n := by cases n <;> rfl

noncomputable def M.rd (μ : M) (l : Loc) (k : M → Bool) : Bool :=
  Loc.rec (motive := fun _ => M → (M → Bool) → Bool) (fun i μ k => force (Nat.lor μ.rt (Nat.pow 2 i)) fun x => k ⟨x, μ.rh, μ.wt, μ.wh⟩)
    (fun i μ k => force (Nat.lor μ.rh (Nat.pow 2 i)) fun x => k ⟨μ.rt, x, μ.wt, μ.wh⟩) l μ k
noncomputable def M.wr (μ : M) (w : W) (k : M → Bool) : Bool :=
  W.rec (motive := fun _ => M → (M → Bool) → Bool) (fun i _ μ k => force (Nat.lor μ.wt (Nat.pow 2 i)) fun x => k ⟨μ.rt, μ.rh, x, μ.wh⟩)
    (fun i _ μ k => force (Nat.lor μ.wh (Nat.pow 2 i)) fun x => k ⟨μ.rt, μ.rh, μ.wt, x⟩) w μ k
noncomputable def M.join (μ ν : M) (k : M → Bool) : Bool :=
  force (Nat.lor μ.rt ν.rt) fun a => force (Nat.lor μ.rh ν.rh) fun b => force (Nat.lor μ.wt ν.wt) fun c => force (Nat.lor μ.wh ν.wh) fun d => k ⟨a, b, c, d⟩
noncomputable def M.joinH (μ ν : M) (k : M → Bool) : Bool :=
  force (Nat.lor μ.rh ν.rh) fun b => force (Nat.lor μ.wh ν.wh) fun d => k ⟨μ.rt, b, μ.wt, d⟩

noncomputable def M.joinR (μ ν : M) (k : M → Bool) : Bool :=
  force (Nat.lor μ.rt ν.rt) fun a => force (Nat.lor μ.rh ν.rh) fun b => k ⟨a, b, μ.wt, μ.wh⟩

noncomputable def evalT {α : Type} (m : F α) : St → M → (α → St → M → Bool) → Bool :=
  F.rec (motive := fun {α} _ => St → M → (α → St → M → Bool) → Bool)
    (fun a X μ k => k a X μ) (fun _ _ _ => false) (fun l X μ k => μ.rd l (k (X.get l) X)) (fun w X μ k => μ.wr w (k () (X.set w)))
    (fun _ _ im if_ X μ k => im X μ fun a X1 μ1 => if_ a X1 μ1 k)
    (fun _ im X μ k => im X M.none fun a X1 ν => μ.join ν (k (a, ν) X1))
    (fun T _ im X μ k => im ⟨T, X.H⟩ M.none fun a X1 ν => μ.joinH ν (k (a, X1.T) ⟨X.T, X1.H⟩))
    (fun _ _ same im im' X μ k => im X M.none fun a X1 ν => im' X M.none fun b X2 ν' =>
      Bool.rec (motive := fun _ => Bool) false (μ.join ν fun μ1 => μ1.joinR ν' (k a X1)) (same a b && agree X1 X2 ν ν')) m

noncomputable def evalB {α : Type} (m : F α) : St → (α → St → Bool) → Bool :=
  F.rec (motive := fun {α} _ => St → (α → St → Bool) → Bool)
    (fun a X k => k a X) (fun _ _ => false) (fun l X k => k (X.get l) X) (fun w X k => k () (X.set w))
    (fun _ _ im if_ X k => im X fun a X1 => if_ a X1 k)
    (fun m _ X k => evalT m X M.none fun a X1 t => k (a, t) X1)
    (fun T _ im X k => im ⟨T, X.H⟩ fun a X1 => k (a, X1.T) ⟨X.T, X1.H⟩)
    (fun m m' same _ _ X k => evalT m X M.none fun a X1 ν => evalT m' X M.none fun b X2 ν' =>
      Bool.rec (motive := fun _ => Bool) false (k a X1) (same a b && agree X1 X2 ν ν')) m

theorem M.rd_eq (μ : M) (l : Loc) (k : M → Bool) : μ.rd l k = k (μ.add ⟨[l], []⟩) := by
  cases l <;> (unfold M.rd; simp only [force_eq]; rfl)
theorem M.wr_eq (μ : M) (w : W) (k : M → Bool) : μ.wr w k = k (μ.add ⟨[], [w]⟩) := by
  cases w <;> (unfold M.wr; simp only [force_eq]; rfl)
theorem M.join_eq (μ : M) (t : Tr) (k : M → Bool) : μ.join t.bits k = k (μ.add t) := by
  rw [M.join, force_eq, force_eq, force_eq, force_eq]
  congr 1
  rw [M.add, bitT_zero t.r, bitH_zero t.r, bitT_zero (t.w.map W.loc), bitH_zero (t.w.map W.loc)]
  rfl
theorem bitT_heap (l : List Loc) (n : Nat) : bitT (l.filter isHeap) n = n := by
  induction l generalizing n with
  | nil => rfl
  | cons x l ih => cases x <;> exact ih _
theorem bitH_heap (l : List Loc) (n : Nat) : bitH (l.filter isHeap) n = bitH l n := by
  induction l generalizing n with
  | nil => rfl
  | cons x l ih => cases x <;> exact ih _
theorem M.joinH_eq (μ : M) (t : Tr) (k : M → Bool) : μ.joinH t.bits k = k (μ.add t.heap) := by
  rw [M.joinH, force_eq, force_eq]
  congr 1
  have e : (t.w.filter fun x => isHeap x.loc).map W.loc = (t.w.map W.loc).filter isHeap := by
    rw [List.filter_map]; rfl
  rw [M.add, Tr.heap]
  simp only [e, bitT_heap, bitH_heap]
  rw [bitH_zero t.r, bitH_zero (t.w.map W.loc)]
  rfl
theorem M.add_none (μ : M) : μ.add ⟨[], []⟩ = μ := rfl

theorem M.joinR_eq (μ : M) (t : Tr) (w : List W) (u : List Loc) (k : M → Bool) : (μ.add ⟨u, w⟩).joinR t.bits k = k (μ.add ⟨u ++ t.r, w⟩) := by
  rw [M.joinR, force_eq, force_eq]
  congr 1
  simp only [M.add, bitT_append, bitH_append]
  rw [bitT_zero t.r, bitH_zero t.r]
  rfl

theorem evalT_some : ∀ {α : Type} (m : F α) (X : St) (μ : M) (k : α → St → M → Bool), evalT m X μ k = true →
    ∃ a X' t, interpT m X = some (a, X', t) ∧ k a X' (μ.add t) = true
  | _, .pure a, X, μ, k, h => ⟨a, X, _, rfl, h⟩
  | _, .fail, X, μ, k, h => absurd h (by simp [evalT])
  | _, .rd l, X, μ, k, h => ⟨_, X, _, rfl, (M.rd_eq ..).symm.trans h⟩
  | _, .wr w, X, μ, k, h => ⟨(), _, _, rfl, (M.wr_eq ..).symm.trans h⟩
  | _, .bind m f, X, μ, k, h => by
    obtain ⟨a, X1, t1, h1, h2⟩ := evalT_some m X μ _ h
    obtain ⟨b, X2, t2, h3, h4⟩ := evalT_some (f a) X1 _ _ h2
    exact ⟨b, X2, _, by simp only [interpT, h1, h3], M.add_add μ t1 _ ▸ h4⟩
  | _, .traced m, X, μ, k, h => by
    obtain ⟨a, X1, t1, h1, h2⟩ := evalT_some m X _ _ h
    exact ⟨(a, t1.bits), X1, t1, by simp only [interpT, h1], (M.join_eq ..).symm.trans h2⟩
  | _, .localT T m, X, μ, k, h => by
    obtain ⟨a, X1, t1, h1, h2⟩ := evalT_some m _ _ _ h
    exact ⟨_, _, _, by simp only [interpT, h1], (M.joinH_eq ..).symm.trans h2⟩
  | _, .both m m' same, X, μ, k, h => by
    obtain ⟨a, X1, t1, h1, h2⟩ := evalT_some m _ _ _ h
    obtain ⟨b, X2, t2, h3, h4⟩ := evalT_some m' _ _ _ h2
    cases h5 : (same a b && agree X1 X2 t1.bits t2.bits) with
    | false => exact absurd h4 (by show ¬ (Bool.rec _ _ (same a b && agree X1 X2 t1.bits t2.bits) = true); rw [h5]; simp)
    | true =>
      refine ⟨a, X1, ⟨t1.r ++ t2.r, t1.w⟩, by simp only [interpT, h1, h3, h5], ?_⟩
      have h6 : (Bool.rec (motive := fun _ => Bool) false (μ.join t1.bits fun μ1 => μ1.joinR t2.bits (k a X1)) (same a b && agree X1 X2 t1.bits t2.bits)) = true := h4
      rw [h5] at h6
      have h7 : (μ.join t1.bits fun μ1 => μ1.joinR t2.bits (k a X1)) = true := h6
      rw [M.join_eq] at h7
      exact (M.joinR_eq μ t2 t1.w t1.r _).symm.trans h7

theorem evalB_some : ∀ {α : Type} (m : F α) (X : St) (k : α → St → Bool), evalB m X k = true → ∃ a X', interp m X = some (a, X') ∧ k a X' = true
  | _, .pure a, X, k, h => ⟨a, X, rfl, h⟩
  | _, .fail, X, k, h => absurd h (by simp [evalB])
  | _, .rd l, X, k, h => ⟨_, X, rfl, h⟩
  | _, .wr w, X, k, h => ⟨(), _, rfl, h⟩
  | _, .bind m f, X, k, h => by
    obtain ⟨a, X1, h1, h2⟩ := evalB_some m X _ h
    obtain ⟨b, X2, h3, h4⟩ := evalB_some (f a) X1 _ h2
    exact ⟨b, X2, by rw [interp_bind, h1]; exact h3, h4⟩
  | _, .traced m, X, k, h => by
    obtain ⟨a, X1, t1, h1, h2⟩ := evalT_some m X _ _ h
    refine ⟨_, X1, ?_, h2⟩
    show ob (interpT m X) (fun r => some ((r.1, r.2.2.bits), r.2.1)) = _
    rw [h1]; rfl
  | _, .localT T m, X, k, h => by
    obtain ⟨a, X1, h1, h2⟩ := evalB_some m _ _ h
    refine ⟨_, _, ?_, h2⟩
    show ob (interp m ⟨T, X.H⟩) (fun r => some ((r.1, r.2.T), St.mk X.T r.2.H)) = _
    rw [h1]; rfl
  | _, .both m m' same, X, k, h => by
    obtain ⟨a, X1, t1, h1, h2⟩ := evalT_some m _ _ _ h
    obtain ⟨b, X2, t2, h3, h4⟩ := evalT_some m' _ _ _ h2
    have h6 : (Bool.rec (motive := fun _ => Bool) false (k a X1) (same a b && agree X1 X2 t1.bits t2.bits)) = true := h4
    cases h5 : (same a b && agree X1 X2 t1.bits t2.bits) with
    | false => rw [h5] at h6; cases h6
    | true =>
      rw [h5] at h6
      refine ⟨a, X1, ?_, h6⟩
      rw [interp_eq]
      simp only [interpT, h1, h3, h5, Option.map_some]
end Ae

/- The same runs with what comes behind them at hand, whatever they come to. -/
namespace Ae
variable {R : Type}

noncomputable def M.rdK (μ : M) (l : Loc) (k : M → R) : R :=
  Loc.rec (motive := fun _ => M → (M → R) → R) (fun i μ k => force (Nat.lor μ.rt (Nat.pow 2 i)) fun x => k ⟨x, μ.rh, μ.wt, μ.wh⟩)
    (fun i μ k => force (Nat.lor μ.rh (Nat.pow 2 i)) fun x => k ⟨μ.rt, x, μ.wt, μ.wh⟩) l μ k
noncomputable def M.wrK (μ : M) (w : W) (k : M → R) : R :=
  W.rec (motive := fun _ => M → (M → R) → R) (fun i _ μ k => force (Nat.lor μ.wt (Nat.pow 2 i)) fun x => k ⟨μ.rt, μ.rh, x, μ.wh⟩)
    (fun i _ μ k => force (Nat.lor μ.wh (Nat.pow 2 i)) fun x => k ⟨μ.rt, μ.rh, μ.wt, x⟩) w μ k
noncomputable def M.joinK (μ ν : M) (k : M → R) : R :=
  force (Nat.lor μ.rt ν.rt) fun a => force (Nat.lor μ.rh ν.rh) fun b => force (Nat.lor μ.wt ν.wt) fun c => force (Nat.lor μ.wh ν.wh) fun d => k ⟨a, b, c, d⟩
noncomputable def M.joinHK (μ ν : M) (k : M → R) : R :=
  force (Nat.lor μ.rh ν.rh) fun b => force (Nat.lor μ.wh ν.wh) fun d => k ⟨μ.rt, b, μ.wt, d⟩

noncomputable def M.joinRK (μ ν : M) (k : M → R) : R :=
  force (Nat.lor μ.rt ν.rt) fun a => force (Nat.lor μ.rh ν.rh) fun b => k ⟨a, b, μ.wt, μ.wh⟩

noncomputable def evalTK (bad : R) {α : Type} (m : F α) : St → M → (α → St → M → R) → R :=
  F.rec (motive := fun {α} _ => St → M → (α → St → M → R) → R)
    (fun a X μ k => k a X μ) (fun _ _ _ => bad) (fun l X μ k => μ.rdK l (k (X.get l) X)) (fun w X μ k => μ.wrK w (k () (X.set w)))
    (fun _ _ im if_ X μ k => im X μ fun a X1 μ1 => if_ a X1 μ1 k)
    (fun _ im X μ k => im X M.none fun a X1 ν => μ.joinK ν (k (a, ν) X1))
    (fun T _ im X μ k => im ⟨T, X.H⟩ M.none fun a X1 ν => μ.joinHK ν (k (a, X1.T) ⟨X.T, X1.H⟩))
    (fun _ _ same im im' X μ k => im X M.none fun a X1 ν => im' X M.none fun b X2 ν' =>
      Bool.rec (motive := fun _ => R) bad (μ.joinK ν fun μ1 => μ1.joinRK ν' (k a X1)) (same a b && agree X1 X2 ν ν')) m

noncomputable def evalBK (bad : R) {α : Type} (m : F α) : St → (α → St → R) → R :=
  F.rec (motive := fun {α} _ => St → (α → St → R) → R)
    (fun a X k => k a X) (fun _ _ => bad) (fun l X k => k (X.get l) X) (fun w X k => k () (X.set w))
    (fun _ _ im if_ X k => im X fun a X1 => if_ a X1 k)
    (fun m _ X k => evalTK bad m X M.none fun a X1 t => k (a, t) X1)
    (fun T _ im X k => im ⟨T, X.H⟩ fun a X1 => k (a, X1.T) ⟨X.T, X1.H⟩)
    (fun m m' same _ _ X k => evalTK bad m X M.none fun a X1 ν => evalTK bad m' X M.none fun b X2 ν' =>
      Bool.rec (motive := fun _ => R) bad (k a X1) (same a b && agree X1 X2 ν ν')) m

theorem M.rdK_eq (μ : M) (l : Loc) (k : M → R) : μ.rdK l k = k (μ.add ⟨[l], []⟩) := by
  cases l <;> (unfold M.rdK; simp only [force_eq]; rfl)
theorem M.wrK_eq (μ : M) (w : W) (k : M → R) : μ.wrK w k = k (μ.add ⟨[], [w]⟩) := by
  cases w <;> (unfold M.wrK; simp only [force_eq]; rfl)
theorem M.joinK_eq (μ : M) (t : Tr) (k : M → R) : μ.joinK t.bits k = k (μ.add t) := by
  rw [M.joinK, force_eq, force_eq, force_eq, force_eq]
  congr 1
  rw [M.add, bitT_zero t.r, bitH_zero t.r, bitT_zero (t.w.map W.loc), bitH_zero (t.w.map W.loc)]
  rfl
theorem M.joinHK_eq (μ : M) (t : Tr) (k : M → R) : μ.joinHK t.bits k = k (μ.add t.heap) := by
  rw [M.joinHK, force_eq, force_eq]
  congr 1
  have e : (t.w.filter fun x => isHeap x.loc).map W.loc = (t.w.map W.loc).filter isHeap := by
    rw [List.filter_map]; rfl
  rw [M.add, Tr.heap]
  simp only [e, bitT_heap, bitH_heap]
  rw [bitH_zero t.r, bitH_zero (t.w.map W.loc)]
  rfl
theorem M.joinRK_eq (μ : M) (t : Tr) (w : List W) (u : List Loc) (k : M → R) : (μ.add ⟨u, w⟩).joinRK t.bits k = k (μ.add ⟨u ++ t.r, w⟩) := by
  rw [M.joinRK, force_eq, force_eq]
  congr 1
  simp only [M.add, bitT_append, bitH_append]
  rw [bitT_zero t.r, bitH_zero t.r]
  rfl

theorem evalTK_some {bad r : R} (hr : r ≠ bad) : ∀ {α : Type} (m : F α) (X : St) (μ : M) (k : α → St → M → R), evalTK bad m X μ k = r →
    ∃ a X' t, interpT m X = some (a, X', t) ∧ k a X' (μ.add t) = r
  | _, .pure a, X, μ, k, h => ⟨a, X, _, rfl, h⟩
  | _, .fail, X, μ, k, h => absurd (show bad = r from h) (Ne.symm hr)
  | _, .rd l, X, μ, k, h => ⟨_, X, _, rfl, (M.rdK_eq ..).symm.trans h⟩
  | _, .wr w, X, μ, k, h => ⟨(), _, _, rfl, (M.wrK_eq ..).symm.trans h⟩
  | _, .bind m f, X, μ, k, h => by
    obtain ⟨a, X1, t1, h1, h2⟩ := evalTK_some hr m X μ _ h
    obtain ⟨b, X2, t2, h3, h4⟩ := evalTK_some hr (f a) X1 _ _ h2
    exact ⟨b, X2, _, by simp only [interpT, h1, h3], M.add_add μ t1 _ ▸ h4⟩
  | _, .traced m, X, μ, k, h => by
    obtain ⟨a, X1, t1, h1, h2⟩ := evalTK_some hr m X _ _ h
    exact ⟨(a, t1.bits), X1, t1, by simp only [interpT, h1], (M.joinK_eq ..).symm.trans h2⟩
  | _, .localT T m, X, μ, k, h => by
    obtain ⟨a, X1, t1, h1, h2⟩ := evalTK_some hr m _ _ _ h
    exact ⟨_, _, _, by simp only [interpT, h1], (M.joinHK_eq ..).symm.trans h2⟩
  | _, .both m m' same, X, μ, k, h => by
    obtain ⟨a, X1, t1, h1, h2⟩ := evalTK_some hr m _ _ _ h
    obtain ⟨b, X2, t2, h3, h4⟩ := evalTK_some hr m' _ _ _ h2
    cases h5 : (same a b && agree X1 X2 t1.bits t2.bits) with
    | false =>
      have h6 : (Bool.rec (motive := fun _ => R) bad (μ.joinK t1.bits fun μ1 => μ1.joinRK t2.bits (k a X1)) (same a b && agree X1 X2 t1.bits t2.bits)) = r := h4
      rw [h5] at h6
      exact absurd (h6 : bad = r) (Ne.symm hr)
    | true =>
      refine ⟨a, X1, ⟨t1.r ++ t2.r, t1.w⟩, by simp only [interpT, h1, h3, h5], ?_⟩
      have h6 : (Bool.rec (motive := fun _ => R) bad (μ.joinK t1.bits fun μ1 => μ1.joinRK t2.bits (k a X1)) (same a b && agree X1 X2 t1.bits t2.bits)) = r := h4
      rw [h5] at h6
      have h7 : (μ.joinK t1.bits fun μ1 => μ1.joinRK t2.bits (k a X1)) = r := h6
      rw [M.joinK_eq] at h7
      exact (M.joinRK_eq μ t2 t1.w t1.r _).symm.trans h7

theorem evalBK_some {bad r : R} (hr : r ≠ bad) : ∀ {α : Type} (m : F α) (X : St) (k : α → St → R), evalBK bad m X k = r → ∃ a X', interp m X = some (a, X') ∧ k a X' = r
  | _, .pure a, X, k, h => ⟨a, X, rfl, h⟩
  | _, .fail, X, k, h => absurd (show bad = r from h) (Ne.symm hr)
  | _, .rd l, X, k, h => ⟨_, X, rfl, h⟩
  | _, .wr w, X, k, h => ⟨(), _, rfl, h⟩
  | _, .bind m f, X, k, h => by
    obtain ⟨a, X1, h1, h2⟩ := evalBK_some hr m X _ h
    obtain ⟨b, X2, h3, h4⟩ := evalBK_some hr (f a) X1 _ h2
    exact ⟨b, X2, by rw [interp_bind, h1]; exact h3, h4⟩
  | _, .traced m, X, k, h => by
    obtain ⟨a, X1, t1, h1, h2⟩ := evalTK_some hr m X _ _ h
    refine ⟨_, X1, ?_, h2⟩
    show ob (interpT m X) (fun r => some ((r.1, r.2.2.bits), r.2.1)) = _
    rw [h1]; rfl
  | _, .localT T m, X, k, h => by
    obtain ⟨a, X1, h1, h2⟩ := evalBK_some hr m _ _ h
    refine ⟨_, _, ?_, h2⟩
    show ob (interp m ⟨T, X.H⟩) (fun r => some ((r.1, r.2.T), St.mk X.T r.2.H)) = _
    rw [h1]; rfl
  | _, .both m m' same, X, k, h => by
    obtain ⟨a, X1, t1, h1, h2⟩ := evalTK_some hr m _ _ _ h
    obtain ⟨b, X2, t2, h3, h4⟩ := evalTK_some hr m' _ _ _ h2
    have h6 : (Bool.rec (motive := fun _ => R) bad (k a X1) (same a b && agree X1 X2 t1.bits t2.bits)) = r := h4
    cases h5 : (same a b && agree X1 X2 t1.bits t2.bits) with
    | false => rw [h5] at h6; exact absurd (h6 : bad = r) (Ne.symm hr)
    | true =>
      rw [h5] at h6
      refine ⟨a, X1, ?_, h6⟩
      rw [interp_eq]
      simp only [interpT, h1, h3, h5, Option.map_some]
end Ae
