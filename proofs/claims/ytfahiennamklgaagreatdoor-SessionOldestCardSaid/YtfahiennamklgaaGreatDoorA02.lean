/- An evaluator of Go code over numbered places (definitions alone). -/
import GoSem.Dispatch
import GoSem.Machine.Frame
import GoSem.Instr.RangeFunc
import Derived.Test.YtfahiennamklgaaGreatDoorA01

set_option linter.all false
set_option linter.unusedVariables false
set_option linter.unusedSimpArgs false
set_option linter.deprecated false

/- A run of a program on numbers for places: what memory Go leaves open (a slice's capacity, the order in a statement) is left open here too. -/
namespace Ae
open Go
noncomputable section

structure TInfo where
  desc : TypeDesc
  agg : Bool
  size : Nat
  bytes : Nat
  zero : Option (Array Value)

structure Tab where
  ty : BTrie TInfo
  fn : BTrie Func
  P : Program

/-- What a 'Sem' comes to that looks at no memory. -/
def psem {α : Type} (P : Program) : Sem α → Option α
  | .pure a => some a
  | .program k => psem P (k P)
  | .mark _ k => psem P k
  | _ => none

/- Looks at types. -/
def dInt (d : TypeDesc) : Option IntKind := TypeDesc.rec (motive := fun _ => Option IntKind) (none) (none) (fun k => some k) (fun _ => none) (fun _ => none) (none) (none) (fun _ => none) (fun _ => none) (fun _ _ => none) (fun _ _ => none) (fun _ _ => none) (fun _ => none) (fun _ _ _ => none) (fun _ => none) (fun _ => none) (fun _ _ => none) d
def dPtr (d : TypeDesc) : Bool := TypeDesc.rec (motive := fun _ => Bool) (false) (false) (fun _ => false) (fun _ => false) (fun _ => false) (false) (false) (fun _ => true) (fun _ => false) (fun _ _ => false) (fun _ _ => false) (fun _ _ => false) (fun _ => false) (fun _ _ _ => false) (fun _ => false) (fun _ => false) (fun _ _ => false) d
def dSlice (d : TypeDesc) : Option TypeId := TypeDesc.rec (motive := fun _ => Option TypeId) (none) (none) (fun _ => none) (fun _ => none) (fun _ => none) (none) (none) (fun _ => none) (fun e => some e) (fun _ _ => none) (fun _ _ => none) (fun _ _ => none) (fun _ => none) (fun _ _ _ => none) (fun _ => none) (fun _ => none) (fun _ _ => none) d
def dArray (d : TypeDesc) : Option (Nat × TypeId) := TypeDesc.rec (motive := fun _ => Option (Nat × TypeId)) (none) (none) (fun _ => none) (fun _ => none) (fun _ => none) (none) (none) (fun _ => none) (fun _ => none) (fun n e => some (n, e)) (fun _ _ => none) (fun _ _ => none) (fun _ => none) (fun _ _ _ => none) (fun _ => none) (fun _ => none) (fun _ _ => none) d
def dStruct (d : TypeDesc) : Option (Array Field) := TypeDesc.rec (motive := fun _ => Option (Array Field)) (none) (none) (fun _ => none) (fun _ => none) (fun _ => none) (none) (none) (fun _ => none) (fun _ => none) (fun _ _ => none) (fun _ _ => none) (fun _ _ => none) (fun fs => some fs) (fun _ _ _ => none) (fun _ => none) (fun _ => none) (fun _ _ => none) d
def dMap (d : TypeDesc) : Option (TypeId × TypeId) := TypeDesc.rec (motive := fun _ => Option (TypeId × TypeId)) (none) (none) (fun _ => none) (fun _ => none) (fun _ => none) (none) (none) (fun _ => none) (fun _ => none) (fun _ _ => none) (fun k e => some (k, e)) (fun _ _ => none) (fun _ => none) (fun _ _ _ => none) (fun _ => none) (fun _ => none) (fun _ _ => none) d
def dStr (d : TypeDesc) : Bool := TypeDesc.rec (motive := fun _ => Bool) (false) (false) (fun _ => false) (fun _ => false) (fun _ => false) (true) (false) (fun _ => false) (fun _ => false) (fun _ _ => false) (fun _ _ => false) (fun _ _ => false) (fun _ => false) (fun _ _ _ => false) (fun _ => false) (fun _ => false) (fun _ _ => false) d
def dFace (d : TypeDesc) : Bool := TypeDesc.rec (motive := fun _ => Bool) (false) (false) (fun _ => false) (fun _ => false) (fun _ => false) (false) (false) (fun _ => false) (fun _ => false) (fun _ _ => false) (fun _ _ => false) (fun _ _ => false) (fun _ => false) (fun _ _ _ => false) (fun _ => true) (fun _ => false) (fun _ _ => false) d
def dFunc (d : TypeDesc) : Bool := TypeDesc.rec (motive := fun _ => Bool) (false) (false) (fun _ => false) (fun _ => false) (fun _ => false) (false) (false) (fun _ => false) (fun _ => false) (fun _ _ => false) (fun _ _ => false) (fun _ _ => false) (fun _ => false) (fun _ _ _ => true) (fun _ => false) (fun _ => false) (fun _ _ => false) d

/- Looks at values. -/
def addrOf (a : Option Addr) : Option (Nat × Nat) := Option.rec (motive := fun _ => Option (Nat × Nat)) none (fun a => Option.rec (motive := fun _ => Option (Nat × Nat)) (some (a.block, a.off)) (fun _ => none) a.spot) a
def vPtr (v : Value) : Option (Nat × Nat) := Value.rec (motive_1 := fun _ => Option (Nat × Nat)) (motive_2 := fun _ => PUnit) (motive_3 := fun _ => PUnit) (fun _ => none) (fun _ _ => none) (fun _ _ => none) (fun _ _ _ => none) (fun _ => none) (fun a => addrOf a) (fun _ _ _ => none) (fun _ => none) (fun _ => none) (fun _ _ _ _ _ => none) (none) (fun _ _ _ => none) (none) (fun _ _ => none) (fun _ _ => none) (fun _ _ => .unit) .unit (fun _ _ _ _ => .unit) v
def vInt (v : Value) : Option (IntKind × Int) := Value.rec (motive_1 := fun _ => Option (IntKind × Int)) (motive_2 := fun _ => PUnit) (motive_3 := fun _ => PUnit) (fun _ => none) (fun k n => some (k, n)) (fun _ _ => none) (fun _ _ _ => none) (fun _ => none) (fun _ => none) (fun _ _ _ => none) (fun _ => none) (fun _ => none) (fun _ _ _ _ _ => none) (none) (fun _ _ _ => none) (none) (fun _ _ => none) (fun _ _ => none) (fun _ _ => .unit) .unit (fun _ _ _ _ => .unit) v
def intNat (i : Int) : Option Nat := Int.rec (motive := fun _ => Option Nat) (fun n => some n) (fun _ => none) i
def vNat (v : Value) : Option Nat := Value.rec (motive_1 := fun _ => Option Nat) (motive_2 := fun _ => PUnit) (motive_3 := fun _ => PUnit) (fun _ => none) (fun _ n => intNat n) (fun _ _ => none) (fun _ _ _ => none) (fun _ => none) (fun _ => none) (fun _ _ _ => none) (fun _ => none) (fun _ => none) (fun _ _ _ _ _ => none) (none) (fun _ _ _ => none) (none) (fun _ _ => none) (fun _ _ => none) (fun _ _ => .unit) .unit (fun _ _ _ _ => .unit) v
def vBool (v : Value) : Option Bool := Value.rec (motive_1 := fun _ => Option Bool) (motive_2 := fun _ => PUnit) (motive_3 := fun _ => PUnit) (fun b => some b) (fun _ _ => none) (fun _ _ => none) (fun _ _ _ => none) (fun _ => none) (fun _ => none) (fun _ _ _ => none) (fun _ => none) (fun _ => none) (fun _ _ _ _ _ => none) (none) (fun _ _ _ => none) (none) (fun _ _ => none) (fun _ _ => none) (fun _ _ => .unit) .unit (fun _ _ _ _ => .unit) v
def vStr (v : Value) : Option ByteArray := Value.rec (motive_1 := fun _ => Option ByteArray) (motive_2 := fun _ => PUnit) (motive_3 := fun _ => PUnit) (fun _ => none) (fun _ _ => none) (fun _ _ => none) (fun _ _ _ => none) (fun s => some s) (fun _ => none) (fun _ _ _ => none) (fun _ => none) (fun _ => none) (fun _ _ _ _ _ => none) (none) (fun _ _ _ => none) (none) (fun _ _ => none) (fun _ _ => none) (fun _ _ => .unit) .unit (fun _ _ _ _ => .unit) v
def vSlice (v : Value) : Option (Option Addr × Nat × Nat) := Value.rec (motive_1 := fun _ => Option (Option Addr × Nat × Nat)) (motive_2 := fun _ => PUnit) (motive_3 := fun _ => PUnit) (fun _ => none) (fun _ _ => none) (fun _ _ => none) (fun _ _ _ => none) (fun _ => none) (fun _ => none) (fun a l c => some (a, l, c)) (fun _ => none) (fun _ => none) (fun _ _ _ _ _ => none) (none) (fun _ _ _ => none) (none) (fun _ _ => none) (fun _ _ => none) (fun _ _ => .unit) .unit (fun _ _ _ _ => .unit) v
def vMap (v : Value) : Option (Option Nat) := Value.rec (motive_1 := fun _ => Option (Option Nat)) (motive_2 := fun _ => PUnit) (motive_3 := fun _ => PUnit) (fun _ => none) (fun _ _ => none) (fun _ _ => none) (fun _ _ _ => none) (fun _ => none) (fun _ => none) (fun _ _ _ => none) (fun r => some r) (fun _ => none) (fun _ _ _ _ _ => none) (none) (fun _ _ _ => none) (none) (fun _ _ => none) (fun _ _ => none) (fun _ _ => .unit) .unit (fun _ _ _ _ => .unit) v
def vAgg (v : Value) : Option (Array Value) := Value.rec (motive_1 := fun _ => Option (Array Value)) (motive_2 := fun _ => PUnit) (motive_3 := fun _ => PUnit) (fun _ => none) (fun _ _ => none) (fun _ _ => none) (fun _ _ _ => none) (fun _ => none) (fun _ => none) (fun _ _ _ => none) (fun _ => none) (fun _ => none) (fun _ _ _ _ _ => none) (none) (fun _ _ _ => none) (none) (fun cs _ => some cs) (fun _ _ => none) (fun _ _ => .unit) .unit (fun _ _ _ _ => .unit) v
def vTuple (v : Value) : Option (Array Value) := Value.rec (motive_1 := fun _ => Option (Array Value)) (motive_2 := fun _ => PUnit) (motive_3 := fun _ => PUnit) (fun _ => none) (fun _ _ => none) (fun _ _ => none) (fun _ _ _ => none) (fun _ => none) (fun _ => none) (fun _ _ _ => none) (fun _ => none) (fun _ => none) (fun _ _ _ _ _ => none) (none) (fun _ _ _ => none) (none) (fun _ _ => none) (fun cs _ => some cs) (fun _ _ => .unit) .unit (fun _ _ _ _ => .unit) v
def vFunc (v : Value) : Option (Fn × Array Value × Array Value) := Value.rec (motive_1 := fun _ => Option (Fn × Array Value × Array Value)) (motive_2 := fun _ => PUnit) (motive_3 := fun _ => PUnit) (fun _ => none) (fun _ _ => none) (fun _ _ => none) (fun _ _ _ => none) (fun _ => none) (fun _ => none) (fun _ _ _ => none) (fun _ => none) (fun _ => none) (fun f a b _ _ => some (f, a, b)) (none) (fun _ _ _ => none) (none) (fun _ _ => none) (fun _ _ => none) (fun _ _ => .unit) .unit (fun _ _ _ _ => .unit) v
def vFace (v : Value) : Option (TypeId × Value) := Value.rec (motive_1 := fun _ => Option (TypeId × Value)) (motive_2 := fun _ => PUnit) (motive_3 := fun _ => PUnit) (fun _ => none) (fun _ _ => none) (fun _ _ => none) (fun _ _ _ => none) (fun _ => none) (fun _ => none) (fun _ _ _ => none) (fun _ => none) (fun _ => none) (fun _ _ _ _ _ => none) (none) (fun t w _ => some (t, w)) (none) (fun _ _ => none) (fun _ _ => none) (fun _ _ => .unit) .unit (fun _ _ _ _ => .unit) v
def single (v : Value) : Bool := Value.rec (motive_1 := fun _ => Bool) (motive_2 := fun _ => PUnit) (motive_3 := fun _ => PUnit) (fun _ => true) (fun _ _ => true) (fun _ _ => true) (fun _ _ _ => true) (fun _ => true) (fun _ => true) (fun _ _ _ => true) (fun _ => true) (fun _ => true) (fun _ _ _ _ _ => true) (true) (fun _ _ _ => true) (true) (fun _ _ => false) (fun _ _ => false) (fun _ _ => .unit) .unit (fun _ _ _ _ => .unit) v
def notYield (f : Fn) : Bool := Fn.rec (motive := fun _ => Bool) (fun _ => true) (fun _ => true) (fun _ _ => true) (fun _ _ _ _ => true) (fun _ => false) f

def allB (f : Value → Bool) (l : List Value) : Bool := List.rec (motive := fun _ => Bool) true (fun v _ ih => Bool.rec (motive := fun _ => Bool) false ih (f v)) l

/-- A value that leads to no place. -/
def flat (d : Nat) : Value → Bool := Nat.rec (motive := fun _ => Value → Bool) (fun _ => false) (fun _ ih v => match v with
    | .bool _ => true | .int _ _ => true | .string _ => true | .nilFunc => true | .nilIface => true
    | .pointer a => a.isNone
    | .slice none 0 0 => true
    | .map a => a.isNone
    | .func fn first captured => notYield fn && allB ih first.toList && allB ih captured.toList
    | .iface _ v => ih v
    | .agg cs => allB ih cs.toList
    | .tuple cs => allB ih cs.toList
    | _ => false) d

def fl (v : Value) : Bool := flat 12 v

/-- The capacity of a slice whose capacity is not known: this, less where it begins. -/
def BIG : Nat := 9223372036854775808
def open_ (cap : Nat) : Bool := Nat.ble 4611686018427387904 cap

/-- The same list, reckoned out to its end (for the kernel's sake). -/
def forceL {β : Type _} (l : List Value) : (List Value → β) → β := List.rec (motive := fun _ => (List Value → β) → β) (fun k => k []) (fun v _ ih k => ih fun t => k (v :: t)) l

def opt {α : Type} (x : Option α) : F α := Option.rec (motive := fun _ => F α) .fail (fun a => .pure a) x
def optB {α β : Type} (x : Option α) (f : α → F β) : F β := Option.rec (motive := fun _ => F β) .fail f x
def ifB {β : Type} (b : Bool) (f : F β) : F β := Bool.rec (motive := fun _ => F β) .fail f b

def valC (c : Option Cell) : Option Value := Option.rec (motive := fun _ => Option Value) none (fun c => Cell.rec (motive := fun _ => Option Value) (fun v => some v) (fun _ => none) (fun _ _ => none) (fun _ _ _ => none) c) c
def rowC (c : Option Cell) : Option (List Value × Nat) := Option.rec (motive := fun _ => Option (List Value × Nat)) none (fun c => Cell.rec (motive := fun _ => Option (List Value × Nat)) (fun _ => none) (fun _ => none) (fun cs sz => some (cs, sz)) (fun _ _ _ => none) c) c
def objC (c : Option Cell) : Option Obj := Option.rec (motive := fun _ => Option Obj) none (fun c => Cell.rec (motive := fun _ => Option Obj) (fun _ => none) (fun o => some o) (fun _ _ => none) (fun _ _ _ => none) c) c
def loopC (c : Option Cell) : Option (Loop × Trie Value × Nat) := Option.rec (motive := fun _ => Option (Loop × Trie Value × Nat)) none (fun c => Cell.rec (motive := fun _ => Option (Loop × Trie Value × Nat)) (fun _ => none) (fun _ => none) (fun _ _ => none) (fun r T nt => some (r, T, nt)) c) c
def mapO : Obj → Option (Array MapEntry × Nat) := fun o => match o with | .map es clock => some (es, clock) | _ => none
def deferO : Obj → Option Unit := fun o => match o with | .deferred (some []) => some () | _ => none
def mapC (c : Option Cell) : Option (Array MapEntry × Nat) := ob (objC c) mapO
def deferC (c : Option Cell) : Option Unit := ob (objC c) deferO

def rdVal (l : Loc) : F Value := .bind (.rd l) fun c => opt (valC c)

/-- An operand's value, a temporary being a place. -/
def opd (o : Operand) : F Value := Operand.rec (motive := fun _ => F Value) (fun t => rdVal (.t t)) (fun v => ifB (fl v) (.pure v)) (fun _ => .fail) (fun f => .pure (.func (.func f) #[] #[])) o

/-- An operand's value, the temporaries being at hand. -/
def opdK (o : Operand) : Trie Value → F Value := Operand.rec (motive := fun _ => Trie Value → F Value) (fun t => fun T => opt (T.at_ t)) (fun v => fun _ => ifB (fl v) (.pure v)) (fun _ => fun _ => .fail) (fun f => fun _ => .pure (.func (.func f) #[] #[])) o
def opdT (T : Trie Value) (o : Operand) : F Value := opdK o T

def opds (rdr : Operand → F Value) (l : List Operand) : F (List Value) :=
  List.rec (motive := fun _ => F (List Value)) (.pure []) (fun o _ ih => .bind (rdr o) fun v => .bind ih fun vs => .pure (v :: vs)) l

def dropN (n : Nat) : List Value → List Value := Nat.rec (motive := fun _ => List Value → List Value) (fun l => l) (fun _ ih l => List.rec (motive := fun _ => List Value) [] (fun _ t _ => ih t) l) n

/-- The first n, if there are so many. -/
def takeN (n : Nat) : List Value → Option (List Value) := Nat.rec (motive := fun _ => List Value → Option (List Value)) (fun _ => some [])
  (fun _ ih l => List.rec (motive := fun _ => Option (List Value)) none (fun v t _ => ob (ih t) fun vs => some (v :: vs)) l) n

/-- The i-th of a list. -/
def nth {α : Type} (l : List α) : Nat → Option α := List.rec (motive := fun _ => Nat → Option α) (fun _ => none) (fun a _ ih i => Nat.rec (motive := fun _ => Option α) (some a) (fun j _ => ih j) i) l
theorem nth_eq {α : Type} (l : List α) (i : Nat) : nth l i = l[i]? := by
  induction l generalizing i with
  | nil => rfl
  | cons a l ih => cases i with
    | zero => rfl
    | succ j => exact ih j

def headL (l : List Value) : Option Value := List.rec (motive := fun _ => Option Value) none (fun v _ _ => some v) l

/-- vs in the place of the first of l, if there are so many. -/
def over (vs : List Value) : List Value → Option (List Value) := List.rec (motive := fun _ => List Value → Option (List Value)) (fun l => some l)
  (fun v _ ih l => List.rec (motive := fun _ => Option (List Value)) none (fun _ t _ => ob (ih t) fun r => some (v :: r)) l) vs

def splice (vs : List Value) (off : Nat) : List Value → Option (List Value) := Nat.rec (motive := fun _ => List Value → Option (List Value)) (over vs)
  (fun _ ih l => List.rec (motive := fun _ => Option (List Value)) none (fun v t _ => ob (ih t) fun r => some (v :: r)) l) off

def rowOf (id : Nat) : F (List Value × Nat) := .bind (.rd (.o id)) fun c => opt (rowC c)

def loadCell_ (id off : Nat) : F Value := .bind (rowOf id) fun r => opt (headL (dropN off r.1))

def loadCells_ (id k off : Nat) : F (List Value) := .bind (rowOf id) fun r => opt (takeN k (dropN off r.1))

def storeCells_ (id : Nat) (vs : List Value) (off : Nat) : F Unit := .bind (rowOf id) fun r => ifB (allB single vs) (optB (splice vs off r.1) fun cs => .wr (.o id (some (.row cs r.2))))

/-- A new row of cells. -/
def newRow_ (sz : Nat) (cs : List Value) (n : Nat) : F Unit := forceL cs fun l => .wr (.o n (some (.row l sz)))

inductive Out where
  | val (v : Value)
  | skip
  | enter (f : FuncId) (args : List Value)
  | round (l : Nat) (r : Loop) (T : Trie Value) (nt : Nat) (args : List Value)
  | defer (d : Deferred)
  | recover

section
variable (tab : Tab)

def ti (t : TypeId) : F TInfo := opt (tab.ty.at_ t)
def tiB {β : Type} (t : TypeId) (f : TInfo → F β) : F β := optB (tab.ty.at_ t) f

def loadVar_ (t : TypeId) (a : Nat × Nat) : F Value :=
  tiB tab t fun i => Bool.rec (motive := fun _ => F Value) (loadCell_ a.1 a.2) (.bind (loadCells_ a.1 i.size a.2) fun cs => .pure (.agg (Array.mk cs))) i.agg

def storeVar_ (t : TypeId) (a : Nat × Nat) (v : Value) : F Unit :=
  tiB tab t fun i => ifB (Nat.beq v.cells.size i.size) (storeCells_ a.1 v.cells.toList a.2)

def part_ (t : TypeId) (cs : Array Value) (off : Nat) : F Value :=
  tiB tab t fun i => Bool.rec (motive := fun _ => F Value) (opt (nth cs.toList off)) (.pure (.agg (cs.extract off (Nat.add off i.size)))) i.agg

def bodyB (fn : Func) : Bool := fn.body.isSome

def cloneF (args : List Value) (n : Nat) : F (Out × Nat) := match args with
  | [.iface t (.map (some r))] => .bind (.rd (.o r)) fun c => optB (mapC c) fun es => .bind (.wr (.o n (some (.obj (.map es.1 es.2))))) fun _ => .pure (.val (.iface t (.map (some n))), Nat.succ n)
  | _ => .fail

def callF (f : FuncId) (args : List Value) (n : Nat) : F (Out × Nat) :=
  optB (tab.fn.at_ f) fun fn => match bodyB fn with
    | true => .pure (.enter f args, n)
    | false => ifB (fn.name == "maps.clone") (cloneF args n)

def methodOf_ (t : TypeId) (name : String) : Option Method := match tab.P.info? t with
  | some i => i.methods.find? (·.name == name)
  | none => none

def methodF (t : TypeId) (name : String) (v : Value) (rest : List Value) (n : Nat) : F (Out × Nat) :=
  optB (methodOf_ tab t name) fun m => ifB m.path.isEmpty (optB m.func fun fp => tiB tab t fun i =>
    match dPtr i.desc, fp.2 with
    | true, true => callF tab fp.1 (v :: rest) n
    | false, false => callF tab fp.1 (v :: rest) n
    | _, _ => .fail)

def methodArgs (name : String) (args : List Value) (n : Nat) : F (Out × Nat) := match args with
  | [] => .fail
  | r :: rest => optB (vFace r) fun tv => methodF tab tv.1 name tv.2 rest n

def loopOf (l : Nat) : F (Loop × Trie Value × Nat) := .bind (.rd (.o l)) fun c => opt (loopC c)

def yieldF (l : Nat) (args : List Value) (n : Nat) : F (Out × Nat) := .bind (loopOf l) fun r => ifB (Nat.beq args.length r.1.params.toList.length) (.pure (.round l r.1 r.2.1 r.2.2 args, n))

def targetK (x_ : Fn) : Tab → List Value → List Value → Nat → F (Out × Nat) := Fn.rec (motive := fun _ => Tab → List Value → List Value → Nat → F (Out × Nat)) (fun f => fun tab args cap n => callF tab f (args ++ cap) n) (fun name => fun tab args _ n => methodArgs tab name args n) (fun _ _ => fun _ _ _ _ => .fail) (fun _ _ _ _ => fun _ _ _ _ => .fail) (fun l => fun _ args _ n => yieldF l args n) x_

/-- What is appended: how many, and their cells. -/
def srcF (size : Nat) (most : Nat → Nat) (x : Value) : F (Nat × List Value) := match x with
  | .slice a k _ => match a with
    | some a => optB (addrOf (some a)) fun a => .bind (loadCells_ a.1 (Nat.mul (most k) size) a.2) fun cs => .pure (most k, cs)
    | none => ifB (Nat.beq k 0) (.pure (most 0, []))
  | .string s => ifB (Nat.beq size 1) (.pure (most s.size, (s.extract 0 (most s.size)).data.toList.map fun b => .int .u8 b.toNat))
  | _ => .fail

def oldF (base : Option Addr) (k : Nat) : F (List Value) := match base with
  | some a => optB (addrOf (some a)) fun a => loadCells_ a.1 k a.2
  | none => ifB (Nat.beq k 0) (.pure [])

def intoF (base : Option Addr) (off : Nat) (cs : List Value) : F Unit := match base with
  | some a => optB (addrOf (some a)) fun a => force (Nat.add a.2 off) fun o => storeCells_ a.1 cs o
  | none => .pure ()

def growF (size need : Nat) (cells : List Value) (n : Nat) : F (Value × Nat) :=
  .bind (newRow_ size cells n) fun _ => .pure (.slice (some ⟨n, 0, none⟩) need BIG, Nat.succ n)

def appendOpen (base : Option Addr) (sLen sCap size need : Nat) (cells : List Value) (n : Nat) : F (Value × Nat) :=
  optB (addrOf base) fun a => .bind (rowOf a.1) fun kn => ifB (Nat.beq kn.2 size) (match Nat.ble (Nat.add a.2 (Nat.mul need size)) kn.1.length with
    | true => .bind (intoF base (Nat.mul sLen size) cells) fun _ => .pure (.slice base need sCap, n)
    | false => ifB (allB single cells) <| .bind (oldF base (Nat.mul sLen size)) fun o => .bind (.wr (.o a.1 none)) fun _ => growF size need (o ++ cells) n)

def appendTo (base : Option Addr) (sLen sCap size : Nat) (kc : Nat × List Value) (n : Nat) : F (Value × Nat) :=
  force (Nat.add sLen kc.1) fun need => ifB (Nat.ble need 1048576) (match open_ sCap with
    | true => appendOpen base sLen sCap size need kc.2 n
    | false => match Nat.ble need sCap with
      | true => .bind (intoF base (Nat.mul sLen size) kc.2) fun _ => .pure (.slice base need sCap, n)
      | false => .bind (oldF base (Nat.mul sLen size)) fun o => growF size need (o ++ kc.2) n)

def okElem (ei : TInfo) : Bool := Nat.ble 1 ei.size && (Nat.ble ei.bytes 4096 && (match ei.zero with | some z => Nat.beq z.size ei.size | none => false))

def notInt (t : Option TypeId) : Bool := match t with
  | some t => match tab.ty.at_ t with | some i => (dInt i.desc).isNone | none => false
  | none => true

/-- What a builtin 'append' comes to. -/
def appendF (argTypes : Array TypeId) (args : List Value) (n : Nat) : F (Value × Nat) := match args with
  | [s, x] => optB (nth argTypes.toList 0) fun st => tiB tab st fun si => optB (dSlice si.desc) fun elem => tiB tab elem fun ei => ifB (okElem ei) (ifB (notInt tab (nth argTypes.toList 1))
    (optB (vSlice s) fun s => .bind (srcF ei.size (fun k => k) x) fun kc => appendTo s.1 s.2.1 s.2.2 ei.size kc n))
  | _ => .fail

def natO (x : Option Value) (d : Nat) : F Nat := match x with
  | some v => opt (vNat v)
  | none => .pure d

def cutAddr (a : Option Addr) (top l size : Nat) : F (Option Addr) := match a with
  | none => .pure none
  | some a => optB (addrOf (some a)) fun p => match Nat.beq top l with
    | true => .pure (some a)
    | false => force (Nat.add p.2 (Nat.mul l size)) fun o => .pure (some ⟨p.1, o, none⟩)

def topOf (cap : Nat) (m : Option Nat) : Nat := match m with | some m => m | none => cap
theorem topOf_eq (cap : Nat) (m : Option Nat) : topOf cap m = m.getD cap := by cases m <;> rfl

def cutTop (a : Option Addr) (cap h l top size : Nat) : F Value :=
  ifB (Nat.ble top cap && (Nat.ble h top && Nat.ble l h)) (.bind (cutAddr a top l size) fun a => force (Nat.sub h l) fun len => .pure (.slice a len (Nat.sub top l)))

def cutExact (a : Option Addr) (cap h l : Nat) (m : Option Nat) (size : Nat) : F Value := cutTop a cap h l (topOf cap m) size

def cutOpen (a : Option Addr) (cap h l : Nat) (m : Option Nat) (size : Nat) : F Value :=
  optB (addrOf a) fun p => .bind (rowOf p.1) fun kn => ifB (Nat.beq kn.2 size && Nat.ble 1 size) (match m with
    | some top => ifB (Nat.ble (Nat.add p.2 (Nat.mul top size)) kn.1.length && (Nat.ble h top && (Nat.ble l h && (Nat.ble 1 top && not (open_ top)))))
        (.bind (cutAddr a top l size) fun a => force (Nat.sub h l) fun len => .pure (.slice a len (Nat.sub top l)))
    | none => ifB (Nat.ble (Nat.add p.2 (Nat.mul h size)) kn.1.length && (Nat.ble l h && open_ (Nat.sub cap l)))
        (force (Nat.add p.2 (Nat.mul l size)) fun o => force (Nat.sub h l) fun len => .pure (.slice (some ⟨p.1, o, none⟩) len (Nat.sub cap l))))

def natOO (x : Option Value) : F (Option Nat) := match x with
  | some v => .bind (opt (vNat v)) fun m => .pure (some m)
  | none => .pure none

def sliceStr (s : ByteArray) (lo hi mx : Option Value) : F Value := match mx with
  | some _ => .fail
  | none => .bind (natO hi s.size) fun h => .bind (natO lo 0) fun l => ifB (Nat.ble h s.size && Nat.ble l h) (.pure (.string (s.extract l h)))

def sliceSl (elem : TypeId) (s : Option Addr × Nat × Nat) (lo hi mx : Option Value) : F Value :=
  tiB tab elem fun ei => .bind (natO hi s.2.1) fun h => .bind (natO lo 0) fun l => .bind (natOO mx) fun m => ifB (hi.isSome || mx.isNone) <| match open_ s.2.2 with
    | true => cutOpen s.1 s.2.2 h l m ei.size
    | false => cutExact s.1 s.2.2 h l m ei.size

def sliceF (t : TypeId) (x : Value) (lo hi mx : Option Value) : F Value := tiB tab t fun i => match x with
  | .string s => ifB (dStr i.desc) (sliceStr s lo hi mx)
  | .slice a l c => optB (dSlice i.desc) fun e => sliceSl tab e (a, l, c) lo hi mx
  | _ => .fail

def ltI (a b : Int) : Bool := Int.rec (motive := fun _ => Bool) (fun a => Int.rec (motive := fun _ => Bool) (fun b => Nat.blt a b) (fun _ => false) b) (fun a => Int.rec (motive := fun _ => Bool) (fun _ => true) (fun b => Nat.blt b a) b) a

def eqI (a b : Int) : Bool := Int.rec (motive := fun _ => Bool) (fun a => Int.rec (motive := fun _ => Bool) (fun b => Nat.beq a b) (fun _ => false) b) (fun a => Int.rec (motive := fun _ => Bool) (fun _ => false) (fun b => Nat.beq a b) b) a

/-- Two numbers of one kind compared. -/
def cmpK (x_ : BinOp) : Option (Int → Int → Bool) := BinOp.rec (motive := fun _ => Option (Int → Int → Bool)) (none) (none) (none) (none) (none) (none) (none) (none) (none) (none) (none) (some eqI) (some fun m m' => not (eqI m m')) (some ltI) (some fun m m' => not (ltI m' m)) (some fun m m' => ltI m' m) (some fun m m' => not (ltI m m')) x_

def kindNo (k : IntKind) : Nat := IntKind.rec (motive := fun _ => Nat) (0) (1) (2) (3) (4) (5) (6) (7) k

/-- The greatest number of a kind. -/
def most (k : IntKind) : Nat := IntKind.rec (motive := fun _ => Nat) (127) (32767) (2147483647) (9223372036854775807) (255) (65535) (4294967295) (18446744073709551615) k

/-- What is left of a number in a kind. -/
def wrapI (k : IntKind) (m : Int) : Int := match intNat m with
  | some a => match Nat.ble a (most k) with | true => .ofNat a | false => k.wrap m
  | none => k.wrap m

/-- Two numbers of one kind that are not negative, where the result is one of them too. -/
def sumK (x_ : BinOp) : Option (Nat → Nat → Option Nat) := BinOp.rec (motive := fun _ => Option (Nat → Nat → Option Nat)) (some fun a b => some (Nat.add a b)) (some fun a b => match Nat.ble b a with | true => some (Nat.sub a b) | false => none) (some fun a b => some (Nat.mul a b)) (some fun a b => match Nat.beq b 0 with | true => none | false => some (Nat.div a b)) (some fun a b => match Nat.beq b 0 with | true => none | false => some (Nat.mod a b)) (none) (some fun a b => some (Nat.lor a b)) (some fun a b => some (Nat.xor a b)) (none) (none) (none) (none) (none) (none) (none) (none) (none) x_

def shiftK (x_ : BinOp) : Option (Nat → Nat → Nat) := BinOp.rec (motive := fun _ => Option (Nat → Nat → Nat)) (none) (none) (none) (none) (none) (none) (none) (none) (some fun a b => Nat.mul a (Nat.pow 2 b)) (some fun a b => Nat.div a (Nat.pow 2 b)) (none) (none) (none) (none) (none) (none) (none) x_

def psF (m : Sem Value) : F Value := optB (psem tab.P m) fun v => ifB (fl v) (.pure v)

def smallF (k : IntKind) (r : Nat) (other : F Value) : F Value := force r fun r => match Nat.ble r (most k) with
  | true => .pure (.int k (.ofNat r))
  | false => other

def arithF (op : BinOp) (t : TypeId) (k : IntKind) (m m' : Int) : F Value :=
  match sumK op, intNat m, intNat m' with
  | some f, some a, some b => match Nat.ble a (most k) && Nat.ble b (most k), f a b with
    | true, some r => smallF k r (psF tab (binOp op t (.int k m) (.int k m')))
    | _, _ => psF tab (binOp op t (.int k m) (.int k m'))
  | _, _, _ => psF tab (binOp op t (.int k m) (.int k m'))

def shiftF (op : BinOp) (f : Nat → Nat → Nat) (t : TypeId) (k : IntKind) (m : Int) (k' : IntKind) (m' : Int) : F Value :=
  match intNat m, intNat m' with
  | some a, some b => match Nat.ble b k.bits with
    | true => smallF k (f a b) (psF tab (binOp op t (.int k m) (.int k' m')))
    | false => psF tab (binOp op t (.int k m) (.int k' m'))
  | _, _ => psF tab (binOp op t (.int k m) (.int k' m'))

def sameF (op : BinOp) (t : TypeId) (k : IntKind) (m : Int) (k' : IntKind) (m' : Int) : F Value :=
  match Nat.beq (kindNo k) (kindNo k') with
  | true => match cmpK op with
    | some f => .pure (.bool (f m m'))
    | none => arithF tab op t k m m'
  | false => psF tab (binOp op t (.int k m) (.int k' m'))

def intF (op : BinOp) (t : TypeId) (k : IntKind) (m : Int) (k' : IntKind) (m' : Int) : F Value :=
  match shiftK op with
  | some f => shiftF tab op f t k m k' m'
  | none => sameF tab op t k m k' m'

/-- A comparison of what is not nil with nil. -/
def nilEq (d : TypeDesc) (x y : Value) : Option Bool := match x, y with
  | .pointer (some _), .pointer none => (match dPtr d with | true => some false | false => none)
  | .slice (some _) _ _, .slice none _ _ => (match dSlice d with | some _ => some false | none => none)
  | .map (some _), .map none => (match dMap d with | some _ => some false | none => none)
  | _, _ => none

def eqOp (op : BinOp) : Option Bool := BinOp.rec (motive := fun _ => Option Bool) (none) (none) (none) (none) (none) (none) (none) (none) (none) (none) (none) (some true) (some false) (none) (none) (none) (none) op

def otherF (op : BinOp) (t : TypeId) (x y : Operand) (a b : Value) : F Value :=
  match eqOp op, (match tab.ty.at_ t with | some i => nilEq i.desc a b | none => none) with
  | some e, some r => .pure (.bool (match e with | true => r | false => not r))
  | _, _ => ifB (fl a && fl b) (psF tab (do eqGuard op t x y a b; binOp op t a b))

def binF (op : BinOp) (t : TypeId) (x y : Operand) (a b : Value) : F Value :=
  match vInt a, vInt b with
  | some k, some k' => intF tab op t k.1 k.2 k'.1 k'.2
  | _, _ => otherF tab op t x y a b

def zeroOf (i : TInfo) (z : Array Value) : Value := match i.agg with | true => .agg z | false => z.getD 0 undef

def mapOf (m : Value) : F (Nat × Array MapEntry × Nat) :=
  optB (vMap m) fun r => optB r fun r => .bind (.rd (.o r)) fun c => optB (mapC c) fun es => .pure (r, es)

def entriesOf (m : Value) : F (Array MapEntry) := .bind (mapOf m) fun y => .pure y.2.1

def foundV (z : Value) (ok : Bool) (r : Option (Nat × Value)) : Value :=
  match r, ok with
  | some x, true => .tuple #[x.2, .bool true]
  | some x, false => x.2
  | none, true => .tuple #[z, .bool false]
  | none, false => z

def keysFl (l : List MapEntry) : Bool := List.rec (motive := fun _ => Bool) true (fun e _ ih => Bool.rec (motive := fun _ => Bool) false ih (fl e.key)) l

def lookupF (t : TypeId) (m k : Value) (ok : Bool) : F Value :=
  tiB tab t fun i => optB (dMap i.desc) fun ke => tiB tab ke.2 fun ei => optB ei.zero fun z => ifB (fl k)
    (.bind (entriesOf m) fun es => ifB (keysFl es.toList) <| optB (psem tab.P (Instr.checkKey es.isEmpty 10000 ke.1 k)) fun _ =>
      optB (psem tab.P (Instr.findKey ke.1 k es.toList)) fun r => .pure (foundV (zeroOf ei z) ok r))

structure Found where
  r : Nat
  es : Array MapEntry
  clock : Nat
  at_ : Option (Nat × Value)

def findF (t : TypeId) (m k : Value) : F Found :=
  tiB tab t fun i => optB (dMap i.desc) fun ke => ifB (fl k) (.bind (mapOf m) fun y => ifB (keysFl y.2.1.toList) <|
    optB (psem tab.P (Instr.checkKey false 10000 ke.1 k)) fun _ => optB (psem tab.P (Instr.findKey ke.1 k y.2.1.toList)) fun f => .pure ⟨y.1, y.2.1, y.2.2, f⟩)

def keyF (es : Array MapEntry) (i : Nat) (k : Value) : F Unit := optB (nth es.toList i) fun e => ifB (Instr.sameBits 10000 e.key k) (.pure ())

def vF (n : Nat) (m : F Value) : F (Out × Nat) := .bind m fun x => .pure (.val x, n)

def notF (op : UnOp) (b : Bool) : F Value := match op with
  | .not => .pure (.bool (match b with | true => false | false => true))
  | _ => .fail

def pickF (rdr : Operand → F Value) (a b : Operand) (c : Value) : F Value := optB (vBool c) fun c => match c with
  | true => rdr a
  | false => rdr b

def ptrTo (n : Nat) : F (Out × Nat) := .pure (.val (.pointer (some ⟨n, 0, none⟩)), Nat.succ n)

def allocF (n : Nat) (i : TInfo) : F (Out × Nat) := optB i.zero fun z => .bind (newRow_ 0 z.toList n) fun _ => ptrTo n

def boxF (n : Nat) (x : Value) : F (Out × Nat) := .bind (newRow_ 0 x.cells.toList n) fun _ => ptrTo n

def placesOf (l : List Field) : Option (List (Nat × Nat)) :=
  List.rec (motive := fun _ => Option (List (Nat × Nat))) (some []) (fun f _ ih => ob (tab.ty.at_ f.type) fun fi => ob ih fun ps => some ((f.offset, fi.size) :: ps)) l

def buildF (n : Nat) (i : TInfo) (ps : List (Nat × Value)) : F (Out × Nat) := optB i.zero fun z => match dStruct i.desc, dArray i.desc with
  | some fields, _ => optB (placesOf tab fields.toList) fun places => optB (Instr.fill (nth places) z ps) fun cells => forceL cells.toList fun l => .pure (.val (.agg (Array.mk l)), n)
  | none, some ne => tiB tab ne.2 fun ei => optB (Instr.fill (fun j => some (j * ei.size, ei.size)) z ps) fun cells => forceL cells.toList fun l => .pure (.val (.agg (Array.mk l)), n)
  | none, none => .fail

def buildSliceF (n : Nat) (len : Nat) (i : TInfo) (ps : List (Nat × Value)) : F (Out × Nat) :=
  optB (dSlice i.desc) fun elem => tiB tab elem fun ei => optB ei.zero fun z => ifB (Nat.ble (len * ei.size) 4096 && (Nat.beq z.size ei.size && Nat.ble len 65536))
    (optB (Instr.fill (fun j => some (j * ei.size, ei.size)) ((Array.range (len * ei.size)).map (z[· % z.size]!)) ps) fun cells =>
      .bind (newRow_ 0 cells.toList n) fun _ => .pure (.val (.slice (some ⟨n, 0, none⟩) len len), Nat.succ n))

def loadF (t : TypeId) (a : Value) : F Value := optB (vPtr a) (loadVar_ tab t)

def storeF (n : Nat) (t : TypeId) (x : Value) (a : Value) : F (Out × Nat) := optB (vPtr a) fun a => .bind (storeVar_ tab t a x) fun _ => .pure (.skip, n)

def nilCheckF (v : Value) : F Value := match v with
  | .pointer (some a) => .pure (.pointer (some a))
  | _ => .fail

def bytesOf : List Value → ByteArray → Option ByteArray
  | [], s => some s
  | v :: l, s => match v with
    | .int .u8 m => bytesOf l (s.push (UInt8.ofNat m.toNat))
    | _ => none

def convIntF (m : Int) (i : TInfo) : F Value := match dInt i.desc with
  | some k' => .pure (.int k' (wrapI k' m))
  | none => .fail

def isU8 : Option IntKind → Bool := fun k => match k with | some .u8 => true | _ => false

def convSliceF (src dst : TypeId) (a : Option Addr) (len : Nat) : F Value := optB (addrOf a) fun a => tiB tab src fun i => tiB tab dst fun j =>
  optB (dSlice i.desc) fun e => ifB (dStr j.desc) (tiB tab e fun ei => ifB (isU8 (dInt ei.desc)) (.bind (loadCells_ a.1 len a.2) fun cs => optB (bytesOf cs ByteArray.empty) fun s => .pure (.string s)))

def convertF (src dst : TypeId) (a : Value) : F Value :=
  match a with
  | .int _ m => tiB tab src fun _ => tiB tab dst (convIntF m)
  | .slice (some a) len _ => convSliceF tab src dst (some a) len
  | _ => .fail

def ifaceF (rdr : Operand → F Value) (t : TypeId) (x : Operand) : F Value := tiB tab t fun i => match dFace i.desc with
  | true => .fail
  | false => .bind (rdr x) fun a => .pure (.iface t a)

def newObjF (n : Nat) (o : Obj) : F (Out × Nat) := .bind (.wr (.o n (some (.obj o)))) fun _ => ptrTo n

def makeSliceF (n l c : Nat) (i : TInfo) : F (Out × Nat) := optB (dSlice i.desc) fun elem => tiB tab elem fun ei => optB ei.zero fun z =>
  ifB (Nat.ble l c && (Nat.ble c 65536 && (Nat.ble ei.bytes 4096 && Nat.beq z.size ei.size)))
    (.bind (newRow_ 0 ((Array.range (c * ei.size)).map (z[· % z.size]!)).toList n) fun _ => .pure (.val (.slice (some ⟨n, 0, none⟩) l c), Nat.succ n))

def opdO (rdr : Operand → F Value) (o : Option Operand) : F (Option Value) := match o with
  | some o => .bind (rdr o) fun v => .pure (some v)
  | none => .pure none

def placeF (a : Nat × Nat) (off : Nat) : F Value := force (Nat.add a.2 off) fun o => .pure (.pointer (some ⟨a.1, o, none⟩))

def fieldAddrF (s : TypeId) (f : Nat) (x : Value) : F Value :=
  optB (vPtr x) fun a => tiB tab s fun i => optB (dStruct i.desc) fun fields => optB (nth fields.toList f) fun fd => tiB tab fd.type fun fi => ifB (Nat.ble 1 fi.size) (placeF a fd.offset)

def fieldF (t : TypeId) (f : Nat) (x : Value) : F Value :=
  optB (vAgg x) fun cs => tiB tab t fun i => optB (dStruct i.desc) fun fields => optB (nth fields.toList f) fun fd => part_ tab fd.type cs fd.offset

def indexPtr (i : TInfo) (x : Value) (j : Nat) : F Value := optB (vPtr x) fun a => optB (dArray i.desc) fun ne => tiB tab ne.2 fun ei => ifB (Nat.blt j ne.1) (placeF a (Nat.mul j ei.size))
def indexSl (i : TInfo) (s : Option Addr × Nat × Nat) (j : Nat) : F Value := optB (addrOf s.1) fun a => optB (dSlice i.desc) fun e => tiB tab e fun ei => ifB (Nat.blt j s.2.1) (placeF a (Nat.mul j ei.size))

def indexAddrF (t : TypeId) (x : Value) (j : Nat) : F Value := tiB tab t fun i => match vSlice x with
  | some s => indexSl tab i s j
  | none => indexPtr tab i x j

def indexF (t : TypeId) (x : Value) (j : Nat) : F Value := tiB tab t fun i => optB (vStr x) fun s => ifB (dStr i.desc) (optB s[j]? fun b => .pure (.int .u8 b.toNat))

def putMap (r : Nat) (es : Array MapEntry) (clock : Nat) : F Unit := .wr (.o r (some (.obj (.map es clock))))

def mapUpdateF (n : Nat) (k x : Value) (y : Found) : F (Out × Nat) := match y.at_ with
  | some f => .bind (keyF y.es f.1 k) fun _ => .bind (putMap y.r (y.es.modify f.1 fun e => { e with key := k, val := x }) y.clock) fun _ => .pure (.skip, n)
  | none => .bind (putMap y.r (y.es.push { key := k, val := x, born := y.clock }) (y.clock + 1)) fun _ => .pure (.skip, n)

def mapEntryF (n : Nat) (t : TypeId) (k : Value) (y : Found) : F (Out × Nat) := match y.at_ with
  | some f => .bind (keyF y.es f.1 k) fun _ => .bind (putMap y.r (y.es.modify f.1 fun e => { e with key := k }) y.clock) fun _ =>
    .pure (.val (.tuple #[f.2, goInt (((nth y.es.toList f.1).map (·.born)).getD 0)]), n)
  | none => tiB tab t fun ti_ => optB (dMap ti_.desc) fun ke => tiB tab ke.2 fun ei => optB ei.zero fun z =>
    .bind (putMap y.r (y.es.push { key := k, val := zeroOf ei z, born := y.clock }) (y.clock + 1)) fun _ => .pure (.val (.tuple #[zeroOf ei z, goInt y.clock]), n)

def entryStoreF (n : Nat) (m s x : Value) : F (Out × Nat) := .bind (mapOf m) fun y => optB (vInt s) fun born =>
  optB (y.2.1.findIdx? (fun e => (e.born : Int) == born.2)) fun i => .bind (putMap y.1 (y.2.1.modify i fun e => { e with val := x }) y.2.2) fun _ => .pure (.skip, n)

def rangeMap (n : Nat) (r : Option Nat) : F (Out × Nat) := optB r fun m => .bind (mapOf (.map (some m))) fun y => newObjF n (.mapIter (some m) y.2.2 #[] y.2.2)

def rangeF (n : Nat) (t : TypeId) (x : Value) : F (Out × Nat) := tiB tab t fun i => match vStr x with
  | some s => ifB (dStr i.desc) (newObjF n (.stringIter s 0))
  | none => optB (vMap x) fun r => optB (dMap i.desc) fun _ => rangeMap n r

def iterOf (v : Value) : F (Nat × Obj) := optB (vPtr v) fun a => ifB (Nat.beq a.2 0) (.bind (.rd (.o a.1)) fun c => optB (objC c) fun o => .pure (a.1, o))

def overF : F Value := .pure (.tuple #[.bool false])

def nextStringF (r : Nat) (s : ByteArray) (pos : Nat) : F Value := match Nat.blt pos s.size with
  | true => .bind (.wr (.o r (some (.obj (.stringIter s (pos + (Utf8.decode s pos).2)))))) fun _ => .pure (.tuple #[.bool true, goInt pos, .int .i32 (Utf8.decode s pos).1])
  | false => overF

def candidatesOf (es : Array MapEntry) (since : Nat) (seen : Array Nat) : Array (Option MapEntry) :=
  let left := es.filter fun e => !seen.contains e.born
  let old := left.filter (·.born < since)
  let new := left.filter (·.born ≥ since)
  (if old.isEmpty then #[none] else #[]) ++ (old ++ new).map some

def nextMapF (r m since : Nat) (seen : Array Nat) (last : Nat) (es : Array MapEntry) (clock : Nat) : F Value :=
  ifB (!(!seen.isEmpty && !es.isEmpty && es.all (·.born ≥ last))) (ifB (Nat.ble (candidatesOf es since seen).size 1) (match nth (candidatesOf es since seen).toList 0 with
    | some (some e) => .bind (.wr (.o r (some (.obj (.mapIter (some m) since (seen.push e.born) clock))))) fun _ => .pure (.tuple #[.bool true, e.key, e.val])
    | some none => overF
    | none => .fail))

def nextF (isString : Bool) (y : Nat × Obj) : F Value := match y.2, isString with
  | .stringIter s pos, true => nextStringF y.1 s pos
  | .mapIter (some m) since seen last, false => .bind (mapOf (.map (some m))) fun z => nextMapF y.1 m since seen last z.2.1 z.2.2
  | _, _ => .fail

def entryF (y : Nat × Obj) : F Value := match y.2 with
  | .mapIter (some m) _ seen stepped => optB seen.back? fun stamp => .bind (mapOf (.map (some m))) fun z => ifB (Nat.beq z.2.2 stepped) (optB (z.2.1.find? (·.born == stamp)) fun e => .pure (.tuple #[e.key, e.val]))
  | _ => .fail

def assertF (asserted : TypeId) (ok : Bool) (x : Value) : F Value := match x, ok with
  | .iface t w, false => tiB tab asserted fun i => match dFace i.desc, Nat.beq t asserted with
    | false, true => .pure w
    | _, _ => .fail
  | _, _ => .fail

def extractF (ix : Nat) (v : Value) : F Value := optB (vTuple v) fun vs => opt (nth vs.toList ix)

def lenF (i : TInfo) (x : Value) : F Value := match x with
  | .slice _ k _ => optB (dSlice i.desc) fun _ => .pure (.int .i64 (.ofNat k))
  | .string s => ifB (dStr i.desc) (.pure (.int .i64 (.ofNat s.size)))
  | _ => .fail

def copyF (i : TInfo) (args : List Value) : F Value := match args with
  | [d, x] => optB (vSlice d) fun d => optB (dSlice i.desc) fun elem => tiB tab elem fun ei => .bind (srcF ei.size (fun k => Nat.min k d.2.1) x) fun kc =>
    .bind (intoF d.1 0 kc.2) fun _ => .pure (.int .i64 (.ofNat kc.1))
  | _ => .fail

def argType {β : Type} (c : Call) (f : TInfo → F β) : F β := optB (nth c.argTypes.toList 0) fun t => tiB tab t f

def headF {β : Type} (args : List Value) (f : Value → F β) : F β := match args with
  | [] => .fail
  | x :: _ => f x

def builtinK (x_ : Builtin) : Tab → Call → TypeId → Nat → List Value → F (Out × Nat) := Builtin.rec (motive := fun _ => Tab → Call → TypeId → Nat → List Value → F (Out × Nat)) (fun tab c _ n args => .bind (appendF tab c.argTypes args n) fun x => .pure (.val x.1, x.2)) (fun _ _ _ _ _ => .fail) (fun _ _ _ _ _ => .fail) (fun _ _ _ _ _ => .fail) (fun _ _ _ _ _ => .fail) (fun tab c _ n args => vF n (argType tab c fun i => copyF tab i args)) (fun _ _ _ _ _ => .fail) (fun _ _ _ _ _ => .fail) (fun tab c _ n args => vF n (headF args fun x => argType tab c fun i => lenF i x)) (fun _ _ _ _ _ => .fail) (fun tab c type n args => vF n (ifB (allB fl args) (psF tab (Builtin.max_ c.argTypes type args.toArray)))) (fun tab c type n args => vF n (ifB (allB fl args) (psF tab (Builtin.min_ c.argTypes type args.toArray)))) (fun _ _ _ _ _ => .fail) (fun _ _ _ _ _ => .fail) (fun _ _ _ _ _ => .fail) (fun _ _ _ _ _ => .fail) (fun _ _ _ _ _ => .fail) (fun _ _ _ n _ => .pure (.recover, n)) (fun _ _ _ _ _ => .fail) (fun _ _ _ _ _ => .fail) (fun _ _ _ _ _ => .fail) (fun _ _ _ _ _ => .fail) (fun _ _ _ _ _ => .fail) (fun _ _ _ _ _ => .fail) (fun _ _ _ _ _ => .fail) (fun _ _ _ _ _ => .fail) x_

def callVF (rdr : Operand → F Value) (n : Nat) (c : Call) (f : Value) : F (Out × Nat) :=
  optB (vFunc f) fun f => .bind (opds rdr c.args.toList) fun args => targetK f.1 tab (f.2.1.toList ++ args) f.2.2.toList n

def calleeK (x_ : Callee) : Tab → (Operand → F Value) → Call → TypeId → Nat → F (Out × Nat) := Callee.rec (motive := fun _ => Tab → (Operand → F Value) → Call → TypeId → Nat → F (Out × Nat)) (fun f => fun tab rdr c _ n => .bind (rdr f) (callVF tab rdr n c)) (fun recv name => fun tab rdr c _ n => .bind (rdr recv) fun r => .bind (opds rdr c.args.toList) fun args => targetK (.method name) tab (r :: args) [] n) (fun b => fun tab rdr c type n => .bind (opds rdr c.args.toList) (builtinK b tab c type n)) x_

def fnOnly (f : Fn) : Option FuncId := Fn.rec (motive := fun _ => Option FuncId) (fun g => some g) (fun _ => none) (fun _ _ => none) (fun _ _ _ _ => none) (fun _ => none) f

def deferF (rdr : Operand → F Value) (c : Call) (n : Nat) : F (Out × Nat) := match c.callee with
  | .value f => .bind (rdr f) fun f => optB (vFunc f) fun f => optB (fnOnly f.1) fun g => .bind (opds rdr c.args.toList) fun args => .pure (.defer { target := .fn (.func g) f.2.2, args := f.2.1 ++ args.toArray }, n)
  | _ => .fail

def partsOf (parts : Array (Nat × Operand)) : List Operand := parts.toList.map (·.2)
def partNos (parts : Array (Nat × Operand)) : List Nat := parts.toList.map (·.1)

def opK (x_ : Op) : Tab → (Operand → F Value) → TypeId → Nat → F (Out × Nat) := Op.rec (motive := fun _ => Tab → (Operand → F Value) → TypeId → Nat → F (Out × Nat)) (fun x => fun _ rdr _ n => vF n (rdr x)) (fun x => fun _ rdr _ n => vF n (rdr x)) (fun c a b => fun _ rdr _ n => vF n (.bind (rdr c) (pickF rdr a b))) (fun elem => fun tab _ _ n => tiB tab elem (allocF n)) (fun _ x => fun _ rdr _ n => .bind (rdr x) (boxF n)) (fun t parts => fun tab rdr _ n => tiB tab t fun i => .bind (opds rdr (partsOf parts)) fun vs => buildF tab n i ((partNos parts).zip vs)) (fun t len parts => fun tab rdr _ n => tiB tab t fun i => .bind (opds rdr (partsOf parts)) fun vs => buildSliceF tab n len i ((partNos parts).zip vs)) (fun _ _ _ _ => fun _ _ _ _ => .fail) (fun t a => fun tab rdr _ n => vF n (.bind (rdr a) (loadF tab t))) (fun t a x => fun tab rdr _ n => .bind (rdr a) fun a => .bind (rdr x) fun x => storeF tab n t x a) (fun _ => fun _ _ _ _ => .fail) (fun _ => fun _ _ _ _ => .fail) (fun x => fun _ rdr _ n => vF n (.bind (rdr x) nilCheckF)) (fun op t x y _ => fun tab rdr _ n => vF n (.bind (rdr x) fun a => .bind (rdr y) fun b => binF tab op t x y a b)) (fun op _ x => fun _ rdr _ n => vF n (.bind (rdr x) fun a => optB (vBool a) (notF op))) (fun src dst x => fun tab rdr _ n => vF n (.bind (rdr x) (convertF tab src dst))) (fun _ _ => fun _ _ _ _ => .fail) (fun t x => fun tab rdr _ n => vF n (ifaceF tab rdr t x)) (fun fn first captured => fun _ rdr _ n => vF n (ifB (notYield fn) (.bind (opds rdr first.toList) fun a => .bind (opds rdr captured.toList) fun b => .pure (.func fn a.toArray b.toArray)))) (fun _ r => fun _ _ _ n => ifB r.isNone (.bind (putMap n #[] 0) fun _ => .pure (.val (.map (some n)), Nat.succ n))) (fun _ _ => fun _ _ _ _ => .fail) (fun t l c => fun tab rdr _ n => .bind (rdr l) fun l => .bind (rdr c) fun c => optB (vNat l) fun l => optB (vNat c) fun c => tiB tab t (makeSliceF tab n l c)) (fun t x lo hi mx => fun tab rdr _ n => vF n (.bind (rdr x) fun x => .bind (opdO rdr lo) fun lo => .bind (opdO rdr hi) fun hi => .bind (opdO rdr mx) fun mx => sliceF tab t x lo hi mx)) (fun s x f => fun tab rdr _ n => vF n (.bind (rdr x) (fieldAddrF tab s f))) (fun t x f => fun tab rdr _ n => vF n (.bind (rdr x) (fieldF tab t f))) (fun t x ix => fun tab rdr _ n => vF n (.bind (rdr x) fun x => .bind (rdr ix) fun j => optB (vNat j) (indexAddrF tab t x))) (fun t x ix => fun tab rdr _ n => vF n (.bind (rdr x) fun x => .bind (rdr ix) fun j => optB (vNat j) (indexF tab t x))) (fun t x ix ok => fun tab rdr _ n => vF n (.bind (rdr x) fun m => .bind (rdr ix) fun k => lookupF tab t m k ok)) (fun t m k x => fun tab rdr _ n => .bind (rdr m) fun m => .bind (rdr k) fun k => .bind (rdr x) fun x => .bind (findF tab t m k) (mapUpdateF n k x)) (fun t m k => fun tab rdr _ n => .bind (rdr m) fun m => .bind (rdr k) fun k => .bind (findF tab t m k) (mapEntryF tab n t k)) (fun _ m s x => fun _ rdr _ n => .bind (rdr m) fun m => .bind (rdr s) fun s => .bind (rdr x) fun x => entryStoreF n m s x) (fun t x => fun tab rdr _ n => .bind (rdr x) (rangeF tab n t)) (fun it isString => fun _ rdr _ n => vF n (.bind (rdr it) fun v => .bind (iterOf v) (nextF isString))) (fun it => fun _ rdr _ n => vF n (.bind (rdr it) fun v => .bind (iterOf v) entryF)) (fun x _ asserted ok => fun tab rdr _ n => vF n (.bind (rdr x) (assertF tab asserted ok))) (fun t ix => fun _ rdr _ n => vF n (.bind (rdr t) (extractF ix))) (fun c => fun tab rdr type n => calleeK c.callee tab rdr c type n) (fun _ => fun _ _ _ _ => .fail) (fun c => fun _ rdr _ n => deferF rdr c n) (fun _ => fun _ _ _ _ => .fail) (fun _ _ => fun _ _ _ _ => .fail) (fun _ _ _ => fun _ _ _ _ => .fail) (fun _ _ => fun _ _ _ _ => .fail) x_

def opF (rdr : Operand → F Value) (o : Oper) (n : Nat) : F (Out × Nat) := opK o.op tab rdr o.type n
end

inductive AIt where
  | code (c : Code)
  | inBlock (id : Nat)
  | inLoop (body : Code)
  | inScope (body : Code)
  | ops (all : Array Oper) (i : Nat) (rest : List Oper)
  | inRangeFunc (l : Nat)
  | endRangeFunc (l : Nat)
  | beginRound

structure Fr where
  fn : FuncId
  T : Trie Value
  todo : List AIt
  defers : List Deferred
  ret : Bool
  kind : CallKind
  roundOf : Option Nat
  nt : Nat

def argsT (l : List Value) : Nat → Trie Value → Trie Value :=
  List.rec (motive := fun _ => Nat → Trie Value → Trie Value) (fun _ T => T) (fun v _ ih i T => ih (Nat.succ i) (T.put i (some v))) l

def enterFr (fn : Func) (f : FuncId) (args : List Value) (kind : CallKind) : Option Fr :=
  match fn.body with
  | some c => some { fn := f, T := argsT args 0 .nil, todo := [.code c], defers := [], ret := false, kind, roundOf := none, nt := fn.ntmps }
  | none => none

def dstOk (nt : Nat) (d : Option Tmp) : Bool := Option.rec (motive := fun _ => Bool) true (fun d => Nat.blt d nt) d
def dstsOk (nt : Nat) (l : List Oper) : Bool := List.rec (motive := fun _ => Bool) true (fun o _ ih => Bool.rec (motive := fun _ => Bool) false ih (dstOk nt o.dst)) l
def tmpsOk (nt : Nat) (l : List Tmp) : Bool := List.rec (motive := fun _ => Bool) true (fun d _ ih => Bool.rec (motive := fun _ => Bool) false ih (Nat.blt d nt)) l

def putDst (T : Trie Value) (d : Option Tmp) (v : Value) : Trie Value := Option.rec (motive := fun _ => Trie Value) T (fun d => T.put d (some v)) d

/-- The frame behind a call that handed back v. -/
def finishFr (fr : Fr) (v : Value) : Option Fr :=
  match fr.todo with
  | .ops all i (o :: rest) :: k => some { fn := fr.fn, T := putDst fr.T o.dst v, todo := .ops all (Nat.succ i) rest :: k, defers := fr.defers, ret := fr.ret, kind := fr.kind, roundOf := fr.roundOf, nt := fr.nt }
  | .inRangeFunc l :: k => some { fr with todo := .endRangeFunc l :: k }
  | _ => none

def exitA (id : Nat) : List AIt → Option (List AIt)
  | [] => none
  | it :: k => match it with
    | .inBlock id' => match Nat.beq id' id with | true => some k | false => exitA id k
    | _ => exitA id k

def boolIs (want : Bool) (c : Option Value) : Bool := match c with
  | some (.bool b) => (match b, want with | true, true => true | false, false => true | _, _ => false)
  | _ => false

def guardDst (all : Array Oper) (j : Nat) : Option Tmp := match nth all.toList j with
  | some o => o.dst
  | none => none

def wantedT (all : Array Oper) (T : Trie Value) (g : Option (Nat × Bool)) : Bool :=
  match g with
  | none => true
  | some g => match guardDst all g.1 with
    | some d => boolIs g.2 (T.at_ d)
    | none => false

def wantedF (all : Array Oper) (g : Option (Nat × Bool)) : F Bool :=
  match g with
  | none => .pure true
  | some g => match guardDst all g.1 with
    | some d => .bind (.rd (.t d)) fun c => .pure (boolIs g.2 (valC c))
    | none => .pure false

def bitAt (l : List Nat) (i : Nat) : Nat := List.rec (motive := fun _ => Nat → Nat) (fun _ => 0) (fun a _ ih i => Nat.rec (motive := fun _ => Nat) a (fun i _ => ih i) i) l i

/-- What stands before an operation, as bits: acc has it for the operations before it. -/
def maskOf (acc : List Nat) (l : List Edge) : Nat :=
  List.rec (motive := fun _ => Nat) 0 (fun e _ ih => match Region.binds .any e with | true => Nat.lor (Nat.lor (Nat.pow 2 e.on) (bitAt acc e.on)) ih | false => ih) l

def masks : List Oper → List Nat → List Nat
  | [], acc => acc
  | o :: l, acc => masks l (acc ++ [maskOf acc o.after.toList])

def precB (ms : List Nat) (i j : Nat) : Bool := Nat.beq (Nat.mod (Nat.div (bitAt ms j) (Nat.pow 2 i)) 2) 1

/-- Whether one writes what the other reads or writes. -/
def conflB (a b : M) : Bool :=
  match Nat.beq (Nat.land a.wh (Nat.lor b.rh b.wh)) 0 && (Nat.beq (Nat.land b.wh a.rh) 0 && (Nat.beq (Nat.land a.wt (Nat.lor b.rt b.wt)) 0 && Nat.beq (Nat.land b.wt a.rt) 0)) with
  | true => false
  | false => true

def apartGo (pr : Nat → Nat → Bool) (i : Nat) (t : M) (l : List (Nat × M)) : Bool :=
  List.rec (motive := fun _ => Bool) true (fun u _ ih => Bool.rec (motive := fun _ => Bool) ih (Bool.rec (motive := fun _ => Bool) false ih (pr i u.1)) (conflB t u.2)) l

/-- Whether each two that meet stand in this order. -/
def apartB (pr : Nat → Nat → Bool) (l : List (Nat × M)) : Bool :=
  List.rec (motive := fun _ => Bool) true (fun t l ih => Bool.rec (motive := fun _ => Bool) false ih (apartGo pr t.1 t.2 l)) l

def numbered (l : List Oper) : Nat → List (Nat × Oper) :=
  List.rec (motive := fun _ => Nat → List (Nat × Oper)) (fun _ => []) (fun o _ ih i => (i, o) :: ih (Nat.succ i)) l

def isLookup (o : Op) : Bool := Op.rec (motive := fun _ => Bool) (fun _ => false) (fun _ => false) (fun _ _ _ => false) (fun _ => false) (fun _ _ => false) (fun _ _ => false) (fun _ _ _ => false) (fun _ _ _ _ => false) (fun _ _ => false) (fun _ _ _ => false) (fun _ => false) (fun _ => false) (fun _ => false) (fun _ _ _ _ _ => false) (fun _ _ _ => false) (fun _ _ _ => false) (fun _ _ => false) (fun _ _ => false) (fun _ _ _ => false) (fun _ _ => false) (fun _ _ => false) (fun _ _ _ => false) (fun _ _ _ _ _ => false) (fun _ _ _ => false) (fun _ _ _ => false) (fun _ _ _ => false) (fun _ _ _ => false) (fun _ _ _ _ => true) (fun _ _ _ _ => false) (fun _ _ _ => false) (fun _ _ _ _ => false) (fun _ _ => false) (fun _ _ => false) (fun _ => false) (fun _ _ _ _ => false) (fun _ _ => false) (fun _ => false) (fun _ => false) (fun _ => false) (fun _ => false) (fun _ _ => false) (fun _ _ _ => false) (fun _ _ => false) o
def isEntry (o : Op) : Bool := Op.rec (motive := fun _ => Bool) (fun _ => false) (fun _ => false) (fun _ _ _ => false) (fun _ => false) (fun _ _ => false) (fun _ _ => false) (fun _ _ _ => false) (fun _ _ _ _ => false) (fun _ _ => false) (fun _ _ _ => false) (fun _ => false) (fun _ => false) (fun _ => false) (fun _ _ _ _ _ => false) (fun _ _ _ => false) (fun _ _ _ => false) (fun _ _ => false) (fun _ _ => false) (fun _ _ _ => false) (fun _ _ => false) (fun _ _ => false) (fun _ _ _ => false) (fun _ _ _ _ _ => false) (fun _ _ _ => false) (fun _ _ _ => false) (fun _ _ _ => false) (fun _ _ _ => false) (fun _ _ _ _ => false) (fun _ _ _ _ => false) (fun _ _ _ => true) (fun _ _ _ _ => false) (fun _ _ => false) (fun _ _ => false) (fun _ => false) (fun _ _ _ _ => false) (fun _ _ => false) (fun _ => false) (fun _ => false) (fun _ => false) (fun _ => false) (fun _ _ => false) (fun _ _ _ => false) (fun _ _ => false) o

/-- The first map read that stands before a map write with no order between them. -/
def swapAt (ms : List Nat) (i : Nat) (l : List (Nat × Oper)) : Option (Nat × Nat) :=
  List.rec (motive := fun _ => Option (Nat × Nat)) none (fun u _ ih => Bool.rec (motive := fun _ => Option (Nat × Nat)) ih (Bool.rec (motive := fun _ => Option (Nat × Nat)) (some (i, u.1)) ih (precB ms i u.1)) (isEntry u.2.op)) l
def swapOf (ms : List Nat) (l : List (Nat × Oper)) : Option (Nat × Nat) :=
  List.rec (motive := fun _ => Option (Nat × Nat)) none (fun u l ih => Bool.rec (motive := fun _ => Option (Nat × Nat)) ih (Option.rec (motive := fun _ => Option (Nat × Nat)) ih (fun x => some x) (swapAt ms u.1 l)) (isLookup u.2.op)) l

def goesFirst (ms : List Nat) (j : Nat) (x : Nat × Oper) : Bool := match Nat.beq x.1 j with | true => true | false => precB ms x.1 j
def early (ms : List Nat) (j : Nat) (l : List (Nat × Oper)) : List (Nat × Oper) := l.filter (goesFirst ms j) ++ l.filter fun x => !goesFirst ms j x
def precOr (ms : List Nat) (i j : Nat) (a b : Nat) : Bool := match precB ms a b with | true => true | false => match Nat.beq a i with | true => Nat.beq b j | false => false

section
variable (tab : Tab)

def putT (d : Option Tmp) (v : Value) : F Unit := match d with
  | some d => .wr (.t d (some v))
  | none => .pure ()

inductive Res where
  | done (v : Value) (n : Nat)
  | next (frs : List Fr) (n : Nat)

/-- A value goes back out of a frame of this kind. -/
def backF (kind : CallKind) (cs : List Fr) (v : Value) (n : Nat) : F Res :=
  match kind, cs with
  | .normal, c :: cs => optB (finishFr c v) fun c => .pure (.next (c :: cs) n)
  | .deferred, c :: cs => ifB c.ret (.pure (.next (c :: cs) n))
  | _, _ => .fail


def retFr (fr : Fr) : Fr := { fn := fr.fn, T := fr.T, todo := [], defers := fr.defers, ret := true, kind := fr.kind, roundOf := none, nt := fr.nt }

def isRet : Option Code → Bool := fun j => match j with | none => true | some .ret => true | _ => false

/-- The frame is left: at its end, by a return, or by a jump to a block that is not its own. -/
def leaveF (fr : Fr) (cs : List Fr) (jump : Option Code) (n : Nat) : F Res :=
  match fr.roundOf with
  | none => ifB (isRet jump) (.pure (.next (retFr fr :: cs) n))
  | some l => .bind (loopOf l) fun r =>
    .bind (.wr (.o l (some (.loop { r.1 with state := if jump.isNone then .ready else .done, pending := jump } r.2.1 r.2.2)))) fun _ =>
    backF fr.kind cs (.bool jump.isNone) n

def paramsT : List Tmp → List Value → Trie Value → Trie Value
  | p :: ps, v :: vs, T => paramsT ps vs (T.put p (some v))
  | _, _, T => T

def roundFr (l : Nat) (r : Loop) (T : Trie Value) (nt : Nat) (args : List Value) : Fr :=
  { fn := r.fn, T := paramsT r.params.toList args T, todo := [.code r.assign, .beginRound, .code r.body], defers := [], ret := false, kind := .normal, roundOf := some l, nt }

def mkFr (fr : Fr) (T : Trie Value) (todo : List AIt) (defers : List Deferred) : Fr :=
  { fn := fr.fn, T, todo, defers, ret := false, kind := fr.kind, roundOf := fr.roundOf, nt := fr.nt }

def toF (fr : Fr) (cs : List Fr) (n : Nat) (todo : List AIt) : F Res := .pure (.next (mkFr fr fr.T todo fr.defers :: cs) n)

def frameF (f : FuncId) (args : List Value) (kind : CallKind) : F Fr := optB (tab.fn.at_ f) fun fn => opt (enterFr fn f args kind)

def recoverB (fr : Fr) (cs : List Fr) : Bool := match fr.roundOf, fr.kind, cs with
  | none, .deferred, c :: _ => c.ret
  | _, _, _ => false

/-- What an operation that is no plain one comes to: fr stands before it. -/
def outF (fr : Fr) (cs : List Fr) (n : Nat) (all : Array Oper) (i : Nat) (o : Oper) (rest : List Oper) (k : List AIt) (x : Out) : F Res := match x with
  | .enter f args => .bind (frameF tab f args .normal) fun e => .pure (.next (e :: fr :: cs) n)
  | .round l r T nt args => .pure (.next (roundFr l r T nt args :: fr :: cs) n)
  | .defer d => match fr.roundOf with
    | none => .pure (.next (mkFr fr (putDst fr.T o.dst undef) (.ops all (Nat.succ i) rest :: k) (d :: fr.defers) :: cs) n)
    | some _ => .fail
  | .recover => ifB (recoverB fr cs) (.pure (.next (mkFr fr (putDst fr.T o.dst .nilIface) (.ops all (Nat.succ i) rest :: k) fr.defers :: cs) n))
  | _ => .fail

def plainOut (x_ : Out) : Option Value := Out.rec (motive := fun _ => Option Value) (fun v => some v) (some undef) (fun _ _ => none) (fun _ _ _ _ _ => none) (fun _ => none) (none) x_

/-- The operations of a statement in their order, up to the first that is no plain one. -/
def opsF (fr : Fr) (cs : List Fr) (all : Array Oper) (k : List AIt) (l : List Oper) : Nat → Trie Value → Nat → F Res :=
  List.rec (motive := fun _ => Nat → Trie Value → Nat → F Res)
    (fun _ T n => .pure (.next (mkFr fr T k fr.defers :: cs) n))
    (fun o rest ih i T n => Bool.rec (motive := fun _ => F Res)
      (ih (Nat.succ i) (putDst T o.dst undef) n)
      (.bind (opF tab (opdT T) o n) fun x => ifB (Nat.ble n x.2) <| force x.2 fun n => Option.rec (motive := fun _ => F Res)
        (outF tab (mkFr fr T (.ops all i (o :: rest) :: k) fr.defers) cs n all i o rest k x.1)
        (fun v => ih (Nat.succ i) (putDst T o.dst v) n) (plainOut x.1))
      (wantedT all T o.guard)) l

variable (sub : Fr → Nat → F (Value × Nat))

def regOut (d : Option Tmp) (x : Out × Nat) : F Nat := match x.1 with
  | .val v => .bind (putT d v) fun _ => .pure x.2
  | .skip => .bind (putT d undef) fun _ => .pure x.2
  | .enter f args => .bind (frameF tab f args .normal) fun e => .bind (sub e x.2) fun r => .bind (putT d r.1) fun _ => .pure r.2
  | _ => .fail

def regIf (o : Oper) (n : Nat) (w : Bool) : F Nat := match w with
  | false => .bind (putT o.dst undef) fun _ => .pure n
  | true => .bind (opF tab opd o n) (regOut tab sub o.dst)

/-- An operation of a statement that draws its order. -/
def regOp (all : Array Oper) (o : Oper) (n : Nat) : F Nat := .bind (wantedF all o.guard) (regIf tab sub o n)

def regOps (all : Array Oper) (l : List (Nat × Oper)) : Nat → F (Nat × List (Nat × M)) :=
  List.rec (motive := fun _ => Nat → F (Nat × List (Nat × M))) (fun n => .pure (n, []))
    (fun o _ ih n => .bind (.traced (regOp tab sub all o.2 n)) fun x => ifB (Nat.ble n x.1) <| .bind (force x.1 ih) fun y => .pure (y.1, (o.1, x.2) :: y.2)) l

/-- A statement's operations in this order, if each two that meet stand in the order pr. -/
def regChk (all : Array Oper) (pr : Nat → Nat → Bool) (l : List (Nat × Oper)) (n : Nat) : F Nat :=
  .bind (regOps tab sub all l n) fun x => ifB (apartB pr x.2) (.pure x.1)

def regRun (all : Array Oper) (ms : List Nat) (l : List (Nat × Oper)) (n : Nat) (o : Option (Nat × Nat)) : F Nat := match o with
  | none => regChk tab sub all (precB ms) l n
  | some x => ifB (Nat.blt x.1 x.2) (.both (regChk tab sub all (precOr ms x.1 x.2) l n) (regChk tab sub all (precOr ms x.2 x.1) (early ms x.2 l) n) Nat.beq)

def edgeOk (i : Nat) (l : List Edge) : Bool := List.rec (motive := fun _ => Bool) true (fun e _ ih => Bool.rec (motive := fun _ => Bool) ih (Bool.rec (motive := fun _ => Bool) false ih (Nat.blt e.on i)) (Region.binds .any e)) l
/-- Each edge comes from an operation further ahead. -/
def edgesOk (l : List (Nat × Oper)) : Bool := List.rec (motive := fun _ => Bool) true (fun o _ ih => Bool.rec (motive := fun _ => Bool) false ih (edgeOk o.1 o.2.after.toList)) l

def drawL (fr : Fr) (cs : List Fr) (n : Nat) (k : List AIt) (all : Array Oper) (ms : List Nat) (l : List (Nat × Oper)) : F Res :=
  ifB (edgesOk l) <| .bind (.localT fr.T (regRun tab sub all ms l n (swapOf ms l))) fun x => .pure (.next (mkFr fr x.2 k fr.defers :: cs) x.1)

def drawF (fr : Fr) (cs : List Fr) (n : Nat) (k : List AIt) (all : Array Oper) : F Res :=
  drawL tab sub fr cs n k all (masks all.toList []) (numbered all.toList 0)

def resF (T : Trie Value) (r : ResultVar) : F Value := match r with
  | .tmp t => opt (T.at_ t)
  | .cell a t => optB (T.at_ a) (loadF tab t)

def resFs (T : Trie Value) : List ResultVar → F (List Value)
  | [] => .pure []
  | r :: l => .bind (resF tab T r) fun v => .bind (resFs T l) fun vs => .pure (v :: vs)

def tupleOf : List Value → Value
  | [v] => v
  | vs => .tuple (Array.mk vs)

def handF (fr : Fr) (cs : List Fr) (n : Nat) (v : Value) : F Res := match cs with
  | [] => match fr.kind with | .normal => .pure (.done v n) | _ => .fail
  | c :: cs => backF fr.kind (c :: cs) v n

def deferFr (fr : Fr) (ds : List Deferred) : Fr := { fr with defers := ds }


def deferredK (x_ : Target) : Tab → Fr → List Fr → Nat → Array Value → List Deferred → F Res := Target.rec (motive := fun _ => Tab → Fr → List Fr → Nat → Array Value → List Deferred → F Res) (fun f captured => fun tab fr cs n args ds => optB (fnOnly f) fun f => .bind (frameF tab f (args.toList ++ captured.toList) .deferred) fun e => .pure (.next (e :: deferFr fr ds :: cs) n)) (fun _ _ _ _ _ _ => .fail) (fun _ _ _ _ => fun _ _ _ _ _ _ => .fail) (fun b => fun _ fr cs n _ ds => .bind (.rd (.o b)) fun c => optB (deferC c) fun _ => .bind (.wr (.o b (some (.obj (.deferred none))))) fun _ => .pure (.next (deferFr fr ds :: cs) n)) (fun _ => fun _ _ _ _ _ _ => .fail) x_

/-- A frame that returns: its deferred calls, then its results. -/
def retF (fr : Fr) (cs : List Fr) (n : Nat) : F Res := match fr.defers with
  | d :: ds => deferredK d.target tab fr cs n d.args ds
  | [] => match fr.roundOf with
    | none => optB (tab.fn.at_ fr.fn) fun fn => .bind (resFs tab fr.T fn.results.toList) fun vs => handF fr cs n (tupleOf vs)
    | some _ => .fail

def condF (fr : Fr) (cs : List Fr) (n : Nat) (k : List AIt) (a b : Code) (v : Value) : F Res := optB (vBool v) fun c => match c with
  | true => toF fr cs n (.code a :: k)
  | false => toF fr cs n (.code b :: k)

def exitF (fr : Fr) (cs : List Fr) (n : Nat) (id : Nat) (o : Option (List AIt)) : F Res := match o with
  | some k => toF fr cs n k
  | none => leaveF fr cs (some (.exit id)) n

def markF (n : Nat) (r : Option Nat) : F (Nat × List Deferred × Nat) := match r with
  | some l => .bind (loopOf l) fun r => .pure (r.1.defers, [], n)
  | none => .bind (.wr (.o n (some (.obj (.deferred (some [])))))) fun _ => .pure (n, [{ target := .collected n, args := #[] }], Nat.succ n)


def rangeFuncF (fr : Fr) (cs : List Fr) (n : Nat) (k : List AIt) (params : Array Tmp) (assign body : Code) (v : Value) : F Res :=
  optB (vFunc v) fun f => optB (fnOnly f.1) fun g => ifB (tmpsOk fr.nt params.toList) <| .bind (markF n fr.roundOf) fun y =>
    .bind (.wr (.o y.2.2 (some (.loop { state := .ready, pending := none, fn := fr.fn, tmps := #[], params, assign, body, defers := y.1 } fr.T fr.nt)))) fun _ =>
    .bind (frameF tab g (f.2.1.toList ++ [.func (.yield y.2.2) #[] #[]] ++ f.2.2.toList) .normal) fun e =>
    .pure (.next (e :: mkFr fr fr.T (.inRangeFunc y.2.2 :: k) (y.2.1 ++ fr.defers) :: cs) (Nat.succ y.2.2))

def codeK (x_ : Code) : Tab → (Fr → Nat → F (Value × Nat)) → Fr → List Fr → Nat → List AIt → F Res := Code.rec (motive := fun _ => Tab → (Fr → Nat → F (Value × Nat)) → Fr → List Fr → Nat → List AIt → F Res) (fun _ _ fr cs n k => toF fr cs n k) (fun _ all draw => fun tab sub fr cs n k => ifB (dstsOk fr.nt all.toList) (Bool.rec (motive := fun _ => F Res) (opsF tab fr cs all k all.toList 0 fr.T n) (drawF tab sub fr cs n k all) draw)) (fun a b _ _ => fun _ _ fr cs n k => toF fr cs n (.code a :: .code b :: k)) (fun c a b _ _ => fun _ _ fr cs n k => .bind (opdT fr.T c) (condF fr cs n k a b)) (fun id body _ => fun _ _ fr cs n k => toF fr cs n (.code body :: .inBlock id :: k)) (fun body _ => fun _ _ fr cs n k => toF fr cs n (.code body :: .inLoop body :: k)) (fun f params assign body _ _ => fun tab _ fr cs n k => .bind (opdT fr.T f) (rangeFuncF tab fr cs n k params assign body)) (fun id => fun _ _ fr cs n k => exitF fr cs n id (exitA id k)) (fun body _ => fun _ _ fr cs n k => toF fr cs n (.code body :: .inScope body :: k)) (fun _ => fun _ _ fr cs n k => toF fr cs n k) (fun _ => fun _ _ _ _ _ _ => .fail) (fun _ _ fr cs n _ => leaveF fr cs (some .ret) n) (fun _ => fun _ _ _ _ _ _ => .fail) x_

def beginF (fr : Fr) (cs : List Fr) (n : Nat) (k : List AIt) : F Res :=
  optB fr.roundOf fun l => .bind (loopOf l) fun r => match r.1.state with
    | .ready => .bind (.wr (.o l (some (.loop { r.1 with state := .busy } r.2.1 r.2.2)))) fun _ => toF fr cs n k
    | _ => .fail

def endLoopF (fr : Fr) (cs : List Fr) (n : Nat) (k : List AIt) (l : Nat) : F Res :=
  .bind (loopOf l) fun r => match r.1.state with
    | .busy => .fail
    | _ => .bind (.wr (.o l (some (.loop { r.1 with state := .exhausted } r.2.1 r.2.2)))) fun _ => toF fr cs n ((match r.1.pending with | some c => [.code c] | none => []) ++ k)

def itemK (x_ : AIt) : Tab → (Fr → Nat → F (Value × Nat)) → Fr → List Fr → Nat → List AIt → F Res := AIt.rec (motive := fun _ => Tab → (Fr → Nat → F (Value × Nat)) → Fr → List Fr → Nat → List AIt → F Res) (fun c => fun tab sub fr cs n k => codeK c tab sub fr cs n k) (fun _ => fun _ _ fr cs n k => toF fr cs n k) (fun body => fun _ _ fr cs n k => toF fr cs n (.code body :: .inLoop body :: k)) (fun _ => fun _ _ fr cs n k => toF fr cs n k) (fun all i rest => fun tab _ fr cs n k => opsF tab fr cs all k rest i fr.T n) (fun _ => fun _ _ _ _ _ _ => .fail) (fun l => fun _ _ fr cs n k => endLoopF fr cs n k l) (fun _ _ fr cs n k => beginF fr cs n k) x_

/-- One step of a frame; a statement that draws its order is one step. -/
def stepFr (fr : Fr) (cs : List Fr) (n : Nat) : F Res := match fr.ret with
  | true => retF tab fr cs n
  | false => match fr.todo with
    | [] => leaveF fr cs none n
    | it :: k => itemK it tab sub fr cs n k

def stepF (frs : List Fr) (n : Nat) : F Res := match frs with
  | [] => .fail
  | fr :: cs => stepFr tab sub fr cs n
end

def thenF (run : List Fr → Nat → F (Value × Nat)) (r : Res) : F (Value × Nat) := match r with
  | .done v n => .pure (v, n)
  | .next frs n => run frs n

def run (tab : Tab) (fuel : Nat) : List Fr → Nat → F (Value × Nat) :=
  Nat.rec (motive := fun _ => List Fr → Nat → F (Value × Nat)) (fun _ _ => .fail) (fun _ ih frs n => .bind (stepF tab (fun e n => ih [e] n) frs n) (thenF ih)) fuel
end
end Ae
