/- Proved: the abstract machine's operations do what the program's do. Conditions: none. An abstract machine for one Go function's code: definitions, what its values stand for, its first operations. -/
import GoSem.Dispatch
import Derived.Orders
import Derived.KernelRfl
import Derived.Laws.Sem
import Derived.Laws.Entries

set_option maxRecDepth 100000
/-! An abstract machine for one Go function's code: typed values, objects by name, callees and loops by oracles. Plain definitions; what they are worth is proved in the texts behind this one. -/
namespace Go.Am

inductive Ty where
  | int (k : IntKind) | bool | str | slice (t : Ty) | named (r : Nat)
  deriving DecidableEq

abbrev Ty.den (D : Nat → Type) : Ty → Type
  | .int _ => Int
  | .bool => Bool
  | .str => ByteArray
  | .slice t => List (t.den D)
  | .named r => D r

/-- What stands for a Go value: 'undef' for whatever it may be, 'skip' for what an operation that was passed over leaves. -/
inductive PV (D : Nat → Type) : Type where
  | undef
  | skip
  | int (k : IntKind) (n : Int)
  | bool (b : Bool)
  | str (s : ByteArray)
  | nilI
  | ifc (t : TypeId) (v : PV D)
  | agg (l : List (PV D))
  | arr (t : Ty) (xs : List (t.den D))
  | tup (l : List (PV D))
  | nil
  | list (t : Ty) (xs : List (t.den D))
  | own (o : Nat)
  | view (o : Nat) (lo n : Nat)
  | ptr (o : Nat) (off : Nat)
  | elem (o : Nat) (i : Nat) (off : Nat)
  | lelem (t : Ty) (xs : List (t.den D)) (i : Nat) (off : Nat)
  | nilp
  | fn (f : FuncId) (caps : List (PV D))
  | nilf
  | full (t : Ty) (xs : List (t.den D))
  | opt (t : Ty) (xs : List (t.den D)) (b : Bool)

inductive Obj (D : Nat → Type) : Type where
  | box (cs : List (PV D))
  | row (t : Ty) (xs : List (t.den D)) (live : Bool)

structure St (D : Nat → Type) where
  t : Nat → PV D
  o : Nat → Option (Obj D)
  u : Nat → Bool

/-- What a type is, as far as the machine asks. -/
inductive TD where
  | int (k : IntKind) | bool | str | slice (e : TypeId) | struct (fs : List (Nat × Nat × Bool)) | arr (n : Nat) (e : TypeId) | ptr (e : TypeId) | iface | func | tuple

structure TI (D : Nat → Type) where
  desc : TD
  size : Nat
  bytes : Nat
  agg : Bool
  zero : List (PV D)
  ty : Option Ty
  eqs : Bool

/-- What is seen of a value for ever: cells of numbers, bools, strings, and slices of such. -/
inductive IV where
  | int (k : IntKind) (n : Int) | bool (b : Bool) | str (s : ByteArray) | list (sz : Nat) (xs : List (List IV))
def IV.flat : IV → Bool
  | .list _ _ => false
  | _ => true

structure Cx (D : Nat → Type) where
  T : TypeId → Option (TI D)
  enc : ∀ r, D r → List (PV D)
  dec : ∀ r, List (PV D) → Option (D r)
  zero : ∀ r, D r
  size : Nat → Nat
  deep : ∀ r, D r → List IV
  /-- No slice among its cells. -/
  fl : Nat → Bool
  /-- Where the package's variables lie that nobody writes to. -/
  gv : Nat → PV D
  /-- Their first cells. -/
  gc : List (Nat × Value)

section
variable {D : Nat → Type} {R : Type}

def upd {α : Type} (f : Nat → α) (d : Nat) (v : α) : Nat → α := fun i => bif Nat.beq i d then v else f i

def St.put (s : St D) (d : Nat) (v : PV D) : St D := ⟨upd s.t d v, s.o, s.u⟩
def St.setO (s : St D) (n : Nat) (ob : Obj D) : St D := ⟨s.t, upd s.o n (some ob), s.u⟩
def St.delO (s : St D) (n : Nat) : St D := ⟨s.t, upd s.o n none, s.u⟩
def St.born (s : St D) (n : Nat) (ob : Obj D) : St D := ⟨s.t, upd s.o n (some ob), upd s.u n true⟩

def chk (b : Bool) (k : Option R) : Option R := bif b then k else none
def inb (i : Int) (n : Nat) : Bool := decide (0 ≤ i) && decide (i < (n : Int))
def upto (i : Int) (n : Nat) : Bool := decide (0 ≤ i) && decide (i ≤ (n : Int))

def Ty.zero (cx : Cx D) : (t : Ty) → t.den D
  | .int _ => (0 : Int)
  | .bool => false
  | .str => ByteArray.empty
  | .slice _ => []
  | .named r => cx.zero r

def encC (cx : Cx D) : (t : Ty) → t.den D → List (PV D)
  | .int k, n => [.int k n]
  | .bool, b => [.bool b]
  | .str, s => [.str s]
  | .slice t, xs => [.list t xs]
  | .named r, v => cx.enc r v

def sz (cx : Cx D) : Ty → Nat
  | .named r => cx.size r
  | _ => 1

def cast? (t t' : Ty) (xs : List (t.den D)) : Option (List (t'.den D)) := if h : t = t' then some (h ▸ xs) else none

def decC (cx : Cx D) : (t : Ty) → List (PV D) → Option (t.den D)
  | .int k, [.int k' n] => bif decide (k = k') then some n else none
  | .bool, [.bool b] => some b
  | .str, [.str s] => some s
  | .slice _, [.nil] => some []
  | .slice t, [.list t' xs] => cast? t' t xs
  | .named r, cs => cx.dec r cs
  | _, _ => none

/-- Many elements. -/
def decAll (cx : Cx D) (t : Ty) : List (List (PV D)) → Option (List (t.den D))
  | [] => some []
  | c :: cs => match decC cx t c with
    | none => none
    | some x => match decAll cx t cs with
      | none => none
      | some xs => some (x :: xs)

def ofCell : Value → PV D
  | .bool b => .bool b
  | .int k n => .int k n
  | .string s => .str s
  | .nilIface => .nilI
  | .slice none 0 0 => .nil
  | .pointer none => .nilp
  | .nilFunc => .nilf
  | _ => .undef

def ofVal : Value → PV D
  | .agg cs => .agg (cs.toList.map ofCell)
  | v => ofCell v

def ev (s : St D) : Operand → PV D
  | .tmp t => s.t t
  | .const v => ofVal v
  | .global _ => .undef
  | .func f => .fn f []

/-- The cells of a value; nothing of what is not known. -/
def cellsOf (cx : Cx D) : PV D → List (PV D)
  | .agg l => l
  | .arr t xs => xs.flatMap (encC cx t)
  | .undef | .skip | .tup _ => []
  | v => [v]

/-- A value of one cell, and known to be. -/
def solid : PV D → Bool
  | .undef | .skip | .agg _ | .arr _ _ | .tup _ => false
  | _ => true

/-- A row of one's own, read as a list. -/
def settle (s : St D) : PV D → PV D
  | .own o => match s.o o with
    | some (.row t xs _) => .list t xs
    | _ => .undef
  | .view o lo n => match s.o o with
    | some (.row t xs _) => .list t ((xs.drop lo).take n)
    | _ => .undef
  | .full t xs => .list t xs
  | .opt t xs _ => .list t xs
  | v => v

/-- From here on nobody writes into it. -/
def frzN (s : St D) (o : Nat) : St D := match s.o o with
  | some (.row t xs _) => s.setO o (.row t xs false)
  | _ => s

def frz (s : St D) : PV D → St D
  | .own o => frzN s o
  | .view o _ _ => frzN s o
  | _ => s

def frzAll (s : St D) : List (PV D) → St D
  | [] => s
  | v :: vs => frzAll (frz s v) vs

def one (agg : Bool) (cs : List (PV D)) : PV D := bif agg then .agg cs else cs.headD .undef

def splice (cs : List (PV D)) (off : Nat) (vs : List (PV D)) : List (PV D) := cs.take off ++ vs ++ cs.drop (off + vs.length)

def shlI (k : IntKind) (a b : Int) : Int := k.wrap (a * 2 ^ (min b.toNat k.bits))
def shrI (k : IntKind) (a b : Int) : Int := a.fdiv (2 ^ (min b.toNat k.bits))
def andI (k : IntKind) (a b : Int) : Int := k.wrap (BitVec.ofInt k.bits a &&& BitVec.ofInt k.bits b).toNat
def orI (k : IntKind) (a b : Int) : Int := k.wrap (BitVec.ofInt k.bits a ||| BitVec.ofInt k.bits b).toNat
def xorI (k : IntKind) (a b : Int) : Int := k.wrap (BitVec.ofInt k.bits a ^^^ BitVec.ofInt k.bits b).toNat
def andNotI (k : IntKind) (a b : Int) : Int := k.wrap (BitVec.ofInt k.bits a &&& ~~~ BitVec.ofInt k.bits b).toNat

def eqCells : List (PV D) → List (PV D) → Option Bool
  | [], [] => some true
  | .int k a :: x, .int k' b :: y => bif decide (k = k') then (match eqCells x y with | some r => some ((a == b) && r) | none => none) else none
  | .bool a :: x, .bool b :: y => match eqCells x y with | some r => some ((a == b) && r) | none => none
  | .str a :: x, .str b :: y => match eqCells x y with | some r => some ((a == b) && r) | none => none
  | _, _ => none

/-- Cells of the same kinds. -/
def likeZ : List (PV D) → List (PV D) → Bool
  | [], [] => true
  | .int _ _ :: x, .int _ _ :: y => likeZ x y
  | .bool _ :: x, .bool _ :: y => likeZ x y
  | .str _ :: x, .str _ :: y => likeZ x y
  | _, _ => false

def binInt (op : BinOp) (k : IntKind) (a b : Int) (K : PV D → Option R) : Option R :=
  match op with
  | .add => K (.int k (k.wrap (a + b)))
  | .sub => K (.int k (k.wrap (a - b)))
  | .mul => K (.int k (k.wrap (a * b)))
  | .quo => bif decide (b = 0) then none else K (.int k (k.wrap (a.tdiv b)))
  | .rem => bif decide (b = 0) then none else K (.int k (a.tmod b))
  | .and => K (.int k (andI k a b))
  | .or => K (.int k (orI k a b))
  | .xor => K (.int k (xorI k a b))
  | .andNot => K (.int k (andNotI k a b))
  | .eql => K (.bool (a == b))
  | .neq => K (.bool (a != b))
  | .lss => K (.bool (decide (a < b)))
  | .leq => K (.bool (decide (a ≤ b)))
  | .gtr => K (.bool (decide (a > b)))
  | .geq => K (.bool (decide (a ≥ b)))
  | _ => none

/-- What a test for nil answers. -/
def nilEq (op : BinOp) (b : Bool) (K : PV D → Option R) : Option R :=
  match op with
  | .eql => K (.bool b)
  | .neq => K (.bool (!b))
  | _ => none

def bin (cx : Cx D) (op : BinOp) (T : TypeId) (x y : PV D) (K : PV D → Option R) : Option R :=
  match x, y with
  | .int k a, .int k' b => match op with
    | .shl => bif decide (b < 0) then none else K (.int k (shlI k a b))
    | .shr => bif decide (b < 0) then none else K (.int k (shrI k a b))
    | op => bif decide (k = k') then binInt op k a b K else none
  | .bool a, .bool b => match op, (cx.T T).map TI.desc with
    | .eql, some .bool => K (.bool (a == b))
    | .neq, some .bool => K (.bool (!(a == b)))
    | _, _ => none
  | .str a, .str b => match op with
    | .eql => K (.bool (a.toList == b.toList))
    | .neq => K (.bool (!(a.toList == b.toList)))
    | _ => none
  | .agg a, .agg b => match cx.T T with
    | some ti => bif ti.eqs && likeZ ti.zero a then (match op, eqCells a b with
      | .eql, some r => K (.bool r)
      | .neq, some r => K (.bool (!r))
      | _, _ => none) else none
    | none => none
  | .nilI, .ifc _ _ => match op, (cx.T T).map TI.desc with
    | .eql, some .iface => K (.bool false)
    | .neq, some .iface => K (.bool true)
    | _, _ => none
  | .ifc _ _, .nilI => match op, (cx.T T).map TI.desc with
    | .eql, some .iface => K (.bool false)
    | .neq, some .iface => K (.bool true)
    | _, _ => none
  | .full _ _, .nil => match (cx.T T).map TI.desc with
    | some (.slice _) => nilEq op false K
    | _ => none
  | .opt _ xs b, .nil => match (cx.T T).map TI.desc with
    | some (.slice _) => chk (b || !xs.isEmpty) (nilEq op b K)
    | _ => none
  | .nil, .nil => match (cx.T T).map TI.desc with
    | some (.slice _) => nilEq op true K
    | _ => none
  | .ptr _ _, .nilp => match (cx.T T).map TI.desc with
    | some (.ptr _) => nilEq op false K
    | _ => none
  | .nilp, .nilp => match (cx.T T).map TI.desc with
    | some (.ptr _) => nilEq op true K
    | _ => none
  | _, _ => none

def isC : Operand → Bool
  | .const _ => true
  | _ => false

/-- The same, at operands: two nil values of an interface type are compared only if one of them is the literal nil. -/
def binX (cx : Cx D) (op : BinOp) (T : TypeId) (x y : Operand) (p q : PV D) (K : PV D → Option R) : Option R :=
  match p, q with
  | .nilI, .nilI => chk (isC x || isC y) (match (cx.T T).map TI.desc with
    | some .iface => nilEq op true K
    | _ => none)
  | p, q => bin cx op T p q K

/-- What a call gives back: results, and what the objects handed in are now (new ones: behind them). -/
structure RV (D : Nat → Type) where
  vs : PV D
  os : List (Option (Obj D))

abbrev Orc (D : Nat → Type) (R : Type) := FuncId → List (PV D) → List (Obj D) → (RV D → Option R) → Option R

inductive Ex where
  | normal | exit (id : Nat) | ret
  deriving DecidableEq

abbrev Lrc (D : Nat → Type) (R : Type) := Nat → List (PV D) → List (Option (Obj D)) → (Ex → List (PV D) → List (Option (Obj D)) → Option R) → Option R

/-- A place of a value: a tmp, a cell of a box, a part of what a tmp holds. -/
inductive Loc where
  | tmp (t : Nat) | cell (o off : Nat) | part (t i : Nat)

/-- What it is made at a cut: a row of one's own with a name, or a list. -/
inductive Mode where
  | own (nm : Nat) (t : Ty) | imm (t : Ty) | drop | still | opt (t : Ty)

structure Cut where
  own : List (Loc × Mode)
  ts : List Nat
  os : List Nat
  pre : List (Loc × Mode)

structure LAnn where
  hd : Cut
  ex : Ex → Option Cut

def getL (s : St D) : Loc → PV D
  | .tmp t => s.t t
  | .cell o off => match s.o o with
    | some (.box cs) => cs.getD off .undef
    | _ => .undef
  | .part t i => match s.t t with
    | .agg l => l.getD i .undef
    | _ => .undef
def setL (s : St D) (v : PV D) : Loc → St D
  | .tmp t => s.put t v
  | .cell o off => match s.o o with
    | some (.box cs) => s.setO o (.box (cs.set off v))
    | _ => s
  | .part t i => match s.t t with
    | .agg l => s.put t (.agg (l.set i v))
    | _ => s

def ren (f : Nat → Nat) : PV D → PV D
  | .own o => .own (f o)
  | .view o lo n => .view (f o) lo n
  | .ptr o off => .ptr (f o) off
  | .elem o i off => .elem (f o) i off
  | .fn g caps => .fn g (go caps)
  | .agg l => .agg (go l)
  | .tup l => .tup (go l)
  | .ifc t v => .ifc t (ren f v)
  | v => v
  where
  go : List (PV D) → List (PV D)
  | [] => []
  | v :: vs => ren f v :: go vs

def renO (f : Nat → Nat) : Obj D → Obj D
  | .box cs => .box (ren.go f cs)
  | o => o

def mapO (f : Nat → Nat) : Option (Obj D) → Option (Obj D)
  | some ob => some (renO f ob)
  | none => none

/-- The object is called otherwise, wherever it is named. -/
def renA (o nm : Nat) (s : St D) : St D :=
  ⟨fun i => ren (fun k => bif Nat.beq k o then nm else k) (s.t i), fun n => bif Nat.beq n nm then mapO (fun k => bif Nat.beq k o then nm else k) (s.o o) else bif Nat.beq n o then none else mapO (fun k => bif Nat.beq k o then nm else k) (s.o n), upd s.u nm true⟩

def coerce1 (l : Loc) (m : Mode) (s : St D) (K : St D → Option R) : Option R :=
  match m with
  | .own nm t => match getL s l with
    | .nil => chk (!s.u nm) (K (setL (s.born nm (.row t [] true)) (.own nm) l))
    | .own o => match s.o o with
      | some (.row t' xs true) => match cast? t' t xs with
        | some _ys => bif Nat.beq o nm then K s else chk (!s.u nm) (K (renA o nm s))
        | none => none
      | _ => none
    | .view o lo n => match s.o o with
      | some (.row t' xs true) => match cast? t' t xs with
        | some ys => chk (!s.u nm) (K (setL ((s.delO o).born nm (.row t ((ys.drop lo).take n) true)) (.own nm) l))
        | none => none
      | _ => none
    | _ => none
  | .imm t => match settle s (getL s l) with
    | .nil => K (setL s (.list t []) l)
    | .list t' xs => match cast? t' t xs with
      | some ys => K (setL (frz s (getL s l)) (.list t ys) l)
      | none => none
    | _ => none
  | .drop => match l with
    | .cell o _ => K (s.delO o)
    | _ => none
  | .still => match l with
    | .cell o _ => K (frzN s o)
    | _ => none
  | .opt t => match getL s l with
    | .nil => K (setL s (.opt t [] true) l)
    | .opt t' xs _ => match cast? t' t xs with
      | some _ => K s
      | none => none
    | .own o => match s.o o with
      | some (.row t' xs _) => match cast? t' t xs with
        | some ys => K (setL (frz s (.own o)) (.opt t ys false) l)
        | none => none
      | _ => none
    | _ => none

def coerce : List (Loc × Mode) → St D → (St D → Option R) → Option R
  | [], s, K => K s
  | (l, m) :: cs, s, K => coerce1 l m s fun s' => coerce cs s' K

/-- Names that a value leads to. -/
def names : PV D → List Nat
  | .own o => [o]
  | .view o _ _ => [o]
  | .ptr o _ => [o]
  | .elem o _ _ => [o]
  | .fn _ caps => go caps
  | .agg l => go l
  | .tup l => go l
  | .ifc _ v => names v
  | _ => []
  where
  go : List (PV D) → List Nat
  | [] => []
  | v :: vs => names v ++ go vs

def namesO : Option (Obj D) → List Nat
  | some (.box cs) => names.go cs
  | _ => []

def assoc {α : Type} (d : α) : List Nat → List α → Nat → α
  | n :: ns, v :: vs => fun i => bif Nat.beq i n then v else assoc d ns vs i
  | _, _ => fun _ => d

def memN : List Nat → Nat → Bool
  | [], _ => false
  | m :: ms, n => bif Nat.beq m n then true else memN ms n

def mkSt (n0 : Nat) (c : Cut) (vs : List (PV D)) (os : List (Option (Obj D))) : St D :=
  ⟨assoc .undef c.ts vs, assoc none c.os os, fun i => Nat.blt i n0 || memN (c.os ++ (names.go vs ++ os.flatMap namesO)) i⟩

def reach (s : St D) : Nat → List Nat → List Nat → List Nat
  | 0, _, acc => acc
  | _ + 1, [], acc => acc
  | k + 1, n :: p, acc => bif memN acc n then reach s k p acc else match s.o n with
    | some (.box cs) => reach s k (names.go cs ++ p) (acc ++ [n])
    | some (.row _ _ _) => reach s k p (acc ++ [n])
    | none => reach s k p acc

/-- A cut: what is not reached is left behind, the places are made what the cut says, and what is in the tmps and objects goes on. -/
def cut (n0 : Nat) (c : Cut) (s : St D) (K : List (PV D) → List (Option (Obj D)) → Option R) : Option R :=
  coerce c.pre s fun s =>
  let vs := c.ts.map s.t
  let ns := reach s 1000 (names.go vs ++ List.range n0) []
  coerce c.own (mkSt n0 ⟨[], c.ts, ns, []⟩ vs (ns.map s.o)) fun s' => K (c.ts.map s'.t) (c.os.map s'.o)

section ops
variable (cx : Cx D) (orc : Orc D R) (lrc : Lrc D R) (ann : Nat → Option LAnn) (keep : FuncId → List Bool) (N n0 : Nat)

/-- An array of n of this type. -/
def arrC (ti : TI D) (t : Ty) (n : Nat) : Bool :=
  match ti.desc with
  | .arr m e => match (cx.T e).bind TI.ty with
    | some t' => decide (t' = t) && Nat.beq n m
    | none => false
  | _ => false

def load (T : TypeId) (a : PV D) (s : St D) (K : PV D → Option R) : Option R :=
  match cx.T T with
  | none => none
  | some ti => match a with
    | .ptr o off => match s.o o with
      | some (.box cs) => chk (Nat.ble (off + ti.size) cs.length) (K (one ti.agg ((cs.drop off).take ti.size)))
      | some (.row t xs _) => chk (Nat.beq off 0 && arrC cx ti t xs.length) (K (.arr t xs))
      | none => none
    | .elem o i off => match s.o o with
      | some (.row t xs _) => chk (Nat.ble (off + ti.size) (encC cx t (xs.getD i (t.zero cx))).length) (K (one ti.agg (((encC cx t (xs.getD i (t.zero cx))).drop off).take ti.size)))
      | _ => none
    | .lelem t xs i off => chk (Nat.ble (off + ti.size) (encC cx t (xs.getD i (t.zero cx))).length) (K (one ti.agg (((encC cx t (xs.getD i (t.zero cx))).drop off).take ti.size)))
    | _ => none

def store (T : TypeId) (a v : PV D) (s : St D) (K : St D → Option R) : Option R :=
  match cx.T T with
  | none => none
  | some ti => chk (Nat.blt 0 ti.size && Nat.beq (cellsOf cx v).length ti.size && (cellsOf cx v).all solid) (match a with
    | .ptr o off => match s.o o with
      | some (.box cs) => chk (Nat.ble (off + ti.size) cs.length) (K (s.setO o (.box (splice cs off (cellsOf cx v)))))
      | some (.row t xs0 true) => match v with
        | .arr t' xs => match cast? t' t xs with
          | some ys => chk (Nat.beq off 0 && arrC cx ti t ys.length && Nat.beq xs0.length ys.length) (K (s.setO o (.row t ys true)))
          | none => none
        | _ => none
      | _ => none
    | .elem o i off => match s.o o with
      | some (.row t xs true) => match decC cx t (splice (encC cx t (xs.getD i (t.zero cx))) off ((cellsOf cx v).map (settle s))) with
        | some x => match (frzAll s (cellsOf cx v)).o o with
          | some (.row _ _ true) => K ((frzAll s (cellsOf cx v)).setO o (.row t (xs.set i x) true))
          | _ => none
        | none => none
      | _ => none
    | _ => none)

def offA (a : PV D) (n : Nat) (s : St D) (K : PV D → Option R) : Option R :=
  match a with
  | .ptr o off => match s.o o with
    | some (.box _) => K (.ptr o (off + n))
    | _ => none
  | .elem o i off => K (.elem o i (off + n))
  | .lelem t xs i off => K (.lelem t xs i (off + n))
  | _ => none

def elemTI (T : TypeId) : Option (Ty × Nat) :=
  match cx.T T with
  | some ti => match ti.desc with
    | .slice e => match cx.T e with
      | some te => match te.ty with
        | some t => some (t, te.bytes)
        | none => none
      | none => none
    | _ => none
  | none => none

/-- A slice type's elements are of this type. -/
def isRow (T : TypeId) (t : Ty) (k : Option R) : Option R :=
  match elemTI cx T with
  | some (t', _) => bif decide (t' = t) then k else none
  | none => none

/-- One of so many, by its number. -/
def pickN (i : Int) : Nat → Nat → (Nat → Option R) → Option R
  | _, 0, _ => none
  | j, m + 1, K => bif decide (i = (j : Int)) then K j else pickN i (j + 1) m K

def indexAddr (T : TypeId) (x i : PV D) (s : St D) (K : PV D → Option R) : Option R :=
  match i with
  | .int _ i => match x with
    | .list t xs => isRow cx T t (chk (inb i xs.length) (K (.lelem t xs i.toNat 0)))
    | .own o => match s.o o with
      | some (.row t xs _) => isRow cx T t (chk (inb i xs.length) (K (.elem o i.toNat 0)))
      | _ => none
    | .view o lo n => match s.o o with
      | some (.row t _xs _) => isRow cx T t (chk (inb i n) (K (.elem o (lo + i.toNat) 0)))
      | some (.box cs) => match cx.T T with
        | some ti => match ti.desc with
          | .slice e => match cx.T e with
            | some te => chk (inb i n) (pickN i 0 (cs.length / te.size) fun j => K (.ptr o (j * te.size)))
            | none => none
          | _ => none
        | none => none
      | none => none
    | .lelem t xs j off => match cx.T T with
      | some ti => match ti.desc with
        | .arr n e => match cx.T e with
          | some te => match te.ty with
            | some t' => chk (decide (t' = t) && Nat.beq j 0 && Nat.beq off 0 && inb i n && inb i xs.length) (K (.lelem t xs i.toNat 0))
            | none => none
          | none => none
        | _ => none
      | none => none
    | .ptr o off => match cx.T T with
      | some ti => match ti.desc with
        | .arr n e => match cx.T e with
          | some te => match s.o o with
            | some (.row t xs _) => match te.ty with
              | some t' => chk (decide (t' = t) && inb i n && inb i xs.length) (K (.elem o i.toNat 0))
              | none => none
            | some (.box _) => chk (inb i n) (K (.ptr o (off + i.toNat * te.size)))
            | none => none
          | none => none
        | _ => none
      | none => none
    | _ => none
  | _ => none

def sliceL (lo hi : Option (PV D)) (n : Nat) (K : Nat → Nat → Bool → Option R) : Option R :=
  match lo, hi with
  | none, none => K 0 n true
  | some (.int _ l), none => chk (upto l n) (K l.toNat n false)
  | none, some (.int _ h) => chk (upto h n) (K 0 h.toNat false)
  | some (.int _ l), some (.int _ h) => chk (upto h n) (chk (decide (0 ≤ l) && decide (l ≤ h)) (K l.toNat h.toNat false))
  | _, _ => none

/-- x[lo:hi] -/
def sliceV (T : TypeId) (x : PV D) (lo hi : Option (PV D)) (s : St D) (K : PV D → Option R) : Option R :=
  match x with
  | .list t xs => isRow cx T t (match lo, hi with
    | none, none => K (.list t xs)
    | some (.int _ l), none => chk (upto l xs.length) (K (.list t (xs.drop l.toNat)))
    | none, some (.int _ h) => chk (upto h xs.length) (K (.list t (xs.take h.toNat)))
    | some (.int _ l), some (.int _ h) => chk (upto h xs.length) (chk (decide (0 ≤ l) && decide (l ≤ h)) (K (.list t ((xs.take h.toNat).drop l.toNat))))
    | _, _ => none)
  | .nil => match elemTI cx T with
    | some _ => sliceL lo hi 0 fun _ _ _ => K .nil
    | none => none
  | .str b => match (cx.T T).map TI.desc with
    | some .str => sliceL lo hi b.size fun l h _ => K (.str (b.extract l h))
    | _ => none
  | .own o => match s.o o with
    | some (.row t xs _) => isRow cx T t (sliceL lo hi xs.length fun l h w => bif w then K (.own o) else K (.view o l (h - l)))
    | _ => none
  | .view o b n => match s.o o with
    | some (.row t _xs _) => isRow cx T t (sliceL lo hi n fun l h _w => K (.view o (b + l) (h - l)))
    | _ => none
  | .ptr o _ => match cx.T T with
    | some ti => match ti.desc with
      | .arr n e => match cx.T e with
        | some te => match s.o o with
          | some (.row t xs _) => match te.ty with
            | some t' => chk (decide (t' = t) && Nat.beq n xs.length) (sliceL lo hi n fun l h w => bif w then K (.own o) else K (.view o l (h - l)))
            | none => none
          | _ => none
        | none => none
      | _ => none
    | none => none
  | _ => none

def lenV (x : PV D) (s : St D) (K : PV D → Option R) : Option R :=
  match x with
  | .list _ xs => K (.int .i64 xs.length)
  | .nil => K (.int .i64 0)
  | .own o => match s.o o with
    | some (.row _ xs _) => K (.int .i64 xs.length)
    | _ => none
  | .view o _ n => match s.o o with
    | some _ => K (.int .i64 n)
    | none => none
  | .str b => K (.int .i64 b.size)
  | _ => none

/-- What is appended, as a list of type t. -/
def listOf (t : Ty) (s : St D) (x : PV D) : Option (List (t.den D)) :=
  match settle s x with
  | .nil => some []
  | .list t' xs => cast? t' t xs
  | _ => none

def room (bytes n : Nat) : Bool := decide (n * bytes ≤ 140737488355328)

/-- append(x, ys...), ys being known. -/
def appendL (t : Ty) (bytes : Nat) (x : PV D) (ys : List (t.den D)) (nm : Nat) (s : St D) (K : PV D → St D → Option R) : Option R :=
  chk (!s.u nm) (match x with
  | .nil => chk (room bytes ys.length) (K (.own nm) (s.born nm (.row t ys true)))
  | .own o => match s.o o with
    | some (.row t' xs true) => match cast? t' t xs with
      | some xs => chk (room bytes (xs.length + ys.length)) (K (.own nm) ((s.delO o).born nm (.row t (xs ++ ys) true)))
      | none => none
    | _ => none
  | .view o lo n => match s.o o with
    | some (.row t' xs true) => match cast? t' t xs with
      | some xs => chk (room bytes (n + ys.length)) (K (.own nm) ((s.delO o).born nm (.row t ((xs.drop lo).take n ++ ys) true)))
      | none => none
    | _ => none
  | _ => none)

def append (T T' : TypeId) (x y : PV D) (nm : Nat) (s : St D) (K : PV D → St D → Option R) : Option R :=
  match elemTI cx T with
  | none => none
  | some (t, bytes) => match (cx.T T').map TI.desc, y with
    | some (.int _), .int _ n => chk (decide (0 ≤ n) && decide (n * bytes ≤ 140737488355328)) (appendL t bytes x (List.replicate n.toNat (t.zero cx)) nm s K)
    | some (.slice _), y => match listOf t s y with
      | some ys => appendL t bytes x ys nm (frz s y) K
      | none => none
    | _, _ => none

def hasList : PV D → Bool
  | .list _ _ => true
  | .full _ _ => true
  | .opt _ _ _ => true
  | .arr _ _ => true
  | .lelem _ _ _ _ => true
  | .ifc _ v => hasList v
  | .agg l => go l
  | .tup l => go l
  | .fn _ l => go l
  | _ => false
  where
  go : List (PV D) → Bool
  | [] => false
  | v :: vs => hasList v || go vs

def Ty.flat : Ty → Bool
  | .int _ | .bool | .str => true
  | _ => false

def Ty.flatC : Ty → Bool
  | .named r => cx.fl r
  | t => t.flat

def hasListO : Option (Obj D) → Bool
  | some (.box cs) => hasList.go cs
  | some (.row t _ _) => !(Ty.flatC cx t)
  | none => false

/-- Slices of one's own, lent. -/
def borrow (s : St D) : PV D → PV D
  | .agg l => .agg (l.map (settle s))
  | v => settle s v

def lend (s : St D) : List Bool → List (PV D) → List (PV D)
  | _, [] => []
  | [], v :: vs => borrow s v :: lend s [] vs
  | k :: ks, v :: vs => (bif k then v else borrow s v) :: lend s ks vs

/-- The names that are lent. -/
def lentN : List Bool → List (PV D) → List Nat
  | _, [] => []
  | [], v :: vs => rowsN v ++ lentN [] vs
  | k :: ks, v :: vs => (bif k then [] else rowsN v) ++ lentN ks vs
  where
  rowN : PV D → List Nat
  | .own o => [o]
  | .view o _ _ => [o]
  | _ => []
  rowsN : PV D → List Nat
  | .agg l => l.flatMap rowN
  | v => rowN v

def idx (ns : List Nat) (n : Nat) : Nat := match ns with
  | [] => 0
  | m :: ms => bif Nat.beq m n then 0 else (idx ms n) + 1

def objsAt (s : St D) (f : Nat → Nat) : List Nat → Option (List (Obj D))
  | [] => some []
  | n :: ns => match s.o n, objsAt s f ns with
    | some o, some os => some (renO f o :: os)
    | _, _ => none

def back (ns : List Nat) (nm : Nat) (j : Nat) : Nat := match ns with
  | [] => nm + j
  | m :: ms => match j with
    | 0 => m
    | j + 1 => back ms nm j

def nub : List Nat → Bool
  | [] => true
  | n :: ns => !memN ns n && nub ns

def newB (ns : List Nat) (nm : Nat) (os : List (Option (Obj D))) (i : Nat) : Bool := Nat.ble nm i && Nat.blt i (nm + (os.length - ns.length))

def putO (ns : List Nat) (nm : Nat) (os : List (Option (Obj D))) (s : St D) : St D :=
  ⟨s.t, fun i => bif memN ns i then mapO (back ns nm) (os.getD (idx ns i) none) else bif newB ns nm os i then mapO (back ns nm) (os.getD (ns.length + (i - nm)) none) else s.o i, fun i => s.u i || newB ns nm os i⟩

def liveO : Option (Obj D) → Bool
  | some (.row _ _ l) => l
  | _ => true

def freshB (s : St D) (nm : Nat) : Nat → Bool
  | 0 => true
  | k + 1 => !s.u (nm + k) && freshB s nm k

def frzNs (s : St D) : List Nat → St D
  | [] => s
  | n :: ns => frzNs (frzN s n) ns

def call (g : FuncId) (args : List (PV D)) (nm : Nat) (s : St D) (K : PV D → St D → Option R) : Option R :=
  let lent := lend s (keep g) args
  let ns := reach s 1000 (names.go lent) []
  let ln := lentN (keep g) args
  chk ((names.go lent).all (memN ns) && nub ns && ns.all (fun n => (namesO (s.o n)).all (memN ns)) && ln.all (fun n => !memN ns n)) (match objsAt s (idx ns) ns with
  | none => none
  | some os => orc g (ren.go (idx ns) lent) os fun rv =>
    chk (freshB s nm (rv.os.length - ns.length)) (K (ren (back ns nm) rv.vs) (putO ns nm rv.os (bif hasList rv.vs || rv.os.any (hasListO cx) || !rv.os.all liveO then frzNs s ln else s))))

def max2 (k : IntKind) (x y : Int) : PV D := .int k (if x < y then y else x)
def min2 (k : IntKind) (x y : Int) : PV D := .int k (if y < x then y else x)

def makeRow (T : TypeId) (n c : Int) (nm : Nat) (s : St D) (K : PV D → St D → Option R) : Option R :=
  match elemTI cx T with
  | some (t, bytes) => chk (!s.u nm) (chk (decide (0 ≤ n) && decide (n ≤ c) && decide (c * bytes ≤ 140737488355328))
    (K (.own nm) (s.born nm (.row t (List.replicate n.toNat (t.zero cx)) true))))
  | none => none

def putAll (places : List (Nat × Nat × Bool)) : List (Nat × PV D) → List (PV D) → Option (List (PV D))
  | [], cs => some cs
  | (i, v) :: r, cs => match places[i]? with
    | some (off, size, _) => bif Nat.beq (cellsOf cx v).length size && (cellsOf cx v).all solid && Nat.ble (off + size) cs.length then putAll places r (splice cs off (cellsOf cx v)) else none
    | none => none

/-- copy(x, y) -/
def copyV (t0 : Ty) (x y : PV D) (s : St D) (K : PV D → St D → Option R) : Option R :=
  match x with
  | .own o => match s.o o with
    | some (.row t xs true) => chk (decide (t = t0)) (match listOf t s y with
      | some ys => K (.int .i64 (min ys.length xs.length : Nat)) (s.setO o (.row t (ys.take (min ys.length xs.length) ++ xs.drop (min ys.length xs.length)) true))
      | none => none)
    | _ => none
  | .view o lo n => match s.o o with
    | some (.row t xs true) => chk (decide (t = t0)) (match listOf t s y with
      | some ys => K (.int .i64 (min ys.length n : Nat)) (s.setO o (.row t (xs.take lo ++ ys.take (min ys.length n) ++ xs.drop (lo + min ys.length n)) true))
      | none => none)
    | _ => none
  | _ => none

/-- clear(x) -/
def clearV (cx : Cx D) (t0 : Ty) (x : PV D) (s : St D) (K : PV D → St D → Option R) : Option R :=
  match x with
  | .view o lo n => match s.o o with
    | some (.row t xs true) => chk (decide (t = t0)) (K (.tup []) (s.setO o (.row t (xs.take lo ++ List.replicate n (t.zero cx) ++ xs.drop (lo + n)) true)))
    | _ => none
  | _ => none

/-- The address of a variable of the package. -/
def evG (cx : Cx D) (s : St D) : Operand → PV D
  | .global g => match cx.gv g with
    | .lelem t xs i off => .lelem t xs i off
    | _ => .undef
  | x => ev s x

def allocV (T : TypeId) (nm : Nat) (s : St D) (K : PV D → St D → Option R) : Option R :=
  match cx.T T with
  | some ti => chk (!s.u nm) (match ti.desc with
    | .arr n e => match (cx.T e).bind TI.ty with
      | some t => K (.ptr nm 0) (s.born nm (.row t (List.replicate n (t.zero cx)) true))
      | none => K (.ptr nm 0) (s.born nm (.box ti.zero))
    | _ => K (.ptr nm 0) (s.born nm (.box ti.zero)))
  | none => none

def boxV (T : TypeId) (q : PV D) (nm : Nat) (s : St D) (K : PV D → St D → Option R) : Option R :=
  match cx.T T with
  | some ti => chk (!s.u nm) (match q with
    | .arr t xs => K (.ptr nm 0) (s.born nm (.row t xs true))
    | v => chk (Nat.blt 0 ti.size && Nat.beq (cellsOf cx v).length ti.size && (cellsOf cx v).all solid) (K (.ptr nm 0) (s.born nm (.box (cellsOf cx v)))))
  | none => none

/-- A slice it is, whatever is in it. -/
def isSl (s : St D) : PV D → Bool
  | .list _ _ => true
  | .nil => true
  | .own o => match s.o o with
    | some (.row _ _ _) => true
    | _ => false
  | .view o _ _ => match s.o o with
    | some (.row _ _ _) => true
    | _ => false
  | _ => false

def op1 (o : Oper) (nm : Nat) (s : St D) (K : PV D → St D → Option R) : Option R :=
  match o.op with
  | .move x => K (ev s x) s
  | .assign x => K (ev s x) s
  | .pick c a b => match ev s c with
    | .bool true => K (ev s a) s
    | .bool false => K (ev s b) s
    | _ => none
  | .alloc T => allocV cx T nm s K
  | .box T x => boxV cx T (ev s x) nm s K
  | .build T ps => match cx.T T with
    | some ti => match ti.desc with
      | .struct fs => match putAll cx fs (ps.toList.map fun (i, x) => (i, ev s x)) ti.zero with
        | some cs => K (.agg cs) s
        | none => none
      | .arr n e => match (cx.T e).bind TI.ty with
        | some t => match decAll cx t (ps.toList.map fun (_, x) => (cellsOf cx (ev s x)).map (settle s)) with
          | some xs => chk (ps.toList.map (·.1) == List.range n) (K (.arr t xs) (frzAll s (ps.toList.flatMap fun (_, x) => cellsOf cx (ev s x))))
          | none => none
        | none => none
      | _ => none
    | none => none
  | .buildSlice T n ps => match elemTI cx T with
    | some (t, _bytes) => match decAll cx t (ps.toList.map fun (_, x) => (cellsOf cx (ev s x)).map (settle s)) with
      | some xs => chk (!s.u nm) (chk (ps.toList.map (·.1) == List.range n && Nat.ble (n * sz cx t) 16777216) (K (.own nm) ((frzAll s (ps.toList.flatMap fun (_, x) => cellsOf cx (ev s x))).born nm (.row t xs true))))
      | none => none
    | none => match cx.T T with
      | some ti => match ti.desc with
        | .slice e => match cx.T e with
          | some te => match putAll cx ((List.range n).map fun i => (i * te.size, te.size, false)) (ps.toList.map fun (i, x) => (i, ev s x)) ((List.replicate n te.zero).flatten) with
            | some cs => chk (!s.u nm) (chk (Nat.blt 0 te.size && Nat.blt 0 n && Nat.ble (n * te.size) 16777216) (K (.view nm 0 n) (s.born nm (.box cs))))
            | none => none
          | none => none
        | _ => none
      | none => none
  | .load T a => load cx T (ev s a) s fun v => K v s
  | .store T a x => store cx T (ev s a) (ev s x) s fun s' => K .skip s'
  | .nilCheck x => match ev s x with
    | .ptr o off => K (.ptr o off) s
    | .elem o i off => K (.elem o i off) s
    | .lelem t xs i off => K (.lelem t xs i off) s
    | .fn f c => K (.fn f c) s
    | _ => none
  | .binOp op T x y _ => binX cx op T x y (ev s x) (ev s y) fun v => K v s
  | .unOp op _ x => match op, ev s x with
    | .neg, .int k n => K (.int k (k.wrap (0 - n))) s
    | .xor, .int k n => K (.int k (xorI k (if k.signed then -1 else k.max) n)) s
    | .not, .bool b => K (.bool (!b)) s
    | _, _ => none
  | .convert src dst x => match ((cx.T src).map TI.desc : Option TD), ((cx.T dst).map TI.desc : Option TD), ev s x with
    | some _, some (.int k), .int _ n => K (.int k (k.wrap n)) s
    | some _, some .str, .str b => K (.str b) s
    | some (.slice e), some .str, y => match ((cx.T e).map TI.desc : Option TD), listOf (.int .u8) s y with
      | some (.int .u8), some ys => K (.str ⟨(ys.map fun n => UInt8.ofNat n.toNat).toArray⟩) s
      | _, _ => none
    | some .str, some (.slice e), .str b => match cx.T e with
      | some te => match te.desc, te.ty with
        | .int .u8, some (.int .u8) => chk (!s.u nm) (K (.own nm) (s.born nm (.row (.int .u8) (b.data.toList.map fun c => (c.toNat : Int)) true)))
        | _, _ => none
      | none => none
    | _, _, _ => none
  | .makeInterface T x => match ((cx.T T).map TI.desc : Option TD) with
    | some .iface => none
    | some _ => K (.ifc T (ev s x)) s
    | none => none
  | .makeFunc (.func f) fs cs => bif Nat.beq fs.size 0 then K (.fn f (cs.toList.map (ev s))) s else none
  | .makeSlice T l c => match ev s l, ev s c with
    | .int _ n, .int _ c => makeRow cx T n c nm s K
    | _, _ => none
  | .slice T x lo (some hi) (some mx) => match elemTI cx T with
    | some (t, _) => match (match lo with
        | none => (.int .i64 0 : PV D)
        | some l => ev s l), ev s hi, ev s mx with
      | .int _ 0, .int _ 0, .int _ 0 => chk (!s.u nm && isSl s (ev s x)) (K (.own nm) (s.born nm (.row t [] true)))
      | _, _, _ => none
    | none => none
  | .slice T x lo hi none => sliceV cx T (ev s x) (lo.map (ev s)) (hi.map (ev s)) s fun v => K v s
  | .fieldAddr T a f => match ((cx.T T).map TI.desc : Option TD) with
    | some (.struct fs) => match fs[f]? with
      | some (off, _, _) => offA (ev s a) off s fun v => K v s
      | none => none
    | _ => none
  | .field T a f => match ((cx.T T).map TI.desc : Option TD), ev s a with
    | some (.struct fs), .agg cs => match fs[f]? with
      | some (off, size, agg) => chk (Nat.ble (off + size) cs.length) (K (one agg ((cs.drop off).take size)) s)
      | none => none
    | _, _ => none
  | .indexAddr T x i => indexAddr cx T (evG cx s x) (ev s i) s fun v => K v s
  | .index T x i => match cx.T T, ev s x, ev s i with
    | some ti, .arr t xs, .int _ i => match ti.desc with
      | .arr n e => match cx.T e with
        | some te => chk (inb i n && inb i xs.length && Nat.beq te.size (encC cx t (xs.getD i.toNat (t.zero cx))).length) (K (one te.agg ((encC cx t (xs.getD i.toNat (t.zero cx))).take te.size)) s)
        | none => none
      | _ => none
    | some ti, .str b, .int _ i => match ti.desc with
      | .str => chk (inb i b.size) (K (.int .u8 ((b.data.toList.getD i.toNat 0).toNat : Int)) s)
      | _ => none
    | _, _, _ => none
  | .extract x i => match ev s x with
    | .tup l => match l[i]? with
      | some v => K v s
      | none => none
    | _ => none
  | .call c => match c.callee with
    | .value f => match ev s f with
      | .fn g caps => call cx orc keep g (c.args.toList.map (ev s) ++ caps) nm s K
      | _ => none
    | .builtin .len => match c.argTypes.toList, c.args.toList.map (ev s) with
      | [T], [x] => match ((cx.T T).map TI.desc : Option TD), x with
        | some (.slice _), .str _ => none
        | some (.slice _), x => lenV x s fun v => K v s
        | some .str, .str b => K (.int .i64 b.size) s
        | some (.arr n _), _ => K (.int .i64 n) s
        | _, _ => none
      | _, _ => none
    | .builtin .cap => match c.argTypes.toList, c.args.toList.map (ev s) with
      | [T], [.nil] => match ((cx.T T).map TI.desc : Option TD) with
        | some (.slice _) => K (.int .i64 0) s
        | _ => none
      | _, _ => none
    | .builtin .append => match c.argTypes.toList, c.args.toList.map (ev s) with
      | [T, T'], [x, y] => append cx T T' x y nm s K
      | _, _ => none
    | .builtin .copy => match c.argTypes.toList, c.args.toList.map (ev s) with
      | [T, _], [x, y] => match elemTI cx T with
        | some (t, _) => copyV t x y s K
        | none => none
      | _, _ => none
    | .builtin .clear => match c.argTypes.toList, c.args.toList.map (ev s) with
      | [T], [x] => match elemTI cx T with
        | some (t, _) => clearV cx t x s K
        | none => none
      | _, _ => none
    | .builtin .max => match c.args.toList.map (ev s) with
      | [.int k a, .int k' b] => bif decide (k = k') then K (max2 k a b) s else none
      | _ => none
    | .builtin .min => match c.args.toList.map (ev s) with
      | [.int k a, .int k' b] => bif decide (k = k') then K (min2 k a b) s else none
      | _ => none
    | _ => none
  | _ => none

def putD (s : St D) (d : Option Nat) (v : PV D) : St D := match d with
  | some d => bif Nat.blt d N then s.put d v else s
  | none => s

def nmOf (rid : Nat) (o : Oper) : Nat := (rid + 1) * 65536 + 16 * (match o.dst with | some d => d + 1 | none => 0)

def runOps (all : Array Oper) (rid : Nat) : List Oper → St D → (St D → Option R) → Option R
  | [], s, K => K s
  | o :: os, s, K =>
    let go (s : St D) : Option R := op1 cx orc keep o (nmOf rid o) s fun v s' => runOps all rid os (putD N s' o.dst v) K
    let no (s : St D) : Option R := runOps all rid os (putD N s o.dst .skip) K
    match o.guard with
    | none => go s
    | some (j, want) => match (all[j]?).bind (·.dst) with
      | none => no s
      | some g => match s.t g with
        | .bool b => bif b then (bif want then go (putD N s (some g) (.bool true)) else no (putD N s (some g) (.bool true))) else (bif want then no (putD N s (some g) (.bool false)) else go (putD N s (some g) (.bool false)))
        | .skip => no s
        | _ => none

/-- What it touches: names. -/
def fpOf (o : Oper) (s : St D) : List Nat := match o.op with
  | .move _ => []
  | .assign _ => []
  | .pick _ _ _ => []
  | .binOp _ _ _ _ _ => []
  | .unOp _ _ _ => []
  | .makeInterface _ _ => []
  | .makeFunc _ _ _ => []
  | .field _ _ _ => []
  | .extract _ _ => []
  | .index _ _ _ => []
  | .call c => match c.callee with
    | .value f => match ev s f with
      | .fn g caps => names.go (c.args.toList.map (ev s) ++ caps) ++ reach s 1000 (names.go (lend s (keep g) (c.args.toList.map (ev s) ++ caps))) []
      | _ => []
    | _ => names.go (c.args.toList.map (ev s))
  | op => names.go (op.operands.toList.map (ev s))

/-- It leaves the objects alone. -/
def quiet (o : Oper) : Bool := match o.op with
  | .move _ => true
  | .assign _ => true
  | .pick _ _ _ => true
  | .load _ _ => true
  | .nilCheck _ => true
  | .binOp _ _ _ _ _ => true
  | .unOp _ _ _ => true
  | .convert _ dst _ => match ((cx.T dst).map TI.desc : Option TD) with
    | some (.slice _) => false
    | _ => true
  | .makeInterface _ _ => true
  | .makeFunc _ _ _ => true
  | .fieldAddr _ _ _ => true
  | .field _ _ _ => true
  | .indexAddr _ _ _ => true
  | .index _ _ _ => true
  | .extract _ _ => true
  | .build T _ => match ((cx.T T).map TI.desc : Option TD) with
    | some (.struct _) => true
    | _ => false
  | .slice _ _ _ _ none => true
  | .call c => match c.callee with
    | .builtin .len => true
    | .builtin .cap => true
    | .builtin .max => true
    | .builtin .min => true
    | _ => false
  | _ => false

/-- One operation of a region, with its guard. -/
def stepOp (all : Array Oper) (rid : Nat) (o : Oper) (s : St D) (K : St D → Option R) : Option R :=
  let go (s : St D) : Option R := op1 cx orc keep o (nmOf rid o) s fun v s' => K (putD N s' o.dst v)
  let no (s : St D) : Option R := K (putD N s o.dst .skip)
  match o.guard with
  | none => go s
  | some (j, want) => match (all[j]?).bind (·.dst) with
    | none => no s
    | some g => match s.t g with
      | .bool b => bif b then (bif want then go (putD N s (some g) (.bool true)) else no (putD N s (some g) (.bool true))) else (bif want then no (putD N s (some g) (.bool false)) else go (putD N s (some g) (.bool false)))
      | .skip => no s
      | _ => none

/-- What comes before what. -/
def maskOf (ms : List Nat) (es : List Edge) : Nat := es.foldl (fun acc e => bif Region.binds .any e then acc ||| (1 <<< e.on) ||| ms.getD e.on 0 else acc) 0
def masks : List Oper → List Nat → List Nat
  | [], ms => ms
  | o :: os, ms => masks os (ms ++ [maskOf ms o.after.toList])

def disj (l m : List Nat) : Bool := l.all fun n => !memN m n

/-- They do not matter to each other: what each touches, and the names there are before it, being known. -/
def indep (all : Array Oper) (p : Oper) (fp : List Nat) (u : Nat → Bool) (o : Oper) (fo : List Nat) (uo : Nat → Bool) : Bool :=
  Oper.apart all p o && (bif quiet cx p then (quiet cx o || (disj fp fo && fp.all uo)) else (quiet cx o && (disj fp fo && fo.all u)))

/-- A region whose operations come in any order: run in the text's order, and whatever is not ordered must not matter to each other. -/
def goD (all : Array Oper) (rid : Nat) (ms : List Nat) : List Oper → Nat → List (Nat × Oper × List Nat × (Nat → Bool)) → St D → (St D → Option R) → Option R
  | [], _, _, s, K => K s
  | o :: os, k, log, s, K =>
    chk (log.all fun (j, p, fp, u) => (ms.getD k 0).testBit j || indep cx all p fp u o (fpOf keep o s) s.u)
      (stepOp cx orc keep N all rid o s fun s' => goD all rid ms os (k + 1) (log ++ [(k, o, fpOf keep o s, s.u)]) s' K)

/-- Edges go back in the text. -/
def backw : List Oper → Nat → Bool
  | [], _ => true
  | o :: os, k => (o.after.toList.all fun e => !Region.binds .any e || Nat.blt e.on k) && backw os (k + 1)

def runD (all : Array Oper) (rid : Nat) (l : List Oper) (s : St D) (K : St D → Option R) : Option R :=
  chk (Region.noSelect all && backw l 0) (goD cx orc keep N all rid (masks l []) l 0 [] s K)

/-- The first region's number. -/
def keyOf : Code → Nat
  | .region id _ _ => id
  | .seq a _ => keyOf a
  | .block _ b => keyOf b
  | .loop b => keyOf b
  | .scope b => keyOf b
  | .cond _ a b => bif Nat.beq (keyOf a) 0 then keyOf b else keyOf a
  | _ => 0

def exec : Code → St D → (Ex → St D → Option R) → Option R
  | .skip, s, K => K .normal s
  | .label _, s, K => K .normal s
  | .region id ops d, s, K => bif d then runD cx orc keep N ops id ops.toList s (fun s' => K .normal s') else runOps cx orc keep N ops id ops.toList s fun s' => K .normal s'
  | .seq a b, s, K => match ann (keyOf b + 1000000) with
    | none => exec a s fun e s' => match e with
      | .normal => exec b s' K
      | e => K e s'
    | some l => exec a s fun e s' => match e with
      | .normal => cut n0 l.hd s' fun vs os => lrc (keyOf b + 1000000) vs os fun e vs os => match l.ex e with
        | some c => K e (mkSt n0 c vs os)
        | none => none
      | e => K e s'
  | .cond c a b, s, K => match ev s c with
    | .bool t => bif t then exec a s K else exec b s K
    | _ => none
  | .block id a, s, K => exec a s fun e s' => match e with
    | .exit j => bif Nat.beq j id then K .normal s' else K (.exit j) s'
    | e => K e s'
  | .loop b, s, K => match ann (keyOf b) with
    | none => none
    | some l => cut n0 l.hd s fun vs os => lrc (keyOf b) vs os fun e vs os => match l.ex e with
      | some c => K e (mkSt n0 c vs os)
      | none => none
  | .exit id, s, K => K (.exit id) s
  | .ret, s, K => K .ret s
  | .scope a, s, K => exec a s K
  | _, _, _ => none

/-- One round of a loop. -/
def round (l : LAnn) (b : Code) (vs : List (PV D)) (os : List (Option (Obj D)))
    (again : List (PV D) → List (Option (Obj D)) → Option R) (K : Ex → List (PV D) → List (Option (Obj D)) → Option R) : Option R :=
  exec cx orc lrc ann keep N n0 b (mkSt n0 l.hd vs os) fun e s' => match e with
    | .normal => cut n0 l.hd s' again
    | e => match l.ex e with
      | some c => cut n0 c s' fun vs os => K e vs os
      | none => none

/-- What comes behind a place where ways meet. -/
def tailR (l : LAnn) (b : Code) (vs : List (PV D)) (os : List (Option (Obj D))) (K : Ex → List (PV D) → List (Option (Obj D)) → Option R) : Option R :=
  exec cx orc lrc ann keep N n0 b (mkSt n0 l.hd vs os) fun e s' => match l.ex e with
    | some c => cut n0 c s' fun vs os => K e vs os
    | none => none

/-- The results, by their places. -/
def resV (s : St D) : List ResultVar → (List (PV D) → Option R) → Option R
  | [], K => K []
  | .tmp t :: rs, K => resV s rs fun vs => K (s.t t :: vs)
  | .cell a T :: rs, K => load cx T (s.t a) s fun v => resV s rs fun vs => K (v :: vs)

def newN (n : Nat) (L : List Nat) : List Nat := L.filter fun m => Nat.ble n m

def renF (n : Nat) (new : List Nat) (m : Nat) : Nat := bif Nat.blt m n then m else n + idx new m

def optO (s : St D) (f : Nat → Nat) (m : Nat) : Option (Obj D) := match s.o m with
  | some ob => some (renO f ob)
  | none => none

/-- The end of a function that was handed n objects. -/
def fin (rs : List ResultVar) (c : List (Loc × Mode)) (n : Nat) (K : RV D → Option R) : Ex → St D → Option R := fun e s => match e with
  | .exit _ => none
  | _ => coerce c s fun s => resV cx s rs fun vs =>
    let L := reach s 1000 (names.go vs ++ List.range n) []
    let new := newN n L
    chk ((names.go vs).all (fun m => Nat.blt m n || memN new m) && nub new && (List.range n ++ new).all (fun m => (namesO (s.o m)).all (fun m => Nat.blt m n || memN new m))) (K ⟨match ren.go (renF n new) vs with
      | [v] => v
      | l => .tup l, (List.range n ++ new).map (optO s (renF n new))⟩)

end ops
end
end Go.Am

/-! What the machine's values stand for in a world. -/
namespace Go.Am
variable {D : Nat → Type}

/-! ### Lists side by side -/
inductive All2 {α β : Type} (R : α → β → Prop) : List α → List β → Prop where
  | nil : All2 R [] []
  | cons {a b l m} : R a b → All2 R l m → All2 R (a :: l) (b :: m)

theorem All2.length {α β : Type} {R : α → β → Prop} {l : List α} {m : List β} (h : All2 R l m) : l.length = m.length := by
  induction h with
  | nil => rfl
  | cons _ _ ih => simp [ih]
theorem All2.mono {α β : Type} {R R' : α → β → Prop} {l : List α} {m : List β} (h : All2 R l m) (f : ∀ a b, a ∈ l → R a b → R' a b) : All2 R' l m := by
  induction h with
  | nil => exact .nil
  | cons h1 _ ih => exact .cons (f _ _ (by simp) h1) (ih fun a b ha => f a b (by simp [ha]))
theorem All2.get {α β : Type} {R : α → β → Prop} {l : List α} {m : List β} (h : All2 R l m) : ∀ (i : Nat) a, l[i]? = some a → ∃ b, m[i]? = some b ∧ R a b := by
  induction h with
  | nil => intro i a h; simp at h
  | cons h1 _ ih =>
    intro i a ha
    cases i with
    | zero => simp at ha; subst ha; exact ⟨_, by simp, h1⟩
    | succ i => simp at ha; obtain ⟨b, hb, hr⟩ := ih i a ha; exact ⟨b, by simpa using hb, hr⟩
theorem All2.get' {α β : Type} {R : α → β → Prop} {l : List α} {m : List β} (h : All2 R l m) : ∀ (i : Nat) b, m[i]? = some b → ∃ a, l[i]? = some a ∧ R a b := by
  induction h with
  | nil => intro i a h; simp at h
  | cons h1 _ ih =>
    intro i a ha
    cases i with
    | zero => simp at ha; subst ha; exact ⟨_, by simp, h1⟩
    | succ i => simp at ha; obtain ⟨b, hb, hr⟩ := ih i a ha; exact ⟨b, by simpa using hb, hr⟩
theorem All2.of_get {α β : Type} {R : α → β → Prop} : ∀ (l : List α) (m : List β), l.length = m.length → (∀ (i : Nat) a b, l[i]? = some a → m[i]? = some b → R a b) → All2 R l m
  | [], [], _, _ => .nil
  | [], _ :: _, h, _ => by simp at h
  | _ :: _, [], h, _ => by simp at h
  | a :: l, b :: m, h, f => .cons (f 0 a b (by simp) (by simp)) (All2.of_get l m (by simpa using h) fun i x y hx hy => f (i + 1) x y (by simpa using hx) (by simpa using hy))
theorem All2.append {α β : Type} {R : α → β → Prop} {l l' : List α} {m m' : List β} (h : All2 R l m) (h' : All2 R l' m') : All2 R (l ++ l') (m ++ m') := by
  induction h with
  | nil => exact h'
  | cons h1 _ ih => exact .cons h1 ih
theorem All2.take {α β : Type} {R : α → β → Prop} {l : List α} {m : List β} (h : All2 R l m) (n : Nat) : All2 R (l.take n) (m.take n) := by
  induction h generalizing n with
  | nil => simpa using .nil
  | cons h1 _ ih =>
    cases n with
    | zero => simpa using .nil
    | succ n => simpa using .cons h1 (ih n)
theorem All2.drop {α β : Type} {R : α → β → Prop} {l : List α} {m : List β} (h : All2 R l m) (n : Nat) : All2 R (l.drop n) (m.drop n) := by
  induction h generalizing n with
  | nil => simpa using .nil
  | cons h1 h2 ih =>
    cases n with
    | zero => simpa using .cons h1 h2
    | succ n => simpa using ih n
theorem All2.map {α β γ δ : Type} {R : α → β → Prop} {f : γ → α} {g : δ → β} {l : List γ} {m : List δ} (h : All2 (fun a b => R (f a) (g b)) l m) : All2 R (l.map f) (m.map g) := by
  induction h with
  | nil => exact .nil
  | cons h1 _ ih => exact .cons h1 ih
theorem All2.comp {α β γ : Type} {R : α → β → Prop} {S : α → γ → Prop} {U : β → γ → Prop} {l : List α} {m : List β} {k : List γ} (f : ∀ a b c, R a b → S a c → U b c)
    (h : All2 R l m) (h' : All2 S l k) : All2 U m k := by
  induction h generalizing k with
  | nil => cases h'; exact .nil
  | cons h1 _ ih => cases h' with | cons h2 h3 => exact .cons (f _ _ _ h1 h2) (ih h3)
theorem All2.flip {α β : Type} {R : α → β → Prop} {l : List α} {m : List β} (h : All2 R l m) : All2 (fun b a => R a b) m l := by
  induction h with
  | nil => exact .nil
  | cons h1 _ ih => exact .cons h1 ih

/-! ### Values for ever -/
def deep (cx : Cx D) : (t : Ty) → t.den D → List IV
  | .int k, n => [.int k n]
  | .bool, b => [.bool b]
  | .str, s => [.str s]
  | .slice t, xs => [.list (sz cx t) (xs.map (deep cx t))]
  | .named r, v => cx.deep r v

inductive Rep (F : Nat → Prop) (w : World) : Value → IV → Prop where
  | int {k n} : Rep F w (.int k n) (.int k n)
  | bool {b} : Rep F w (.bool b) (.bool b)
  | str {s} : Rep F w (.string s) (.str s)
  | nil {z} : Rep F w (.slice none 0 0) (.list z [])
  | list {a c z xs} (u : Nat → Nat → Value) (hc : xs.length ≤ c) (hF : xs ≠ [] → F a.block)
      (hcell : ∀ i l j x, xs[i]? = some l → l[j]? = some x → w.cell? (a.add (i * z + j)) = some (u i j))
      (hrep : ∀ i l j x, xs[i]? = some l → l[j]? = some x → Rep F w (u i j) x) : Rep F w (.slice (some a) xs.length c) (.list z xs)

theorem Rep.empty {F : Nat → Prop} {w : World} (a : Option Addr) (z : Nat) : Rep F w (.slice a 0 0) (.list z []) := by
  cases a with
  | none => exact .nil
  | some a => exact .list (xs := []) (fun _ _ => .nilIface) (Nat.le_refl _) (by simp) (by simp) (by simp)

theorem add_block (a : Addr) (n : Nat) : (a.add n).block = a.block := by unfold Addr.add; split <;> rfl

theorem cell_of_heap {w w' : World} {a : Addr} (h : w'.heap[a.block]? = w.heap[a.block]?) : w'.cell? a = w.cell? a := by
  unfold World.cell?; rw [h]

theorem Rep.mono {F F' : Nat → Prop} {w w' : World} {v : Value} {x : IV} (hF : ∀ b, F b → F' b) (hw : ∀ b, F b → w'.heap[b]? = w.heap[b]?) (h : Rep F w v x) : Rep F' w' v x := by
  induction h with
  | int => exact .int
  | bool => exact .bool
  | str => exact .str
  | nil => exact .nil
  | list u hc hF' hcell hrep ih =>
    refine .list u hc (fun hx => hF _ (hF' hx)) (fun i l j x h1 h2 => ?_) (fun i l j x h1 h2 => ih i l j x h1 h2)
    rw [cell_of_heap, hcell i l j x h1 h2]
    rw [add_block]
    exact hw _ (hF' (by rintro rfl; simp at h1))

/-- A cell of the machine's that stands for what is for ever. -/
def CS (cx : Cx D) : PV D → IV → Prop
  | .int k n, x => x = .int k n
  | .bool b, x => x = .bool b
  | .str s, x => x = .str s
  | .list t xs, x => x = .list (sz cx t) (xs.map (deep cx t))
  | _, _ => False
/-- The same, nil let in. -/
def CI (cx : Cx D) : PV D → IV → Prop
  | .nil, x => ∃ z, x = .list z []
  | p, x => CS cx p x

theorem CI_of_CS {cx : Cx D} {p : PV D} {x : IV} (h : CS cx p x) : CI cx p x := by
  cases p <;> first | exact h | exact h.elim

/-! ### The machine's values -/
inductive Sh where
  | box | row (z len : Nat)

def shO (cx : Cx D) : Option (Obj D) → Option Sh
  | some (.box _) => some .box
  | some (.row t xs _) => some (.row (sz cx t) xs.length)
  | none => none

abbrev Beta := Nat → Option (Nat × Nat × Nat)

def rowV : Option (Nat × Nat × Nat) → Nat → Value → Prop
  | none, _, v => ∃ a, v = .slice a 0 0
  | some (b, off, cap), n, v => v = .slice (some ⟨b, off, none⟩) n cap

section
variable (cx : Cx D) (S : Nat → Option Sh) (β : Beta) (F : Nat → Prop) (w : World)

mutual
def PRep : PV D → Value → Prop
  | .undef, _ => True
  | .skip, v => v = undef
  | .int k n, v => v = .int k n
  | .bool b, v => v = .bool b
  | .str s, v => v = .string s
  | .nilI, v => v = .nilIface
  | .ifc t p, v => ∃ u, v = .iface t u ∧ PRep p u
  | .agg l, v => ∃ cs, v = .agg cs ∧ PReps l cs.toList
  | .arr t xs, v => ∃ cs, v = .agg cs ∧ All2 (Rep F w) cs.toList (xs.flatMap (deep cx t))
  | .tup l, v => ∃ cs, v = .tuple cs ∧ PReps l cs.toList
  | .nil, v => v = .slice none 0 0
  | .list t xs, v => Rep F w v (.list (sz cx t) (xs.map (deep cx t)))
  | .own o, v => match S o with
    | some (.row _ n) => rowV (β o) n v
    | some .box => False
    | none => ∃ a n c, v = .slice a n c
  | .view o lo n, v => match S o with
    | some (.row z len) => lo + n ≤ len ∧ (match β o with
      | none => ∃ a, v = .slice a 0 0
      | some (b, off, cap) => ∃ off', v = .slice (some ⟨b, off', none⟩) n (cap - lo) ∧ (off' = off + lo * z ∨ (lo = cap ∧ off' ≤ off + lo * z)))
    | some .box => ∃ b o0 c cap, β o = some (b, o0, c) ∧ v = .slice (some ⟨b, o0, none⟩) n cap
    | none => ∃ a n c, v = .slice a n c
  | .ptr o off, v => match S o with
    | some .box => ∃ b o0 c, β o = some (b, o0, c) ∧ v = .pointer (some ⟨b, o0 + off, none⟩)
    | some (.row _ len) => ∃ b o0, β o = some (b, o0, len) ∧ v = .pointer (some ⟨b, o0, none⟩)
    | none => ∃ a, v = .pointer (some a)
  | .elem o i off, v => match S o with
    | some (.row z len) => i < len ∧ ∃ b o0 c, β o = some (b, o0, c) ∧ v = .pointer (some ⟨b, o0 + (i * z + off), none⟩)
    | some .box => False
    | none => ∃ a, v = .pointer (some a)
  | .lelem t xs i off, v => i < xs.length ∧ ∃ a c, Rep F w (.slice (some a) xs.length c) (.list (sz cx t) (xs.map (deep cx t))) ∧ v = .pointer (some (a.add (i * sz cx t + off)))
  | .nilp, v => v = .pointer none
  | .fn f caps, v => ∃ cs, v = .func (.func f) #[] cs ∧ PReps caps cs.toList
  | .nilf, v => v = .nilFunc
  | .full t xs, v => (∃ a n c, v = .slice (some a) n c) ∧ Rep F w v (.list (sz cx t) (xs.map (deep cx t)))
  | .opt t xs b, v => (b = true → v = .slice none 0 0) ∧ Rep F w v (.list (sz cx t) (xs.map (deep cx t)))
def PReps : List (PV D) → List Value → Prop
  | [], [] => True
  | p :: ps, v :: vs => PRep p v ∧ PReps ps vs
  | _, _ => False
end

theorem PReps_all2 {l : List (PV D)} {m : List Value} : PReps cx S β F w l m ↔ All2 (PRep cx S β F w) l m := by
  induction l generalizing m with
  | nil => cases m with
    | nil => simp [PReps]; exact .nil
    | cons => simp [PReps]; intro h; cases h
  | cons p ps ih => cases m with
    | nil => simp [PReps]; intro h; cases h
    | cons v vs =>
      simp only [PReps]
      constructor
      · exact fun ⟨h1, h2⟩ => .cons h1 (ih.1 h2)
      · intro h; cases h with | cons h1 h2 => exact ⟨h1, ih.2 h2⟩
end

section
variable {cx : Cx D} {S S' : Nat → Option Sh} {β β' : Beta} {F F' : Nat → Prop} {w w' : World}

mutual
theorem PRep.mono (hF : ∀ b, F b → F' b) (hw : ∀ b, F b → w'.heap[b]? = w.heap[b]?) :
    ∀ (p : PV D) (v : Value), (∀ n ∈ names p, (S' n = S n ∧ β' n = β n) ∨ S' n = none) → PRep cx S β F w p v → PRep cx S' β' F' w' p v
  | .undef, v, _, h => trivial
  | .skip, v, _, h => h
  | .int k n, v, _, h => h
  | .bool b, v, _, h => h
  | .str s, v, _, h => h
  | .nilI, v, _, h => h
  | .ifc t p, v, hn, h => by
    obtain ⟨u, rfl, h⟩ := h
    exact ⟨u, rfl, PRep.mono hF hw p u (fun n hm => hn n (by simpa [names] using hm)) h⟩
  | .agg l, v, hn, h => by
    obtain ⟨cs, rfl, h⟩ := h
    exact ⟨cs, rfl, PReps.mono hF hw l cs.toList (fun n hm => hn n (by simpa [names] using hm)) h⟩
  | .arr t xs, v, _, h => by
    obtain ⟨cs, rfl, h⟩ := h
    exact ⟨cs, rfl, h.mono fun a b _ hr => hr.mono hF hw⟩
  | .tup l, v, hn, h => by
    obtain ⟨cs, rfl, h⟩ := h
    exact ⟨cs, rfl, PReps.mono hF hw l cs.toList (fun n hm => hn n (by simpa [names] using hm)) h⟩
  | .nil, v, _, h => h
  | .list t xs, v, _, h => Rep.mono hF hw h
  | .own o, v, hn, h => by
    rcases hn o (by simp [names]) with ⟨h1, h2⟩ | h1
    · simpa only [PRep, h1, h2] using h
    · simp only [PRep, h1]
      simp only [PRep] at h
      split at h
      · unfold rowV at h; split at h
        · obtain ⟨a, h⟩ := h; exact ⟨_, _, _, h⟩
        · exact ⟨_, _, _, h⟩
      · exact h.elim
      · exact h
  | .view o lo n, v, hn, h => by
    rcases hn o (by simp [names]) with ⟨h1, h2⟩ | h1
    · simpa only [PRep, h1, h2] using h
    · simp only [PRep, h1]
      simp only [PRep] at h
      split at h
      · obtain ⟨_, h⟩ := h
        split at h
        · obtain ⟨a, h⟩ := h; exact ⟨_, _, _, h⟩
        · obtain ⟨o', h, _⟩ := h; exact ⟨_, _, _, h⟩
      · obtain ⟨_, _, _, _, _, h⟩ := h; exact ⟨_, _, _, h⟩
      · exact h
  | .ptr o off, v, hn, h => by
    rcases hn o (by simp [names]) with ⟨h1, h2⟩ | h1
    · simpa only [PRep, h1, h2] using h
    · simp only [PRep, h1]
      simp only [PRep] at h
      split at h
      · obtain ⟨b, o0, c, _, h⟩ := h; exact ⟨_, h⟩
      · obtain ⟨b, o0, _, h⟩ := h; exact ⟨_, h⟩
      · exact h
  | .elem o i off, v, hn, h => by
    rcases hn o (by simp [names]) with ⟨h1, h2⟩ | h1
    · simpa only [PRep, h1, h2] using h
    · simp only [PRep, h1]
      simp only [PRep] at h
      split at h
      · obtain ⟨_, b, o0, c, _, h⟩ := h; exact ⟨_, h⟩
      · exact h.elim
      · exact h
  | .lelem t xs i off, v, _, h => by
    obtain ⟨hi, a, c, h1, h2⟩ := h
    exact ⟨hi, a, c, h1.mono hF hw, h2⟩
  | .nilp, v, _, h => h
  | .fn f caps, v, hn, h => by
    obtain ⟨cs, rfl, h⟩ := h
    exact ⟨cs, rfl, PReps.mono hF hw caps cs.toList (fun n hm => hn n (by simpa [names] using hm)) h⟩
  | .nilf, v, _, h => h
  | .full t xs, v, _, h => ⟨h.1, Rep.mono hF hw h.2⟩
  | .opt t xs b, v, _, h => ⟨h.1, Rep.mono hF hw h.2⟩
theorem PReps.mono (hF : ∀ b, F b → F' b) (hw : ∀ b, F b → w'.heap[b]? = w.heap[b]?) :
    ∀ (l : List (PV D)) (m : List Value), (∀ n ∈ names.go l, (S' n = S n ∧ β' n = β n) ∨ S' n = none) → PReps cx S β F w l m → PReps cx S' β' F' w' l m
  | [], [], _, h => h
  | [], _ :: _, _, h => h
  | _ :: _, [], _, h => h
  | p :: ps, v :: vs, hn, h =>
    ⟨PRep.mono hF hw p v (fun n hm => hn n (by simp [names.go, hm])) h.1, PReps.mono hF hw ps vs (fun n hm => hn n (by simp [names.go, hm])) h.2⟩
end
end

/-- The package's variables that nobody writes to. -/
def GInv (cx : Cx D) (F : Nat → Prop) (w : World) : Prop :=
  (∀ g, names (cx.gv g) = [] ∧ PRep cx (fun _ => none) (fun _ => none) F w (cx.gv g) (.pointer (some ⟨g, 0, none⟩))) ∧ ∀ p ∈ cx.gc, F p.1 ∧ w.cell? ⟨p.1, 0, none⟩ = some p.2
theorem GInv.mono {cx : Cx D} {F F' : Nat → Prop} {w w' : World} (h : GInv cx F w) (hF : ∀ b, F b → F' b) (hw : ∀ b, F b → w'.heap[b]? = w.heap[b]?) : GInv cx F' w' :=
  ⟨fun g => ⟨(h.1 g).1, PRep.mono hF hw _ _ (fun n hn => by rw [(h.1 g).1] at hn; simp at hn) (h.1 g).2⟩, fun p hp => ⟨hF _ (h.2 p hp).1, (cell_of_heap (hw _ (h.2 p hp).1)).trans (h.2 p hp).2⟩⟩

theorem mem_names_go {l : List (PV D)} {n : Nat} : n ∈ names.go l ↔ ∃ p ∈ l, n ∈ names p := by
  induction l with
  | nil => simp [names.go]
  | cons p ps ih => simp [names.go, ih]

/-! ### The objects -/
def Wr (O : Nat → Option (Obj D)) (β : Beta) (n b : Nat) : Prop :=
  (∃ x, β n = some (b, x)) ∧ match O n with
    | some (.box _) => True
    | some (.row _ _ l) => l = true
    | none => False

structure RowAt (cx : Cx D) (F : Nat → Prop) (w : World) (t : Ty) (xs : List (t.den D)) (l : Bool) (b off cap : Nat) (c : Array Value) (e : TypeId) (fr : Nat × Nat) : Prop where
  at_ : w.heap[b]? = some (.cells c e fr)
  lecap : xs.length ≤ cap
  size : off + cap * sz cx t ≤ c.size
  free : ∀ j, j < c.size → ¬ (fr.1 ≤ j ∧ j < fr.2)
  cell : ∀ i x j y, xs[i]? = some x → (deep cx t x)[j]? = some y → ∃ u, c[off + (i * sz cx t + j)]? = some u ∧ Rep F w u y
  still : l = false → F b

structure BoxAt (cx : Cx D) (S : Nat → Option Sh) (β : Beta) (F : Nat → Prop) (w : World) (cs : List (PV D)) (b : Nat) (c : Array Value) (e : TypeId) (fr : Nat × Nat) : Prop where
  at_ : w.heap[b]? = some (.cells c e fr)
  free : ∀ j, j < c.size → ¬ (fr.1 ≤ j ∧ j < fr.2)
  reps : PReps cx S β F w cs c.toList

structure HRep (cx : Cx D) (O : Nat → Option (Obj D)) (β : Beta) (F : Nat → Prop) (w : World) : Prop where
  box : ∀ n cs, O n = some (.box cs) → ∃ b c e fr, β n = some (b, 0, 0) ∧ BoxAt cx (fun m => shO cx (O m)) β F w cs b c e fr
  row : ∀ n t xs l, O n = some (.row t xs l) → (β n = none ∧ xs = []) ∨ ∃ b off cap c e fr, β n = some (b, off, cap) ∧ RowAt cx F w t xs l b off cap c e fr
  apart : ∀ n m b, Wr O β n b → Wr O β m b → n = m
  away : ∀ n b, Wr O β n b → ¬ F b
  fin : ∀ b, F b → b < w.heap.size
  gl : GInv cx F w

theorem HRep.lt {cx : Cx D} {O : Nat → Option (Obj D)} {β : Beta} {F : Nat → Prop} {w : World} (h : HRep cx O β F w) {n b : Nat} (hw : Wr O β n b) : b < w.heap.size := by
  obtain ⟨⟨x, hx⟩, hm⟩ := hw
  split at hm
  · rename_i cs ho
    obtain ⟨b', c, e, fr, hb, hB⟩ := h.box n cs ho
    rw [hb] at hx; simp at hx; obtain ⟨rfl, _⟩ := hx
    exact (Array.getElem?_eq_some_iff.1 hB.at_).1
  · rename_i t xs l ho
    rcases h.row n t xs l ho with ⟨hb, _⟩ | ⟨b', off, cap, c, e, fr, hb, hB⟩
    · rw [hb] at hx; simp at hx
    · rw [hb] at hx; simp at hx; obtain ⟨rfl, _⟩ := hx
      exact (Array.getElem?_eq_some_iff.1 hB.at_).1
  · exact hm.elim

/-- What was there stays as it was, but for some blocks. -/
structure Kept (w : World) (W : Nat → Prop) (w' : World) : Prop where
  os : w'.os = w.os
  tape : w'.tape = w.tape
  output : w'.output = w.output
  size : w.heap.size ≤ w'.heap.size
  block : ∀ b, b < w.heap.size → ¬ W b → w'.heap[b]? = w.heap[b]?

theorem Kept.refl (w : World) (W : Nat → Prop) : Kept w W w := ⟨rfl, rfl, rfl, Nat.le_refl _, fun _ _ _ => rfl⟩

/-- Of the same shape. -/
def sameO : Option (Obj D) → Option (Obj D) → Prop
  | some (.box _), some (.box _) => True
  | some (.row t xs _), some (.row t' ys _) => t = t' ∧ xs.length = ys.length
  | none, none => True
  | _, _ => False

theorem sameO_refl (o : Option (Obj D)) : sameO o o := by
  cases o with
  | none => trivial
  | some ob => cases ob with
    | box cs => trivial
    | row t xs l => exact ⟨rfl, rfl⟩
theorem sameO_none {o : Option (Obj D)} (h : sameO none o) : o = none := by
  cases o with
  | none => rfl
  | some ob => exact h.elim
theorem sameO_trans {o o' o'' : Option (Obj D)} (h : sameO o o') (k : sameO o' o'') : sameO o o'' := by
  cases o with
  | none => cases sameO_none h; exact k
  | some ob => cases o' with
    | none => cases ob <;> exact h.elim
    | some ob' => cases o'' with
      | none => cases ob' <;> exact k.elim
      | some ob'' => cases ob <;> cases ob' <;> first | exact h.elim | (cases ob'' <;> first | exact k.elim | trivial | exact ⟨h.1.trans k.1, h.2.trans k.2⟩)
theorem sameO_sh {cx : Cx D} {o o' : Option (Obj D)} (h : sameO o o') : shO cx o' = shO cx o := by
  cases o with
  | none => cases sameO_none h; rfl
  | some ob => cases o' with
    | none => cases ob <;> exact h.elim
    | some ob' => cases ob <;> cases ob' <;> first | exact h.elim | rfl | (obtain ⟨h1, h2⟩ := h; subst h1; simp only [shO]; rw [h2])

/-- A step of the machine's: what it may do. -/
structure Step (O : Nat → Option (Obj D)) (u : Nat → Bool) (β : Beta) (F : Nat → Prop) (w : World) (O' : Nat → Option (Obj D)) (u' : Nat → Bool) (β' : Beta) (F' : Nat → Prop) (w' : World) : Prop where
  used : ∀ n, u n = true → u' n = true
  beta : ∀ n, u n = true → β' n = β n
  kept : Kept w (fun b => ∃ n, Wr O β n b) w'
  wr : ∀ n b, Wr O' β' n b → (∃ m, Wr O β m b) ∨ w.heap.size ≤ b
  f0 : ∀ b, F b → F' b
  f1 : ∀ b, F' b → F b ∨ (∃ m, Wr O β m b) ∨ w.heap.size ≤ b
  sh : ∀ n, u n = true → O' n = none ∨ sameO (O n) (O' n)

theorem Step.refl (O : Nat → Option (Obj D)) (u : Nat → Bool) (β : Beta) (F : Nat → Prop) (w : World) : Step O u β F w O u β F w :=
  ⟨fun _ h => h, fun _ _ => rfl, .refl _ _, fun n _b h => .inl ⟨n, h⟩, fun _ h => h, fun _ h => .inl h, fun _ _ => .inr (sameO_refl _)⟩

theorem Step.trans {O O' O'' : Nat → Option (Obj D)} {u u' u'' : Nat → Bool} {β β' β'' : Beta} {F F' F'' : Nat → Prop} {w w' w'' : World}
    (h : Step O u β F w O' u' β' F' w') (k : Step O' u' β' F' w' O'' u'' β'' F'' w'') : Step O u β F w O'' u'' β'' F'' w'' where
  used n hn := k.used n (h.used n hn)
  beta n hn := (k.beta n (h.used n hn)).trans (h.beta n hn)
  kept := by
    refine ⟨k.kept.os.trans h.kept.os, k.kept.tape.trans h.kept.tape, k.kept.output.trans h.kept.output, Nat.le_trans h.kept.size k.kept.size, fun b hb hw => ?_⟩
    rw [k.kept.block b (Nat.lt_of_lt_of_le hb h.kept.size), h.kept.block b hb hw]
    rintro ⟨n, hn⟩
    rcases h.wr n b hn with h1 | h1
    · exact hw h1
    · omega
  wr n b hn := by
    rcases k.wr n b hn with ⟨m, hm⟩ | h1
    · exact h.wr m b hm
    · exact .inr (Nat.le_trans h.kept.size h1)
  f0 b hb := k.f0 b (h.f0 b hb)
  f1 b hb := by
    rcases k.f1 b hb with h1 | ⟨m, hm⟩ | h1
    · exact h.f1 b h1
    · rcases h.wr m b hm with h2 | h2
      · exact .inr (.inl h2)
      · exact .inr (.inr h2)
    · exact .inr (.inr (Nat.le_trans h.kept.size h1))
  sh n hn := by
    rcases k.sh n (h.used n hn) with h2 | h2
    · exact .inl h2
    · rcases h.sh n hn with h1 | h1
      · rw [h1] at h2; exact .inl (sameO_none h2)
      · exact .inr (sameO_trans h1 h2)

/-- The machine's state stands for the frame and the world. -/
structure SRep (cx : Cx D) (N : Nat) (s : St D) (β : Beta) (F : Nat → Prop) (a : Act) (w : World) : Prop where
  tn : a.tmps.size = N
  tm : ∀ i, PRep cx (fun m => shO cx (s.o m)) β F w (s.t i) (a.tmps.getD i undef)
  hp : HRep cx s.o β F w
  us : ∀ i n, n ∈ names (s.t i) → s.u n = true
  ub : ∀ m n, n ∈ namesO (s.o m) → s.u n = true
  uo : ∀ m, s.o m ≠ none → s.u m = true

/-! ### What is owed of the context -/
structure FieldOk (cx : Cx D) (P : Program) (f : Nat × Nat × Bool) (g : Field) : Prop where
  off : g.offset = f.1
  pos : 0 < f.2.1
  size : ∃ i, P.info? g.type = some i ∧ i.size = f.2.1
  agg : ∃ d, P.underlying g.type = some d ∧ (match d with | .struct _ | .array _ _ => true | _ => false) = f.2.2

def DescOk (cx : Cx D) (P : Program) : TD → TypeDesc → Prop
  | .int k, d => d = .int k
  | .bool, d => d = .bool
  | .str, d => d = .string
  | .slice e, d => d = .slice e
  | .struct fs, d => ∃ gs, d = .struct gs ∧ All2 (FieldOk cx P) fs gs.toList
  | .arr n e, d => d = .array n e
  | .ptr e, d => d = .pointer e
  | .iface, d => ∃ ms, d = .interface ms
  | .func, d => ∃ x y z, d = .func x y z
  | .tuple, d => ∃ x, d = .tuple x

structure TyOk (cx : Cx D) (P : Program) (T : TypeId) (ti : TI D) : Prop where
  desc : ∃ d, P.underlying T = some d ∧ DescOk cx P ti.desc d ∧ (match d with | .struct _ | .array _ _ => true | _ => false) = ti.agg
  info : ∃ i z, P.info? T = some i ∧ i.size = ti.size ∧ i.bytes = ti.bytes ∧ i.zero = some z ∧ (∀ S β F w, PReps cx S β F w ti.zero z.cells.toList) ∧ z.cells.size = ti.size ∧ (ti.agg = true ∨ z.cells = #[z]) ∧
    (∀ t, ti.ty = some t → sz cx t = ti.size ∧ 0 < ti.size ∧ 0 < ti.bytes ∧ ∀ F w, All2 (Rep F w) z.cells.toList (deep cx t (t.zero cx))) ∧
    (∀ n e te t, ti.desc = .arr n e → cx.T e = some te → te.ty = some t → ∀ F w, All2 (Rep F w) z.cells.toList ((List.replicate n (t.zero cx)).flatMap (deep cx t)))
  zn : names.go ti.zero = []
  eqs : ti.eqs = true → ∀ (op : BinOp) (x y : Operand) (xs ys : Array Value) (w : World) (cs ds : List (PV D)) (r : Bool) (S : Nat → Option Sh) (β : Beta) (F : Nat → Prop), likeZ ti.zero cs = true → eqCells cs ds = some r → PReps cx S β F w cs xs.toList → PReps cx S β F w ds ys.toList →
    (eqGuard op T x y (.agg xs) (.agg ys)).run P w = .ok () w ∧ (Op.equal T (.agg xs) (.agg ys)).run P w = .ok r w

structure CxOk (cx : Cx D) (P : Program) : Prop where
  ty : ∀ T ti, cx.T T = some ti → TyOk cx P T ti
  enc : ∀ r v, All2 (CS cx) (cx.enc r v) (cx.deep r v)
  dec : ∀ r cs v, cx.dec r cs = some v → All2 (CI cx) cs (cx.deep r v)
  size : ∀ r v, (cx.deep r v).length = cx.size r
  fl : ∀ r, cx.fl r = true → ∀ v, ∀ x ∈ cx.deep r v, x.flat = true

theorem flat_iv {cx : Cx D} (hfl : ∀ r, cx.fl r = true → ∀ v, ∀ x ∈ cx.deep r v, x.flat = true) : ∀ (t : Ty) (v : t.den D) (y : IV), Ty.flatC cx t = true → y ∈ deep cx t v → y.flat = true
  | .int _, _, y, _, h => by rw [List.mem_singleton.1 h]; rfl
  | .bool, _, y, _, h => by rw [List.mem_singleton.1 h]; rfl
  | .str, _, y, _, h => by rw [List.mem_singleton.1 h]; rfl
  | .slice _, _, _, h, _ => by simp [Ty.flatC, Ty.flat] at h
  | .named r, v, y, h, hy => hfl r h v y hy

end Go.Am

/-! The objects under the machine's steps. -/
namespace Go.Am
variable {D : Nat → Type} {cx : Cx D} {O : Nat → Option (Obj D)} {β : Beta} {F : Nat → Prop} {w w' : World}

theorem upd_same {α : Type} (f : Nat → α) (d : Nat) (v : α) : upd f d v d = v := by simp [upd]
theorem upd_ne {α : Type} (f : Nat → α) (d i : Nat) (v : α) (h : i ≠ d) : upd f d v i = f i := by
  have : Nat.beq i d = false := by rw [Bool.eq_false_iff]; intro hb; exact h (Nat.eq_of_beq_eq_true hb)
  simp [upd, this]
theorem upd_eq {α : Type} (f : Nat → α) (d i : Nat) (v : α) : upd f d v i = if i = d then v else f i := by
  by_cases h : i = d
  · subst h; simp [upd_same]
  · simp [upd_ne _ _ _ _ h, h]

theorem RowAt.mono {F' : Nat → Prop} {t : Ty} {xs : List (t.den D)} {l : Bool} {b off cap : Nat} {c : Array Value} {e : TypeId} {fr : Nat × Nat}
    (h : RowAt cx F w t xs l b off cap c e fr) (hF : ∀ b, F b → F' b) (hw : ∀ b, F b → w'.heap[b]? = w.heap[b]?) (hb : w'.heap[b]? = w.heap[b]?) : RowAt cx F' w' t xs l b off cap c e fr :=
  ⟨hb.trans h.at_, h.lecap, h.size, h.free, fun i x j y hx hy => let ⟨u, hu, hr⟩ := h.cell i x j y hx hy; ⟨u, hu, hr.mono hF hw⟩, fun hl => hF _ (h.still hl)⟩

/-- Blocks that nothing of ours lies in may change. -/
theorem HRep.change (h : HRep cx O β F w) (hF : ∀ b, F b → w'.heap[b]? = w.heap[b]?) (hW : ∀ n b, Wr O β n b → w'.heap[b]? = w.heap[b]?) (hs : w.heap.size ≤ w'.heap.size) : HRep cx O β F w' where
  box n cs ho := by
    obtain ⟨b, c, e, fr, hb, hB⟩ := h.box n cs ho
    have hwr : Wr O β n b := ⟨⟨_, hb⟩, by simp [ho]⟩
    exact ⟨b, c, e, fr, hb, (hW n b hwr).trans hB.at_, hB.free, PReps.mono (fun _ h => h) hF _ _ (fun n _ => .inl ⟨rfl, rfl⟩) hB.reps⟩
  row n t xs l ho := by
    rcases h.row n t xs l ho with h1 | ⟨b, off, cap, c, e, fr, hb, hB⟩
    · exact .inl h1
    · refine .inr ⟨b, off, cap, c, e, fr, hb, hB.mono (fun _ h => h) hF ?_⟩
      cases l with
      | true => exact hW n b ⟨⟨_, hb⟩, by simp [ho]⟩
      | false => exact hF b (hB.still rfl)
  apart := h.apart
  away := h.away
  fin b hb := Nat.lt_of_lt_of_le (h.fin b hb) hs
  gl := h.gl.mono (fun _ h => h) hF

theorem Wr.del {o n b : Nat} (h : Wr (upd O o none) β n b) : n ≠ o ∧ Wr O β n b := by
  by_cases hn : n = o
  · subst hn; simp [Wr, upd_same] at h
  · exact ⟨hn, by simpa [Wr, upd_ne _ _ _ _ hn] using h⟩

theorem HRep.del (h : HRep cx O β F w) (o : Nat) : HRep cx (upd O o none) β F w where
  box n cs ho := by
    by_cases hn : n = o
    · subst hn; simp [upd_same] at ho
    rw [upd_ne _ _ _ _ hn] at ho
    obtain ⟨b, c, e, fr, hb, hB⟩ := h.box n cs ho
    refine ⟨b, c, e, fr, hb, hB.at_, hB.free, PReps.mono (fun _ h => h) (fun _ _ => rfl) _ _ (fun m _ => ?_) hB.reps⟩
    by_cases hm : m = o
    · subst hm; right; simp [upd_same, shO]
    · left; simp [upd_ne _ _ _ _ hm]
  row n t xs l ho := by
    by_cases hn : n = o
    · subst hn; simp [upd_same] at ho
    rw [upd_ne _ _ _ _ hn] at ho
    exact h.row n t xs l ho
  apart n m b h1 h2 := h.apart n m b h1.del.2 h2.del.2
  away n b h1 := h.away n b h1.del.2
  fin := h.fin
  gl := h.gl

/-- What an object is owed. -/
def ORep (cx : Cx D) (S : Nat → Option Sh) (β : Beta) (F : Nat → Prop) (w : World) (p : Option (Nat × Nat × Nat)) : Obj D → Prop
  | .box cs => ∃ b c e fr, p = some (b, 0, 0) ∧ BoxAt cx S β F w cs b c e fr
  | .row t xs l => (p = none ∧ xs = []) ∨ ∃ b off cap c e fr, p = some (b, off, cap) ∧ RowAt cx F w t xs l b off cap c e fr

theorem HRep.obj (h : HRep cx O β F w) {n : Nat} {ob : Obj D} (ho : O n = some ob) : ORep cx (fun m => shO cx (O m)) β F w (β n) ob := by
  cases ob with
  | box cs => exact h.box n cs ho
  | row t xs l => exact h.row n t xs l ho

theorem ORep.mono {S S' : Nat → Option Sh} {β' : Beta} {F' : Nat → Prop} {p : Option (Nat × Nat × Nat)} {ob : Obj D} (h : ORep cx S β F w p ob) (hF : ∀ b, F b → F' b)
    (hw : ∀ b, F b → w'.heap[b]? = w.heap[b]?) (hp : ∀ b x, p = some (b, x) → w'.heap[b]? = w.heap[b]?) (hn : ∀ n ∈ namesO (some ob), (S' n = S n ∧ β' n = β n) ∨ S' n = none) : ORep cx S' β' F' w' p ob := by
  cases ob with
  | box cs =>
    obtain ⟨b, c, e, fr, hb, hB⟩ := h
    exact ⟨b, c, e, fr, hb, (hp _ _ hb).trans hB.at_, hB.free, PReps.mono hF hw _ _ hn hB.reps⟩
  | row t xs l =>
    rcases h with h | ⟨b, off, cap, c, e, fr, hb, hB⟩
    · exact .inl h
    · exact .inr ⟨b, off, cap, c, e, fr, hb, hB.mono hF hw (hp _ _ hb)⟩

/-- A new object, in a block that nothing of ours lies in. -/
theorem HRep.add (h : HRep cx O β F w) (nm : Nat) (ob : Obj D) (p : Option (Nat × Nat × Nat)) (hno : O nm = none) (hnm : ∀ m n, n ∈ namesO (O m) → n ≠ nm)
    (hob : ORep cx (fun m => shO cx (upd O nm (some ob) m)) (upd β nm p) F w p ob)
    (hp : ∀ b x, p = some (b, x) → ¬ F b ∧ ∀ n, ¬ Wr O β n b) : HRep cx (upd O nm (some ob)) (upd β nm p) F w := by
  have hwr : ∀ n b, Wr (upd O nm (some ob)) (upd β nm p) n b → (n = nm ∧ ∃ x, p = some (b, x)) ∨ (n ≠ nm ∧ Wr O β n b) := by
    intro n b hw
    by_cases hn : n = nm
    · subst hn
      obtain ⟨⟨x, hx⟩, _⟩ := hw
      rw [upd_same] at hx
      exact .inl ⟨rfl, x, hx⟩
    · exact .inr ⟨hn, by simpa [Wr, upd_ne _ _ _ _ hn] using hw⟩
  have hold : ∀ n ob', n ≠ nm → O n = some ob' → ORep cx (fun m => shO cx (upd O nm (some ob) m)) (upd β nm p) F w (upd β nm p n) ob' := by
    intro n ob' hn ho
    rw [upd_ne _ _ _ _ hn]
    refine (h.obj ho).mono (fun _ h => h) (fun _ _ => rfl) (fun _ _ _ => rfl) (fun m hm => .inl ?_)
    have : m ≠ nm := hnm n m (by rw [ho]; exact hm)
    simp [upd_ne _ _ _ _ this]
  refine ⟨fun n cs ho => ?_, fun n t xs l ho => ?_, fun n m b h1 h2 => ?_, fun n b h1 => ?_, h.fin, h.gl⟩
  · by_cases hn : n = nm
    · subst hn; rw [upd_same] at ho; simp at ho; subst ho; rw [upd_same]; exact hob
    · rw [upd_ne _ _ _ _ hn] at ho; exact hold n _ hn ho
  · by_cases hn : n = nm
    · subst hn; rw [upd_same] at ho; simp at ho; subst ho; rw [upd_same]; exact hob
    · rw [upd_ne _ _ _ _ hn] at ho; exact hold n _ hn ho
  · rcases hwr n b h1 with ⟨rfl, x, hx⟩ | ⟨hn, hn'⟩ <;> rcases hwr m b h2 with ⟨rfl, y, hy⟩ | ⟨hm, hm'⟩
    · rfl
    · exact absurd hm' ((hp b x hx).2 m)
    · exact absurd hn' ((hp b y hy).2 n)
    · exact h.apart n m b hn' hm'
  · rcases hwr n b h1 with ⟨rfl, x, hx⟩ | ⟨hn, hn'⟩
    · exact (hp b x hx).1
    · exact h.away n b hn'

/-- An object's contents are others, its shape is the same. -/
theorem HRep.set (h : HRep cx O β F w) (nm : Nat) (ob ob' : Obj D) (ho : O nm = some ob) (hsh : shO cx (some ob') = shO cx (some ob)) (hwr : ∀ b, Wr (upd O nm (some ob')) β nm b → Wr O β nm b)
    (hF : ∀ b, F b → w'.heap[b]? = w.heap[b]?) (hW : ∀ n b, n ≠ nm → Wr O β n b → w'.heap[b]? = w.heap[b]?) (hs : w.heap.size ≤ w'.heap.size)
    (hob : ORep cx (fun m => shO cx (O m)) β F w' (β nm) ob') : HRep cx (upd O nm (some ob')) β F w' := by
  have hS : (fun m => shO cx (upd O nm (some ob') m)) = fun m => shO cx (O m) := by
    funext m
    by_cases hm : m = nm
    · subst hm; rw [upd_same, ho, hsh]
    · rw [upd_ne _ _ _ _ hm]
  have hwr' : ∀ n b, Wr (upd O nm (some ob')) β n b → Wr O β n b := by
    intro n b hw
    by_cases hn : n = nm
    · subst hn; exact hwr b hw
    · simpa [Wr, upd_ne _ _ _ _ hn] using hw
  have hold : ∀ n ob1, n ≠ nm → O n = some ob1 → ORep cx (fun m => shO cx (upd O nm (some ob') m)) β F w' (β n) ob1 := by
    intro n ob1 hn ho1
    have h1 := h.obj ho1
    refine h1.mono (fun _ h => h) hF (fun b x hb => ?_) (fun m hm => .inl ⟨congrFun hS m, rfl⟩)
    cases ob1 with
    | box cs => exact hW n b hn ⟨⟨_, hb⟩, by simp [ho1]⟩
    | row t xs l =>
      cases l with
      | true => exact hW n b hn ⟨⟨_, hb⟩, by simp [ho1]⟩
      | false =>
        rcases h1 with ⟨h1, _⟩ | ⟨b', off, cap, c, e, fr, hb', hB⟩
        · rw [h1] at hb; simp at hb
        · rw [hb] at hb'; simp at hb'; obtain ⟨rfl, _⟩ := hb'; exact hF _ (hB.still rfl)
  refine ⟨fun n cs ho1 => ?_, fun n t xs l ho1 => ?_, fun n m b h1 h2 => h.apart n m b (hwr' n b h1) (hwr' m b h2), fun n b h1 => h.away n b (hwr' n b h1), fun b hb => Nat.lt_of_lt_of_le (h.fin b hb) hs, h.gl.mono (fun _ h => h) hF⟩
  · by_cases hn : n = nm
    · subst hn; rw [upd_same] at ho1; simp at ho1; subst ho1; rw [hS]; exact hob
    · rw [upd_ne _ _ _ _ hn] at ho1; exact hold n _ hn ho1
  · by_cases hn : n = nm
    · subst hn; rw [upd_same] at ho1; simp at ho1; subst ho1; exact hob
    · rw [upd_ne _ _ _ _ hn] at ho1; exact hold n _ hn ho1

/-- The blocks that are still, a row's beside them. -/
def stillF (F : Nat → Prop) (p : Option (Nat × Nat × Nat)) : Nat → Prop := fun b => F b ∨ ∃ x, p = some (b, x)

theorem HRep.freeze (h : HRep cx O β F w) (o : Nat) {t : Ty} {xs : List (t.den D)} {l : Bool} (ho : O o = some (.row t xs l)) :
    HRep cx (upd O o (some (.row t xs false))) β (stillF F (β o)) w := by
  have hS : (fun m => shO cx (upd O o (some (.row t xs false)) m)) = fun m => shO cx (O m) := by
    funext m
    by_cases hm : m = o
    · subst hm; rw [upd_same, ho]; rfl
    · rw [upd_ne _ _ _ _ hm]
  have hwr' : ∀ n b, Wr (upd O o (some (.row t xs false))) β n b → n ≠ o ∧ Wr O β n b := by
    intro n b hw
    by_cases hn : n = o
    · subst hn; simp [Wr, upd_same] at hw
    · exact ⟨hn, by simpa [Wr, upd_ne _ _ _ _ hn] using hw⟩
  have hold : ∀ n ob1, n ≠ o → O n = some ob1 → ORep cx (fun m => shO cx (upd O o (some (.row t xs false)) m)) β (stillF F (β o)) w (β n) ob1 := by
    intro n ob1 hn ho1
    exact (h.obj ho1).mono (fun _ h => .inl h) (fun _ _ => rfl) (fun _ _ _ => rfl) (fun m hm => .inl ⟨congrFun hS m, rfl⟩)
  refine ⟨fun n cs ho1 => ?_, fun n t' xs' l' ho1 => ?_, fun n m b h1 h2 => h.apart n m b (hwr' n b h1).2 (hwr' m b h2).2, fun n b h1 h2 => ?_, fun b hb => ?_, h.gl.mono (fun _ h => .inl h) fun _ _ => rfl⟩
  · by_cases hn : n = o
    · subst hn; rw [upd_same] at ho1; simp at ho1
    · rw [upd_ne _ _ _ _ hn] at ho1; exact hold n _ hn ho1
  · by_cases hn : n = o
    · subst hn; rw [upd_same] at ho1; simp at ho1; obtain ⟨rfl, h2, rfl⟩ := ho1; simp at h2; subst h2
      rcases h.row n _ _ _ ho with h1 | ⟨b, off, cap, c, e, fr, hb, hB⟩
      · exact .inl h1
      · refine .inr ⟨b, off, cap, c, e, fr, hb, hB.at_, hB.lecap, hB.size, hB.free, fun i x j y hx hy => ?_, fun _ => .inr ⟨_, hb⟩⟩
        obtain ⟨u, hu, hr⟩ := hB.cell i x j y hx hy
        exact ⟨u, hu, hr.mono (fun _ h => .inl h) (fun _ _ => rfl)⟩
    · rw [upd_ne _ _ _ _ hn] at ho1; exact hold n _ hn ho1
  · obtain ⟨hn, h1⟩ := hwr' n b h1
    rcases h2 with h2 | ⟨x, hx⟩
    · exact h.away n b h1 h2
    · cases l with
      | true => exact hn (h.apart n o b h1 ⟨⟨x, hx⟩, by simp [ho]⟩)
      | false =>
        rcases h.row o _ _ _ ho with ⟨h3, _⟩ | ⟨b', off, cap, c, e, fr, hb', hB⟩
        · rw [h3] at hx; simp at hx
        · rw [hb'] at hx; simp at hx; obtain ⟨rfl, _⟩ := hx; exact h.away n _ h1 (hB.still rfl)
  · rcases hb with hb | ⟨x, hx⟩
    · exact h.fin b hb
    · rcases h.row o _ _ _ ho with ⟨h3, _⟩ | ⟨b', off, cap, c, e, fr, hb', hB⟩
      · rw [h3] at hx; simp at hx
      · rw [hb'] at hx; simp at hx; obtain ⟨rfl, _⟩ := hx
        exact (Array.getElem?_eq_some_iff.1 hB.at_).1

end Go.Am

/-! Operands, new objects, rows that grow still. -/
namespace Go.Am
variable {D : Nat → Type} {cx : Cx D} {N : Nat} {s : St D} {β : Beta} {F : Nat → Prop} {a : Act} {w w' : World}

theorem names_ofCell (v : Value) : names (ofCell v : PV D) = [] := by
  unfold ofCell; split <;> rfl
theorem names_go_nil {l : List (PV D)} (h : ∀ p ∈ l, names p = []) : names.go l = [] := by
  induction l with
  | nil => rfl
  | cons p ps ih => simp [names.go, h p (by simp), ih fun q hq => h q (by simp [hq])]
theorem names_ofVal (v : Value) : names (ofVal v : PV D) = [] := by
  unfold ofVal; split
  · simp only [names]; apply names_go_nil; intro p hp; simp at hp; obtain ⟨x, _, rfl⟩ := hp; exact names_ofCell x
  · exact names_ofCell _
theorem rep_ofCell (S : Nat → Option Sh) (v : Value) : PRep cx S β F w (ofCell v) v := by
  unfold ofCell; split <;> simp [PRep]
theorem rep_ofVal (S : Nat → Option Sh) (v : Value) : PRep cx S β F w (ofVal v) v := by
  unfold ofVal; split
  · rename_i cs
    refine ⟨cs, rfl, (PReps_all2 ..).2 ?_⟩
    refine All2.of_get _ _ (by simp) fun i p v hp hv => ?_
    simp [hv] at hp; subst hp; exact rep_ofCell S v
  · exact rep_ofCell S v

theorem SRep.ev (h : SRep cx N s β F a w) (x : Operand) : PRep cx (fun m => shO cx (s.o m)) β F w (ev s x) (a.eval x) := by
  cases x with
  | tmp t => exact h.tm t
  | const v => exact rep_ofVal _ v
  | global g => trivial
  | func f => exact ⟨#[], rfl, trivial⟩
theorem SRep.evU (h : SRep cx N s β F a w) (x : Operand) : ∀ n ∈ names (Am.ev s x), s.u n = true := by
  intro n hn
  cases x with
  | tmp t => exact h.us t n hn
  | const v => simp [Am.ev, names_ofVal] at hn
  | global g => simp [Am.ev, names] at hn
  | func f => simp [Am.ev, names, names.go] at hn

theorem SRep.evG (h : SRep cx N s β F a w) (x : Operand) : PRep cx (fun m => shO cx (s.o m)) β F w (evG cx s x) (a.eval x) := by
  cases x with
  | tmp t => exact h.tm t
  | const v => exact rep_ofVal _ v
  | global g =>
    obtain ⟨hn, hg⟩ := h.hp.gl.1 g
    simp only [Am.evG]
    split
    · rename_i t xs i off e
      rw [e] at hg
      exact hg
    · trivial
  | func f => exact ⟨#[], rfl, trivial⟩
theorem SRep.evGU (h : SRep cx N s β F a w) (x : Operand) : ∀ n ∈ names (Am.evG cx s x), s.u n = true := by
  cases x with
  | global g =>
    intro n hn
    simp only [Am.evG] at hn
    split at hn <;> simp [names] at hn
  | tmp t => exact h.evU (.tmp t)
  | const v => exact h.evU (.const v)
  | func f => exact h.evU (.func f)

theorem SRep.put (h : SRep cx N s β F a w) (d : Option Nat) {p : PV D} {v : Value} (hp : PRep cx (fun m => shO cx (s.o m)) β F w p v) (hu : ∀ n ∈ names p, s.u n = true) :
    SRep cx N (putD N s d p) β F (a.put d v) w := by
  cases d with
  | none => exact h
  | some d =>
    by_cases hd : d < N
    · have hb : Nat.blt d N = true := by simp [Nat.blt_eq, hd]
      have he : putD N s (some d) p = s.put d p := by simp [putD, hb]
      rw [he]
      refine ⟨by simp [Act.put, h.tn], fun i => ?_, h.hp, fun i n hn => ?_, h.ub, h.uo⟩
      · simp only [St.put, Act.put, upd_eq]
        by_cases hi : i = d
        · subst hi
          simp [Array.getD_eq_getD_getElem?, h.tn, hd]
          exact hp
        · have := h.tm i
          simp only [hi, if_false]
          have he : (a.tmps.setIfInBounds d v).getD i undef = a.tmps.getD i undef := by
            simp [Array.getD_eq_getD_getElem?, Array.getElem?_setIfInBounds_ne (Ne.symm hi)]
          rw [he]; exact this
      · simp only [St.put, upd_eq] at hn
        by_cases hi : i = d
        · subst hi; simp at hn; exact hu n hn
        · simp [hi] at hn; exact h.us i n hn
    · have hb : Nat.blt d N = false := by rw [Bool.eq_false_iff]; simp [Nat.blt_eq]; omega
      have he : putD N s (some d) p = s := by simp [putD, hb]
      rw [he]
      have : a.put (some d) v = a := by
        simp only [Act.put]
        have : a.tmps.setIfInBounds d v = a.tmps := by
          apply Array.setIfInBounds_eq_of_size_le; rw [h.tn]; omega
        rw [this]
      rw [this]; exact h

theorem putD_o (s : St D) (d : Option Nat) (p : PV D) : (putD N s d p).o = s.o := by
  cases d with
  | none => rfl
  | some d => simp only [putD]; cases Nat.blt d N <;> rfl
theorem putD_u (s : St D) (d : Option Nat) (p : PV D) : (putD N s d p).u = s.u := by
  cases d with
  | none => rfl
  | some d => simp only [putD]; cases Nat.blt d N <;> rfl

/-- The state with other objects: what the tmps stand for stays, where names are the same or gone. -/
theorem SRep.objs {O' : Nat → Option (Obj D)} {u' : Nat → Bool} {β' : Beta} {F' : Nat → Prop} (h : SRep cx N s β F a w) (hp : HRep cx O' β' F' w') (hF : ∀ b, F b → F' b)
    (hw : ∀ b, F b → w'.heap[b]? = w.heap[b]?) (hs : ∀ n, s.u n = true → (shO cx (O' n) = shO cx (s.o n) ∧ β' n = β n) ∨ shO cx (O' n) = none) (hu : ∀ n, s.u n = true → u' n = true)
    (ub : ∀ m n, n ∈ namesO (O' m) → u' n = true) (uo : ∀ m, O' m ≠ none → u' m = true) : SRep cx N ⟨s.t, O', u'⟩ β' F' a w' where
  tn := h.tn
  tm i := PRep.mono hF hw _ _ (fun n hn => hs n (h.us i n hn)) (h.tm i)
  hp := hp
  us i n hn := hu n (h.us i n hn)
  ub := ub
  uo := uo

/-! ### New objects -/
theorem push_at (w : World) (ob : Go.Obj) (b : Nat) (hb : b < w.heap.size) : ({ w with heap := w.heap.push ob } : World).heap[b]? = w.heap[b]? := by
  simp [Array.getElem?_push]; omega
theorem push_new (w : World) (ob : Go.Obj) : ({ w with heap := w.heap.push ob } : World).heap[w.heap.size]? = some ob := by simp

theorem SRep.unused (h : SRep cx N s β F a w) {nm : Nat} (hn : s.u nm = false) : s.o nm = none ∧ (∀ m n, n ∈ namesO (s.o m) → n ≠ nm) := by
  constructor
  · cases ho : s.o nm with
    | none => rfl
    | some x => have := h.uo nm (by simp [ho]); simp [hn] at this
  · rintro m n hm rfl
    have := h.ub m n hm
    simp [hn] at this

/-- An object is born in a block that nothing of ours lies in. -/
theorem SRep.born (h : SRep cx N s β F a w) (nm : Nat) (ob : Obj D) (p : Option (Nat × Nat × Nat)) (hn : s.u nm = false)
    (hob : ORep cx (fun m => shO cx (upd s.o nm (some ob) m)) (upd β nm p) F w p ob) (hun : ∀ n ∈ namesO (some ob), s.u n = true)
    (hp : ∀ b x, p = some (b, x) → ¬ F b ∧ ∀ n, ¬ Wr s.o β n b) :
    SRep cx N (s.born nm ob) (upd β nm p) F a w := by
  obtain ⟨h1, h2⟩ := h.unused hn
  refine h.objs (h.hp.add nm ob p h1 h2 hob hp) (fun _ h => h) (fun _ _ => rfl) (fun n hu => .inl ?_) (fun n hu => ?_) (fun m n hm => ?_) (fun m hm => ?_)
  · have : n ≠ nm := by rintro rfl; simp [hn] at hu
    simp [upd_ne _ _ _ _ this]
  · simp [upd_eq, hu]
  · simp only [upd_eq] at hm ⊢
    split at hm
    · simp [hun n hm]
    · simp [h.ub m n hm]
  · simp only [upd_eq] at hm ⊢
    split at hm
    · simp [*]
    · simp [h.uo m hm]

theorem stepBorn (s : St D) (β : Beta) (F : Nat → Prop) (w w' : World) (nm : Nat) (ob : Obj D) (p : Option (Nat × Nat × Nat)) (hn : s.u nm = false)
    (hk : Kept w (fun b => ∃ n, Wr s.o β n b) w') (hp : ∀ b x, p = some (b, x) → w.heap.size ≤ b) : Step s.o s.u β F w (s.born nm ob).o (s.born nm ob).u (upd β nm p) F w' where
  used n hu := by simp [St.born, upd_eq, hu]
  beta n hu := upd_ne _ _ _ _ (by rintro rfl; simp [hn] at hu)
  kept := hk
  wr n b hw := by
    by_cases hx : n = nm
    · subst hx
      obtain ⟨⟨x, hx⟩, _⟩ := hw
      rw [upd_same] at hx
      exact .inr (hp b x hx)
    · exact .inl ⟨n, by simpa [Wr, St.born, upd_ne _ _ _ _ hx] using hw⟩
  f0 _ h := h
  f1 _ h := .inl h
  sh n hu := by
    have : n ≠ nm := by rintro rfl; simp [hn] at hu
    right
    simp only [St.born, upd_ne _ _ _ _ this]
    exact sameO_refl _

theorem keptPush (w : World) (W : Nat → Prop) (ob : Go.Obj) : Kept w W { w with heap := w.heap.push ob } :=
  ⟨rfl, rfl, rfl, by simp, fun b hb _ => push_at w ob b hb⟩

/-- Nothing of the state's depends on what is new. -/
theorem SRep.world (h : SRep cx N s β F a w) (hF : ∀ b, F b → w'.heap[b]? = w.heap[b]?) (hW : ∀ n b, Wr s.o β n b → w'.heap[b]? = w.heap[b]?) (hs : w.heap.size ≤ w'.heap.size) : SRep cx N s β F a w' where
  tn := h.tn
  tm i := PRep.mono (fun _ h => h) hF _ _ (fun _ _ => .inl ⟨rfl, rfl⟩) (h.tm i)
  hp := h.hp.change hF hW hs
  us := h.us
  ub := h.ub
  uo := h.uo

theorem SRep.push (h : SRep cx N s β F a w) (ob : Go.Obj) : SRep cx N s β F a { w with heap := w.heap.push ob } :=
  h.world (fun b hb => push_at w ob b (h.hp.fin b hb)) (fun n b hw => push_at w ob b (h.hp.lt hw)) (by simp)

/-- What an operation may come to. -/
def Res (cx : Cx D) (N : Nat) (s : St D) (β : Beta) (F : Nat → Prop) (a : Act) (w : World) (P : PV D → St D → Prop) (v : Value) (w' : World) : Prop :=
  ∃ s' β' F' p, SRep cx N s' β' F' a w' ∧ PRep cx (fun m => shO cx (s'.o m)) β' F' w' p v ∧ (∀ n ∈ names p, s'.u n = true) ∧ Step s.o s.u β F w s'.o s'.u β' F' w' ∧ P p s'

theorem Res.same {P : PV D → St D → Prop} (h : SRep cx N s β F a w) {p : PV D} {v : Value} (hp : PRep cx (fun m => shO cx (s.o m)) β F w p v) (hu : ∀ n ∈ names p, s.u n = true) (hP : P p s) : Res cx N s β F a w P v w :=
  ⟨s, β, F, p, h, hp, hu, .refl _ _ _ _ _, hP⟩

/-- A box in a new block. -/
theorem Res.newBox {P : PV D → St D → Prop} (h : SRep cx N s β F a w) (nm : Nat) (cs : List (PV D)) (c : Array Value) (e : TypeId) (hn : s.u nm = false)
    (hr : PReps cx (fun m => shO cx (s.o m)) β F w cs c.toList) (hu : ∀ n ∈ names.go cs, s.u n = true) (hP : P (.ptr nm 0) (s.born nm (.box cs))) :
    Res cx N s β F a w P (.pointer (some ⟨w.heap.size, 0, none⟩)) { w with heap := w.heap.push (.cells c e) } := by
  have h1 := h.push (.cells c e)
  have hnew : ∀ b x, (some (w.heap.size, 0, 0) : Option (Nat × Nat × Nat)) = some (b, x) → ¬ F b ∧ ∀ n, ¬ Wr s.o β n b := by
    intro b x hb
    simp at hb; obtain ⟨rfl, _⟩ := hb
    exact ⟨fun hf => absurd (h.hp.fin _ hf) (by omega), fun n hw => absurd (h.hp.lt hw) (by omega)⟩
  refine ⟨_, _, _, _, h1.born nm (.box cs) (some (w.heap.size, 0, 0)) hn ⟨w.heap.size, c, e, (0, 0), rfl, push_new w _, by simp, ?_⟩ hu hnew, ?_, ?_, stepBorn s β F w _ nm (.box cs) (some (w.heap.size, 0, 0)) hn (keptPush _ _ _) (by simp), hP⟩
  · refine PReps.mono (fun _ h => h) (fun b hb => push_at w _ b (h.hp.fin b hb)) _ _ (fun n hm => .inl ?_) hr
    have : n ≠ nm := by rintro rfl; have := hu n hm; simp [hn] at this
    simp [upd_ne _ _ _ _ this]
  · simp [PRep, St.born, upd_same, shO]
  · simp [names, St.born, upd_same]

/-- A row in a new block. -/
theorem Res.newRow {P : PV D → St D → Prop} (h : SRep cx N s β F a w) (nm : Nat) (t : Ty) (xs : List (t.den D)) (c : Array Value) (e : TypeId) (cap : Nat) (hn : s.u nm = false)
    (hcap : xs.length ≤ cap) (hsz : cap * sz cx t ≤ c.size)
    (hr : ∀ i x j y, xs[i]? = some x → (deep cx t x)[j]? = some y → ∃ u, c[i * sz cx t + j]? = some u ∧ Rep F w u y) (fr : Nat × Nat) (hfr : ∀ j, j < c.size → ¬ (fr.1 ≤ j ∧ j < fr.2)) {p : PV D} {v : Value}
    (hpv : (p = .own nm ∧ v = .slice (some ⟨w.heap.size, 0, none⟩) xs.length cap) ∨ (p = .ptr nm 0 ∧ v = .pointer (some ⟨w.heap.size, 0, none⟩) ∧ cap = xs.length)) (hP : P p (s.born nm (.row t xs true))) :
    Res cx N s β F a w P v { w with heap := w.heap.push (.cells c e fr) } := by
  have h1 := h.push (.cells c e fr)
  have hnew : ∀ b x, (some (w.heap.size, 0, cap) : Option (Nat × Nat × Nat)) = some (b, x) → ¬ F b ∧ ∀ n, ¬ Wr s.o β n b := by
    intro b x hb
    simp at hb; obtain ⟨rfl, _⟩ := hb
    exact ⟨fun hf => absurd (h.hp.fin _ hf) (by omega), fun n hw => absurd (h.hp.lt hw) (by omega)⟩
  refine ⟨_, _, _, p, h1.born nm (.row t xs true) (some (w.heap.size, 0, cap)) hn (.inr ⟨w.heap.size, 0, cap, c, e, fr, rfl, push_new w _, hcap, by omega, hfr, fun i x j y hx hy => ?_, by simp⟩) (by simp [namesO]) hnew, ?_, ?_, stepBorn s β F w _ nm (.row t xs true) (some (w.heap.size, 0, cap)) hn (keptPush _ _ _) (by simp), hP⟩
  · obtain ⟨u, hu, hr⟩ := hr i x j y hx hy
    exact ⟨u, by simpa using hu, hr.mono (fun _ h => h) (fun b hb => push_at w _ b (h.hp.fin b hb))⟩
  · rcases hpv with ⟨rfl, rfl⟩ | ⟨rfl, rfl, rfl⟩
    · simp [PRep, St.born, upd_same, shO, rowV]
    · simp [PRep, St.born, upd_same, shO]
  · rcases hpv with ⟨rfl, rfl⟩ | ⟨rfl, rfl, rfl⟩ <;> simp [names, St.born, upd_same]

/-! ### Rows that are read as lists -/
theorem deep_len {P : Program} (ok : CxOk cx P) (t : Ty) (x : t.den D) : (deep cx t x).length = sz cx t := by
  cases t with
  | named r => exact ok.size r x
  | _ => rfl

theorem RowAt.rep {t : Ty} {xs : List (t.den D)} {l : Bool} {b off cap : Nat} {c : Array Value} {e : TypeId} {fr : Nat × Nat} (h : RowAt cx F w t xs l b off cap c e fr) {F' : Nat → Prop} (hF : ∀ b, F b → F' b) (hb : F' b)
    (lo n cap' off' : Nat) (h1 : lo + n ≤ xs.length) (h2 : n ≤ cap') (h3 : off' = off + lo * sz cx t ∨ n = 0) :
    Rep F' w (.slice (some ⟨b, off', none⟩) n cap') (.list (sz cx t) (((xs.drop lo).take n).map (deep cx t))) := by
  have hl : (((xs.drop lo).take n).map (deep cx t)).length = n := by simp; omega
  have key : ∀ (i : Nat) k (j : Nat) x, (((xs.drop lo).take n).map (deep cx t))[i]? = some k → k[j]? = some x → ∃ u, w.cell? ((⟨b, off', none⟩ : Addr).add (i * sz cx t + j)) = some u ∧ Rep F' w u x := by
    intro i k j x hk hx
    simp only [List.getElem?_map, Option.map_eq_some_iff] at hk
    obtain ⟨y, hy, rfl⟩ := hk
    rw [List.getElem?_take] at hy
    split at hy
    · rename_i hi
      rw [List.getElem?_drop] at hy
      obtain ⟨u, hu, hr⟩ := h.cell _ y j x hy hx
      rcases h3 with h3 | h3
      · refine ⟨u, ?_, hr.mono hF (fun _ _ => rfl)⟩
        have : (⟨b, off', none⟩ : Addr).add (i * sz cx t + j) = ⟨b, off + ((lo + i) * sz cx t + j), none⟩ := by
          unfold Addr.add; split
          · simp; subst h3; rename_i h0; rw [Nat.add_mul]; omega
          · simp; subst h3; rw [Nat.add_mul]; omega
        rw [this]
        simp [World.cell?, h.at_, hu]
      · omega
    · simp at hy
  have hm : Rep F' w (.slice (some ⟨b, off', none⟩) (((xs.drop lo).take n).map (deep cx t)).length cap') (.list (sz cx t) (((xs.drop lo).take n).map (deep cx t))) := by
    refine .list (fun i j => (w.cell? ((⟨b, off', none⟩ : Addr).add (i * sz cx t + j))).getD undef) (by omega) (fun _ => hb) (fun i k j x hk hx => ?_) (fun i k j x hk hx => ?_)
    · obtain ⟨u, hu, _⟩ := key i k j x hk hx
      simp [hu]
    · obtain ⟨u, hu, hr⟩ := key i k j x hk hx
      simpa [hu] using hr
  rwa [hl] at hm

def frzF (s : St D) (β : Beta) (F : Nat → Prop) (o : Nat) : Nat → Prop := fun b => F b ∨ (match s.o o with
  | some (.row _ _ _) => ∃ x, β o = some (b, x)
  | _ => False)

theorem frzF_le (s : St D) (β : Beta) (F : Nat → Prop) (o : Nat) : ∀ b, F b → frzF s β F o b := fun _b hb => .inl hb
theorem frzF_row {o : Nat} {t : Ty} {xs : List (t.den D)} {l : Bool} (ho : s.o o = some (.row t xs l)) : frzF s β F o = stillF F (β o) := by
  funext b; simp [frzF, stillF, ho]
theorem frzF_not {o : Nat} (ho : ∀ t xs l, s.o o ≠ some (.row t xs l)) : frzF s β F o = F := by
  funext b; unfold frzF
  cases hx : s.o o with
  | none => simp
  | some ob => cases ob with
    | box cs => simp
    | row t xs l => exact absurd hx (ho t xs l)

theorem SRep.frzN (h : SRep cx N s β F a w) (o : Nat) : SRep cx N (frzN s o) β (frzF s β F o) a w ∧ Step s.o s.u β F w (frzN s o).o (frzN s o).u β (frzF s β F o) w := by
  have other : (∀ t xs l, s.o o ≠ some (.row t xs l)) → Am.frzN s o = s := by
    intro ho; unfold Am.frzN; split
    · rename_i t xs l hx; exact absurd hx (ho t xs l)
    · rfl
  cases ho : s.o o with
  | none => rw [frzF_not (by simp [ho]), other (by simp [ho])]; exact ⟨h, .refl _ _ _ _ _⟩
  | some ob => cases ob with
    | box cs => rw [frzF_not (by simp [ho]), other (by simp [ho])]; exact ⟨h, .refl _ _ _ _ _⟩
    | row t xs l =>
    rw [frzF_row ho]
    have he : Am.frzN s o = s.setO o (.row t xs false) := by simp [Am.frzN, ho]
    rw [he]
    have hsh : ∀ n, shO cx (upd s.o o (some (.row t xs false)) n) = shO cx (s.o n) := by
      intro n
      by_cases hn : n = o
      · subst hn; rw [upd_same, ho]; rfl
      · rw [upd_ne _ _ _ _ hn]
    have hwr : ∀ n b, Wr (upd s.o o (some (.row t xs false))) β n b → Wr s.o β n b := by
      intro n b hw
      by_cases hn : n = o
      · subst hn; simp [Wr, upd_same] at hw
      · simpa [Wr, upd_ne _ _ _ _ hn] using hw
    refine ⟨h.objs (h.hp.freeze o ho) (fun _ h => .inl h) (fun _ _ => rfl) (fun n _ => .inl ⟨hsh n, rfl⟩) (fun _ h => h) (fun m n hm => ?_) (fun m hm => ?_), ⟨fun _ h => h, fun _ _ => rfl, .refl _ _, fun n b hw => .inl ⟨n, hwr n b hw⟩, fun _ h => .inl h, fun b hb => ?_, fun n hu => .inr ?_⟩⟩
    · by_cases hx : m = o
      · subst hx; simp [upd_same, namesO] at hm
      · rw [upd_ne _ _ _ _ hx] at hm; exact h.ub m n hm
    · by_cases hx : m = o
      · subst hx; exact h.uo m (by simp [ho])
      · rw [upd_ne _ _ _ _ hx] at hm; exact h.uo m hm
    · rcases hb with hb | ⟨x, hx⟩
      · exact .inl hb
      · cases l with
        | true => exact .inr (.inl ⟨o, ⟨x, hx⟩, by simp [ho]⟩)
        | false =>
          rcases h.hp.row o _ _ _ ho with ⟨h3, _⟩ | ⟨b', off, cap, c, e, fr, hb', hB⟩
          · rw [h3] at hx; simp at hx
          · rw [hb'] at hx; simp at hx; obtain ⟨rfl, _⟩ := hx; exact .inl (hB.still rfl)
    · by_cases hx : n = o
      · subst hx; simp only [St.setO, upd_same, ho]; exact ⟨rfl, rfl⟩
      · simp only [St.setO, upd_ne _ _ _ _ hx]; exact sameO_refl _

/-- A row of one's own as a list: in the world where it stays as it is. -/
theorem SRep.settled (h : SRep cx N s β F a w) {p : PV D} {v : Value} (hp : PRep cx (fun m => shO cx (s.o m)) β F w p v) {F' : Nat → Prop} {S' : Nat → Option Sh} {β' : Beta} (hF : ∀ b, F b → F' b)
    (hS : ∀ n ∈ names (settle s p), (S' n = shO cx (s.o n) ∧ β' n = β n) ∨ S' n = none)
    (hB : ∀ o, (p = .own o ∨ ∃ lo n, p = .view o lo n) → ∀ b, frzF s β F o b → F' b) : PRep cx S' β' F' w (settle s p) v := by
  have other : ∀ q : PV D, settle s p = q → PRep cx (fun m => shO cx (s.o m)) β F w q v → PRep cx S' β' F' w (settle s p) v := fun q hq hr => by
    rw [hq]; rw [hq] at hS; exact PRep.mono hF (fun _ _ => rfl) _ _ hS hr
  cases p with
  | own o =>
    simp only [settle]
    cases ho : s.o o with
    | none => trivial
    | some ob => cases ob with
      | box cs => trivial
      | row t xs l =>
        simp only [PRep, ho, shO] at hp
        have hB' : ∀ b, stillF F (β o) b → F' b := by
          intro b hb; have := hB o (.inl rfl) b; rw [frzF_row ho] at this; exact this hb
        rcases h.hp.row o _ _ _ ho with ⟨h3, h4⟩ | ⟨b', off, cap, c, e, fr, hb', hR⟩
        · subst h4; rw [h3] at hp; obtain ⟨a, rfl⟩ := hp; exact .empty _ _
        · rw [hb'] at hp
          simp only [rowV] at hp; subst hp
          have := hR.rep hF (hB' b' (.inr ⟨_, hb'⟩)) 0 xs.length cap off (by omega) hR.lecap (by simp)
          simpa [PRep] using this
  | view o lo n =>
    simp only [settle]
    cases ho : s.o o with
    | none => trivial
    | some ob => cases ob with
      | box cs => trivial
      | row t xs l =>
        simp only [PRep, ho, shO] at hp
        obtain ⟨hle, hp⟩ := hp
        have hB' : ∀ b, stillF F (β o) b → F' b := by
          intro b hb; have := hB o (.inr ⟨_, _, rfl⟩) b; rw [frzF_row ho] at this; exact this hb
        rcases h.hp.row o _ _ _ ho with ⟨h3, h4⟩ | ⟨b', off, cap, c, e, fr, hb', hR⟩
        · subst h4; rw [h3] at hp; simp at hp; obtain ⟨a, rfl⟩ := hp; simp; exact .empty _ _
        · rw [hb'] at hp
          obtain ⟨off', rfl, ho'⟩ := hp
          refine hR.rep hF (hB' b' (.inr ⟨_, hb'⟩)) lo n (cap - lo) off' hle (by have := hR.lecap; omega) ?_
          rcases ho' with h5 | ⟨h5, _⟩
          · exact .inl h5
          · right; have := hR.lecap; omega
  | full t xs => exact Rep.mono hF (fun _ _ => rfl) hp.2
  | opt t xs b => exact Rep.mono hF (fun _ _ => rfl) hp.2
  | _ => exact other _ rfl hp

end Go.Am

/-! Loads and stores. -/
namespace Go.Am
variable {D : Nat → Type} {R : Type} {cx : Cx D} {N : Nat} {s : St D} {β : Beta} {F : Nat → Prop} {a : Act} {w w' : World} {P : Program}

/-! ### What an operation comes to -/
def Out (P : Program) (o : Oper) (a : Act) (w : World) (RS : Value → World → Prop) : Prop :=
  ∀ (next : Act → World → Prop) (Q : Exit → Act → World → Prop), (∀ v w', RS v w' → next (a.put o.dst v) w') → o.wp P a w next Q

theorem Out.value {o : Oper} {RS : Value → World → Prop} {v : Value} (h : (execOp a.eval o).run P w = .ok (.value v) w') (hr : RS v w') : Out P o a w RS := by
  intro next Q hn
  rw [Oper.wp, h]; exact hn v w' hr
theorem Out.skip {o : Oper} {RS : Value → World → Prop} (h : (execOp a.eval o).run P w = .ok .skip w') (hr : RS undef w') : Out P o a w RS := by
  intro next Q hn
  rw [Oper.wp, h]; exact hn undef w' hr
theorem Out.call {o : Oper} {RS : Value → World → Prop} {f : FuncId} {args : Array Value} (h : (execOp a.eval o).run P w = .ok (.enter f args) w')
    (hc : Calls P f args w' fun e w'' => ∃ v, e = .returned v ∧ RS v w'') : Out P o a w RS := by
  intro next Q hn
  rw [Oper.wp, h]
  refine Calls.mono hc ?_
  rintro e w'' ⟨v, rfl, hr⟩
  exact hn v w'' hr
theorem Out.mono {o : Oper} {RS RS' : Value → World → Prop} (h : Out P o a w RS) (f : ∀ v w', RS v w' → RS' v w') : Out P o a w RS' :=
  fun next Q hn => h next Q fun v w' hr => hn v w' (f v w' hr)

theorem getD_some {α : Type} {xs : List α} {i : Nat} {d : α} (h : i < xs.length) : xs[i]? = some (xs.getD i d) := by
  rw [List.getD_eq_getElem?_getD, List.getElem?_eq_getElem h]; rfl

/-! ### Addresses -/
theorem add_add (a : Addr) (m n : Nat) : (a.add m).add n = a.add (m + n) := by
  unfold Addr.add
  by_cases hm : m = 0 <;> by_cases hn : n = 0 <;> simp [hm, hn, Nat.add_assoc]
theorem add_at (b off n : Nat) : (⟨b, off, none⟩ : Addr).add n = ⟨b, off + n, none⟩ := by
  unfold Addr.add; split <;> simp_all

theorem Rep.list_inv {ad : Addr} {n c z : Nat} {ys : List (List IV)} (h : Rep F w (.slice (some ad) n c) (.list z ys)) :
    n = ys.length ∧ n ≤ c ∧ (ys ≠ [] → F ad.block) ∧ ∃ u : Nat → Nat → Value, (∀ (i : Nat) l (j : Nat) x, ys[i]? = some l → l[j]? = some x → w.cell? (ad.add (i * z + j)) = some (u i j)) ∧
      ∀ (i : Nat) l (j : Nat) x, ys[i]? = some l → l[j]? = some x → Rep F w (u i j) x := by
  generalize hv : Value.slice (some ad) n c = v at h
  generalize hx : IV.list z ys = x at h
  cases h with
  | list u hc hF hcell hrep =>
    simp at hv hx
    obtain ⟨rfl, rfl, rfl⟩ := hv
    obtain ⟨rfl, rfl⟩ := hx
    exact ⟨rfl, hc, hF, u, hcell, hrep⟩
  | _ => simp at hv
theorem Rep.list_shape {v : Value} {z : Nat} {ys : List (List IV)} (h : Rep F w v (.list z ys)) : (v = .slice none 0 0 ∧ ys = []) ∨ ∃ ad c, v = .slice (some ad) ys.length c := by
  generalize hx : IV.list z ys = x at h
  cases h with
  | nil => simp at hx; exact .inl ⟨rfl, hx.2⟩
  | list u hc hF hcell hrep => simp at hx; obtain ⟨rfl, rfl⟩ := hx; exact .inr ⟨_, _, rfl⟩
  | _ => simp at hx

/-! ### Cells of values -/
theorem encC_ok (ok : CxOk cx P) (t : Ty) (x : t.den D) : All2 (CS cx) (encC cx t x) (deep cx t x) := by
  cases t with
  | named r => exact ok.enc r x
  | int k => exact .cons rfl .nil
  | bool => exact .cons rfl .nil
  | str => exact .cons rfl .nil
  | slice t => exact .cons rfl .nil
theorem cast?_some {t t' : Ty} {xs : List (t.den D)} {ys : List (t'.den D)} (h : cast? t t' xs = some ys) : ∃ e : t = t', e ▸ xs = ys := by
  unfold cast? at h
  split at h
  · rename_i e; exact ⟨e, by simpa using h⟩
  · simp at h
theorem decC_ok (ok : CxOk cx P) (t : Ty) (cs : List (PV D)) (x : t.den D) (h : decC cx t cs = some x) : All2 (CI cx) cs (deep cx t x) := by
  unfold decC at h
  split at h
  · rename_i k k' n
    cases hk : decide (k = k') with
    | false => simp [hk] at h
    | true => have hk' := of_decide_eq_true hk; simp [hk] at h; subst hk'; subst h; exact .cons rfl .nil
  · simp at h; subst h; exact .cons rfl .nil
  · simp at h; subst h; exact .cons rfl .nil
  · simp at h; subst h; exact .cons ⟨_, rfl⟩ .nil
  · obtain ⟨rfl, rfl⟩ := cast?_some h; exact .cons rfl .nil
  · exact ok.dec _ _ _ h
  · simp at h
theorem PRep_of_Rep {S : Nat → Option Sh} {p : PV D} {v : Value} {x : IV} (h : CS cx p x) (hr : Rep F w v x) : PRep cx S β F w p v := by
  cases p with
  | int k n => cases h; cases hr; rfl
  | bool b => cases h; cases hr; rfl
  | str b => cases h; cases hr; rfl
  | list t xs => cases h; exact hr
  | _ => exact h.elim
theorem Rep_of_PRep {S : Nat → Option Sh} {p : PV D} {v : Value} {x : IV} (h : CI cx p x) (hr : PRep cx S β F w p v) : Rep F w v x := by
  cases p with
  | int k n => cases h; cases hr; exact .int
  | bool b => cases h; cases hr; exact .bool
  | str b => cases h; cases hr; exact .str
  | list t xs => cases h; exact hr
  | nil => obtain ⟨z, rfl⟩ := h; cases hr; exact .nil
  | _ => exact h.elim
theorem names_CS {p : PV D} {x : IV} (h : CS cx p x) : names p = [] := by
  cases p <;> first | rfl | exact h.elim
theorem names_encC (ok : CxOk cx P) (t : Ty) (x : t.den D) : names.go (encC cx t x) = [] := by
  apply names_go_nil
  intro p hp
  obtain ⟨i, hi⟩ := List.getElem?_of_mem hp
  obtain ⟨y, _, hy⟩ := (encC_ok ok t x).get i p hi
  exact names_CS hy

theorem solid_one {S : Nat → Option Sh} {p : PV D} {v : Value} (hs : solid p = true) (h : PRep cx S β F w p v) : v.oneCell' = true ∧ v.cells = #[v] := by
  have key : (∀ cs, v ≠ .agg cs) → (∀ cs, v ≠ .tuple cs) → v.oneCell' = true ∧ v.cells = #[v] := by
    intro h1 h2
    cases v <;> first | exact ⟨rfl, rfl⟩ | exact absurd rfl (h1 _) | exact absurd rfl (h2 _)
  apply key <;> intro cs hv <;> subst hv <;> cases p <;> simp [PRep, solid] at hs h
  all_goals first
    | (split at h <;> first | exact h | (unfold rowV at h; split at h <;> first | (cases h; done) | (obtain ⟨_, h⟩ := h; cases h)) | (obtain ⟨_, h⟩ := h; split at h <;> first | (cases h; done) | (obtain ⟨_, h⟩ := h; cases h; done) | (obtain ⟨_, h, _⟩ := h; cases h)) | (obtain ⟨_, _, _, _, _, h⟩ := h; cases h) | (unfold rowV at h; split at h <;> cases h) | (simp at h))
    | (cases h; done)
    | (obtain ⟨_, _, _, _, h⟩ := h; cases h; done)
    | (obtain ⟨_, h⟩ := h; cases h; done)
    | skip

/-- The cells of a value, and those of what stands for it. -/
theorem cellsOf_rep (ok : CxOk cx P) {S : Nat → Option Sh} {p : PV D} {v : Value} (hs : (cellsOf cx p).all solid = true) (hne : cellsOf cx p ≠ []) (h : PRep cx S β F w p v) :
    All2 (PRep cx S β F w) (cellsOf cx p) v.cells.toList := by
  have one : cellsOf cx p = [p] → All2 (PRep cx S β F w) (cellsOf cx p) v.cells.toList := by
    intro he
    rw [he] at hs ⊢
    simp at hs
    rw [(solid_one hs h).2]
    exact .cons h .nil
  cases p with
  | agg l => obtain ⟨cs, rfl, h⟩ := h; exact (PReps_all2 ..).1 h
  | arr t xs =>
    obtain ⟨cs, rfl, h⟩ := h
    simp only [cellsOf, Value.cells]
    clear hs hne one
    have key : ∀ xs : List (t.den D), All2 (CS cx) (xs.flatMap (encC cx t)) (xs.flatMap (deep cx t)) := by
      intro xs
      induction xs with
      | nil => exact .nil
      | cons x xs ih => simpa using (encC_ok ok t x).append ih
    exact (All2.comp (R := fun b a => CS cx a b) (S := fun b v => Rep F w v b) (U := fun a v => PRep cx S β F w a v) (fun b p v h1 h2 => PRep_of_Rep h1 h2) (key xs).flip h.flip)
  | undef => exact absurd rfl hne
  | skip => exact absurd rfl hne
  | tup l => exact absurd rfl hne
  | _ => exact one rfl

theorem settle_solid {p : PV D} : names (settle s p) = names p ∨ names (settle s p) = [] := by
  cases p with
  | own o => right; simp only [settle]; split <;> rfl
  | view o lo n => right; simp only [settle]; split <;> rfl
  | _ => left; rfl

theorem flat_get (ok : CxOk cx P) {t : Ty} {Rl : Value → IV → Prop} : ∀ (ys : List (t.den D)) (vs : List Value) (m : Nat) x, All2 Rl vs (ys.flatMap (deep cx t)) → ys[m]? = some x → ∀ (j : Nat) y, (deep cx t x)[j]? = some y → ∃ u, vs[m * sz cx t + j]? = some u ∧ Rl u y
  | [], vs, m, x, h, hm, j, y, hy => by simp at hm
  | z :: ys, vs, m, x, h, hm, j, y, hy => by
    have hj : j < sz cx t := by rw [← deep_len ok t x]; exact (List.getElem?_eq_some_iff.1 hy).1
    cases m with
    | zero =>
      simp at hm; subst hm
      obtain ⟨u, hu, hr⟩ := h.get' j y (by simp only [List.flatMap_cons]; rw [List.getElem?_append_left (by rw [deep_len ok]; omega)]; exact hy)
      exact ⟨u, by simpa using hu, hr⟩
    | succ m =>
      simp at hm
      have h3 := h.drop (sz cx t)
      simp only [List.flatMap_cons] at h3
      rw [List.drop_append_of_le_length (by rw [deep_len ok]; omega), List.drop_of_length_le (l := deep cx t z) (by rw [deep_len ok]; omega), List.nil_append] at h3
      obtain ⟨u, hu, hr⟩ := flat_get ok ys _ m x h3 hm j y hy
      rw [List.getElem?_drop] at hu
      exact ⟨u, by rw [← hu]; congr 1; rw [Nat.add_mul]; omega, hr⟩

theorem flat_len (ok : CxOk cx P) {t : Ty} (ys : List (t.den D)) : (ys.flatMap (deep cx t)).length = ys.length * sz cx t := by
  induction ys with
  | nil => simp
  | cons y ys ih => simp only [List.flatMap_cons, List.length_append, ih, deep_len ok, List.length_cons, Nat.add_mul]; omega

theorem flat_of_get (ok : CxOk cx P) {t : Ty} {Rl : Value → IV → Prop} : ∀ (ys : List (t.den D)) (vs : List Value), vs.length = ys.length * sz cx t → (∀ (m : Nat) x, ys[m]? = some x → ∀ (j : Nat) y, (deep cx t x)[j]? = some y → ∃ u, vs[m * sz cx t + j]? = some u ∧ Rl u y) → All2 Rl vs (ys.flatMap (deep cx t))
  | [], vs, h, _ => by simp at h; subst h; exact .nil
  | z :: ys, vs, h, hf => by
    simp only [List.length_cons, Nat.add_mul, Nat.one_mul] at h
    have h1 : vs = vs.take (sz cx t) ++ vs.drop (sz cx t) := (List.take_append_drop _ _).symm
    rw [h1, List.flatMap_cons]
    refine All2.append (All2.of_get _ _ (by simp [deep_len ok]; omega) fun i v y hv hy => ?_) (flat_of_get ok ys _ (by simp; omega) fun m x hx j y hy => ?_)
    · obtain ⟨u, hu, hr⟩ := hf 0 z (by simp) i y hy
      have hi : i < sz cx t := by rw [← deep_len ok t z]; exact (List.getElem?_eq_some_iff.1 hy).1
      rw [List.getElem?_take, if_pos hi] at hv
      simp [hv] at hu; subst hu; exact hr
    · obtain ⟨u, hu, hr⟩ := hf (m + 1) x (by simpa using hx) j y hy
      refine ⟨u, ?_, hr⟩
      rw [List.getElem?_drop, ← hu]; congr 1; rw [Nat.add_mul]; omega

/-! ### A row that is read as a whole -/
theorem encC_flat (ok : CxOk cx P) (t : Ty) : ∀ xs : List (t.den D), All2 (CS cx) (xs.flatMap (encC cx t)) (xs.flatMap (deep cx t))
  | [] => .nil
  | x :: xs => by simpa using (encC_ok ok t x).append (encC_flat ok t xs)
theorem RowAt.whole (ok : CxOk cx P) {t : Ty} {xs : List (t.den D)} {l : Bool} {b off cap : Nat} {c : Array Value} {e : TypeId} {fr : Nat × Nat} (hR : RowAt cx F w t xs l b off cap c e fr) :
    All2 (Rep F w) ((c.toList.drop off).take (xs.length * sz cx t)) (xs.flatMap (deep cx t)) := by
  have h1 := hR.size
  have h2 := hR.lecap
  have h3 : xs.length * sz cx t ≤ cap * sz cx t := Nat.mul_le_mul_right _ h2
  refine flat_of_get ok xs _ (by simp; omega) fun m x hx j y hy => ?_
  obtain ⟨u, hu, hr⟩ := hR.cell m x j y hx hy
  refine ⟨u, ?_, hr⟩
  have hj : j < sz cx t := by rw [← deep_len ok t x]; exact (List.getElem?_eq_some_iff.1 hy).1
  have hm : m < xs.length := (List.getElem?_eq_some_iff.1 hx).1
  have h4 : m * sz cx t + j < xs.length * sz cx t := by
    have : (m + 1) * sz cx t ≤ xs.length * sz cx t := Nat.mul_le_mul_right _ hm
    rw [Nat.add_mul] at this; omega
  rw [List.getElem?_take, if_pos h4, List.getElem?_drop]
  simpa using hu
theorem arrC_some {ti : TI D} {t : Ty} {n : Nat} (h : arrC cx ti t n = true) : ∃ e te, ti.desc = .arr n e ∧ cx.T e = some te ∧ te.ty = some t := by
  unfold arrC at h
  split at h
  · rename_i m e hd
    split at h
    · rename_i t' ht
      obtain ⟨te, he, hty⟩ := Option.bind_eq_some_iff.1 ht
      simp only [Bool.and_eq_true, decide_eq_true_eq] at h
      obtain ⟨rfl, h⟩ := h
      have := Nat.eq_of_beq_eq_true h
      subst this
      exact ⟨e, te, hd, he, hty⟩
    · simp at h
  · simp at h
/-- Such a type: its size, and that its values are of many cells. -/
theorem arrTy (ok : CxOk cx P) (F : Nat → Prop) (w : World) {T : TypeId} {ti : TI D} {t : Ty} {n : Nat} (hT : cx.T T = some ti) (h : arrC cx ti t n = true) : ti.size = n * sz cx t ∧ ti.agg = true := by
  obtain ⟨e, te, hd, he, hty⟩ := arrC_some h
  obtain ⟨⟨d, hu, hdd, hag⟩, ⟨i, z, hi, his, hib, hz, hzr, hzs, _, hzt, hza⟩, hzn, _⟩ := ok.ty T ti hT
  rw [hd] at hdd
  have hdd : d = .array n e := hdd
  subst hdd
  have hl := (hza n e te t hd he hty F w).length
  rw [flat_len ok, List.length_replicate, Array.length_toList] at hl
  exact ⟨by omega, by rw [← hag]⟩

/-! ### Loads -/
theorem loadCellsFrom_run (a : Addr) (u : Nat → Value) : ∀ (n i : Nat) (acc : Array Value), (∀ j, i ≤ j → j < i + n → w.cell? (a.add j) = some (u j)) →
    (loadCellsFrom a i n acc).run P w = .ok (acc ++ ((List.range' i n).map u).toArray) w
  | 0, i, acc, h => by simp [loadCellsFrom]
  | n + 1, i, acc, h => by
    have h0 := h i (Nat.le_refl _) (by omega)
    simp only [loadCellsFrom, Sem.run_bind, run_load, h0, Result.andThen_ok]
    rw [loadCellsFrom_run a u n (i + 1) _ (fun j h1 h2 => h j (by omega) (by omega))]
    simp [List.range'_succ]

theorem loadVar_run {S : Nat → Option Sh} {T : TypeId} {ti : TI D} (hT : TyOk cx P T ti) (ad : Addr) (cs : List (PV D)) (hl : cs.length = ti.size)
    (h : ∀ (j : Nat) p, cs[j]? = some p → ∃ u, w.cell? (ad.add j) = some u ∧ PRep cx S β F w p u) :
    ∃ v, (loadVar T ad).run P w = .ok v w ∧ PRep cx S β F w (one ti.agg cs) v := by
  obtain ⟨⟨d, hd, _, hag⟩, ⟨i, z, hi, his, _, _, _, hzs, hz1, _⟩, _, _⟩ := hT
  have hisAgg : (isAgg T).run P w = .ok ti.agg w := by
    simp only [isAgg, Sem.run_bind, run_underlying hd, Result.andThen_ok]
    split
    · rename_i hx; rw [← hag]; simp
    · rename_i hx; rw [← hag]; simp
    · rename_i h1 h2; rw [← hag]; simp
  cases hg : ti.agg with
  | true =>
    let u : Nat → Value := fun j => (w.cell? (ad.add j)).getD undef
    have hu : ∀ j, j < ti.size → w.cell? (ad.add j) = some (u j) := by
      intro j hj
      obtain ⟨v, hv, _⟩ := h j _ (List.getElem?_eq_getElem (by omega : j < cs.length))
      simp [u, hv]
    refine ⟨.agg ((List.range' 0 ti.size).map u).toArray, ?_, ?_⟩
    · simp only [loadVar, Sem.run_bind, hisAgg, Result.andThen_ok, hg, if_true]
      simp only [sizeOf, typeInfo, Sem.run_bind, run_program, Result.andThen_ok, hi, Sem.run_pure, his]
      rw [loadCells, loadCellsFrom_run ad u _ _ _ (fun j _ hj => hu j (by omega))]
      simp
    · refine ⟨_, rfl, (PReps_all2 ..).2 (All2.of_get _ _ (by simp [hl]) fun j p v hp hv => ?_)⟩
      obtain ⟨v', hv', hr⟩ := h j p hp
      have hj : j < ti.size := by rw [← hl]; exact (List.getElem?_eq_some_iff.1 hp).1
      simp [hj] at hv
      subst hv
      simpa [u, hv'] using hr
  | false =>
    have h1 : ti.size = 1 := by
      rcases hz1 with hz1 | hz1
      · simp [hg] at hz1
      · rw [← hzs, hz1]; rfl
    match cs, hl with
    | [p], _ =>
      obtain ⟨v, hv, hr⟩ := h 0 p rfl
      have h0 : ad.add 0 = ad := by simp [Addr.add]
      rw [h0] at hv
      refine ⟨v, ?_, hr⟩
      simp only [loadVar, Sem.run_bind, hisAgg, Result.andThen_ok, hg]
      simp [hv]
    | [], hl => simp at hl; omega
    | _ :: _ :: _, hl => simp at hl; omega

theorem names_one {ag : Bool} {cs : List (PV D)} {n : Nat} (h : n ∈ names (one ag cs)) : n ∈ names.go cs := by
  cases ag with
  | true => exact h
  | false =>
    cases cs with
    | nil => simp [one, names] at h
    | cons c cs => simp [one] at h; simp [names.go, h]
theorem names_go_sub {cs cs' : List (PV D)} (hs : ∀ p ∈ cs', p ∈ cs) {n : Nat} (h : n ∈ names.go cs') : n ∈ names.go cs := by
  rw [mem_names_go] at h ⊢
  obtain ⟨p, hp, hn⟩ := h
  exact ⟨p, hs p hp, hn⟩

theorem chk_some {b : Bool} {k : Option R} {r : R} (h : chk b k = some r) : b = true ∧ k = some r := by
  cases b with
  | false => simp [chk] at h
  | true => exact ⟨rfl, h⟩

theorem load_sound (ok : CxOk cx P) {T : TypeId} {p : PV D} {v : Value} {K : PV D → Option R} {r : R} (h : load cx T p s K = some r) (hs : SRep cx N s β F a w)
    (hp : PRep cx (fun m => shO cx (s.o m)) β F w p v) :
    ∃ u q, (Instr.loadAt T v).run P w = .ok u w ∧ K q = some r ∧ PRep cx (fun m => shO cx (s.o m)) β F w q u ∧ ∀ n ∈ names q, s.u n = true := by
  unfold load at h
  split at h
  · simp at h
  rename_i ti hti
  have hT := ok.ty T ti hti
  -- an address, and the cells there
  have fin : ∀ (ad : Addr) (cs : List (PV D)), v = .pointer (some ad) → cs.length = ti.size → (∀ (j : Nat) q, cs[j]? = some q → ∃ u, w.cell? (ad.add j) = some u ∧ PRep cx (fun m => shO cx (s.o m)) β F w q u) →
      (∀ n ∈ names.go cs, s.u n = true) → K (one ti.agg cs) = some r →
      ∃ u q, (Instr.loadAt T v).run P w = .ok u w ∧ K q = some r ∧ PRep cx (fun m => shO cx (s.o m)) β F w q u ∧ ∀ n ∈ names q, s.u n = true := by
    rintro ad cs rfl hl hc hn hK
    obtain ⟨u, hu, hr⟩ := loadVar_run hT ad cs hl hc
    exact ⟨u, _, by simpa [Instr.loadAt, Instr.sureAddr] using hu, hK, hr, fun n hn' => hn n (names_one hn')⟩
  have elemCase : ∀ (t : Ty) (x : t.den D) (off : Nat) (ad : Addr), v = .pointer (some ad) → off + ti.size ≤ (encC cx t x).length →
      (∀ (j : Nat) y, (deep cx t x)[off + j]? = some y → ∃ u, w.cell? (ad.add j) = some u ∧ Rep F w u y) → K (one ti.agg (((encC cx t x).drop off).take ti.size)) = some r →
      ∃ u q, (Instr.loadAt T v).run P w = .ok u w ∧ K q = some r ∧ PRep cx (fun m => shO cx (s.o m)) β F w q u ∧ ∀ n ∈ names q, s.u n = true := by
    intro t x off ad hv hle hc hK
    refine fin ad _ hv (by simp; omega) (fun j q hq => ?_) (fun n hn => ?_) hK
    · rw [List.getElem?_take] at hq
      split at hq
      · rw [List.getElem?_drop] at hq
        obtain ⟨y, hy, hcs⟩ := (encC_ok ok t x).get _ q hq
        obtain ⟨u, hu, hr⟩ := hc j y hy
        exact ⟨u, hu, PRep_of_Rep hcs hr⟩
      · simp at hq
    · have := names_go_sub (cs := encC cx t x) (fun p hp => List.mem_of_mem_drop (List.mem_of_mem_take hp)) hn
      simp [names_encC ok] at this
  split at h
  · rename_i o off
    split at h
    · rename_i cs ho
      obtain ⟨hb, hK⟩ := chk_some h
      have hb : off + ti.size ≤ cs.length := by simpa using hb
      simp only [PRep, ho, shO] at hp
      obtain ⟨b, o0, c0, hβ, rfl⟩ := hp
      obtain ⟨b', c, e, fr, hβ', hB⟩ := hs.hp.box o cs ho
      rw [hβ] at hβ'; simp at hβ'; obtain ⟨rfl, rfl, _⟩ := hβ'
      have hreps := (PReps_all2 ..).1 hB.reps
      refine fin _ _ rfl (by simp; omega) (fun j q hq => ?_) (fun n hn => ?_) hK
      · rw [List.getElem?_take] at hq
        split at hq
        · rw [List.getElem?_drop] at hq
          obtain ⟨u, hu, hr⟩ := hreps.get _ q hq
          refine ⟨u, ?_, hr⟩
          rw [add_at]
          simp [World.cell?, hB.at_]
          simpa using hu
        · simp at hq
      · exact hs.ub o n (by rw [ho]; exact names_go_sub (fun p hp => List.mem_of_mem_drop (List.mem_of_mem_take hp)) hn)
    · rename_i t xs l ho
      obtain ⟨hb, hK⟩ := chk_some h
      simp only [Bool.and_eq_true] at hb
      have h0 := Nat.eq_of_beq_eq_true hb.1
      subst h0
      obtain ⟨hsz, hag⟩ := arrTy ok F w hti hb.2
      simp only [PRep, ho, shO] at hp
      obtain ⟨b, o0, hβ, rfl⟩ := hp
      rcases hs.hp.row o t xs l ho with ⟨h3, _⟩ | ⟨b', off', cap, c, e, fr, hβ', hR⟩
      · rw [h3] at hβ; simp at hβ
      rw [hβ] at hβ'; simp at hβ'; obtain ⟨rfl, rfl, rfl⟩ := hβ'
      have hfl := hR.whole ok
      have hcs := encC_flat ok t xs
      have hpr := All2.comp (R := fun b a => CS cx a b) (S := fun b v => Rep F w v b) (U := fun a v => PRep cx (fun m => shO cx (s.o m)) β F w a v) (fun b p v h1 h2 => PRep_of_Rep h1 h2) hcs.flip hfl.flip
      have hl : (xs.flatMap (encC cx t)).length = ti.size := by rw [hcs.length, flat_len ok, hsz]
      obtain ⟨u, hu, hr⟩ := loadVar_run (S := fun m => shO cx (s.o m)) (β := β) (F := F) (w := w) hT ⟨b, o0, none⟩ (xs.flatMap (encC cx t)) hl (fun j q hq => by
        obtain ⟨u, hu, hr⟩ := hpr.get j q hq
        refine ⟨u, ?_, hr⟩
        rw [List.getElem?_take] at hu
        split at hu
        · rw [List.getElem?_drop] at hu
          rw [add_at]
          simp [World.cell?, hR.at_]
          simpa using hu
        · simp at hu)
      rw [hag] at hr
      obtain ⟨cs, rfl, hr⟩ := hr
      refine ⟨_, .arr t xs, by simpa [Instr.loadAt, Instr.sureAddr] using hu, hK, ⟨cs, rfl, ?_⟩, by simp [names]⟩
      exact All2.comp (R := fun p y => CS cx p y) (S := fun p v => PRep cx (fun m => shO cx (s.o m)) β F w p v) (U := fun y v => Rep F w v y) (fun p y v h1 h2 => Rep_of_PRep (CI_of_CS h1) h2) hcs ((PReps_all2 ..).1 hr) |>.flip
    · simp at h
  · rename_i o i off
    split at h
    · rename_i t xs l ho
      obtain ⟨hb, hK⟩ := chk_some h
      simp only [PRep, ho, shO] at hp
      obtain ⟨hi, b, o0, c0, hβ, rfl⟩ := hp
      rcases hs.hp.row o t xs l ho with ⟨h3, _⟩ | ⟨b', off', cap, c, e, fr, hβ', hR⟩
      · rw [h3] at hβ; simp at hβ
      rw [hβ] at hβ'; simp at hβ'; obtain ⟨rfl, rfl, rfl⟩ := hβ'
      have hx : xs[i]? = some (xs.getD i (t.zero cx)) := getD_some hi
      refine elemCase t _ off _ rfl (by simpa using hb) (fun j y hy => ?_) hK
      obtain ⟨u, hu, hr⟩ := hR.cell i _ (off + j) y hx hy
      refine ⟨u, ?_, hr⟩
      rw [add_at]
      simp [World.cell?, hR.at_]
      rw [← hu]; congr 1; omega
    · simp at h
  · rename_i t xs i off
    obtain ⟨hb, hK⟩ := chk_some h
    obtain ⟨hi, ad, c, hrep, rfl⟩ := hp
    have hx : xs[i]? = some (xs.getD i (t.zero cx)) := getD_some hi
    refine elemCase t _ off _ rfl (by simpa using hb) (fun j y hy => ?_) hK
    obtain ⟨_, _, _, u, hcell, hrep⟩ := hrep.list_inv
    have h1 : (xs.map (deep cx t))[i]? = some (deep cx t (xs.getD i (t.zero cx))) := by rw [List.getElem?_map, hx]; rfl
    refine ⟨_, ?_, hrep i _ (off + j) y h1 hy⟩
    rw [add_add, Nat.add_assoc]
    exact hcell i _ (off + j) y h1 hy
  · simp at h

end Go.Am

/-! Stores. -/
namespace Go.Am
variable {D : Nat → Type} {R : Type} {cx : Cx D} {N : Nat} {s : St D} {β : Beta} {F : Nat → Prop} {a : Act} {w w' : World} {P : Program}

structure Wrote (w : World) (b : Nat) (c' : Array Value) (e : TypeId) (fr : Nat × Nat) (w' : World) : Prop where
  os : w'.os = w.os
  tape : w'.tape = w.tape
  output : w'.output = w.output
  size : w'.heap.size = w.heap.size
  at_ : w'.heap[b]? = some (.cells c' e fr)
  other : ∀ x, x ≠ b → w'.heap[x]? = w.heap[x]?

def setLs (c : Array Value) (k : Nat) : List Value → Array Value
  | [] => c
  | v :: vs => setLs (c.setIfInBounds k v) (k + 1) vs

theorem setLs_list : ∀ (vs : List Value) (c : Array Value) (k : Nat), k + vs.length ≤ c.size → (setLs c k vs).toList = c.toList.take k ++ vs ++ c.toList.drop (k + vs.length)
  | [], c, k, h => by simp [setLs]
  | v :: vs, c, k, h => by
    simp only [setLs, List.length_cons] at h ⊢
    rw [setLs_list vs _ _ (by simp; omega)]
    simp only [Array.toList_setIfInBounds]
    have hk : k < c.toList.length := by simp; omega
    rw [List.drop_set_of_lt (by omega)]
    rw [List.take_succ_eq_append_getElem (by simpa using hk)]
    simp [List.take_set_of_le]
    congr 1
    omega
theorem setLs_size : ∀ (vs : List Value) (c : Array Value) (k : Nat), (setLs c k vs).size = c.size
  | [], c, k => rfl
  | v :: vs, c, k => by simp [setLs, setLs_size vs]

theorem setCell_wrote {b k : Nat} {c : Array Value} {e : TypeId} {fr : Nat × Nat} (h : w.heap[b]? = some (.cells c e fr)) (v : Value) : Wrote w b (c.setIfInBounds k v) e fr (w.setCell ⟨b, k, none⟩ v) where
  os := rfl
  tape := rfl
  output := rfl
  size := by simp [World.setCell]
  at_ := by simp [World.setCell, Array.getElem?_modify, h]
  other x hx := by simp [World.setCell, Array.getElem?_modify, Ne.symm hx]

theorem Wrote.trans {b : Nat} {c c' : Array Value} {e : TypeId} {fr : Nat × Nat} {w1 w2 : World} (h : Wrote w b c e fr w1) (k : Wrote w1 b c' e fr w2) : Wrote w b c' e fr w2 :=
  ⟨k.os.trans h.os, k.tape.trans h.tape, k.output.trans h.output, k.size.trans h.size, k.at_, fun x hx => (k.other x hx).trans (h.other x hx)⟩
theorem Wrote.none {b : Nat} {c : Array Value} {e : TypeId} {fr : Nat × Nat} (h : w.heap[b]? = some (.cells c e fr)) : Wrote w b c e fr w := ⟨rfl, rfl, rfl, rfl, h, fun _ _ => rfl⟩

theorem storeCells_run (b off : Nat) (e : TypeId) (fr : Nat × Nat) : ∀ (vs : List Value) (i : Nat) (w : World) (c : Array Value), w.heap[b]? = some (.cells c e fr) → (∀ v ∈ vs, v.oneCell' = true) → off + i + vs.length ≤ c.size →
    (∀ j, j < c.size → ¬ (fr.1 ≤ j ∧ j < fr.2)) → ∃ w', (storeCells ⟨b, off, none⟩ vs i).run P w = .ok () w' ∧ Wrote w b (setLs c (off + i) vs) e fr w'
  | [], i, w, c, h, _, _, _ => ⟨w, rfl, .none h⟩
  | v :: vs, i, w, c, h, h1, h2, h3 => by
    simp only [List.length_cons] at h2
    have hcell : w.cell? ⟨b, off + i, Option.none⟩ = some (c[off + i]'(by omega)) := by
      simp [World.cell?, h, Array.getElem?_eq_getElem (show off + i < c.size by omega)]
    have hfz : w.frozen? ⟨b, off + i, Option.none⟩ = false := by
      obtain ⟨lo, hi⟩ := fr
      have := h3 (off + i) (by omega)
      simp [World.frozen?, h]
      simpa using this
    have hw := setCell_wrote (k := off + i) h v
    obtain ⟨w', hr, hw'⟩ := storeCells_run b off e fr vs (i + 1) (w.setCell ⟨b, off + i, Option.none⟩ v) _ hw.at_ (fun x hx => h1 x (by simp [hx])) (by simp; omega) (fun j hj => h3 j (by simpa using hj))
    refine ⟨w', ?_, hw.trans hw'⟩
    simp only [storeCells, Sem.run_bind, add_at]
    rw [run_store P w _ v _ (h1 v (by simp)), hcell]
    simp only [hfz, Bool.false_eq_true, if_false, Result.andThen_ok]
    exact hr

theorem storeVar_run {T : TypeId} {ti : TI D} (hT : TyOk cx P T ti) {b off : Nat} {c : Array Value} {e : TypeId} {fr : Nat × Nat} (v : Value) (h : w.heap[b]? = some (.cells c e fr)) (h1 : ∀ x ∈ v.cells.toList, x.oneCell' = true)
    (hsz : v.cells.size = ti.size) (h2 : off + ti.size ≤ c.size) (h3 : ∀ j, j < c.size → ¬ (fr.1 ≤ j ∧ j < fr.2)) :
    ∃ w', (Instr.storeAt T (.pointer (some ⟨b, off, none⟩)) v).run P w = .ok () w' ∧ Wrote w b (setLs c off v.cells.toList) e fr w' := by
  obtain ⟨_, ⟨i, z, hi, his, _, _, _, hzs, hz1, _⟩, _, _⟩ := hT
  obtain ⟨w', hr, hw⟩ := storeCells_run (P := P) b off e fr v.cells.toList 0 w c h h1 (by simp; omega) h3
  refine ⟨w', ?_, by simpa using hw⟩
  simp only [Instr.storeAt, Instr.sureAddr, Sem.run_bind, Sem.run_pure, Result.andThen_ok, storeVar, sizeOf, typeInfo, run_program, hi]
  simp [hsz, his]
  exact hr

theorem All2.splice {α β : Type} {Rl : α → β → Prop} {cs : List α} {l : List β} {vs : List α} {us : List β} (h : All2 Rl cs l) (k : All2 Rl vs us) (off : Nat) :
    All2 Rl (cs.take off ++ vs ++ cs.drop (off + vs.length)) (l.take off ++ us ++ l.drop (off + us.length)) := by
  have hl : vs.length = us.length := k.length
  rw [hl]
  exact ((h.take off).append k).append (h.drop _)

theorem solids {S : Nat → Option Sh} {ps : List (PV D)} {vs : List Value} (hs : ps.all solid = true) (h : All2 (PRep cx S β F w) ps vs) : ∀ v ∈ vs, v.oneCell' = true := by
  intro v hv
  obtain ⟨i, hi⟩ := List.getElem?_of_mem hv
  obtain ⟨p, hp, hr⟩ := h.get' i v hi
  have : solid p = true := by
    have := List.all_eq_true.1 hs p (List.mem_of_getElem? hp)
    exact this
  exact (solid_one this hr).1

theorem ndisj {p : Prop} (h : p → False) : ¬ p := h

/-- A write into an object's own block. -/
theorem wr_unique (hs : HRep cx s.o β F w) {o b : Nat} (ho : Wr s.o β o b) : ∀ n b', n ≠ o → Wr s.o β n b' → b' ≠ b := by
  rintro n b' hn hw rfl
  exact hn (hs.apart n o b' hw ho)

theorem keptWrote {b : Nat} {c' : Array Value} {e : TypeId} {fr : Nat × Nat} (hw : Wrote w b c' e fr w') {W : Nat → Prop} (ho : W b) : Kept w W w' :=
  ⟨hw.os, hw.tape, hw.output, Nat.le_of_eq hw.size.symm, fun x _ hW => hw.other x (fun h => hW (h ▸ ho))⟩

theorem splice_len {cs vs : List (PV D)} {off : Nat} (h : off + vs.length ≤ cs.length) : (splice cs off vs).length = cs.length := by
  simp [splice]; omega

theorem names_splice {cs vs : List (PV D)} {off n : Nat} (h : n ∈ names.go (splice cs off vs)) : n ∈ names.go cs ∨ n ∈ names.go vs := by
  rw [mem_names_go] at h
  obtain ⟨p, hp, hn⟩ := h
  simp only [splice, List.mem_append] at hp
  rcases hp with (hp | hp) | hp
  · exact .inl (mem_names_go.2 ⟨p, List.mem_of_mem_take hp, hn⟩)
  · exact .inr (mem_names_go.2 ⟨p, hp, hn⟩)
  · exact .inl (mem_names_go.2 ⟨p, List.mem_of_mem_drop hp, hn⟩)

/-! ### A box is written into -/
theorem SRep.boxSet (h : SRep cx N s β F a w) {o b : Nat} {cs cs' : List (PV D)} {c c' : Array Value} {e : TypeId} {fr : Nat × Nat} (ho : s.o o = some (.box cs)) (hβ : β o = some (b, 0, 0)) (hw : Wrote w b c' e fr w')
    (hsz : c'.size = c.size) (hfree : ∀ j, j < c.size → ¬ (fr.1 ≤ j ∧ j < fr.2)) (hr : All2 (PRep cx (fun m => shO cx (s.o m)) β F w) cs' c'.toList) (hn : ∀ n ∈ names.go cs', s.u n = true) :
    SRep cx N (s.setO o (.box cs')) β F a w' ∧ Step s.o s.u β F w (s.setO o (.box cs')).o (s.setO o (.box cs')).u β F w' := by
  have hwr : Wr s.o β o b := ⟨⟨_, hβ⟩, by simp [ho]⟩
  have hF : ∀ x, F x → w'.heap[x]? = w.heap[x]? := fun x hx => hw.other x (by rintro rfl; exact h.hp.away o x hwr hx)
  have hW : ∀ n x, n ≠ o → Wr s.o β n x → w'.heap[x]? = w.heap[x]? := fun n x hn hx => hw.other x (wr_unique h.hp hwr n x hn hx)
  have hsh : ∀ n, shO cx (upd s.o o (some (.box cs')) n) = shO cx (s.o n) := by
    intro n
    by_cases hx : n = o
    · subst hx; rw [upd_same, ho]; rfl
    · rw [upd_ne _ _ _ _ hx]
  have hwr' : ∀ n x, Wr (upd s.o o (some (.box cs'))) β n x → Wr s.o β n x := by
    intro n x hx
    by_cases hn : n = o
    · subst hn; obtain ⟨h1, _⟩ := hx; exact ⟨h1, by simp [ho]⟩
    · simpa [Wr, upd_ne _ _ _ _ hn] using hx
  have hr' : PReps cx (fun m => shO cx (s.o m)) β F w' cs' c'.toList := PReps.mono (fun _ h => h) hF _ _ (fun _ _ => .inl ⟨rfl, rfl⟩) ((PReps_all2 ..).2 hr)
  have hp' := h.hp.set o _ (.box cs') ho rfl (fun x => hwr' o x) hF hW (Nat.le_of_eq hw.size.symm) ⟨b, c', e, fr, hβ, hw.at_, by rw [hsz]; exact hfree, hr'⟩
  refine ⟨h.objs hp' (fun _ h => h) hF (fun n _ => .inl ⟨hsh n, rfl⟩) (fun _ h => h) (fun m n hm => ?_) (fun m hm => ?_), ⟨fun _ h => h, fun _ _ => rfl, keptWrote hw ⟨o, hwr⟩, fun n x hx => .inl ⟨n, hwr' n x hx⟩, fun _ h => h, fun _ h => .inl h, fun n hu => .inr ?_⟩⟩
  · by_cases hx : m = o
    · subst hx; rw [upd_same] at hm; exact hn n hm
    · rw [upd_ne _ _ _ _ hx] at hm; exact h.ub m n hm
  · by_cases hx : m = o
    · subst hx; exact h.uo m (by simp [ho])
    · rw [upd_ne _ _ _ _ hx] at hm; exact h.uo m hm
  · by_cases hx' : n = o
    · subst hx'; simp only [St.setO, upd_same, ho]; first | trivial | exact ⟨rfl, hlen.symm⟩
    · simp only [St.setO, upd_ne _ _ _ _ hx']; exact sameO_refl _

/-! ### A row is written into -/
theorem SRep.rowSet (h : SRep cx N s β F a w) {o b off cap : Nat} {t : Ty} {xs ys : List (t.den D)} {c c' : Array Value} {e : TypeId} {fr : Nat × Nat} (ho : s.o o = some (.row t xs true)) (hβ : β o = some (b, off, cap)) (hw : Wrote w b c' e fr w')
    (hlen : ys.length = xs.length) (hR : RowAt cx F w t xs true b off cap c e fr) (hsz : c'.size = c.size)
    (hcell : ∀ (i : Nat) x (j : Nat) y, ys[i]? = some x → (deep cx t x)[j]? = some y → ∃ u, c'[off + (i * sz cx t + j)]? = some u ∧ Rep F w u y) :
    SRep cx N (s.setO o (.row t ys true)) β F a w' ∧ Step s.o s.u β F w (s.setO o (.row t ys true)).o (s.setO o (.row t ys true)).u β F w' := by
  have hwr : Wr s.o β o b := ⟨⟨_, hβ⟩, by simp [ho]⟩
  have hF : ∀ x, F x → w'.heap[x]? = w.heap[x]? := fun x hx => hw.other x (by rintro rfl; exact h.hp.away o x hwr hx)
  have hW : ∀ n x, n ≠ o → Wr s.o β n x → w'.heap[x]? = w.heap[x]? := fun n x hn hx => hw.other x (wr_unique h.hp hwr n x hn hx)
  have hsh : ∀ n, shO cx (upd s.o o (some (.row t ys true)) n) = shO cx (s.o n) := by
    intro n
    by_cases hx : n = o
    · subst hx; rw [upd_same, ho]; simp [shO, hlen]
    · rw [upd_ne _ _ _ _ hx]
  have hwr' : ∀ n x, Wr (upd s.o o (some (.row t ys true))) β n x → Wr s.o β n x := by
    intro n x hx
    by_cases hn : n = o
    · subst hn; obtain ⟨h1, _⟩ := hx; exact ⟨h1, by simp [ho]⟩
    · simpa [Wr, upd_ne _ _ _ _ hn] using hx
  have hp' := h.hp.set o _ (.row t ys true) ho (by simp [shO, hlen]) (fun x => hwr' o x) hF hW (Nat.le_of_eq hw.size.symm)
    (.inr ⟨b, off, cap, c', e, fr, hβ, hw.at_, by rw [hlen]; exact hR.lecap, by rw [hsz]; exact hR.size, by rw [hsz]; exact hR.free, fun i x j y hx hy => let ⟨u, hu, hr⟩ := hcell i x j y hx hy; ⟨u, hu, hr.mono (fun _ h => h) hF⟩, by simp⟩)
  refine ⟨h.objs hp' (fun _ h => h) hF (fun n _ => .inl ⟨hsh n, rfl⟩) (fun _ h => h) (fun m n hm => ?_) (fun m hm => ?_), ⟨fun _ h => h, fun _ _ => rfl, keptWrote hw ⟨o, hwr⟩, fun n x hx => .inl ⟨n, hwr' n x hx⟩, fun _ h => h, fun _ h => .inl h, fun n hu => .inr ?_⟩⟩
  · by_cases hx : m = o
    · subst hx; simp [upd_same, namesO] at hm
    · rw [upd_ne _ _ _ _ hx] at hm; exact h.ub m n hm
  · by_cases hx : m = o
    · subst hx; exact h.uo m (by simp [ho])
    · rw [upd_ne _ _ _ _ hx] at hm; exact h.uo m hm
  · by_cases hx' : n = o
    · subst hx'; simp only [St.setO, upd_same, ho]; first | trivial | exact ⟨rfl, hlen.symm⟩
    · simp only [St.setO, upd_ne _ _ _ _ hx']; exact sameO_refl _

/-! ### Many rows stay as they are -/
theorem SRep.frzAll (h : SRep cx N s β F a w) : ∀ (l : List (PV D)), ∃ F', SRep cx N (frzAll s l) β F' a w ∧ Step s.o s.u β F w (frzAll s l).o (frzAll s l).u β F' w ∧
    ∀ p ∈ l, ∀ o, (p = .own o ∨ ∃ lo n, p = .view o lo n) → ∀ b, frzF s β F o b → F' b := by
  intro l
  induction l generalizing s F with
  | nil => exact ⟨F, h, .refl _ _ _ _ _, by simp⟩
  | cons p ps ih =>
    have key : ∃ F1, SRep cx N (frz s p) β F1 a w ∧ Step s.o s.u β F w (frz s p).o (frz s p).u β F1 w ∧ (∀ o, (p = .own o ∨ ∃ lo n, p = .view o lo n) → ∀ b, frzF s β F o b → F1 b) := by
      cases p with
      | own o => exact ⟨_, (h.frzN o).1, (h.frzN o).2, by rintro o' (h' | ⟨_, _, h'⟩) <;> simp at h'; subst h'; exact fun _ h => h⟩
      | view o lo n => exact ⟨_, (h.frzN o).1, (h.frzN o).2, by rintro o' (h' | ⟨_, _, h'⟩) <;> simp at h'; obtain ⟨rfl, _⟩ := h'; exact fun _ h => h⟩
      | _ => exact ⟨F, h, .refl _ _ _ _ _, by rintro o' (h' | ⟨_, _, h'⟩) <;> simp at h'⟩
    obtain ⟨F1, h1, h2, h3⟩ := key
    obtain ⟨F2, k1, k2, k3⟩ := ih h1
    refine ⟨F2, k1, h2.trans k2, fun q hq o ho b hb => ?_⟩
    rcases List.mem_cons.1 hq with rfl | hq
    · exact k2.f0 b (h3 o ho b hb)
    · refine k3 q hq o ho b ?_
      rcases hb with hb | hb
      · exact .inl (h2.f0 b hb)
      · right
        have : (∃ t xs l, s.o o = some (.row t xs l)) → ∃ t xs l, (frz s p).o o = some (.row t xs l) := by
          rintro ⟨t, xs, l, ho⟩
          have hN : ∀ o', ∃ t xs l, (Am.frzN s o').o o = some (.row t xs l) := by
            intro o'
            unfold Am.frzN
            split
            · rename_i t' xs' l' ho'
              by_cases hx : o = o'
              · subst hx; exact ⟨t', xs', false, by simp [St.setO, upd_same]⟩
              · exact ⟨t, xs, l, by simpa [St.setO, upd_ne _ _ _ _ hx] using ho⟩
            · exact ⟨t, xs, l, ho⟩
          cases p <;> first | exact hN _ | exact ⟨t, xs, l, ho⟩
        cases hx : s.o o with
        | none => simp [hx] at hb
        | some ob => cases ob with
          | box cs => simp [hx] at hb
          | row t xs l =>
            simp [hx] at hb
            obtain ⟨t', xs', l', h'⟩ := this ⟨t, xs, l, hx⟩
            simp [h', hb]

theorem frzN_row {o o' : Nat} {t : Ty} {xs : List (t.den D)} {l : Bool} (h : (frzN s o').o o = some (.row t xs l)) : ∃ l', s.o o = some (.row t xs l') := by
  unfold frzN at h
  split at h
  · rename_i t' xs' l' ho'
    by_cases hx : o = o'
    · subst hx; simp only [St.setO, upd_same, Option.some.injEq, Obj.row.injEq] at h; obtain ⟨rfl, h2, _⟩ := h; simp at h2; subst h2; exact ⟨l', ho'⟩
    · simp only [St.setO, upd_ne _ _ _ _ hx] at h; exact ⟨l, h⟩
  · exact ⟨l, h⟩
theorem frzAll_row {o : Nat} {t : Ty} {xs : List (t.den D)} : ∀ (ps : List (PV D)) (s : St D) {l : Bool}, (frzAll s ps).o o = some (.row t xs l) → ∃ l', s.o o = some (.row t xs l')
  | [], s, l, h => ⟨l, h⟩
  | p :: ps, s, l, h => by
    obtain ⟨l1, h1⟩ := frzAll_row ps _ h
    cases p <;> first | exact frzN_row h1 | exact ⟨l1, h1⟩

theorem frzAll_u : ∀ (ps : List (PV D)) (s : St D), (frzAll s ps).u = s.u
  | [], s => rfl
  | p :: ps, s => by
    rw [frzAll, frzAll_u ps]
    have hN : ∀ o, (frzN s o).u = s.u := by intro o; unfold frzN; split <;> rfl
    cases p <;> first | exact hN _ | rfl

theorem cellsOf_names (ok : CxOk cx P) {q : PV D} {n : Nat} (hn : n ∈ names.go (cellsOf cx q)) : n ∈ names q := by
  cases q with
  | agg l => exact hn
  | arr t xs =>
    have : ∀ xs : List (t.den D), names.go (xs.flatMap (encC cx t)) = [] := by
      intro xs
      apply names_go_nil
      intro p hp
      simp only [List.mem_flatMap] at hp
      obtain ⟨x, _, hp⟩ := hp
      obtain ⟨i, hi⟩ := List.getElem?_of_mem hp
      obtain ⟨y, _, hy⟩ := (encC_ok ok t x).get i p hi
      exact names_CS hy
    simp [cellsOf, this xs] at hn
  | undef => simp [cellsOf, names.go] at hn
  | skip => simp [cellsOf, names.go] at hn
  | tup l => simp [cellsOf, names.go] at hn
  | _ => simp [cellsOf, names.go] at hn; exact hn

/-- Cells with the rows of one's own settled: once those are still. -/
theorem SRep.settledAll (h : SRep cx N s β F a w) {ps : List (PV D)} {vs : List Value} (hr : All2 (PRep cx (fun m => shO cx (s.o m)) β F w) ps vs) {F' : Nat → Prop} {S' : Nat → Option Sh} (hF : ∀ b, F b → F' b)
    (hS : ∀ n, S' n = shO cx (s.o n)) (hB : ∀ p ∈ ps, ∀ o, (p = .own o ∨ ∃ lo n, p = .view o lo n) → ∀ b, frzF s β F o b → F' b) : All2 (PRep cx S' β F' w) (ps.map (settle s)) vs := by
  induction hr with
  | nil => exact .nil
  | cons h1 _ ih => exact .cons (h.settled h1 hF (fun n _ => .inl ⟨hS n, rfl⟩) (hB _ (by simp))) (ih fun p hp => hB p (by simp [hp]))

theorem frzAll_sh : ∀ (ps : List (PV D)) (s : St D) (n : Nat), shO cx ((Am.frzAll s ps).o n) = shO cx (s.o n)
  | [], s, n => rfl
  | p :: ps, s, n => by
    rw [Am.frzAll, frzAll_sh ps]
    have hN : ∀ o, shO cx ((frzN s o).o n) = shO cx (s.o n) := by
      intro o; unfold frzN; split
      · rename_i t xs l ho
        by_cases hx : n = o
        · subst hx; simp [St.setO, upd_same, ho, shO]
        · simp [St.setO, upd_ne _ _ _ _ hx]
      · rfl
    cases p <;> first | exact hN _ | rfl

/-- An element of a row is written, in part or whole. -/
theorem row_splice (ok : CxOk cx P) {S : Nat → Option Sh} {t : Ty} {xs : List (t.den D)} {l : Bool} {b off cap i o1 : Nat} {c : Array Value} {e : TypeId} {fr : Nat × Nat} {qs : List (PV D)} {us : List Value} {x x0 : t.den D}
    (hR : RowAt cx F w t xs l b off cap c e fr) (hi : xs[i]? = some x0) (hq : All2 (PRep cx S β F w) qs us) (hx : All2 (CI cx) (splice (encC cx t x0) o1 qs) (deep cx t x)) (hne : 0 < qs.length) :
    o1 + us.length ≤ sz cx t ∧ off + (i * sz cx t + o1) + us.length ≤ c.size ∧
    ∀ (k : Nat) y (j : Nat) z, (xs.set i x)[k]? = some y → (deep cx t y)[j]? = some z → ∃ u, (setLs c (off + (i * sz cx t + o1)) us)[off + (k * sz cx t + j)]? = some u ∧ Rep F w u z := by
  have hql := hq.length
  have hd0 := deep_len ok t x0
  have hd := deep_len ok t x
  have hel : (encC cx t x0).length = sz cx t := by rw [(encC_ok ok t x0).length, hd0]
  have hsl : (splice (encC cx t x0) o1 qs).length = sz cx t := by rw [hx.length, hd]
  have hle : o1 + qs.length ≤ sz cx t := by
    simp only [splice, List.length_append, List.length_take, List.length_drop, hel] at hsl
    omega
  have hil : i < xs.length := (List.getElem?_eq_some_iff.1 hi).1
  have hsize : off + (i * sz cx t + sz cx t) ≤ c.size := by
    have h1 := hR.size
    have h2 : (i + 1) * sz cx t ≤ cap * sz cx t := Nat.mul_le_mul_right _ (by have := hR.lecap; omega)
    rw [Nat.add_mul] at h2; omega
  refine ⟨by omega, by omega, fun k y j z hy hz => ?_⟩
  have hj : j < sz cx t := by rw [← deep_len ok t y]; exact (List.getElem?_eq_some_iff.1 hz).1
  have hnew := setLs_list us c (off + (i * sz cx t + o1)) (by omega)
  have hget : ∀ m : Nat, (setLs c (off + (i * sz cx t + o1)) us)[m]? = (c.toList.take (off + (i * sz cx t + o1)) ++ us ++ c.toList.drop (off + (i * sz cx t + o1) + us.length))[m]? := by
    intro m; rw [← hnew]; simp
  by_cases hk : k = i
  · subst hk
    rw [List.getElem?_set_self hil] at hy
    simp at hy; subst hy
    -- the element's own cells
    have hcur : ∀ j, j < sz cx t → ∃ u, c[off + (k * sz cx t + j)]? = some u := by
      intro j hj
      exact ⟨_, Array.getElem?_eq_getElem (by omega)⟩
    have hus : All2 (PRep cx S β F w) (encC cx t x0) ((c.toList.drop (off + k * sz cx t)).take (sz cx t)) := by
      refine All2.of_get _ _ (by simp [hel]; omega) fun m p v hp hv => ?_
      have hm : m < sz cx t := by rw [← hel]; exact (List.getElem?_eq_some_iff.1 hp).1
      obtain ⟨y, hy, hcs⟩ := (encC_ok ok t x0).get m p hp
      obtain ⟨u, hu, hr⟩ := hR.cell k x0 m y hi hy
      rw [List.getElem?_take] at hv
      simp [hm, List.getElem?_drop] at hv
      have : c[off + (k * sz cx t + m)]? = some v := by rw [← hv]; congr 1; omega
      rw [this] at hu; simp at hu; subst hu
      exact PRep_of_Rep hcs hr
    have hsp := hus.splice hq o1
    obtain ⟨p, hp, hci⟩ := hx.get' j z hz
    obtain ⟨v, hv, hr⟩ := hsp.get j p (by simpa [splice] using hp)
    refine ⟨v, ?_, Rep_of_PRep hci hr⟩
    rw [hget, ← hv]
    -- both lists, at their places
    by_cases h1 : j < o1
    · rw [List.getElem?_append_left (by simp; omega), List.getElem?_append_left (by simp; omega), List.getElem?_append_left (by simp; omega), List.getElem?_append_left (by simp; omega)]
      rw [List.getElem?_take, List.getElem?_take, List.getElem?_take]
      simp only [h1, hj, if_true, show off + (k * sz cx t + j) < off + (k * sz cx t + o1) by omega]
      rw [List.getElem?_drop]; congr 1; omega
    · by_cases h2 : j < o1 + us.length
      · rw [List.getElem?_append_left (by simp; omega), List.getElem?_append_right (by simp; omega), List.getElem?_append_left (by simp; omega), List.getElem?_append_right (by simp; omega)]
        congr 1; simp; omega
      · rw [List.getElem?_append_right (by simp; omega), List.getElem?_append_right (by simp; omega)]
        rw [List.getElem?_drop, List.getElem?_drop, List.getElem?_take]
        simp only [List.length_append, List.length_take, List.length_drop, Array.length_toList]
        rw [if_pos (by omega), List.getElem?_drop]
        congr 1; omega
  · have hy' : xs[k]? = some y := by rwa [List.getElem?_set_ne (Ne.symm hk)] at hy
    obtain ⟨u, hu, hr⟩ := hR.cell k y j z hy' hz
    refine ⟨u, ?_, hr⟩
    rw [hget]
    have hkl : k < xs.length := (List.getElem?_eq_some_iff.1 hy').1
    rcases Nat.lt_or_gt_of_ne hk with hlt | hgt
    · have : (k + 1) * sz cx t ≤ i * sz cx t := Nat.mul_le_mul_right _ hlt
      rw [Nat.add_mul] at this
      rw [List.getElem?_append_left (by simp; omega), List.getElem?_append_left (by simp; omega), List.getElem?_take]
      rw [if_pos (by omega)]
      simpa using hu
    · have : (i + 1) * sz cx t ≤ k * sz cx t := Nat.mul_le_mul_right _ hgt
      rw [Nat.add_mul] at this
      rw [List.getElem?_append_right (by simp; omega), List.getElem?_drop]
      simp only [List.length_append, List.length_take, Array.length_toList]
      have h3 : off + (i * sz cx t + o1) + us.length + (off + (k * sz cx t + j) - (min (off + (i * sz cx t + o1)) c.size + us.length)) = off + (k * sz cx t + j) := by omega
      rw [h3]
      simpa using hu

theorem store_sound (ok : CxOk cx P) {T : TypeId} {p q : PV D} {v u : Value} {K : St D → Option R} {r : R} (h : store cx T p q s K = some r) (hs : SRep cx N s β F a w)
    (hp : PRep cx (fun m => shO cx (s.o m)) β F w p v) (hq : PRep cx (fun m => shO cx (s.o m)) β F w q u) (hqn : ∀ n ∈ names q, s.u n = true) :
    ∃ w', (Instr.storeAt T v u).run P w = .ok () w' ∧ Res cx N s β F a w (fun p s' => p = .skip ∧ K s' = some r) undef w' := by
  unfold store at h
  cases hti : cx.T T with
  | none => simp [hti] at h
  | some ti =>
  have hT := ok.ty T ti hti
  simp only [hti] at h
  obtain ⟨hb, h'⟩ := chk_some h
  clear h
  simp only [Bool.and_eq_true, Nat.beq_eq, Nat.blt_eq] at hb
  obtain ⟨⟨h0, hlen⟩, hsol⟩ := hb
  have hlen : (cellsOf cx q).length = ti.size := by simpa using hlen
  have hne : cellsOf cx q ≠ [] := by intro hx; rw [hx] at hlen; simp at hlen; omega
  have hcu : All2 (PRep cx (fun m => shO cx (s.o m)) β F w) (cellsOf cx q) u.cells.toList := cellsOf_rep ok hsol hne hq
  have hul : u.cells.size = ti.size := by have := hcu.length; simp at this; omega
  cases p with
  | ptr o off =>
    simp only at h'
    cases ho : s.o o with
    | none => simp [ho] at h'
    | some ob => cases ob with
      | row t xs l => cases l with
        | false => simp [ho] at h'
        | true =>
        simp only [ho] at h'
        cases q with
        | arr t' ys =>
          simp only at h'
          cases hc : cast? t' t ys with
          | none => simp [hc] at h'
          | some zs =>
          obtain ⟨rfl, rfl⟩ := cast?_some hc
          simp only [hc] at h'
          obtain ⟨hb, hK⟩ := chk_some h'
          simp only [Bool.and_eq_true] at hb
          have h0 := Nat.eq_of_beq_eq_true hb.1.1
          subst h0
          have hlen2 := Nat.eq_of_beq_eq_true hb.2
          obtain ⟨hsz, _⟩ := arrTy ok F w hti hb.1.2
          simp only [PRep, ho, shO] at hp
          obtain ⟨b, o0, hβ, rfl⟩ := hp
          rcases hs.hp.row o t' xs true ho with ⟨h3, _⟩ | ⟨b', off', cap, c, e, fr, hβ', hR⟩
          · rw [h3] at hβ; simp at hβ
          rw [hβ] at hβ'; simp at hβ'; obtain ⟨rfl, rfl, rfl⟩ := hβ'
          obtain ⟨us, rfl, hfl⟩ := hq
          have hsize := hR.size
          have hul : us.size = ti.size := hul
          have hsz : ti.size = ys.length * sz cx t' := hsz
          have hlen2 : xs.length = ys.length := hlen2
          rw [hlen2] at hsize
          obtain ⟨w', hrun, hw⟩ := storeVar_run (P := P) (T := T) (off := o0) hT (.agg us) hR.at_ (solids hsol hcu) hul (by omega) hR.free
          have hset := setLs_list us.toList c o0 (by simp; omega)
          obtain ⟨m1, m2⟩ := hs.rowSet (ys := ys) ho hβ hw hlen2.symm hR (by rw [setLs_size]) (fun i x j y hx hy => by
            obtain ⟨u, hu, hr⟩ := flat_get ok _ _ i x hfl hx j y hy
            refine ⟨u, ?_, hr⟩
            have hm : i * sz cx t' + j < us.toList.length := (List.getElem?_eq_some_iff.1 hu).1
            rw [← Array.getElem?_toList]
            show (setLs c o0 us.toList).toList[_]? = _
            rw [hset, List.append_assoc, List.getElem?_append_right (by simp; omega), List.getElem?_append_left (by simp at hm ⊢; omega), ← hu]
            congr 1; simp; omega)
          exact ⟨w', hrun, _, _, _, .skip, m1, rfl, by simp [names], m2, rfl, hK⟩
        | _ => simp at h'
      | box cs =>
      simp only [ho] at h'
      obtain ⟨hb, hK⟩ := chk_some h'
      have hb : off + ti.size ≤ cs.length := by simpa using hb
      simp only [PRep, ho, shO] at hp
      obtain ⟨b, o0, c0, hβ, rfl⟩ := hp
      obtain ⟨b', c, e, fr, hβ', hB⟩ := hs.hp.box o cs ho
      rw [hβ] at hβ'; simp at hβ'; obtain ⟨rfl, rfl, rfl⟩ := hβ'
      have hreps := (PReps_all2 ..).1 hB.reps
      have hcl : cs.length = c.size := by have := hreps.length; simpa using this
      obtain ⟨w', hrun, hw⟩ := storeVar_run (off := off) hT u hB.at_ (solids hsol hcu) hul (by omega) hB.free
      have hc' : All2 (PRep cx (fun m => shO cx (s.o m)) β F w) (splice cs off (cellsOf cx q)) (setLs c off u.cells.toList).toList := by
        rw [setLs_list _ _ _ (by simp; omega)]
        exact hreps.splice hcu off
      obtain ⟨h1, h2⟩ := hs.boxSet ho hβ hw (by rw [setLs_size]) hB.free hc' (fun n hn => by
        rcases names_splice hn with hn | hn
        · exact hs.ub o n (by rw [ho]; exact hn)
        · exact hqn n (cellsOf_names ok hn))
      exact ⟨w', by simpa using hrun, _, _, _, .skip, h1, rfl, by simp [names], h2, rfl, hK⟩
  | elem o i off =>
    simp only at h'
    cases ho : s.o o with
    | none => simp [ho] at h'
    | some ob => cases ob with
      | box cs => simp [ho] at h'
      | row t xs l => cases l with
        | false => simp [ho] at h'
        | true =>
        simp only [ho] at h'
        cases hx : decC cx t (splice (encC cx t (xs.getD i (t.zero cx))) off ((cellsOf cx q).map (settle s))) with
        | none => rw [hx] at h'; simp at h'
        | some x =>
        simp only [hx] at h'
        cases ho2 : (frzAll s (cellsOf cx q)).o o with
        | none => simp [ho2] at h'
        | some ob2 => cases ob2 with
          | box cs => simp [ho2] at h'
          | row t2 xs2 l2 => cases l2 with
            | false => simp [ho2] at h'
            | true =>
            simp only [ho2] at h'
            obtain ⟨l', ho'⟩ := frzAll_row _ _ ho2
            rw [ho] at ho'; simp only [Option.some.injEq, Obj.row.injEq] at ho'; obtain ⟨rfl, he, rfl⟩ := ho'; simp at he; subst he
            simp only [PRep, ho, shO] at hp
            obtain ⟨hi, b, o0, c0, hβ, rfl⟩ := hp
            obtain ⟨F1, h1, h2, h3⟩ := hs.frzAll (cellsOf cx q)
            rcases h1.hp.row o t xs true ho2 with ⟨h4, _⟩ | ⟨b', off', cap, c, e, fr, hβ', hR⟩
            · rw [h4] at hβ; simp at hβ
            rw [hβ] at hβ'; simp at hβ'; obtain ⟨rfl, rfl, rfl⟩ := hβ'
            have hset := hs.settledAll (F' := F1) (S' := fun m => shO cx ((Am.frzAll s (cellsOf cx q)).o m)) hcu h2.f0 (fun n => frzAll_sh _ _ n) h3
            obtain ⟨k1, k2, k3⟩ := row_splice ok (o1 := off) hR (getD_some hi) hset (decC_ok ok t _ x hx) (by simp; omega)
            obtain ⟨w', hrun, hw⟩ := storeVar_run (P := P) (T := T) (off := o0 + (i * sz cx t + off)) hT u hR.at_ (solids hsol hcu) hul (by simp at k2; omega) hR.free
            obtain ⟨m1, m2⟩ := h1.rowSet (ys := xs.set i x) ho2 hβ hw (by simp) hR (by rw [setLs_size]) k3
            exact ⟨w', hrun, _, _, _, .skip, m1, rfl, by simp [names], h2.trans m2, rfl, h'⟩
  | _ => simp at h'

end Go.Am

/-! Operations that only compute. -/
namespace Go.Am
variable {D : Nat → Type} {R : Type} {cx : Cx D} {N : Nat} {s : St D} {β : Beta} {F : Nat → Prop} {a : Act} {w w' : World} {P : Program}

/-- It computes: no more. -/
def Got (cx : Cx D) (P : Program) (s : St D) (β : Beta) (F : Nat → Prop) (w : World) (S : Sem Value) (K : PV D → Option R) (r : R) : Prop :=
  ∃ u q, S.run P w = .ok u w ∧ K q = some r ∧ PRep cx (fun m => shO cx (s.o m)) β F w q u ∧ ∀ n ∈ names q, s.u n = true

theorem Got.plain {S : Sem Value} {K : PV D → Option R} {r : R} {q : PV D} {u : Value} (h : S.run P w = .ok u w) (hK : K q = some r) (hr : PRep cx (fun m => shO cx (s.o m)) β F w q u) (hn : names q = []) : Got cx P s β F w S K r :=
  ⟨u, q, h, hK, hr, by simp [hn]⟩

theorem tyDesc (ok : CxOk cx P) {T : TypeId} {d : TD} (h : (cx.T T).map TI.desc = some d) : ∃ d', P.underlying T = some d' ∧ DescOk cx P d d' := by
  cases hT : cx.T T with
  | none => simp [hT] at h
  | some ti =>
    simp [hT] at h
    obtain ⟨⟨d', h1, h2, _⟩, _⟩ := ok.ty T ti hT
    exact ⟨d', h1, h ▸ h2⟩
theorem tyDesc' (ok : CxOk cx P) {T : TypeId} {ti : TI D} (h : cx.T T = some ti) : ∃ d', P.underlying T = some d' ∧ DescOk cx P ti.desc d' := by
  obtain ⟨⟨d', h1, h2, _⟩, _⟩ := ok.ty T ti h
  exact ⟨d', h1, h2⟩
theorem tySize (ok : CxOk cx P) {T : TypeId} {ti : TI D} (h : cx.T T = some ti) : (sizeOf T).run P w = .ok ti.size w := by
  obtain ⟨_, ⟨i, z, hi, his, _⟩, _⟩ := ok.ty T ti h
  simp [sizeOf, typeInfo, hi, his]

theorem inb_iff {i : Int} {n : Nat} : inb i n = true ↔ 0 ≤ i ∧ i < n := by simp [inb]
theorem upto_iff {i : Int} {n : Nat} : upto i n = true ↔ 0 ≤ i ∧ i ≤ n := by simp [upto]

/-- The elements' size of a row. -/
def szOk (cx : Cx D) (T : TypeId) (z : Nat) : Prop := ∀ te, cx.T T = some te → te.size = z

/-! ### Parts of values -/
theorem part_run (ok : CxOk cx P) {T : TypeId} {ti : TI D} (hT : cx.T T = some ti) {S : Nat → Option Sh} {ps : List (PV D)} {cs : Array Value} {off : Nat} (h : All2 (PRep cx S β F w) ps cs.toList) (hle : off + ti.size ≤ ps.length) :
    ∃ u, (part T cs off).run P w = .ok u w ∧ PRep cx S β F w (one ti.agg ((ps.drop off).take ti.size)) u := by
  have hk := ok.ty T ti hT
  obtain ⟨⟨d, hd, _, hag⟩, ⟨i, z, hi, his, _, _, _, hzs, hz1, _⟩, _, _⟩ := hk
  have hisAgg : (isAgg T).run P w = .ok ti.agg w := by
    simp only [isAgg, Sem.run_bind, run_underlying hd, Result.andThen_ok]
    split
    · rw [← hag]; simp
    · rw [← hag]; simp
    · rw [← hag]; simp
  have hl := h.length
  simp only [Array.length_toList] at hl
  cases hg : ti.agg with
  | true =>
    refine ⟨.agg (cs.extract off (off + ti.size)), ?_, ⟨_, rfl, (PReps_all2 ..).2 ?_⟩⟩
    · simp only [part, Sem.run_bind, hisAgg, Result.andThen_ok, hg, if_true, tySize ok hT, Sem.run_pure]
    · have : (cs.extract off (off + ti.size)).toList = (cs.toList.drop off).take ti.size := by
        rw [Array.toList_extract, List.extract_eq_take_drop]
        congr 1
        omega
      rw [this]
      exact (h.drop off).take _
  | false =>
    have h1 : ti.size = 1 := by
      rcases hz1 with hz1 | hz1
      · simp [hg] at hz1
      · rw [← hzs, hz1]; rfl
    have hlt : off < ps.length := by omega
    obtain ⟨u, hu, hr⟩ := h.get off _ (List.getElem?_eq_getElem hlt)
    refine ⟨u, ?_, ?_⟩
    · simp only [part, Sem.run_bind, hisAgg, Result.andThen_ok, hg]
      have : cs[off]? = some u := by simpa using hu
      simp [this]
    · rw [h1]
      have : (ps.drop off).take 1 = [ps[off]] := by
        rw [List.take_one]; simp [List.head?_drop, List.getElem?_eq_getElem hlt]
      rw [this]; exact hr

theorem mem_drop_take {ps : List (PV D)} {off n : Nat} {p : PV D} (h : p ∈ (ps.drop off).take n) : p ∈ ps := List.mem_of_mem_drop (List.mem_of_mem_take h)

/-! ### Addresses of fields and elements -/
theorem fieldPlace_run (_ok : CxOk cx P) {f : Nat × Nat × Bool} {g : Field} (h : FieldOk cx P f g) (ad : Addr) : (fieldPlace ad g).run P w = .ok (ad.add f.1) w := by
  obtain ⟨i, hi, his⟩ := h.size
  have : ¬ (f.2.1 = 0) := by have := h.pos; omega
  simp [fieldPlace, sizeOf, typeInfo, hi, his, this, h.off]

theorem fieldAddr_sound (ok : CxOk cx P) {T : TypeId} {f : Nat} {fs : List (Nat × Nat × Bool)} {off size : Nat} {ag : Bool} (hd : (cx.T T).map TI.desc = some (.struct fs)) (hf : fs[f]? = some (off, size, ag))
    {p : PV D} {v : Value} (hp : PRep cx (fun m => shO cx (s.o m)) β F w p v) {K : PV D → Option R} {r : R} (hK : offA p off s K = some r) (hn : ∀ n ∈ names p, s.u n = true) :
    Got cx P s β F w (Instr.fieldAt T v f) K r := by
  obtain ⟨d', hu, hdo⟩ := tyDesc ok hd
  obtain ⟨gs, rfl, hg⟩ := hdo
  obtain ⟨g, hg1, hg2⟩ := hg.get f _ hf
  have hg1' : gs[f]? = some g := by simpa using hg1
  have run : ∀ ad : Addr, v = .pointer (some ad) → (Instr.fieldAt T v f).run P w = .ok (.pointer (some (ad.add off))) w := by
    rintro ad rfl
    simp [Instr.fieldAt, run_underlying hu, hg1', Instr.sureAddr, fieldPlace_run ok hg2]
  cases p with
  | ptr o off0 =>
    simp only [offA] at hK
    cases ho : s.o o with
    | none => simp [ho] at hK
    | some ob => cases ob with
      | row t xs l => simp [ho] at hK
      | box cs =>
      simp only [ho] at hK
      simp only [PRep, ho, shO] at hp
      obtain ⟨b, o0, c, hβ, rfl⟩ := hp
      refine ⟨_, _, run _ rfl, hK, ?_, by simpa [names] using hn⟩
      simp only [PRep, ho, shO]
      exact ⟨b, o0, c, hβ, by rw [add_at, Nat.add_assoc]⟩
  | elem o i off0 =>
    simp only [offA] at hK
    simp only [PRep] at hp
    cases hS : shO cx (s.o o) with
    | none =>
      simp only [hS] at hp
      obtain ⟨ad, rfl⟩ := hp
      refine ⟨_, _, run _ rfl, hK, ?_, by simpa [names] using hn⟩
      simp only [PRep, hS]; exact ⟨_, rfl⟩
    | some sh => cases sh with
      | box => simp [hS] at hp
      | row z len =>
        simp only [hS] at hp
        obtain ⟨hi, b, o0, c, hβ, rfl⟩ := hp
        refine ⟨_, _, run _ rfl, hK, ?_, by simpa [names] using hn⟩
        simp only [PRep, hS]
        exact ⟨hi, b, o0, c, hβ, by rw [add_at]; congr 3; omega⟩
  | lelem t xs i off0 =>
    simp only [offA] at hK
    obtain ⟨hi, ad, c, hr, rfl⟩ := hp
    refine ⟨_, _, run _ rfl, hK, ⟨hi, ad, c, hr, ?_⟩, by simp [names]⟩
    rw [add_add, Nat.add_assoc]
  | _ => simp [offA] at hK

theorem elemTI_some (ok : CxOk cx P) {T : TypeId} {t : Ty} {bytes : Nat} (h : elemTI cx T = some (t, bytes)) : ∃ e te, P.underlying T = some (.slice e) ∧ cx.T e = some te ∧ te.ty = some t ∧ te.bytes = bytes := by
  unfold elemTI at h
  cases hT : cx.T T with
  | none => simp [hT] at h
  | some ti =>
    simp only [hT] at h
    obtain ⟨d', hu, hd⟩ := tyDesc' ok hT
    cases hde : ti.desc with
    | slice e =>
      simp only [hde] at h hd
      cases he : cx.T e with
      | none => simp [he] at h
      | some te =>
        simp only [he] at h
        cases hty : te.ty with
        | none => simp [hty] at h
        | some t' => simp [hty] at h; obtain ⟨rfl, rfl⟩ := h; exact ⟨e, te, by rw [hu, hd], he, hty, rfl⟩
    | _ => simp [hde] at h

theorem elemSize (ok : CxOk cx P) {e : TypeId} {te : TI D} {t : Ty} (he : cx.T e = some te) (hty : te.ty = some t) : (sizeOf e).run P w = .ok (sz cx t) w ∧ 0 < sz cx t ∧ 0 < te.bytes := by
  obtain ⟨_, ⟨i, z, hi, his, hb, _, _, _, _, h4, _⟩, _⟩ := ok.ty e te he
  obtain ⟨h1, h2, h3, _⟩ := h4 t hty
  exact ⟨by rw [tySize ok he, h1], by omega, h3⟩

theorem isRow_some (ok : CxOk cx P) {T : TypeId} {t : Ty} {k : Option R} {r : R} (h : isRow cx T t k = some r) : k = some r ∧ ∃ e te, P.underlying T = some (.slice e) ∧ cx.T e = some te ∧ te.ty = some t := by
  unfold isRow at h
  cases he : elemTI cx T with
  | none => simp [he] at h
  | some x =>
    obtain ⟨t', b⟩ := x
    simp only [he] at h
    cases hd : decide (t' = t) with
    | false => simp [hd] at h
    | true =>
      have := of_decide_eq_true hd
      subst this
      simp at h
      obtain ⟨e, te, h1, h2, h3, _⟩ := elemTI_some ok he
      exact ⟨h, e, te, h1, h2, h3⟩

theorem PRep_list {S : Nat → Option Sh} {t : Ty} {xs : List (t.den D)} {ad : Addr} {c : Nat} (h : PRep cx S β F w (.list t xs) (.slice (some ad) (xs.map (deep cx t)).length c)) :
    Rep F w (.slice (some ad) xs.length c) (.list (sz cx t) (xs.map (deep cx t))) := by
  have h' : Rep F w (.slice (some ad) (xs.map (deep cx t)).length c) (.list (sz cx t) (xs.map (deep cx t))) := h
  rwa [List.length_map] at h'

theorem pickN_some {α : Type} {i : Int} {K : Nat → Option α} {r : α} : ∀ {m j : Nat}, pickN i j m K = some r → ∃ q : Nat, i = (q : Int) ∧ K q = some r
  | 0, j, h => by simp [pickN] at h
  | m + 1, j, h => by
    unfold pickN at h
    cases hb : decide (i = (j : Int)) with
    | true => rw [hb] at h; exact ⟨j, of_decide_eq_true hb, h⟩
    | false => rw [hb] at h; exact pickN_some h

theorem indexAddr_sound (ok : CxOk cx P) {T : TypeId} {p i : PV D} {v vi : Value} {K : PV D → Option R} {r : R} (h : indexAddr cx T p i s K = some r) (hs : SRep cx N s β F a w)
    (hp : PRep cx (fun m => shO cx (s.o m)) β F w p v) (hi : PRep cx (fun m => shO cx (s.o m)) β F w i vi) (hn : ∀ n ∈ names p, s.u n = true) : Got cx P s β F w (Instr.indexAt T v vi) K r := by
  unfold indexAddr at h
  cases i with
  | int k i =>
    cases hi
    simp only at h
    have runS : ∀ (ad : Addr) (n c : Nat) (e : TypeId) (z : Nat), P.underlying T = some (.slice e) → (sizeOf e).run P w = .ok z w → 0 ≤ i → i < n → v = .slice (some ad) n c →
        (Instr.indexAt T v (.int k i)).run P w = .ok (.pointer (some (ad.add (i.toNat * z)))) w := by
      rintro ad n c e z hu hz h1 h2 rfl
      simp [Instr.indexAt, asIntOf, run_underlying hu, h1, h2, hz]
    cases p with
    | list t xs =>
      obtain ⟨h, e, te, hu, he, hty⟩ := isRow_some ok h
      obtain ⟨hb, hK⟩ := chk_some h
      obtain ⟨h1, h2⟩ := inb_iff.1 hb
      have hz := elemSize (w := w) ok he hty
      rcases Rep.list_shape hp with ⟨rfl, h0⟩ | ⟨ad, c, rfl⟩
      · simp at h0; subst h0; simp at h2; omega
      · refine ⟨_, _, runS ad _ c e _ hu hz.1 h1 (by simpa using h2) rfl, hK, ⟨by omega, ad, c, PRep_list hp, by simp⟩, by simp [names]⟩
    | own o =>
      simp only at h
      cases ho : s.o o with
      | none => simp [ho] at h
      | some ob => cases ob with
        | box cs => simp [ho] at h
        | row t xs l =>
        simp only [ho] at h
        obtain ⟨h, e, te, hu, he, hty⟩ := isRow_some ok h
        obtain ⟨hb, hK⟩ := chk_some h
        obtain ⟨h1, h2⟩ := inb_iff.1 hb
        have hz := elemSize (w := w) ok he hty
        simp only [PRep, ho, shO] at hp
        rcases hs.hp.row o t xs l ho with ⟨h3, h4⟩ | ⟨b, off, cap, c, e', fr, hβ, hR⟩
        · subst h4; simp at h2; omega
        · rw [hβ] at hp
          refine ⟨_, _, runS ⟨b, off, none⟩ xs.length cap e _ hu hz.1 h1 (by simpa using h2) hp, hK, ?_, by simpa [names] using hn⟩
          simp only [PRep, ho, shO]
          exact ⟨by omega, b, off, cap, hβ, by rw [add_at]; simp⟩
    | view o lo n =>
      simp only at h
      cases ho : s.o o with
      | none => simp [ho] at h
      | some ob => cases ob with
        | box cs =>
          simp only [ho] at h
          cases hT : cx.T T with
          | none => simp [hT] at h
          | some ti =>
          simp only [hT] at h
          obtain ⟨d', hu, hd⟩ := tyDesc' ok hT
          cases hde : ti.desc with
          | slice e =>
            simp only [hde] at h hd
            subst hd
            cases he : cx.T e with
            | none => simp [he] at h
            | some te =>
            simp only [he] at h
            obtain ⟨hb, h⟩ := chk_some h
            obtain ⟨h1, h2⟩ := inb_iff.1 hb
            obtain ⟨q, hq, hK⟩ := pickN_some h
            simp only [PRep, ho, shO] at hp
            obtain ⟨b, o0, c, cap, hβ, rfl⟩ := hp
            refine ⟨_, _, runS ⟨b, o0, none⟩ n cap e _ hu (tySize ok he) h1 h2 rfl, hK, ?_, by simpa [names] using hn⟩
            simp only [PRep, ho, shO]
            exact ⟨b, o0, c, hβ, by rw [add_at, hq]; simp⟩
          | _ => simp [hde] at h
        | row t xs l =>
        simp only [ho] at h
        obtain ⟨h, e, te, hu, he, hty⟩ := isRow_some ok h
        obtain ⟨hb, hK⟩ := chk_some h
        obtain ⟨h1, h2⟩ := inb_iff.1 hb
        have hz := elemSize (w := w) ok he hty
        simp only [PRep, ho, shO] at hp
        obtain ⟨hle, hp⟩ := hp
        rcases hs.hp.row o t xs l ho with ⟨h3, h4⟩ | ⟨b, off, cap, c, e', fr, hβ, hR⟩
        · subst h4; simp at hle; omega
        · rw [hβ] at hp
          obtain ⟨off', rfl, ho'⟩ := hp
          have hcap := hR.lecap
          refine ⟨_, _, runS _ _ _ e _ hu hz.1 h1 (by simpa using h2) rfl, hK, ?_, by simpa [names] using hn⟩
          simp only [PRep, ho, shO]
          refine ⟨by omega, b, off, cap, hβ, ?_⟩
          rw [add_at]
          rcases ho' with rfl | ⟨rfl, _⟩
          · congr 3; rw [Nat.add_mul]; omega
          · omega
    | ptr o off =>
      simp only at h
      cases hT : cx.T T with
      | none => simp [hT] at h
      | some ti =>
      simp only [hT] at h
      obtain ⟨d', hu, hd⟩ := tyDesc' ok hT
      cases hde : ti.desc with
      | arr n e =>
        simp only [hde] at h hd
        subst hd
        cases he : cx.T e with
        | none => simp [he] at h
        | some te =>
        simp only [he] at h
        have run : ∀ (ad : Addr) (z : Nat), (sizeOf e).run P w = .ok z w → 0 ≤ i → i < n → v = .pointer (some ad) → (Instr.indexAt T v (.int k i)).run P w = .ok (.pointer (some (ad.add (i.toNat * z)))) w := by
          rintro ad z hz h1 h2 rfl
          simp [Instr.indexAt, asIntOf, run_underlying hu, h1, h2, hz, Instr.sureAddr]
        cases ho : s.o o with
        | none => simp [ho] at h
        | some ob => cases ob with
          | box cs =>
            simp only [ho] at h
            obtain ⟨hb, hK⟩ := chk_some h
            obtain ⟨h1, h2⟩ := inb_iff.1 hb
            simp only [PRep, ho, shO] at hp
            obtain ⟨b, o0, c, hβ, rfl⟩ := hp
            refine ⟨_, _, run _ _ (tySize ok he) h1 h2 rfl, hK, ?_, by simpa [names] using hn⟩
            simp only [PRep, ho, shO]
            exact ⟨b, o0, c, hβ, by rw [add_at, Nat.add_assoc]⟩
          | row t xs l =>
            simp only [ho] at h
            cases hty : te.ty with
            | none => simp [hty] at h
            | some t' =>
            simp only [hty] at h
            obtain ⟨hb, hK⟩ := chk_some h
            simp only [Bool.and_eq_true, decide_eq_true_eq] at hb
            obtain ⟨⟨ht, hb1⟩, hb2⟩ := hb
            subst ht
            obtain ⟨h1, h2⟩ := inb_iff.1 hb1
            obtain ⟨_, h3⟩ := inb_iff.1 hb2
            simp only [PRep, ho, shO] at hp
            obtain ⟨b, o0, hβ, rfl⟩ := hp
            refine ⟨_, _, run _ _ (elemSize ok he hty).1 h1 h2 rfl, hK, ?_, by simpa [names] using hn⟩
            simp only [PRep, ho, shO]
            exact ⟨by omega, b, o0, _, hβ, by rw [add_at]; simp⟩
      | _ => simp [hde] at h
    | lelem t xs j off =>
      simp only at h
      cases hT : cx.T T with
      | none => simp [hT] at h
      | some ti =>
      simp only [hT] at h
      obtain ⟨d', hu, hd⟩ := tyDesc' ok hT
      cases hde : ti.desc with
      | arr n e =>
        simp only [hde] at h hd
        subst hd
        cases he : cx.T e with
        | none => simp [he] at h
        | some te =>
        simp only [he] at h
        cases hty : te.ty with
        | none => simp [hty] at h
        | some t' =>
        simp only [hty] at h
        obtain ⟨hb, hK⟩ := chk_some h
        simp only [Bool.and_eq_true, decide_eq_true_eq] at hb
        obtain ⟨⟨⟨⟨ht, hj⟩, ho⟩, hb1⟩, hb2⟩ := hb
        subst ht
        obtain rfl := Nat.eq_of_beq_eq_true hj
        obtain rfl := Nat.eq_of_beq_eq_true ho
        obtain ⟨h1, h2⟩ := inb_iff.1 hb1
        obtain ⟨_, h3⟩ := inb_iff.1 hb2
        obtain ⟨_, ad, c, hr, rfl⟩ := hp
        refine ⟨_, _, ?_, hK, ⟨by omega, ad, c, hr, rfl⟩, by simp [names]⟩
        simp [Instr.indexAt, asIntOf, run_underlying hu, h1, h2, (elemSize (w := w) ok he hty).1, Instr.sureAddr, add_add]
      | _ => simp [hde] at h
    | _ => simp at h
  | _ => simp at h

/-! ### Slices of slices -/
theorem Rep.sub {ad ad' : Addr} {n c c' z lo m : Nat} {ys : List (List IV)} (h : Rep F w (.slice (some ad) n c) (.list z ys)) (hle : lo + m ≤ n) (hc : m ≤ c') (ha : ad' = ad.add (lo * z) ∨ m = 0) :
    Rep F w (.slice (some ad') m c') (.list z ((ys.drop lo).take m)) := by
  obtain ⟨rfl, h1, hF, u, hcell, hrep⟩ := h.list_inv
  have hl : ((ys.drop lo).take m).length = m := by simp; omega
  have get : ∀ (i : Nat) l, ((ys.drop lo).take m)[i]? = some l → ys[lo + i]? = some l ∧ i < m := by
    intro i l hi
    rw [List.getElem?_take] at hi
    split at hi
    · rw [List.getElem?_drop] at hi; exact ⟨hi, by assumption⟩
    · simp at hi
  have : Rep F w (.slice (some ad') ((ys.drop lo).take m).length c') (.list z ((ys.drop lo).take m)) := by
    refine .list (fun i j => u (lo + i) j) (by omega) (fun hne => ?_) (fun i l j x hi hj => ?_) (fun i l j x hi hj => hrep _ l j x (get i l hi).1 hj)
    · have hm : m ≠ 0 := by rintro rfl; simp at hne
      rcases ha with rfl | h0
      · rw [add_block]; apply hF; rintro rfl; simp at hle; omega
      · exact absurd h0 hm
    · obtain ⟨h2, h3⟩ := get i l hi
      rcases ha with rfl | h0
      · rw [add_add, show lo * z + (i * z + j) = (lo + i) * z + j by rw [Nat.add_mul]; omega]
        exact hcell _ l j x h2 hj
      · omega
  rwa [hl] at this

/-- The bounds of a slice expression, as they come out. -/
def boundV (x : Option (PV D)) (v : Option Value) : Prop := match x, v with
  | none, none => True
  | some (.int k n), some v => v = .int k n
  | _, _ => False

theorem bounds_run {lo hi : Option (PV D)} {vlo vhi : Option Value} (h1 : boundV lo vlo) (h2 : boundV hi vhi) {n : Nat} {l h : Nat} {wh : Bool}
    (hk : sliceL (R := Nat × Nat × Bool) lo hi n (fun a b c => some (a, b, c)) = some (l, h, wh)) (isS : Bool) (cap : Nat) (hc : n ≤ cap) :
    (Instr.sliceBounds isS n cap vlo vhi none).run P w = .ok (l, h, cap) w ∧ l ≤ h ∧ h ≤ n ∧ (wh = true → l = 0 ∧ h = n) := by
  unfold sliceL at hk
  have fin : ∀ {x : PV D} {v : Value}, boundV (some x) (some v) → ∃ k m, x = .int k m ∧ v = .int k m := by
    intro x v hb
    cases x <;> simp [boundV] at hb
    exact ⟨_, _, rfl, hb⟩
  cases lo with
  | none =>
    cases vlo with
    | some v => simp [boundV] at h1
    | none =>
    cases hi with
    | none =>
      cases vhi with
      | some v => simp [boundV] at h2
      | none => simp at hk; obtain ⟨rfl, rfl, rfl⟩ := hk; simp [Instr.sliceBounds]
    | some x =>
      cases vhi with
      | none => cases x <;> simp [boundV] at h2
      | some v =>
        obtain ⟨k, m, rfl, rfl⟩ := fin h2
        simp only at hk
        obtain ⟨hb, hk⟩ := chk_some hk
        obtain ⟨h3, h4⟩ := upto_iff.1 hb
        simp at hk; obtain ⟨rfl, rfl, rfl⟩ := hk
        have h5 : m ≤ cap := by omega
        refine ⟨by simp [Instr.sliceBounds, Instr.sliceBound, asIntOf, h3, h5], by omega, by omega, by simp⟩
  | some x =>
    cases vlo with
    | none => cases x <;> simp [boundV] at h1
    | some v =>
      obtain ⟨k, m, rfl, rfl⟩ := fin h1
      cases hi with
      | none =>
        cases vhi with
        | some v => simp [boundV] at h2
        | none =>
          simp only at hk
          obtain ⟨hb, hk⟩ := chk_some hk
          obtain ⟨h3, h4⟩ := upto_iff.1 hb
          simp at hk; obtain ⟨rfl, rfl, rfl⟩ := hk
          refine ⟨by simp [Instr.sliceBounds, Instr.sliceBound, asIntOf, h3, h4], by omega, by omega, by simp⟩
      | some y =>
        cases vhi with
        | none => cases y <;> simp [boundV] at h2
        | some v =>
          obtain ⟨k', m', rfl, rfl⟩ := fin h2
          simp only at hk
          obtain ⟨hb, hk⟩ := chk_some hk
          obtain ⟨h3, h4⟩ := upto_iff.1 hb
          obtain ⟨hb2, hk⟩ := chk_some hk
          simp at hb2
          simp at hk; obtain ⟨rfl, rfl, rfl⟩ := hk
          have h5 : m' ≤ cap := by omega
          have h6 : m ≤ (m'.toNat : Int) := by omega
          refine ⟨by simp [Instr.sliceBounds, Instr.sliceBound, asIntOf, h3, h5, hb2.1]; intro hx; omega, by omega, by omega, by simp⟩

theorem sliceL_some {lo hi : Option (PV D)} {n : Nat} {K : Nat → Nat → Bool → Option R} {r : R} (h : sliceL lo hi n K = some r) : ∃ l hh wh, sliceL (R := Nat × Nat × Bool) lo hi n (fun a b c => some (a, b, c)) = some (l, hh, wh) ∧ K l hh wh = some r := by
  unfold sliceL at h ⊢
  split at h
  · exact ⟨_, _, _, rfl, h⟩
  · obtain ⟨hb, h⟩ := chk_some h; exact ⟨_, _, _, by simp only [chk, hb, cond_true], h⟩
  · obtain ⟨hb, h⟩ := chk_some h; exact ⟨_, _, _, by simp only [chk, hb, cond_true], h⟩
  · obtain ⟨hb, h⟩ := chk_some h
    obtain ⟨hb2, h⟩ := chk_some h
    exact ⟨_, _, _, by simp only [chk, hb, hb2, cond_true], h⟩
  · simp at h

theorem slice_sound (ok : CxOk cx P) {T : TypeId} {p : PV D} {v : Value} {lo hi : Option (PV D)} {vlo vhi : Option Value} {K : PV D → Option R} {r : R} (h : sliceV cx T p lo hi s K = some r) (hs : SRep cx N s β F a w)
    (hp : PRep cx (fun m => shO cx (s.o m)) β F w p v) (h1 : ∀ x k n, lo = some x → x = .int k n → vlo = some (.int k n)) (h1' : lo = none → vlo = none) (h2 : ∀ x k n, hi = some x → x = .int k n → vhi = some (.int k n)) (h2' : hi = none → vhi = none)
    (hn : ∀ n ∈ names p, s.u n = true) : Got cx P s β F w (Instr.sliceAt T v vlo vhi none) K r := by
  have bnd : ∀ {R : Type} {n : Nat} {K' : Nat → Nat → Bool → Option R} {r : R}, sliceL lo hi n K' = some r → boundV lo vlo ∧ boundV hi vhi := by
    intro R n K' r hk
    unfold sliceL at hk
    split at hk
    · simp [h1' rfl, h2' rfl, boundV]
    · simp [h1 _ _ _ rfl rfl, h2' rfl, boundV]
    · simp [h1' rfl, h2 _ _ _ rfl rfl, boundV]
    · simp [h1 _ _ _ rfl rfl, h2 _ _ _ rfl rfl, boundV]
    · simp at hk
  have runS : ∀ (ad : Option Addr) (n c l hh : Nat) (wh : Bool) (e : TypeId) (z : Nat), P.underlying T = some (.slice e) → (sizeOf e).run P w = .ok z w → n ≤ c → boundV lo vlo → boundV hi vhi →
      sliceL (R := Nat × Nat × Bool) lo hi n (fun a b c => some (a, b, c)) = some (l, hh, wh) → v = .slice ad n c →
      (Instr.sliceAt T v vlo vhi none).run P w = .ok (.slice (if c = l then ad else ad.map (·.add (l * z))) (hh - l) (c - l)) w ∧ l ≤ hh ∧ hh ≤ n ∧ (wh = true → l = 0 ∧ hh = n) := by
    rintro ad n c l hh wh e z hu hz hc hb1 hb2 hk rfl
    obtain ⟨k1, k2, k3, k4⟩ := bounds_run (P := P) (w := w) hb1 hb2 hk true c hc
    refine ⟨?_, k2, k3, k4⟩
    simp [Instr.sliceAt, Instr.slice, run_underlying hu, k1, hz]
  unfold sliceV at h
  cases p with
  | list t xs =>
    simp only at h
    obtain ⟨h, e, te, hu, he, hty⟩ := isRow_some ok h
    have hz := elemSize (w := w) ok he hty
    have hx : ∃ l hh wh ys, sliceL (R := Nat × Nat × Bool) lo hi xs.length (fun a b c => some (a, b, c)) = some (l, hh, wh) ∧ K (.list t ys) = some r ∧ ys = (xs.drop l).take (hh - l) := by
      unfold sliceL
      split at h
      · exact ⟨_, _, _, _, rfl, h, by simp⟩
      · obtain ⟨hb, h⟩ := chk_some h
        exact ⟨_, _, _, _, by simp only [chk, hb, cond_true]; rfl, h, by simp [List.take_of_length_le]⟩
      · obtain ⟨hb, h⟩ := chk_some h
        exact ⟨_, _, _, _, by simp only [chk, hb, cond_true]; rfl, h, by simp⟩
      · obtain ⟨hb, h⟩ := chk_some h
        obtain ⟨hb2, h⟩ := chk_some h
        exact ⟨_, _, _, _, by simp only [chk, hb, hb2, cond_true]; rfl, h, by rw [List.drop_take]⟩
      · simp at h
    obtain ⟨l, hh, wh, ys, hk, hK, rfl⟩ := hx
    obtain ⟨hb1, hb2⟩ := bnd hk
    rcases Rep.list_shape hp with ⟨rfl, h0⟩ | ⟨ad, c, rfl⟩
    · simp at h0; subst h0
      obtain ⟨k1, k2, k3, k4⟩ := runS none 0 0 l hh wh e _ hu hz.1 (Nat.le_refl _) hb1 hb2 (by simpa using hk) rfl
      refine ⟨_, _, k1, hK, ?_, by simp [names]⟩
      have : l = 0 := by omega
      have : hh = 0 := by omega
      subst l hh
      exact .nil
    · have hp' : Rep F w (.slice (some ad) xs.length c) (.list (sz cx t) (xs.map (deep cx t))) := PRep_list hp
      obtain ⟨_, hc, _⟩ := hp'.list_inv
      obtain ⟨k1, k2, k3, k4⟩ := runS (some ad) xs.length c l hh wh e _ hu hz.1 hc hb1 hb2 hk (by simp)
      refine ⟨_, _, k1, hK, ?_, by simp [names]⟩
      simp only [PRep, List.map_take, List.map_drop]
      by_cases hcl : c = l
      · rw [if_pos hcl]
        exact hp'.sub (by omega) (by omega) (.inr (by omega))
      · rw [if_neg hcl]
        exact hp'.sub (by omega) (by omega) (.inl rfl)
  | nil =>
    simp only at h
    cases he : elemTI cx T with
    | none => simp [he] at h
    | some x =>
    obtain ⟨t, bytes⟩ := x
    simp only [he] at h
    obtain ⟨e, te, hu, hte, hty, _⟩ := elemTI_some ok he
    have hz := elemSize (w := w) ok hte hty
    obtain ⟨l, hh, wh, hk, hK⟩ := sliceL_some h
    obtain ⟨hb1, hb2⟩ := bnd hk
    obtain ⟨k1, k2, k3, k4⟩ := runS none 0 0 l hh wh e _ hu hz.1 (Nat.le_refl _) hb1 hb2 hk hp
    refine ⟨_, _, k1, hK, ?_, by simp [names]⟩
    have : l = 0 := by omega
    have : hh = 0 := by omega
    subst l hh
    rfl
  | str b =>
    simp only at h
    cases hT : cx.T T with
    | none => simp [hT] at h
    | some ti =>
    obtain ⟨d', hu, hd⟩ := tyDesc' ok hT
    simp only [hT, Option.map_some] at h
    split at h
    · rename_i hde
      simp at hde
      rw [hde] at hd
      have hd : d' = .string := hd
      subst hd
      obtain ⟨l, hh, wh, hk, hK⟩ := sliceL_some h
      obtain ⟨hb1, hb2⟩ := bnd hk
      obtain ⟨k1, k2, k3, k4⟩ := bounds_run (P := P) (w := w) hb1 hb2 hk false b.size (Nat.le_refl _)
      cases hp
      exact ⟨_, _, by simp [Instr.sliceAt, Instr.slice, run_underlying hu, k1], hK, rfl, by simp [names]⟩
    · simp at h
  | own o =>
    simp only at h
    cases ho : s.o o with
    | none => simp [ho] at h
    | some ob => cases ob with
      | box cs => simp [ho] at h
      | row t xs lv =>
      simp only [ho] at h
      obtain ⟨h, e, te, hu, he, hty⟩ := isRow_some ok h
      have hz := elemSize (w := w) ok he hty
      obtain ⟨l, hh, wh, hk, hK⟩ := sliceL_some h
      obtain ⟨hb1, hb2⟩ := bnd hk
      simp only [PRep, ho, shO] at hp
      rcases hs.hp.row o t xs lv ho with ⟨h3, h4⟩ | ⟨b, off, cap, c, e', fr, hβ, hR⟩
      · subst h4
        rw [h3] at hp
        obtain ⟨ad0, hp⟩ := hp
        obtain ⟨k1, k2, k3, k4⟩ := runS ad0 0 0 l hh wh e _ hu hz.1 (Nat.le_refl _) hb1 hb2 hk hp
        have hl0 : l = 0 := by simp at k3; omega
        have hh0 : hh = 0 := by simpa using k3
        subst hl0 hh0
        cases wh with
        | true => exact ⟨_, _, k1, hK, by simp [PRep, ho, shO, h3, rowV], by simpa [names] using hn⟩
        | false => exact ⟨_, _, k1, hK, by simp [PRep, ho, shO, h3], by simpa [names] using hn⟩
      · rw [hβ] at hp
        have hcap := hR.lecap
        obtain ⟨k1, k2, k3, k4⟩ := runS (some ⟨b, off, none⟩) xs.length cap l hh wh e _ hu hz.1 hcap hb1 hb2 hk hp
        cases wh with
        | true =>
          obtain ⟨rfl, rfl⟩ := k4 rfl
          refine ⟨_, _, k1, hK, ?_, by simpa [names] using hn⟩
          simp only [PRep, ho, shO, hβ, rowV]
          split <;> simp [Addr.add]
        | false =>
          refine ⟨_, _, k1, hK, ?_, by simpa [names] using hn⟩
          simp only [PRep, ho, shO, hβ]
          refine ⟨by omega, ?_⟩
          by_cases hcl : cap = l
          · exact ⟨off, by simp [hcl], .inr ⟨hcl.symm, by omega⟩⟩
          · exact ⟨off + l * sz cx t, by simp [hcl, add_at], .inl rfl⟩
  | view o lo' n =>
    simp only at h
    cases ho : s.o o with
    | none => simp [ho] at h
    | some ob => cases ob with
      | box cs => simp [ho] at h
      | row t xs lv =>
      simp only [ho] at h
      obtain ⟨h, e, te, hu, he, hty⟩ := isRow_some ok h
      have hz := elemSize (w := w) ok he hty
      obtain ⟨l, hh, wh, hk, hK⟩ := sliceL_some h
      obtain ⟨hb1, hb2⟩ := bnd hk
      simp only [PRep, ho, shO] at hp
      obtain ⟨hle, hp⟩ := hp
      rcases hs.hp.row o t xs lv ho with ⟨h3, h4⟩ | ⟨b, off, cap, c, e', fr, hβ, hR⟩
      · subst h4
        rw [h3] at hp
        simp at hle
        obtain ⟨rfl, rfl⟩ := hle
        obtain ⟨ad0, hp⟩ := hp
        obtain ⟨k1, k2, k3, k4⟩ := runS ad0 0 0 l hh wh e _ hu hz.1 (Nat.le_refl _) hb1 hb2 hk hp
        have hl0 : l = 0 := by omega
        have hh0 : hh = 0 := by omega
        subst hl0 hh0
        exact ⟨_, _, k1, hK, by simp [PRep, ho, shO, h3], by simpa [names] using hn⟩
      · rw [hβ] at hp
        obtain ⟨off', rfl, ho'⟩ := hp
        have hcap := hR.lecap
        obtain ⟨k1, k2, k3, k4⟩ := runS (some ⟨b, off', none⟩) n (cap - lo') l hh wh e _ hu hz.1 (by omega) hb1 hb2 hk rfl
        refine ⟨_, _, k1, hK, ?_, by simpa [names] using hn⟩
        simp only [PRep, ho, shO, hβ]
        refine ⟨by omega, ?_⟩
        by_cases hcl : cap - lo' = l
        · refine ⟨off', by simp [hcl]; omega, .inr ⟨by omega, ?_⟩⟩
          rw [Nat.add_mul]
          rcases ho' with rfl | ⟨_, h9⟩ <;> omega
        · rcases ho' with rfl | ⟨rfl, _⟩
          · exact ⟨off + lo' * sz cx t + l * sz cx t, by simp [hcl, add_at]; omega, .inl (by rw [Nat.add_mul]; omega)⟩
          · omega
  | ptr o off =>
    simp only at h
    cases hT : cx.T T with
    | none => simp [hT] at h
    | some ti =>
    simp only [hT] at h
    obtain ⟨d', hu, hd⟩ := tyDesc' ok hT
    cases hde : ti.desc with
    | arr n e =>
      simp only [hde] at h hd
      subst hd
      cases he : cx.T e with
      | none => simp [he] at h
      | some te =>
      simp only [he] at h
      cases ho : s.o o with
      | none => simp [ho] at h
      | some ob => cases ob with
        | box cs => simp [ho] at h
        | row t xs lv =>
        simp only [ho] at h
        cases hty : te.ty with
        | none => simp [hty] at h
        | some t' =>
        simp only [hty] at h
        obtain ⟨hb, h9⟩ := chk_some h
        clear h
        simp only [Bool.and_eq_true, decide_eq_true_eq, Nat.beq_eq] at hb
        obtain ⟨rfl, hnx⟩ := hb
        have hnx : n = xs.length := by simpa using hnx
        obtain ⟨l, hh, wh, hk, hK⟩ := sliceL_some h9
        obtain ⟨hb1, hb2⟩ := bnd hk
        simp only [PRep, ho, shO] at hp
        obtain ⟨b, o0, hβ, rfl⟩ := hp
        have hz := (elemSize (w := w) ok he hty).1
        obtain ⟨k1, k2, k3, k4⟩ := bounds_run (P := P) (w := w) hb1 hb2 hk false n (Nat.le_refl _)
        have run : (Instr.sliceAt T (.pointer (some ⟨b, o0, none⟩)) vlo vhi none).run P w = .ok (.slice (some (if n = l then ⟨b, o0, none⟩ else (⟨b, o0, none⟩ : Addr).add (l * sz cx t'))) (hh - l) (n - l)) w := by
          simp [Instr.sliceAt, run_underlying hu, Instr.sureAddr, k1, hz]
        cases wh with
        | true =>
          obtain ⟨rfl, rfl⟩ := k4 rfl
          refine ⟨_, _, run, hK, ?_, by simpa [names] using hn⟩
          simp only [PRep, ho, shO, hβ, rowV]
          split <;> simp [Addr.add, hnx]
        | false =>
          refine ⟨_, _, run, hK, ?_, by simpa [names] using hn⟩
          simp only [PRep, ho, shO, hβ]
          refine ⟨by omega, ?_⟩
          by_cases hcl : n = l
          · exact ⟨o0, by simp [hcl]; omega, .inr ⟨by omega, by omega⟩⟩
          · exact ⟨o0 + l * sz cx t', by simp [hcl, add_at]; omega, .inl rfl⟩
    | _ => simp [hde] at h
  | _ => simp at h

end Go.Am

/-! Numbers, lengths, parts. -/
namespace Go.Am
variable {D : Nat → Type} {R : Type} {cx : Cx D} {N : Nat} {s : St D} {β : Beta} {F : Nat → Prop} {a : Act} {w w' : World} {P : Program}

theorem binInt_sound {op : BinOp} {k : IntKind} {m n : Int} {T : TypeId} {K : PV D → Option R} {r : R} (h : binInt op k m n K = some r) (hsh : op ≠ .shl ∧ op ≠ .shr) : Got cx P s β F w (binOp op T (.int k m) (.int k n)) K r := by
  cases op <;> simp only [binInt] at h
  case quo =>
    cases hd : decide (n = 0) with
    | true => simp [hd] at h
    | false => simp only [hd, cond_false] at h; have := of_decide_eq_false hd; exact .plain (by simp [binOp, Op.intDiv, this]) h rfl rfl
  case rem =>
    cases hd : decide (n = 0) with
    | true => simp [hd] at h
    | false => simp only [hd, cond_false] at h; have := of_decide_eq_false hd; exact .plain (by simp [binOp, Op.intDiv, this]) h rfl rfl
  case shl => exact absurd rfl hsh.1
  case shr => exact absurd rfl hsh.2
  all_goals exact .plain (by simp [binOp, Op.intArith, Op.intBits, Op.intCmp, andI, orI, xorI, andNotI]) h rfl rfl

theorem guard_ok (op : BinOp) (T : TypeId) (x y : Operand) {v u : Value} (h1 : ¬ (v = .nilIface ∧ u = .nilIface)) (h2 : ∀ cs ds, ¬ (v = .agg cs ∧ u = .agg ds)) : (eqGuard op T x y v u).run P w = .ok () w := by
  unfold eqGuard
  cases op <;> simp <;> (cases v <;> cases u <;> simp_all)

theorem equal_eq (T : TypeId) (x y : Value) : Op.equal T x y = Op.equalIn (9999 + 1) T x y := rfl
theorem equalIn_bool {T : TypeId} (d : Nat) (hu : P.underlying T = some .bool) (m n : Bool) : (Op.equalIn (d + 1) T (.bool m) (.bool n)).run P w = .ok (m == n) w := by
  simp [Op.equalIn, run_underlying hu]
theorem equalIn_nil1 {T : TypeId} {ms : Array (String × TypeId)} (d : Nat) (hu : P.underlying T = some (.interface ms)) (t : TypeId) (z : Value) : (Op.equalIn (d + 1) T .nilIface (.iface t z)).run P w = .ok false w := by
  simp [Op.equalIn, run_underlying hu]
theorem equalIn_nil2 {T : TypeId} {ms : Array (String × TypeId)} (d : Nat) (hu : P.underlying T = some (.interface ms)) (t : TypeId) (z : Value) : (Op.equalIn (d + 1) T (.iface t z) .nilIface).run P w = .ok false w := by
  simp [Op.equalIn, run_underlying hu]
theorem binEq {T : TypeId} {x y : Value} {b : Bool} (h1 : binOp .eql T x y = do Pure.pure (.bool (← Op.equal T x y))) (h : (Op.equalIn (9999 + 1) T x y).run P w = .ok b w) : (binOp .eql T x y).run P w = .ok (.bool b) w := by
  rw [h1, equal_eq, Sem.run_bind, h]; rfl
theorem binNe {T : TypeId} {x y : Value} {b : Bool} (h1 : binOp .neq T x y = do Pure.pure (.bool (!(← Op.equal T x y)))) (h : (Op.equalIn (9999 + 1) T x y).run P w = .ok b w) : (binOp .neq T x y).run P w = .ok (.bool !b) w := by
  rw [h1, equal_eq, Sem.run_bind, h]; rfl

theorem nilEq_sound {op : BinOp} {T : TypeId} {b : Bool} {v u : Value} {K : PV D → Option R} {r : R} (h : nilEq op b K = some r)
    (he : ∀ d, (Op.equalIn (d + 1) T v u).run P w = .ok b w) (h1 : binOp .eql T v u = do Pure.pure (.bool (← Op.equal T v u))) (h2 : binOp .neq T v u = do Pure.pure (.bool (!(← Op.equal T v u)))) : Got cx P s β F w (binOp op T v u) K r := by
  cases op <;> simp only [nilEq] at h <;> first | exact .plain (binEq h1 (he _)) h rfl rfl | exact .plain (binNe h2 (he _)) h rfl rfl | simp at h
theorem ptr_some {S : Nat → Option Sh} {o off : Nat} {v : Value} (h : PRep cx S β F w (.ptr o off) v) : ∃ a, v = .pointer (some a) := by
  simp only [PRep] at h
  split at h
  · obtain ⟨b, o0, c, _, h⟩ := h; exact ⟨_, h⟩
  · obtain ⟨b, o0, _, h⟩ := h; exact ⟨_, h⟩
  · exact h

theorem bin_sound (ok : CxOk cx P) {op : BinOp} {T : TypeId} {x y : Operand} {p q : PV D} {v u : Value} {K : PV D → Option R} {r : R} (h : bin cx op T p q K = some r)
    (hp : PRep cx (fun m => shO cx (s.o m)) β F w p v) (hq : PRep cx (fun m => shO cx (s.o m)) β F w q u) :
    Got cx P s β F w (do eqGuard op T x y v u; binOp op T v u) K r := by
  have guard : (eqGuard op T x y v u).run P w = .ok () w → Got cx P s β F w (binOp op T v u) K r → Got cx P s β F w (do eqGuard op T x y v u; binOp op T v u) K r := by
    rintro hg ⟨z, q', h1, h2⟩
    exact ⟨z, q', by simp [hg, h1], h2⟩
  unfold bin at h
  split at h
  · rename_i k m k' n
    cases hp; cases hq
    refine guard (guard_ok _ _ _ _ (by simp) (by simp)) ?_
    split at h
    · cases hd : decide (n < 0) with
      | true => simp [hd] at h
      | false => simp only [hd, cond_false] at h; have := of_decide_eq_false hd; exact .plain (by simp [binOp, Op.shift, this, shlI]) h rfl rfl
    · cases hd : decide (n < 0) with
      | true => simp [hd] at h
      | false => simp only [hd, cond_false] at h; have := of_decide_eq_false hd; exact .plain (by simp [binOp, Op.shift, this, shrI]) h rfl rfl
    · rename_i h1 h2
      cases hd : decide (k = k') with
      | false => simp [hd] at h
      | true =>
        have := of_decide_eq_true hd; subst this
        simp only [decide_true, cond_true] at h
        exact binInt_sound h ⟨h1, h2⟩
  · cases hp; cases hq
    refine guard (guard_ok _ _ _ _ (by simp) (by simp)) ?_
    split at h
    · rename_i hT
      obtain ⟨d', hu, hd⟩ := tyDesc ok hT
      simp only [DescOk] at hd; subst hd
      exact .plain (binEq rfl (equalIn_bool _ hu _ _)) h rfl rfl
    · rename_i hT
      obtain ⟨d', hu, hd⟩ := tyDesc ok hT
      simp only [DescOk] at hd; subst hd
      exact .plain (binNe rfl (equalIn_bool _ hu _ _)) h rfl rfl
    · simp at h
  · cases hp; cases hq
    refine guard (guard_ok _ _ _ _ (by simp) (by simp)) ?_
    split at h
    · exact .plain (by simp [binOp, Op.stringOp]) h rfl rfl
    · exact .plain (by simp [binOp, Op.stringOp]) h rfl rfl
    · simp at h
  · rename_i cs ds
    obtain ⟨xs, rfl, hp⟩ := hp
    obtain ⟨ys, rfl, hq⟩ := hq
    cases hT : cx.T T with
    | none => simp [hT] at h
    | some ti =>
      simp only [hT] at h
      cases he0 : (ti.eqs && likeZ ti.zero cs) with
      | false => rw [he0] at h; simp at h
      | true =>
        rw [he0] at h
        simp only [cond_true] at h
        simp only [Bool.and_eq_true] at he0
        obtain ⟨he, hlz⟩ := he0
        have hTy := (ok.ty T ti hT).eqs he
        split at h
        · rename_i b hb
          obtain ⟨h1, h2⟩ := hTy .eql x y xs ys w cs ds b _ β F hlz hb hp hq
          exact ⟨.bool b, .bool b, by rw [Sem.run_bind, h1]; exact binEq rfl h2, h, rfl, by simp [names]⟩
        · rename_i b hb
          obtain ⟨h1, h2⟩ := hTy .neq x y xs ys w cs ds b _ β F hlz hb hp hq
          exact ⟨.bool !b, .bool !b, by rw [Sem.run_bind, h1]; exact binNe rfl h2, h, rfl, by simp [names]⟩
        · simp at h
  · cases hp
    obtain ⟨z, rfl, _⟩ := hq
    refine guard (guard_ok _ _ _ _ (by simp) (by simp)) ?_
    split at h
    · rename_i hT
      obtain ⟨d', hu, hd⟩ := tyDesc ok hT
      obtain ⟨ms, rfl⟩ := hd
      exact .plain (binEq rfl (equalIn_nil1 _ hu _ _)) h rfl rfl
    · rename_i hT
      obtain ⟨d', hu, hd⟩ := tyDesc ok hT
      obtain ⟨ms, rfl⟩ := hd
      exact .plain (binNe rfl (equalIn_nil1 _ hu _ _)) h rfl rfl
    · simp at h
  · cases hq
    obtain ⟨z, rfl, _⟩ := hp
    refine guard (guard_ok _ _ _ _ (by simp) (by simp)) ?_
    split at h
    · rename_i hT
      obtain ⟨d', hu, hd⟩ := tyDesc ok hT
      obtain ⟨ms, rfl⟩ := hd
      exact .plain (binEq rfl (equalIn_nil2 _ hu _ _)) h rfl rfl
    · rename_i hT
      obtain ⟨d', hu, hd⟩ := tyDesc ok hT
      obtain ⟨ms, rfl⟩ := hd
      exact .plain (binNe rfl (equalIn_nil2 _ hu _ _)) h rfl rfl
    · simp at h
  · cases hq; obtain ⟨⟨ad, n, c, rfl⟩, _⟩ := hp
    refine guard (guard_ok _ _ _ _ (by simp) (by simp)) ?_
    split at h
    · rename_i hT
      obtain ⟨d', hu, hd⟩ := tyDesc ok hT
      simp only [DescOk] at hd; subst hd
      exact nilEq_sound h (fun d => by simp [Op.equalIn, run_underlying hu]) rfl rfl
    · simp at h
  · cases hq; obtain ⟨hb, hrep⟩ := hp
    split at h
    · rename_i t0 xs0 b0 q0 e0 hT
      obtain ⟨hchk, h⟩ := chk_some h
      cases b0 with
      | true =>
        have hb := hb rfl
        subst hb
        refine guard (guard_ok _ _ _ _ (by simp) (by simp)) ?_
        obtain ⟨d', hu, hd⟩ := tyDesc ok hT
        simp only [DescOk] at hd; subst hd
        exact nilEq_sound h (fun d => by simp [Op.equalIn, run_underlying hu]) rfl rfl
      | false =>
        obtain ⟨ad, n, c, rfl⟩ : ∃ a n c, v = .slice (some a) n c := by
          generalize hm : xs0.map (deep cx t0) = ms at hrep
          cases hrep with
          | nil => simp at hm; subst hm; simp at hchk
          | list => exact ⟨_, _, _, rfl⟩
        refine guard (guard_ok _ _ _ _ (by simp) (by simp)) ?_
        obtain ⟨d', hu, hd⟩ := tyDesc ok hT
        simp only [DescOk] at hd; subst hd
        exact nilEq_sound h (fun d => by simp [Op.equalIn, run_underlying hu]) rfl rfl
    · simp at h
  · cases hq; cases hp
    refine guard (guard_ok _ _ _ _ (by simp) (by simp)) ?_
    split at h
    · rename_i hT
      obtain ⟨d', hu, hd⟩ := tyDesc ok hT
      simp only [DescOk] at hd; subst hd
      exact nilEq_sound h (fun d => by simp [Op.equalIn, run_underlying hu]) rfl rfl
    · simp at h
  · cases hq; obtain ⟨ad, rfl⟩ := ptr_some hp
    refine guard (guard_ok _ _ _ _ (by simp) (by simp)) ?_
    split at h
    · rename_i hT
      obtain ⟨d', hu, hd⟩ := tyDesc ok hT
      simp only [DescOk] at hd; subst hd
      exact nilEq_sound h (fun d => by simp [Op.equalIn, run_underlying hu]) rfl rfl
    · simp at h
  · cases hq; cases hp
    refine guard (guard_ok _ _ _ _ (by simp) (by simp)) ?_
    split at h
    · rename_i hT
      obtain ⟨d', hu, hd⟩ := tyDesc ok hT
      simp only [DescOk] at hd; subst hd
      exact nilEq_sound h (fun d => by simp [Op.equalIn, run_underlying hu]) rfl rfl
    · simp at h
  · simp at h

/-- How long a slice is, as it stands. -/
theorem binX_sound (ok : CxOk cx P) {op : BinOp} {T : TypeId} {x y : Operand} {p q : PV D} {v u : Value} {K : PV D → Option R} {r : R} (h : binX cx op T x y p q K = some r)
    (hp : PRep cx (fun m => shO cx (s.o m)) β F w p v) (hq : PRep cx (fun m => shO cx (s.o m)) β F w q u) :
    Got cx P s β F w (do eqGuard op T x y v u; binOp op T v u) K r := by
  unfold binX at h
  split at h
  · cases hp; cases hq
    obtain ⟨hc, h⟩ := chk_some h
    split at h
    · rename_i hT
      obtain ⟨d', hu, hd⟩ := tyDesc ok hT
      obtain ⟨ms, rfl⟩ := hd
      have hg : (eqGuard op T x y .nilIface .nilIface).run P w = .ok () w := by
        unfold eqGuard
        cases op <;> simp <;> (cases x <;> cases y <;> simp_all [isC])
      obtain ⟨z, q', h1, h2⟩ := nilEq_sound (cx := cx) (s := s) (β := β) (F := F) (P := P) (w := w) (op := op) (T := T) (v := .nilIface) (u := .nilIface) h (fun d => by simp [Op.equalIn, run_underlying hu]) rfl rfl
      exact ⟨z, q', by simp [hg, h1], h2⟩
    · simp at h
  · exact bin_sound ok h hp hq

theorem len_of (hs : SRep cx N s β F a w) {p : PV D} {v : Value} {K : PV D → Option R} {r : R} (h : lenV p s K = some r) (hp : PRep cx (fun m => shO cx (s.o m)) β F w p v) (hstr : ∀ b, p ≠ .str b) :
    ∃ ad n c, v = .slice ad n c ∧ K (.int .i64 n) = some r := by
  unfold lenV at h
  split at h
  · rename_i t xs
    rcases Rep.list_shape hp with ⟨rfl, h0⟩ | ⟨ad, c, rfl⟩
    · simp at h0; subst h0; exact ⟨_, _, _, rfl, h⟩
    · exact ⟨_, _, _, rfl, by simpa using h⟩
  · cases hp; exact ⟨_, _, _, rfl, h⟩
  · rename_i o
    split at h
    · rename_i t xs l ho
      simp only [PRep, ho, shO] at hp
      rcases hs.hp.row o t xs l ho with ⟨h3, h4⟩ | ⟨b, off, cap, c, e', fr, hβ, hR⟩
      · subst h4; rw [h3] at hp; obtain ⟨a, rfl⟩ := hp; exact ⟨_, _, _, rfl, h⟩
      · rw [hβ] at hp; exact ⟨_, _, _, hp, h⟩
    · simp at h
  · rename_i o lo n
    split at h
    · rename_i ob ho
      cases ob with
      | box cs =>
        simp only [PRep, ho, shO] at hp
        obtain ⟨_, _, _, _, _, hp⟩ := hp
        exact ⟨_, _, _, hp, h⟩
      | row t xs l =>
      simp only [PRep, ho, shO] at hp
      obtain ⟨hle, hp⟩ := hp
      rcases hs.hp.row o t xs l ho with ⟨h3, h4⟩ | ⟨b, off, cap, c, e', fr, hβ, hR⟩
      · subst h4; rw [h3] at hp; simp at hle; obtain ⟨rfl, rfl⟩ := hle; obtain ⟨a, hp⟩ := hp; exact ⟨_, _, _, hp, h⟩
      · rw [hβ] at hp; obtain ⟨off', rfl, _⟩ := hp; exact ⟨_, _, _, rfl, h⟩
    · simp at h
  · exact absurd rfl (hstr _)
  · simp at h

theorem nilCheck_ptr {v : Value} {x : Operand} {o : Oper} (ho : o.op = .nilCheck x) (hv : a.eval x = v) (h : (∃ ad, v = .pointer (some ad)) ∨ ∃ f cs, v = .func (.func f) #[] cs) : (execOp a.eval o).run P w = .ok (.value v) w := by
  obtain ⟨dst, op, ty, pos, af, g⟩ := o
  simp only at ho
  subst ho
  rcases h with ⟨ad, rfl⟩ | ⟨f, cs, rfl⟩ <;> simp [execOp, hv]

theorem ptr_shape {S : Nat → Option Sh} {v : Value} {o off : Nat} (h : PRep cx S β F w (.ptr o off) v) : ∃ ad, v = .pointer (some ad) := by
  simp only [PRep] at h
  split at h
  · obtain ⟨b, o0, c, _, rfl⟩ := h; exact ⟨_, rfl⟩
  · obtain ⟨b, o0, _, rfl⟩ := h; exact ⟨_, rfl⟩
  · exact h
theorem elem_shape {S : Nat → Option Sh} {v : Value} {o i off : Nat} (h : PRep cx S β F w (.elem o i off) v) : ∃ ad, v = .pointer (some ad) := by
  simp only [PRep] at h
  split at h
  · obtain ⟨_, b, o0, c, _, rfl⟩ := h; exact ⟨_, rfl⟩
  · exact h.elim
  · exact h

theorem field_sound (ok : CxOk cx P) {T : TypeId} {f : Nat} {fs : List (Nat × Nat × Bool)} {off size : Nat} {ag : Bool} (hd : (cx.T T).map TI.desc = some (.struct fs)) (hf : fs[f]? = some (off, size, ag))
    {cs : List (PV D)} {v : Value} (hp : PRep cx (fun m => shO cx (s.o m)) β F w (.agg cs) v) {K : PV D → Option R} {r : R} (hle : off + size ≤ cs.length) (hK : K (one ag ((cs.drop off).take size)) = some r) (hn : ∀ n ∈ names (PV.agg cs), s.u n = true) :
    Got cx P s β F w (Instr.field T v f) K r := by
  obtain ⟨d', hu, hdo⟩ := tyDesc ok hd
  obtain ⟨gs, rfl, hg⟩ := hdo
  obtain ⟨g, hg1, hg2⟩ := hg.get f _ hf
  have hg1' : gs[f]? = some g := by simpa using hg1
  obtain ⟨xs, rfl, hp⟩ := hp
  have hp := (PReps_all2 ..).1 hp
  have hl := hp.length
  simp only [Array.length_toList] at hl
  obtain ⟨i, hi, his⟩ := hg2.size
  obtain ⟨d, hud, hag⟩ := hg2.agg
  simp only at his hag
  have hisAgg : (isAgg g.type).run P w = .ok ag w := by
    simp only [isAgg, Sem.run_bind, run_underlying hud, Result.andThen_ok]
    split
    · rw [← hag]; simp
    · rw [← hag]; simp
    · rw [← hag]; simp
  have hsz : (sizeOf g.type).run P w = .ok size w := by simp [sizeOf, typeInfo, hi, his]
  have hrun : (Instr.field T (.agg xs) f).run P w = (part g.type xs off).run P w := by
    have := hg2.off
    simp only at this
    simp [Instr.field, run_underlying hu, hg1', asAgg, this]
  have hnames : ∀ n ∈ names (one ag ((cs.drop off).take size)), s.u n = true := fun n hn' => hn n (names_go_sub (fun p hp => mem_drop_take hp) (names_one hn'))
  cases ag with
  | true =>
    refine ⟨.agg (xs.extract off (off + size)), _, ?_, hK, ⟨_, rfl, (PReps_all2 ..).2 ?_⟩, hnames⟩
    · rw [hrun]; simp only [part, Sem.run_bind, hisAgg, Result.andThen_ok, if_true, hsz, Sem.run_pure]
    · have : (xs.extract off (off + size)).toList = (xs.toList.drop off).take size := by
        rw [Array.toList_extract, List.extract_eq_take_drop]
        congr 1
        omega
      rw [this]
      exact (hp.drop off).take _
  | false =>
    have hpos := hg2.pos
    simp only at hpos
    have hlt : off < cs.length := by omega
    obtain ⟨u, hu', hr⟩ := hp.get off _ (List.getElem?_eq_getElem hlt)
    refine ⟨u, _, ?_, hK, ?_, hnames⟩
    · rw [hrun]
      simp only [part, Sem.run_bind, hisAgg, Result.andThen_ok]
      have : xs[off]? = some u := by simpa using hu'
      simp [this]
    · have : one false ((cs.drop off).take size) = cs[off] := by
        simp only [one, cond_false]
        rw [List.headD_eq_head?_getD, List.head?_take]
        simp [List.head?_drop, List.getElem?_eq_getElem hlt, show size ≠ 0 by omega]
      rw [this]; exact hr

theorem index_arr_sound (ok : CxOk cx P) {T e : TypeId} {te : TI D} {n : Nat} {t : Ty} {xs : List (t.den D)} {k : IntKind} {i : Int} {v : Value} (hd : (cx.T T).map TI.desc = some (.arr n e)) (he : cx.T e = some te)
    (hp : PRep cx (fun m => shO cx (s.o m)) β F w (.arr t xs) v) (h0 : 0 ≤ i) (h1 : i < n) (h2 : i < xs.length) (hsz : te.size = (encC cx t (xs.getD i.toNat (t.zero cx))).length) {K : PV D → Option R} {r : R}
    (hK : K (one te.agg ((encC cx t (xs.getD i.toNat (t.zero cx))).take te.size)) = some r) : Got cx P s β F w (Instr.index T v (.int k i)) K r := by
  obtain ⟨d', hu, hdo⟩ := tyDesc ok hd
  simp only [DescOk] at hdo; subst hdo
  obtain ⟨cs, rfl, hp⟩ := hp
  have hlen : ∀ x : t.den D, (encC cx t x).length = sz cx t := fun x => by rw [(encC_ok ok t x).length, deep_len ok]
  -- the element's own cells
  have cut : ∀ (ys : List (t.den D)) (vs : List Value) (m : Nat) x, All2 (Rep F w) vs (ys.flatMap (deep cx t)) → ys[m]? = some x → All2 (Rep F w) ((vs.drop (m * sz cx t)).take (sz cx t)) (deep cx t x) ∧ m * sz cx t + sz cx t ≤ vs.length := by
    intro ys
    induction ys with
    | nil => intro vs m x _ h; simp at h
    | cons y ys ih =>
      intro vs m x h hm
      have hl := h.length
      simp only [List.flatMap_cons, List.length_append, deep_len ok] at hl
      cases m with
      | zero =>
        simp at hm; subst hm
        have := (h.take (sz cx t))
        simp only [List.flatMap_cons] at this
        rw [List.take_append_of_le_length (by rw [deep_len ok]; omega), List.take_of_length_le (l := deep cx t y) (by rw [deep_len ok]; omega)] at this
        exact ⟨by simpa using this, by omega⟩
      | succ m =>
        simp at hm
        have h3 := h.drop (sz cx t)
        simp only [List.flatMap_cons] at h3
        rw [List.drop_append_of_le_length (by rw [deep_len ok]; omega), List.drop_of_length_le (l := deep cx t y) (by rw [deep_len ok]; omega), List.nil_append] at h3
        obtain ⟨k1, k2⟩ := ih _ m x h3 hm
        rw [List.drop_drop] at k1
        simp at k2
        exact ⟨by rw [Nat.add_mul, Nat.one_mul, Nat.add_comm]; exact k1, by rw [Nat.add_mul]; omega⟩
  have hx : xs[i.toNat]? = some (xs.getD i.toNat (t.zero cx)) := getD_some (by omega)
  obtain ⟨k1, k2⟩ := cut xs cs.toList i.toNat _ hp hx
  have hR : All2 (PRep cx (fun m => shO cx (s.o m)) β F w) (encC cx t (xs.getD i.toNat (t.zero cx))) ((cs.toList.drop (i.toNat * sz cx t)).take (sz cx t)) :=
    All2.comp (R := fun b a => CS cx a b) (S := fun b v => Rep F w v b) (fun b p v h1 h2 => PRep_of_Rep h1 h2) (encC_ok ok t _).flip k1.flip
  rw [hlen] at hsz
  have hk := ok.ty e te he
  obtain ⟨⟨d, hud, _, hag⟩, ⟨ii, z, hi, his, _, _, _, hzs, hz1, _⟩, _⟩ := hk
  have hisAgg : (isAgg e).run P w = .ok te.agg w := by
    simp only [isAgg, Sem.run_bind, run_underlying hud, Result.andThen_ok]
    split
    · rw [← hag]; simp
    · rw [← hag]; simp
    · rw [← hag]; simp
  have hrun : (Instr.index T (.agg cs) (.int k i)).run P w = (part e cs (i.toNat * te.size)).run P w := by
    simp [Instr.index, asIntOf, run_underlying hu, h0, h1, tySize ok he]
  have hnn : ∀ n ∈ names (one te.agg ((encC cx t (xs.getD i.toNat (t.zero cx))).take te.size)), s.u n = true := by
    intro n hn
    have := names_go_sub (cs := encC cx t (xs.getD i.toNat (t.zero cx))) (fun p hp => List.mem_of_mem_take hp) (names_one hn)
    simp [names_encC ok] at this
  simp only [Array.length_toList] at k2
  cases hg : te.agg with
  | true =>
    rw [hg] at hK hnn
    refine ⟨.agg (cs.extract (i.toNat * te.size) (i.toNat * te.size + te.size)), _, ?_, hK, ⟨_, rfl, (PReps_all2 ..).2 ?_⟩, hnn⟩
    · rw [hrun]; simp only [part, Sem.run_bind, hisAgg, Result.andThen_ok, hg, if_true, tySize ok he, Sem.run_pure]
    · have : (cs.extract (i.toNat * te.size) (i.toNat * te.size + te.size)).toList = (cs.toList.drop (i.toNat * te.size)).take te.size := by
        rw [Array.toList_extract, List.extract_eq_take_drop]
        congr 1
        omega
      rw [this, hsz]
      have := hR.take (sz cx t)
      rwa [List.take_take, Nat.min_self] at this
  | false =>
    have h1' : te.size = 1 := by
      rcases hz1 with hz1 | hz1
      · simp [hg] at hz1
      · rw [← hzs, hz1]; rfl
    have hs1 : sz cx t = 1 := by omega
    rw [hg] at hK hnn
    have hl := hlen (xs.getD i.toNat (t.zero cx))
    match hq : encC cx t (xs.getD i.toNat (t.zero cx)), hl with
    | [q], _ =>
      rw [hq] at hR
      obtain ⟨u, hu', hr⟩ := hR.get 0 q rfl
      rw [List.getElem?_take, if_pos (by omega), List.getElem?_drop] at hu'
      refine ⟨u, _, ?_, hK, ?_, hnn⟩
      · rw [hrun, h1']
        simp only [part, Sem.run_bind, hisAgg, Result.andThen_ok, hg]
        have : cs[i.toNat * 1]? = some u := by rw [hs1] at hu'; simpa using hu'
        simp at this
        simp [this]
      · rw [hq, h1']; exact hr
    | [], hl => simp at hl; omega
    | _ :: _ :: _, hl => simp at hl; omega

theorem index_str_sound (ok : CxOk cx P) {T : TypeId} {b : ByteArray} {k : IntKind} {i : Int} {v : Value} (hd : (cx.T T).map TI.desc = some .str) (hp : PRep cx (fun m => shO cx (s.o m)) β F w (.str b) v) (h0 : 0 ≤ i) (h1 : i < b.size)
    {K : PV D → Option R} {r : R} (hK : K (.int .u8 ((b.data.toList.getD i.toNat 0).toNat : Int)) = some r) : Got cx P s β F w (Instr.index T v (.int k i)) K r := by
  obtain ⟨d', hu, hdo⟩ := tyDesc ok hd
  simp only [DescOk] at hdo; subst hdo
  cases hp
  have hlt : i.toNat < b.size := by omega
  have hget : b[i.toNat]? = some (b.data.toList.getD i.toNat 0) := by
    rw [getElem?_pos b i.toNat hlt]
    congr 1
    rw [List.getD_eq_getElem?_getD, List.getElem?_eq_getElem (by simpa using hlt)]
    rfl
  refine .plain ?_ hK rfl rfl
  simp only [Instr.index, asIntOf, Sem.run_bind, Sem.run_pure, Result.andThen_ok, run_underlying hu, h0, if_true, hget]

theorem convInt_sound (ok : CxOk cx P) {src dst : TypeId} {d : TD} {k k' : IntKind} {n : Int} {v : Value} (hs : (cx.T src).map TI.desc = some d) (hd : (cx.T dst).map TI.desc = some (.int k)) (hp : PRep cx (fun m => shO cx (s.o m)) β F w (.int k' n) v)
    {K : PV D → Option R} {r : R} (hK : K (.int k (k.wrap n)) = some r) : Got cx P s β F w (convert src dst v) K r := by
  obtain ⟨d1, hu1, _⟩ := tyDesc ok hs
  obtain ⟨d2, hu2, hdo⟩ := tyDesc ok hd
  simp only [DescOk] at hdo; subst hdo
  cases hp
  exact .plain (by simp [convert, run_underlying hu1, run_underlying hu2, Conv.intToInt]) hK rfl rfl

theorem convStr_sound (ok : CxOk cx P) {src dst : TypeId} {d : TD} {b : ByteArray} {v : Value} (hs : (cx.T src).map TI.desc = some d) (hd : (cx.T dst).map TI.desc = some .str) (hp : PRep cx (fun m => shO cx (s.o m)) β F w (.str b) v)
    {K : PV D → Option R} {r : R} (hK : K (.str b) = some r) : Got cx P s β F w (convert src dst v) K r := by
  obtain ⟨d1, hu1, _⟩ := tyDesc ok hs
  obtain ⟨d2, hu2, hdo⟩ := tyDesc ok hd
  simp only [DescOk] at hdo; subst hdo
  cases hp
  exact .plain (by simp [convert, run_underlying hu1, run_underlying hu2]) hK rfl rfl

end Go.Am
