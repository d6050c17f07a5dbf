/-
  VI: an interpreter of the model's own code over a memory of its own, whatever the tape says: definitions alone.
  A closed call that it brings to an end is, by the texts behind this one, what the machine does for every tape.
  (Small functions, one look each: the kernel runs them.)
-/
import GoSem.Step
import Derived.Defers
namespace Go.VI
open Go
noncomputable section

/-- A result, or why there is none. -/
inductive Rs (α : Type) : Type where
  | ok (a : α)
  | er (why : List String)

/-- A tree of things by number. -/
inductive Tr (α : Type) : Type where
  | lf
  | nd (v : Option α) (l r : Tr α)

def Tr.get {α : Type} (t : Tr α) : Nat → Option α :=
  Tr.rec (motive := fun _ => Nat → Option α) (fun _ => none)
    (fun v _ _ gl gr k => Nat.rec (motive := fun _ => Option α) v (fun k _ => Nat.rec (motive := fun _ => Option α) (gl (Nat.div k (nat_lit 2))) (fun _ _ => gr (Nat.div k (nat_lit 2))) (Nat.mod k (nat_lit 2))) k) t

def Tr.set {α : Type} (t : Tr α) : Nat → Option α → Tr α :=
  Tr.rec (motive := fun _ => Nat → Option α → Tr α) (fun _ _ => .lf)
    (fun v l r sl sr k x => Nat.rec (motive := fun _ => Tr α) (.nd x l r) (fun k _ => Nat.rec (motive := fun _ => Tr α) (.nd v (sl (Nat.div k (nat_lit 2)) x) r) (fun _ _ => .nd v l (sr (Nat.div k (nat_lit 2)) x)) (Nat.mod k (nat_lit 2))) k) t

/-- A tree that is empty, so deep. -/
def Tr.blank {α : Type} (n : Nat) : Tr α :=
  Nat.rec (motive := fun _ => Tr α) .lf (fun _ t => .nd none t t) n

/-- How deep memory's tree goes, and how many blocks it takes; likewise a call's temporaries. -/
def deep : Nat := 20
def most : Nat := 1000000
def deepT : Nat := 10
def mostT : Nat := 1000

/-- A call's temporaries, as far as they are known; how many there are; its deferred calls. -/
structure Ac where
  T : Tr Value
  nt : Nat
  ds : List Deferred

/-- The record of a range over a function. -/
structure Lp where
  st : LoopState
  pend : Option Code
  T : Tr Value
  nt : Nat
  params : List Tmp
  asg : Code
  body : Code
  defers : Nat

/-- A block: cells (of a family, from a place on), cells that nobody writes, a view of nothing (shut: with no room behind it), or whatever else. -/
inductive Blk where
  | cells (cs : List Value) (fam start : Nat)
  | ro (cs : List Value)
  | view (shut : Bool)
  | map (es : List MapEntry) (clock : Nat)
  | loop (l : Lp)
  | defs (isOpen : Bool)

structure Mem where
  h : Tr Blk
  next : Nat
  fams : Tr (List Nat)

/-- A value that bears no address (so far down as that is looked). -/
def closed : Nat → Value → Bool
  | 0, v => match v with
    | .bool _ => true
    | .int _ _ => true
    | .string _ => true
    | _ => false
  | n + 1, v => match v with
    | .bool _ => true
    | .int _ _ => true
    | .string _ => true
    | .nilFunc => true
    | .nilIface => true
    | .pointer a => a.isNone
    | .slice a m c => a.isNone && Nat.beq m 0 && Nat.beq c 0
    | .map r => r.isNone
    | .iface _ v => closed n v
    | .agg cs => cs.toList.all (closed n)
    | .tuple vs => vs.toList.all (closed n)
    | _ => false

def far : Nat := 8

/-- Likewise, the commonest ones first. -/
def shut (v : Value) : Bool :=
  match v with
  | .bool _ => true
  | .int _ _ => true
  | .string _ => true
  | v => closed far v

/-- Are two values the same? (So far down as that is looked.) -/
def veq : Nat → Value → Value → Bool
  | _, .bool a, .bool b => a == b
  | _, .int j a, .int k b => decide (j = k) && decide (a = b)
  | _, .string a, .string b => a.data.toList == b.data.toList
  | _, .nilFunc, .nilFunc => true
  | _, .nilIface, .nilIface => true
  | _, .pointer a, .pointer b => decide (a = b)
  | _, .slice a m c, .slice b n d => decide (a = b) && m == n && c == d
  | _, .map a, .map b => decide (a = b)
  | n + 1, .iface t v, .iface u w => t == u && veq n v w
  | n + 1, .agg a, .agg b => go n a.toList b.toList
  | n + 1, .tuple a, .tuple b => go n a.toList b.toList
  | n + 1, .func f a b, .func g c d => decide (f = g) && go n a.toList c.toList && go n b.toList d.toList
  | _, _, _ => false
where
  go (n : Nat) : List Value → List Value → Bool
    | [], [] => true
    | x :: xs, y :: ys => veq n x y && go n xs ys
    | _, _ => false

/-- A run of the model's that asks nothing of the world. -/
def pureRun {α : Type} (P : Program) : Sem α → Option α
  | .pure a => some a
  | .program k => pureRun P (k P)
  | _ => none

/-- The program; its types and functions, by number, at hand. -/
structure Cx where
  P : Program
  info : TypeId → Option TypeInfo
  fn : FuncId → Option Func

def descOf (i : TypeInfo) (f : TypeId → Option TypeInfo) : Option TypeDesc :=
  match i.desc with
  | .named _ u => (match f u with
    | some j => some j.desc
    | none => none)
  | d => some d

def Cx.und (cx : Cx) (t : TypeId) : Option TypeDesc :=
  match cx.info t with
  | some i => descOf i cx.info
  | none => none

/-! ### Operands -/

def constO (v : Value) : Rs Value :=
  match shut v with
  | true => .ok v
  | false => .er ["a constant with an address"]

def tmpO (v : Option Value) : Rs Value :=
  match v with
  | some v => .ok v
  | none => .er ["a temporary that isn't known"]

/-- So many blocks at most are package-level variables'. -/
def globs : Nat := 100

def globO (g : Nat) (b : Bool) : Rs Value :=
  match b with
  | true => .ok (.pointer (some ⟨g, 0, none⟩))
  | false => .er ["a variable beyond"]

def evalO (T : Tr Value) (x : Operand) : Rs Value :=
  match x with
  | .tmp t => tmpO (T.get t)
  | .const v => constO v
  | .global g => globO g (Nat.ble (g + 1) globs)
  | .func f => .ok (.func (.func f) #[] #[])

def consR (v : Value) (r : Rs (List Value)) : Rs (List Value) :=
  match r with
  | .ok vs => .ok (v :: vs)
  | .er w => .er w

def evalL (T : Tr Value) : List Operand → Rs (List Value)
  | [] => .ok []
  | x :: r => match evalO T x with
    | .ok v => consR v (evalL T r)
    | .er w => .er w

/-- The operands' values, as the model's own operations take them. -/
def rho (T : Tr Value) (x : Operand) : Value :=
  match evalO T x with
  | .ok v => v
  | .er _ => .tuple #[]

/-- All operands are known and bear no address. -/
def plain (T : Tr Value) : List Operand → Bool
  | [] => true
  | x :: r => match evalO T x with
    | .ok v => shut v && plain T r
    | .er _ => false

/-! ### What is light: what changes nothing that is there -/

/-- What is made: cells, a view, or a map. -/
inductive Kn where
  | cells | view (shut : Bool) | map

/-- What a light operation comes to: a value; a new block, and the value that it makes; (where another one may come first) what a store leaves. -/
inductive Li where
  | val (v : Value)
  | new (k : Kn) (cs : List Value) (v : Nat → Value)
  | wr (b : Nat) (cs : List Value) (fam start : Nat)

def blkOf (k : Kn) (cs : List Value) (id : Nat) : Blk :=
  match k with
  | .cells => .cells cs id 0
  | .view b => .view b
  | .map => .map [] 0

def ptrTo (id : Nat) : Value := .pointer (some ⟨id, 0, none⟩)
def mapTo (id : Nat) : Value := .map (some id)
def sliceTo (len esz id : Nat) : Value := .slice (some ⟨id, 0, none⟩) len esz

def shutO (z : Value) : Option Value :=
  match shut z with
  | true => some z
  | false => none

def zeroI (i : TypeInfo) : Option Value :=
  match i.zero with
  | some z => shutO z
  | none => none

def zeroOf (cx : Cx) (t : TypeId) : Option Value :=
  match cx.info t with
  | some i => zeroI i
  | none => none

def sizeOf? (cx : Cx) (t : TypeId) : Option Nat :=
  match cx.info t with
  | some i => some i.size
  | none => none

/-- Is it of several cells? -/
def aggD (d : TypeDesc) : Bool :=
  match d with
  | .struct _ => true
  | .array _ _ => true
  | _ => false

def agg? (cx : Cx) (t : TypeId) : Option Bool :=
  match cx.und t with
  | some d => some (aggD d)
  | none => none

def vv (r : Rs Value) : Rs Li :=
  match r with
  | .ok v => .ok (.val v)
  | .er w => .er w

/-- A value that a pure run comes to, if it bears no address. -/
def ofVal (v : Value) (b : Bool) : Rs Li :=
  match b with
  | true => .ok (.val v)
  | false => .er ["a value with an address"]

def ofPure (r : Option Next) : Rs Li :=
  match r with
  | some (.value v) => ofVal v (shut v)
  | _ => .er ["no value"]

/-- An operation on operands that bear no address: as the model itself does it. -/
def byModel (cx : Cx) (o : Oper) (T : Tr Value) : Rs Li :=
  match plain T o.op.operands.toList with
  | true => ofPure (pureRun cx.P (execOp (rho T) o))
  | false => .er ["operands with addresses"]

/-- A block's cells, if it has some. -/
def cellsB (b : Option Blk) : Option (List Value) :=
  match b with
  | some (.cells cs _ _) => some cs
  | some (.ro cs) => some cs
  | _ => none

def Mem.cells? (σ : Mem) (b : Nat) : Option (List Value) := cellsB (σ.h.get b)

/-- Of a row some. -/
def cut (cs : List Value) (off n : Nat) : Option (List Value) :=
  match Nat.ble (off + n) cs.length with
  | true => some ((cs.drop off).take n)
  | false => none

def aggR (r : Option (List Value)) : Rs Value :=
  match r with
  | some cs => .ok (.agg cs.toArray)
  | none => .er ["beyond"]

def oneR (r : Option Value) : Rs Value :=
  match r with
  | some v => .ok v
  | none => .er ["beyond"]

def loadI (cx : Cx) (i : Option TypeInfo) (cs : List Value) (off : Nat) : Rs Value :=
  match i with
  | some i => (match descOf i cx.info with
    | some d => (match aggD d with
      | true => aggR (cut cs off i.size)
      | false => oneR cs[off]?)
    | none => .er ["load: type"])
  | none => .er ["load: type"]

def loadC (cx : Cx) (t : TypeId) (off : Nat) (cs : Option (List Value)) : Rs Value :=
  match cs with
  | some cs => loadI cx (cx.info t) cs off
  | none => .er ["load: no such cells"]

def loadA (cx : Cx) (σ : Mem) (t : TypeId) (v : Value) : Rs Value :=
  match v with
  | .pointer (some ⟨b, off, none⟩) => loadC cx t off (σ.cells? b)
  | _ => .er ["load: no address"]

def loadL (cx : Cx) (σ : Mem) (t : TypeId) (v : Rs Value) : Rs Li :=
  match v with
  | .ok v => vv (loadA cx σ t v)
  | .er w => .er w

def fieldsOf (cx : Cx) (t : TypeId) : Option (Array Field) :=
  match cx.und t with
  | some (.struct fs) => some fs
  | _ => none

/-- A field of a struct's type. -/
def fieldOf (cx : Cx) (t : TypeId) (f : Nat) : Option Field :=
  match fieldsOf cx t with
  | some fs => fs.toList[f]?
  | none => none

def partA (cx : Cx) (cs : Array Value) (fd : Option Field) : Rs Value :=
  match fd with
  | some fd => loadI cx (cx.info fd.type) cs.toList fd.offset
  | none => .er ["field: no such one"]

def fieldA (cx : Cx) (s : TypeId) (f : Nat) (v : Rs Value) : Rs Li :=
  match v with
  | .ok (.agg cs) => vv (partA cx cs (fieldOf cx s f))
  | .ok _ => .er ["field: no struct"]
  | .er w => .er w

/-- A bound of a slice, if it is given. -/
def boundV (v : Rs Value) : Rs Nat :=
  match v with
  | .ok (.int _ (.ofNat n)) => .ok n
  | .ok _ => .er ["slice: a bound"]
  | .er w => .er w

def bound? (T : Tr Value) (d : Nat) (x : Option Operand) : Rs Nat :=
  match x with
  | none => .ok d
  | some x => boundV (evalO T x)

def sliceAt (a : Option Addr) (len esz n : Nat) (l h : Nat) : Rs Li :=
  match Nat.ble l h && Nat.ble h len with
  | true => (match a with
    | none => .ok (.val (.slice none (h - l) esz))
    | some ⟨b, off, none⟩ => (match Nat.beq n esz && Nat.ble 1 n with
      | true => (match l with
        | 0 => .ok (.val (.slice (some ⟨b, off, none⟩) h esz))
        | l + 1 => (match Nat.ble (l + 2) h with
          | true => .ok (.val (.slice (some ⟨b, off + (l + 1) * n, none⟩) (h - (l + 1)) esz))
          | false => .ok (.new (.view false) [] (sliceTo 0 esz))))
      | false => .er ["slice: sizes"])
    | _ => .er ["slice: spot"])
  | false => .er ["slice: bounds"]

def slice3 (a : Option Addr) (esz n : Nat) (l h m : Nat) : Rs Li :=
  match Nat.beq l 0 && Nat.beq h 0 && Nat.beq m 0 with
  | true => (match a with
    | none => .ok (.val (.slice none 0 esz))
    | some ⟨_, _, none⟩ => (match Nat.beq n esz && Nat.ble 1 n with
      | true => .ok (.new (.view true) [] (sliceTo 0 esz))
      | false => .er ["slice: sizes"])
    | _ => .er ["slice: spot"])
  | false => .er ["slice: three bounds"]

def sliceA (cx : Cx) (T : Tr Value) (t : TypeId) (a : Option Addr) (len esz : Nat) (lo hi mx : Option Operand) : Rs Li :=
  match cx.und t with
  | some (.slice e) => (match sizeOf? cx e with
    | some n => (match bound? T 0 lo with
      | .ok l => (match bound? T len hi with
        | .ok h => (match mx with
          | none => sliceAt a len esz n l h
          | some m => (match hi with
            | none => .er ["slice: three bounds"]
            | some _ => (match boundV (evalO T m) with
              | .ok m => slice3 a esz n l h m
              | .er w => .er w)))
        | .er w => .er w)
      | .er w => .er w)
    | none => .er ["slice: size"])
  | _ => .er ["slice: type"]

/-- The cells of a block behind which there is no room. -/
def exactF (cs : List Value) (f : Option (List Nat)) : Option (List Value) :=
  match f with
  | none => some cs
  | some _ => none

def exactB (fams : Tr (List Nat)) (b : Option Blk) : Option (List Value) :=
  match b with
  | some (.cells cs f _) => exactF cs (fams.get f)
  | some (.ro cs) => some cs
  | _ => none

def Mem.exact? (σ : Mem) (b : Nat) : Option (List Value) := exactB σ.fams (σ.h.get b)

/-- An array behind an address, as a slice. -/
def sliceArr (cx : Cx) (T : Tr Value) (σ : Mem) (t : TypeId) (a : Option Addr) (lo hi mx : Option Operand) : Rs Li :=
  match cx.und t, a with
  | some (.array n e), some ⟨b, 0, none⟩ =>
    match mx, bound? T 0 lo, bound? T n hi, sizeOf? cx e, σ.exact? b with
    | none, .ok l, .ok h, some sz, some cs =>
      if l < h ∧ h ≤ n ∧ cs.length = n * sz ∧ 0 < sz then .ok (.val (.slice (some ⟨b, l * sz, none⟩) (h - l) sz)) else .er ["slice of an array: bounds"]
    | _, _, _, _, _ => .er ["slice of an array: operands"]
  | _, _ => .er ["slice of an array: type"]

def sliceS (s : ByteArray) (l h : Nat) : Rs Li :=
  match Nat.ble l h && Nat.ble h s.data.toList.length with
  | true => .ok (.val (.string ⟨((s.data.toList.drop l).take (h - l)).toArray⟩))
  | false => .er ["slice of a text: bounds"]

def sliceT (cx : Cx) (T : Tr Value) (t : TypeId) (s : ByteArray) (lo hi mx : Option Operand) : Rs Li :=
  match cx.und t with
  | some .string => (match mx with
    | some _ => .er ["slice of a text: three bounds"]
    | none => (match bound? T 0 lo with
      | .ok l => (match bound? T s.data.toList.length hi with
        | .ok h => sliceS s l h
        | .er w => .er w)
      | .er w => .er w))
  | _ => .er ["slice of a text: type"]

def sliceL (cx : Cx) (T : Tr Value) (σ : Mem) (t : TypeId) (v : Rs Value) (lo hi mx : Option Operand) : Rs Li :=
  match v with
  | .ok (.string s) => sliceT cx T t s lo hi mx
  | .ok (.slice a len esz) => sliceA cx T t a len esz lo hi mx
  | .ok (.pointer a) => sliceArr cx T σ t a lo hi mx
  | .ok _ => .er ["slice: operand"]
  | .er w => .er w

/-! Comparisons, numbers, texts -/

def nilOf : Value → Option Bool
  | .pointer a => some a.isNone
  | .slice a _ _ => some a.isNone
  | .map a => some a.isNone
  | .nilFunc => some true
  | .func _ _ _ => some false
  | .nilIface => some true
  | .iface _ _ => some false
  | _ => none

/-- The kinds of types at which a comparison with nil is plain. -/
def nilType (cx : Cx) (t : TypeId) (x y : Value) : Bool :=
  match cx.und t, x, y with
  | some (.pointer _), .pointer _, .pointer none => true
  | some (.pointer _), .pointer none, .pointer _ => true
  | some (.slice _), .slice _ _ _, .slice none _ _ => true
  | some (.slice _), .slice none _ _, .slice _ _ _ => true
  | some (.map _ _), .map _, .map none => true
  | some (.func _ _ _), .func _ _ _, .nilFunc => true
  | some (.func _ _ _), .nilFunc, .nilFunc => true
  | some (.interface _), .iface _ _, .nilIface => true
  | _, _, _ => false

def eqA (cx : Cx) (op : BinOp) (t : TypeId) (x y : Value) : Rs Value :=
  if nilType cx t x y then
    match nilOf x, nilOf y with
    | some a, some b =>
      match op with
      | .eql => .ok (.bool (a == b))
      | .neq => .ok (.bool (!(a == b)))
      | _ => .er ["binOp: operands with addresses"]
    | _, _ => .er ["binOp: nil"]
  else .er ["binOp: operands with addresses"]

def bitsA (k : IntKind) (f : BitVec k.bits → BitVec k.bits → BitVec k.bits) (a b : Int) : Rs Value :=
  .ok (.int k (k.wrap (f (BitVec.ofInt k.bits a) (BitVec.ofInt k.bits b)).toNat))

def divA (b : Int) (v : Value) : Rs Value :=
  match decide (b = 0) with
  | true => .er ["divided by zero"]
  | false => .ok v

/-- Two numbers of one kind. -/
def intA (op : BinOp) (k : IntKind) (a b : Int) : Rs Value :=
  match op with
  | .add => .ok (.int k (k.wrap (a + b)))
  | .sub => .ok (.int k (k.wrap (a - b)))
  | .mul => .ok (.int k (k.wrap (a * b)))
  | .quo => divA b (.int k (k.wrap (a.tdiv b)))
  | .rem => divA b (.int k (a.tmod b))
  | .and => bitsA k (· &&& ·) a b
  | .or => bitsA k (· ||| ·) a b
  | .xor => bitsA k (· ^^^ ·) a b
  | .andNot => bitsA k (fun a b => a &&& ~~~b) a b
  | .eql => .ok (.bool (decide (a = b)))
  | .neq => .ok (.bool (!decide (a = b)))
  | .lss => .ok (.bool (decide (a < b)))
  | .leq => .ok (.bool (decide (a ≤ b)))
  | .gtr => .ok (.bool (decide (b < a)))
  | .geq => .ok (.bool (decide (b ≤ a)))
  | _ => .er ["binOp: numbers"]

def sameL : List UInt8 → List UInt8 → Bool
  | [], [] => true
  | a :: x, b :: y => Nat.beq a.toNat b.toNat && sameL x y
  | _, _ => false

/-- Two texts. -/
def strA (op : BinOp) (a b : ByteArray) : Rs Value :=
  match op with
  | .eql => .ok (.bool (sameL a.data.toList b.data.toList))
  | .neq => .ok (.bool (!sameL a.data.toList b.data.toList))
  | .lss => .ok (.bool (Op.bytesLess a.data.toList b.data.toList))
  | .geq => .ok (.bool (!Op.bytesLess a.data.toList b.data.toList))
  | .add => (match Nat.ble (a.size + b.size) 1000000000 with
    | true => .ok (.string ⟨⟨a.data.toList ++ b.data.toList⟩⟩)
    | false => .er ["binOp: too long a text"])
  | _ => .er ["binOp: texts"]

def boolA (op : BinOp) (a b : Bool) : Rs Value :=
  match op with
  | .eql => .ok (.bool (a == b))
  | .neq => .ok (.bool (!(a == b)))
  | _ => .er ["binOp: bools"]

def bin2 (cx : Cx) (o : Oper) (T : Tr Value) (op : BinOp) (t : TypeId) (a b : Value) : Rs Li :=
  match shut a && shut b with
  | true => ofPure (pureRun cx.P (execOp (rho T) o))
  | false => vv (eqA cx op t a b)

/-- Is the type one of numbers, of texts? -/
def isShift (op : BinOp) : Bool :=
  match op with
  | .shl => true
  | .shr => true
  | _ => false

def binInt (cx : Cx) (o : Oper) (T : Tr Value) (op : BinOp) (j k : IntKind) (a b : Int) : Rs Li :=
  match isShift op with
  | true => ofPure (pureRun cx.P (execOp (rho T) o))
  | false => (match decide (j = k) with
    | true => vv (intA op j a b)
    | false => .er ["binOp: kinds"])

def binL (cx : Cx) (o : Oper) (T : Tr Value) (op : BinOp) (t : TypeId) (x y : Value) : Rs Li :=
  match x with
  | .int j a => (match y with
    | .int k b => binInt cx o T op j k a b
    | y => bin2 cx o T op t (.int j a) y)
  | .string a => (match y with
    | .string b => vv (strA op a b)
    | y => bin2 cx o T op t (.string a) y)
  | x => bin2 cx o T op t x y

def binE (cx : Cx) (o : Oper) (T : Tr Value) (op : BinOp) (t : TypeId) (x y : Rs Value) : Rs Li :=
  match x with
  | .ok x => (match y with
    | .ok y => binL cx o T op t x y
    | .er w => .er w)
  | .er w => .er w

def unA (cx : Cx) (o : Oper) (T : Tr Value) (op : UnOp) (v : Rs Value) : Rs Li :=
  match v with
  | .ok (.bool b) => (match op with
    | .not => .ok (.val (.bool (!b)))
    | _ => .er ["unOp"])
  | .ok _ => byModel cx o T
  | .er w => .er w

def convI (cx : Cx) (o : Oper) (T : Tr Value) (s d : TypeId) (n : Int) : Rs Li :=
  match cx.und d with
  | some (.int k) => (match cx.und s with
    | some _ => .ok (.val (.int k (k.wrap n)))
    | none => .er ["convert: type"])
  | _ => byModel cx o T

def convA (cx : Cx) (o : Oper) (T : Tr Value) (s d : TypeId) (v : Rs Value) : Rs Li :=
  match v with
  | .ok (.int _ n) => convI cx o T s d n
  | .ok _ => byModel cx o T
  | .er w => .er w

def byteR (b : Option UInt8) : Rs Li :=
  match b with
  | some b => .ok (.val (.int .u8 b.toNat))
  | none => .er ["index: out of range"]

def indexS (cx : Cx) (t : TypeId) (s : ByteArray) (i : Rs Value) : Rs Li :=
  match cx.und t with
  | some .string => (match i with
    | .ok (.int _ (.ofNat n)) => byteR s.data.toList[n]?
    | _ => .er ["index: which"])
  | _ => .er ["index: type"]

def indexA (cx : Cx) (o : Oper) (T : Tr Value) (t : TypeId) (v i : Rs Value) : Rs Li :=
  match v with
  | .ok (.string s) => indexS cx t s i
  | .ok _ => byModel cx o T
  | .er w => .er w

/-! Maps -/

def sameKey (k e : Value) : Option Bool :=
  match k with
  | .int j a => (match e with
    | .int k b => (match decide (j = k) with
      | true => some (decide (a = b))
      | false => none)
    | _ => none)
  | .string a => (match e with
    | .string b => some (sameL a.data.toList b.data.toList)
    | _ => none)
  | _ => none

/-- Where a number or a text stands, and what is there. -/
def findI (k : Value) : List MapEntry → Nat → Option (Option (Nat × Value))
  | [], _ => some none
  | e :: es, i => match sameKey k e.key with
    | some true => some (some (i, e.val))
    | some false => findI k es (i + 1)
    | none => none

/-- Where a key stands, and what is there: none: it may be no key. -/
def findA (cx : Cx) (kt : TypeId) (empty : Bool) (k : Value) (es : List MapEntry) : Option (Option (Nat × Value)) :=
  match cx.und kt with
  | some (.int _) => (match k with
    | .int _ _ => findI k es 0
    | _ => none)
  | some .string => (match k with
    | .string _ => findI k es 0
    | _ => none)
  | some _ => (match pureRun cx.P (Instr.checkKey empty 10000 kt k) with
    | some () => pureRun cx.P (Instr.findKey kt k es)
    | none => none)
  | none => none

def keysShut : List MapEntry → Bool
  | [] => true
  | e :: es => shut e.key && keysShut es

def mapB (b : Option Blk) : Option (List MapEntry × Nat) :=
  match b with
  | some (.map es clock) => some (es, clock)
  | _ => none

def mapOf (σ : Mem) (r : Option Nat) : Option (List MapEntry × Nat) :=
  match r with
  | none => some ([], 0)
  | some b => mapB (σ.h.get b)

def answer (commaOk : Bool) (v : Value) (is : Bool) : Value :=
  match commaOk with
  | true => .tuple #[v, .bool is]
  | false => v

def lookR (cx : Cx) (et : TypeId) (commaOk : Bool) (r : Option (Option (Nat × Value))) : Rs Value :=
  match r with
  | some (some (_, v)) => .ok (answer commaOk v true)
  | some none => (match zeroOf cx et with
    | some z => .ok (answer commaOk z false)
    | none => .er ["lookup: zero"])
  | none => .er ["lookup: the key"]

def lookM (cx : Cx) (kt et : TypeId) (k : Value) (commaOk : Bool) (m : Option (List MapEntry × Nat)) : Rs Value :=
  match m with
  | some (es, _) => (match shut k && keysShut es with
    | true => lookR cx et commaOk (findA cx kt es.isEmpty k es)
    | false => .er ["lookup: a key with an address"])
  | none => .er ["lookup: no such map"]

def lookA (cx : Cx) (σ : Mem) (t : TypeId) (m k : Value) (commaOk : Bool) : Rs Value :=
  match cx.und t with
  | some (.map kt et) => (match m with
    | .map r => lookM cx kt et k commaOk (mapOf σ r)
    | _ => .er ["lookup: no map"])
  | _ => .er ["lookup: type"]

def lookL (cx : Cx) (σ : Mem) (t : TypeId) (m k : Rs Value) (commaOk : Bool) : Rs Li :=
  match m with
  | .ok m => (match k with
    | .ok k => vv (lookA cx σ t m k commaOk)
    | .er w => .er w)
  | .er w => .er w

/-! Types, funcs, tuples -/

def failsA (cx : Cx) (asserted : TypeId) (commaOk : Bool) : Rs Value :=
  match commaOk with
  | true => (match zeroOf cx asserted with
    | some z => .ok (.tuple #[z, .bool false])
    | none => .er ["typeAssert: zero"])
  | false => .er ["typeAssert: fails"]

def assertT (cx : Cx) (asserted : TypeId) (commaOk : Bool) (t : TypeId) (v : Value) : Rs Value :=
  match Nat.beq t asserted with
  | true => .ok (answer commaOk v true)
  | false => failsA cx asserted commaOk

def assertX (cx : Cx) (asserted : TypeId) (commaOk : Bool) (x : Value) : Rs Value :=
  match x with
  | .iface t v => assertT cx asserted commaOk t v
  | .nilIface => failsA cx asserted commaOk
  | _ => .er ["typeAssert: operand"]

def assertA (cx : Cx) (asserted : TypeId) (commaOk : Bool) (x : Value) : Rs Value :=
  match cx.und asserted with
  | some (.interface _) => .er ["typeAssert: to an interface"]
  | some _ => assertX cx asserted commaOk x
  | none => .er ["typeAssert: type"]

def assertL (cx : Cx) (asserted : TypeId) (commaOk : Bool) (x : Rs Value) : Rs Li :=
  match x with
  | .ok v => vv (assertA cx asserted commaOk v)
  | .er w => .er w

def extractA (i : Nat) (x : Rs Value) : Rs Li :=
  match x with
  | .ok (.tuple vs) => vv (oneR vs.toList[i]?)
  | .ok _ => .er ["extract: no tuple"]
  | .er w => .er w

def ifaceA (cx : Cx) (t : TypeId) (x : Rs Value) : Rs Li :=
  match cx.und t with
  | some (.interface _) => .er ["makeInterface"]
  | some _ => (match x with
    | .ok v => .ok (.val (.iface t v))
    | .er w => .er w)
  | none => .er ["makeInterface: type"]

def funcV (f : FuncId) (xs ys : Rs (List Value)) : Rs Li :=
  match xs with
  | .ok xs => (match ys with
    | .ok ys => .ok (.val (.func (.func f) xs.toArray ys.toArray))
    | .er w => .er w)
  | .er w => .er w

def funcA (fn : Fn) (xs ys : Rs (List Value)) : Rs Li :=
  match fn with
  | .func f => funcV f xs ys
  | _ => .er ["makeFunc"]

/-! Building -/

def partC (i : Nat) (v : Rs Value) (r : Rs (List (Nat × Value))) : Rs (List (Nat × Value)) :=
  match v with
  | .ok v => (match r with
    | .ok vs => .ok ((i, v) :: vs)
    | .er w => .er w)
  | .er w => .er w

def evalParts (T : Tr Value) : List (Nat × Operand) → Rs (List (Nat × Value))
  | [] => .ok []
  | p :: r => partC p.1 (evalO T p.2) (evalParts T r)

def overwrite : List Value → Nat → List Value → List Value
  | cs, _, [] => cs
  | cs, i, v :: r => overwrite (cs.set i v) (i + 1) r

def placeF (cx : Cx) (fs : List Field) (i : Nat) : Option (Nat × Nat) :=
  match fs[i]? with
  | some f => (match sizeOf? cx f.type with
    | some n => some (f.offset, n)
    | none => none)
  | none => none

def placeR (n i : Nat) : Option (Nat × Nat) := some (i * n, n)

def fill1 (p : Option (Nat × Nat)) (cs : List Value) (v : Value) : Rs (List Value) :=
  match p with
  | some (off, n) => (match Nat.beq v.cells.size n && Nat.ble (off + n) cs.length with
    | true => .ok (overwrite cs off v.cells.toList)
    | false => .er ["build: size"])
  | none => .er ["build: place"]

def fillA (place : Nat → Option (Nat × Nat)) : List (Nat × Value) → List Value → Rs (List Value)
  | [], cs => .ok cs
  | p :: r, cs => match fill1 (place p.1) cs p.2 with
    | .ok cs => fillA place r cs
    | .er w => .er w

def aggV (r : Rs (List Value)) : Rs Li :=
  match r with
  | .ok cs => .ok (.val (.agg cs.toArray))
  | .er w => .er w

def buildI (cx : Cx) (i : TypeInfo) (parts : List (Nat × Value)) : Rs Li :=
  match zeroI i with
  | none => .er ["build: zero"]
  | some z => (match descOf i cx.info with
    | some (.struct fs) => aggV (fillA (placeF cx fs.toList) parts z.cells.toList)
    | some (.array _ e) => (match sizeOf? cx e with
      | some n => aggV (fillA (placeR n) parts z.cells.toList)
      | none => .er ["build: size"])
    | _ => .er ["build: type"])

def buildA (cx : Cx) (t : TypeId) (parts : Rs (List (Nat × Value))) : Rs Li :=
  match parts with
  | .ok ps => (match cx.info t with
    | some i => buildI cx i ps
    | none => .er ["build: type"])
  | .er w => .er w

/-- So many copies of a row. -/
def rows (z : List Value) : Nat → List Value
  | 0 => []
  | n + 1 => z ++ rows z n

def newR (len n : Nat) (r : Rs (List Value)) : Rs Li :=
  match r with
  | .ok cs => .ok (.new .cells cs (sliceTo len n))
  | .er w => .er w

def buildSliceI (i : TypeInfo) (len : Nat) (parts : List (Nat × Value)) : Rs Li :=
  match zeroI i with
  | some z => (match Nat.ble (len * i.size) 16777216 && Nat.beq z.cells.size i.size && Nat.ble 1 i.size && Nat.ble 1 len with
    | true => newR len i.size (fillA (placeR i.size) parts (rows z.cells.toList len))
    | false => .er ["buildSlice: sizes"])
  | none => .er ["buildSlice: zero"]

def buildSliceA (cx : Cx) (t : TypeId) (len : Nat) (parts : Rs (List (Nat × Value))) : Rs Li :=
  match parts with
  | .ok ps => (match cx.und t with
    | some (.slice e) => (match cx.info e with
      | some i => buildSliceI i len ps
      | none => .er ["buildSlice: type"])
    | _ => .er ["buildSlice: type"])
  | .er w => .er w

def makeSliceI (i : TypeInfo) (l c : Nat) : Rs Li :=
  match zeroI i with
  | some z => (match Nat.ble l c && Nat.ble c 16777216 && Nat.ble (i.bytes * c) 16777216 && Nat.beq z.cells.size i.size && Nat.ble 1 i.size with
    | true => .ok (.new .cells (rows z.cells.toList c) (sliceTo l i.size))
    | false => .er ["makeSlice: sizes"])
  | none => .er ["makeSlice: zero"]

def makeSliceA (cx : Cx) (t : TypeId) (l c : Rs Value) : Rs Li :=
  match cx.und t with
  | some (.slice e) => (match cx.info e with
    | some i => (match l with
      | .ok (.int _ (.ofNat l)) => (match c with
        | .ok (.int _ (.ofNat c)) => makeSliceI i l c
        | _ => .er ["makeSlice: operands"])
      | _ => .er ["makeSlice: operands"])
    | none => .er ["makeSlice: type"])
  | _ => .er ["makeSlice: type"]

def allocA (z : Option Value) : Rs Li :=
  match z with
  | some z => .ok (.new .cells z.cells.toList ptrTo)
  | none => .er ["alloc"]

def boxA (v : Rs Value) : Rs Li :=
  match v with
  | .ok v => .ok (.new .cells v.cells.toList ptrTo)
  | .er w => .er w

def makeMapA (cx : Cx) (t : TypeId) (reserve : Option (Rs Value)) : Rs Li :=
  match cx.und t with
  | some (.map _ _) => (match reserve with
    | none => .ok (.new .map [] mapTo)
    | some (.ok (.int _ _)) => .ok (.new .map [] mapTo)
    | _ => .er ["makeMap"])
  | _ => .er ["makeMap: type"]

/-! Addresses -/

def idxI (e : Option Nat) (b off : Nat) (n : Nat) (esz : Option Nat) (len : Nat) : Rs Value :=
  match e with
  | some sz => (match Nat.ble (n + 1) len && Nat.ble 1 sz && (match esz with | some z => Nat.beq sz z | none => true) with
    | true => .ok (.pointer (some ⟨b, off + n * sz, none⟩))
    | false => .er ["indexAddr: out of range"])
  | none => .er ["indexAddr: size"]

def idxN (cx : Cx) (t : TypeId) (x : Value) (n : Nat) : Rs Value :=
  match cx.und t with
  | some (.slice e) => (match x with
    | .slice (some ⟨b, off, none⟩) len esz => idxI (sizeOf? cx e) b off n (some esz) len
    | _ => .er ["indexAddr: no slice"])
  | some (.array len e) => (match x with
    | .pointer (some ⟨b, off, none⟩) => idxI (sizeOf? cx e) b off n none len
    | _ => .er ["indexAddr: no array"])
  | _ => .er ["indexAddr: type"]

def idxL (cx : Cx) (t : TypeId) (x i : Rs Value) : Rs Li :=
  match x with
  | .ok x => (match i with
    | .ok (.int _ (.ofNat n)) => vv (idxN cx t x n)
    | .ok _ => .er ["indexAddr: which"]
    | .er w => .er w)
  | .er w => .er w

def fieldAddrF (cx : Cx) (b off : Nat) (fd : Option Field) : Rs Value :=
  match fd with
  | some fd => (match sizeOf? cx fd.type with
    | some n => (match Nat.ble 1 n with
      | true => .ok (.pointer (some ⟨b, off + fd.offset, none⟩))
      | false => .er ["fieldAddr: of no size"])
    | none => .er ["fieldAddr: size"])
  | none => .er ["fieldAddr: no such field"]

def fieldAddrA (cx : Cx) (s : TypeId) (f : Nat) (x : Rs Value) : Rs Li :=
  match x with
  | .ok (.pointer (some ⟨b, off, none⟩)) => vv (fieldAddrF cx b off (fieldOf cx s f))
  | .ok _ => .er ["fieldAddr: no address"]
  | .er w => .er w

def nilCheckA (x : Rs Value) : Rs Li :=
  match x with
  | .ok (.pointer (some a)) => .ok (.val (.pointer (some a)))
  | .ok (.func (.func f) xs ys) => .ok (.val (.func (.func f) xs ys))
  | .ok (.func (.yield f) xs ys) => .ok (.val (.func (.yield f) xs ys))
  | .ok (.map r) => .ok (.val (.map r))
  | .ok (.slice a n c) => .ok (.val (.slice a n c))
  | .ok _ => .er ["nilCheck"]
  | .er w => .er w

/-! Lengths -/

def lenM (m : Option (List MapEntry × Nat)) : Rs Value :=
  match m with
  | some (es, _) => .ok (.int .i64 es.length)
  | none => .er ["len: no such map"]

def lenA (cx : Cx) (σ : Mem) (t : TypeId) (x : Value) : Rs Value :=
  match cx.und t with
  | some .string => (match x with
    | .string s => .ok (.int .i64 s.data.toList.length)
    | _ => .er ["len"])
  | some (.slice _) => (match x with
    | .slice _ n _ => .ok (.int .i64 n)
    | _ => .er ["len"])
  | some (.array n _) => .ok (.int .i64 n)
  | some (.map _ _) => (match x with
    | .map r => lenM (mapOf σ r)
    | _ => .er ["len"])
  | _ => .er ["len: type"]

def lenL (cx : Cx) (σ : Mem) (args : Rs (List Value)) (ts : List TypeId) : Rs Li :=
  match args with
  | .ok [x] => (match ts with
    | [t] => vv (lenA cx σ t x)
    | _ => .er ["len: operands"])
  | .ok _ => .er ["len: operands"]
  | .er w => .er w

/-! ### The light operations, one by one -/

def isPick (c : Rs Value) (T : Tr Value) (a b : Operand) : Rs Li :=
  match c with
  | .ok (.bool true) => vv (evalO T a)
  | .ok (.bool false) => vv (evalO T b)
  | _ => .er ["pick"]

/-- Calls that are light. -/
def lightCall (cx : Cx) (o : Oper) (T : Tr Value) (σ : Mem) (c : Call) : Option (Rs Li) :=
  match c.callee with
  | .builtin .len => some (lenL cx σ (evalL T c.args.toList) c.argTypes.toList)
  | .builtin .min => some (byModel cx o T)
  | .builtin .max => some (byModel cx o T)
  | _ => none

/-- What changes nothing that is there; none: it isn't light. -/
def light (cx : Cx) (o : Oper) (T : Tr Value) (σ : Mem) : Option (Rs Li) :=
  match o.op with
  | .move x => some (vv (evalO T x))
  | .assign x => some (vv (evalO T x))
  | .pick c a b => some (isPick (evalO T c) T a b)
  | .alloc t => some (allocA (zeroOf cx t))
  | .box _ x => some (boxA (evalO T x))
  | .build t parts => some (buildA cx t (evalParts T parts.toList))
  | .buildSlice t len parts => some (buildSliceA cx t len (evalParts T parts.toList))
  | .load t a => some (loadL cx σ t (evalO T a))
  | .nilCheck x => some (nilCheckA (evalO T x))
  | .binOp op t x y _ => some (binE cx o T op t (evalO T x) (evalO T y))
  | .unOp op _ x => some (unA cx o T op (evalO T x))
  | .index t x i => some (indexA cx o T t (evalO T x) (evalO T i))
  | .convert s d x => some (convA cx o T s d (evalO T x))
  | .makeInterface t x => some (ifaceA cx t (evalO T x))
  | .makeFunc fn first captured => some (funcA fn (evalL T first.toList) (evalL T captured.toList))
  | .makeMap t r => some (makeMapA cx t (r.map (evalO T)))
  | .makeSlice t l c => some (makeSliceA cx t (evalO T l) (evalO T c))
  | .slice t x lo hi mx => some (sliceL cx T σ t (evalO T x) lo hi mx)
  | .fieldAddr s x f => some (fieldAddrA cx s f (evalO T x))
  | .field s x f => some (fieldA cx s f (evalO T x))
  | .indexAddr t x i => some (idxL cx t (evalO T x) (evalO T i))
  | .lookup t m k ok => some (lookL cx σ t (evalO T m) (evalO T k) ok)
  | .typeAssert x _ asserted ok => some (assertL cx asserted ok (evalO T x))
  | .extract x i => some (extractA i (evalO T x))
  | .call c => lightCall cx o T σ c
  | _ => none

/-- Does it look at memory? -/
def looks : Op → Bool
  | .load .. => true
  | .lookup .. => true
  | .slice .. => true
  | .call .. => true
  | _ => false

/-! ### What changes memory -/

def overlaps (b : Option Blk) (lo n : Nat) : Bool :=
  match b with
  | some (.cells cs _ start) => Nat.ble (start + 1) (lo + n) && Nat.ble (lo + 1) (start + cs.length)
  | _ => false

/-- Whose cells from a place on (so many) are no others' any more. -/
def killAll (me lo n : Nat) : List Nat → Tr Blk → Tr Blk
  | [], h => h
  | b :: r, h => match Nat.beq b me with
    | true => killAll me lo n r h
    | false => (match overlaps (h.get b) lo n with
      | true => killAll me lo n r (h.set b none)
      | false => killAll me lo n r h)

def famL (l : Option (List Nat)) (fam : Nat) : List Nat :=
  match l with
  | some l => l
  | none => [fam]

def family (σ : Mem) (fam : Nat) : List Nat := famL (σ.fams.get fam) fam

/-- A block's cells that may be written. -/
def cellsW (b : Option Blk) : Option (List Value × Nat × Nat) :=
  match b with
  | some (.cells cs fam start) => some (cs, fam, start)
  | _ => none

def isCell (v : Value) : Bool :=
  match v with
  | .agg _ => false
  | .tuple _ => false
  | _ => true

def areCells : List Value → Bool
  | [] => true
  | v :: r => isCell v && areCells r

/-- What is written: the new cells, where they fit. -/
def over (cs : List Value) (off n : Nat) (x : Value) : Option (List Value) :=
  match Nat.beq x.cells.size n && Nat.ble (off + n) cs.length && areCells x.cells.toList with
  | true => some (overwrite cs off x.cells.toList)
  | false => none

/-- What a store comes to: the block, its new cells, its family and start; how many cells. -/
def storeB (cx : Cx) (σ : Mem) (t : TypeId) (b off : Nat) (x : Value) : Option (List Value × Nat × Nat × Nat) :=
  match cellsW (σ.h.get b) with
  | some (cs, fam, start) => (match sizeOf? cx t with
    | some n => (match over cs off n x with
      | some cs' => some (cs', fam, start, n)
      | none => none)
    | none => none)
  | none => none

def storeA (cx : Cx) (σ : Mem) (t : TypeId) (a x : Value) : Rs Mem :=
  match a with
  | .pointer (some ⟨b, off, none⟩) => (match storeB cx σ t b off x with
    | some (cs, fam, start, n) => .ok { σ with h := (killAll b (start + off) n (family σ fam) σ.h).set b (some (.cells cs fam start)) }
    | none => .er ["store: no such cells"])
  | _ => .er ["store: no address"]

def mapSetR (σ : Mem) (b : Nat) (k x : Value) (es : List MapEntry) (clock : Nat) (r : Option (Option (Nat × Value))) : Rs Mem :=
  match r with
  | some (some (i, _)) => (match es[i]? with
    | some e => (match Instr.sameBits 10000 e.key k with
      | true => .ok { σ with h := σ.h.set b (some (.map (es.set i { e with key := k, val := x }) clock)) }
      | false => .er ["mapUpdate: keys alike"])
    | none => .er ["mapUpdate: place"])
  | some none => .ok { σ with h := σ.h.set b (some (.map (es ++ [{ key := k, val := x, born := clock }]) (clock + 1))) }
  | none => .er ["mapUpdate: the key"]

def mapSetA (cx : Cx) (σ : Mem) (t : TypeId) (m k x : Value) : Rs Mem :=
  match cx.und t with
  | some (.map kt _) => (match m with
    | .map (some b) => (match mapB (σ.h.get b) with
      | some (es, clock) => (match shut k && keysShut es with
        | true => mapSetR σ b k x es clock (findA cx kt false k es)
        | false => .er ["mapUpdate: a key with an address"])
      | none => .er ["mapUpdate: no such map"])
    | _ => .er ["mapUpdate: no map"])
  | _ => .er ["mapUpdate: type"]

/-- What is handed to append as cells. -/
def srcB (cs : Option (List Value)) (off len n : Nat) : Option (List Value) :=
  match cs with
  | some cs => cut cs off (len * n)
  | none => (match len with
    | 0 => some []
    | _ => none)

def srcCells (σ : Mem) (n : Nat) (x : Value) : Option (List Value) :=
  match x with
  | .slice none _ _ => some []
  | .slice (some ⟨b, off, none⟩) len esz => (match Nat.beq esz n with
    | true => srcB (σ.cells? b) off len n
    | false => none)
  | .string s => (match n with
    | 1 => some (s.data.toList.map fun b => .int .u8 b.toNat)
    | _ => none)
  | _ => none

def lenV (x : Value) : Nat :=
  match x with
  | .slice _ n _ => n
  | .string s => s.data.toList.length
  | _ => 0

def appNew (σ : Mem) (n esz : Nat) (new : List Value) : Rs (Value × Mem) :=
  .ok (sliceTo n esz σ.next, { h := σ.h.set σ.next (some (.cells new σ.next 0)), next := σ.next + 1, fams := σ.fams.set σ.next (some [σ.next]) })

def appCut (σ : Mem) (off len n esz fam start : Nat) (new : List Value) (old : Option (List Value)) : Rs (Value × Mem) :=
  match old with
  | some old =>
    .ok (sliceTo (len + n) esz σ.next,
      { h := (killAll σ.next (start + off + len * esz) new.length (family σ fam) σ.h).set σ.next (some (.cells (old ++ new) fam (start + off))),
        next := σ.next + 1, fams := σ.fams.set fam (some (σ.next :: family σ fam)) })
  | none => .er ["append: beyond"]

def appB (σ : Mem) (b : Option Blk) (off len n esz : Nat) (new : List Value) : Rs (Value × Mem) :=
  match b with
  | some (.cells cs fam start) => appCut σ off len n esz fam start new (cut cs off (len * esz))
  | some (.view true) => (match len with
    | 0 => appNew σ n esz new
    | _ => .er ["append: a view"])
  | _ => .er ["append: no such block"]

/-- Appending: the old cells and the new ones in a block of their own; whoever may lie where they go is no more. -/
def appN (σ : Mem) (s : Value) (sz n : Nat) (new : List Value) : Rs (Value × Mem) :=
  match s with
  | .slice none 0 _ => appNew σ n sz new
  | .slice (some ⟨b, off, none⟩) len esz => (match Nat.beq esz sz && Nat.ble (len + n) 1000000 with
    | true => appB σ (σ.h.get b) off len n esz new
    | false => .er ["append: long"])
  | _ => .er ["append: operand"]

def sliceOk (s : Value) : Bool :=
  match s with
  | .slice none 0 _ => true
  | .slice (some _) _ _ => true
  | _ => false

def appI (σ : Mem) (i : TypeInfo) (s x : Value) : Rs (Value × Mem) :=
  match zeroI i with
  | some z => (match Nat.beq z.cells.size i.size && Nat.ble 1 i.size && Nat.ble i.bytes 1000000 && sliceOk s with
    | true => (match srcCells σ i.size x with
      | some new => (match lenV x with
        | 0 => .ok (s, σ)
        | n + 1 => (match Nat.ble (n + 1) 1000000 && areCells new with
          | true => appN σ s i.size (n + 1) new
          | false => .er ["append: long"]))
      | none => .er ["append: no such cells"])
    | false => .er ["append: sizes"])
  | none => .er ["append: zero"]

def notNumber (d : Option TypeDesc) : Bool :=
  match d with
  | some (.int _) => false
  | some _ => true
  | none => false

def appendA (cx : Cx) (σ : Mem) (t u : TypeId) (s x : Value) : Rs (Value × Mem) :=
  match cx.und t with
  | some (.slice e) => (match notNumber (cx.und u) with
    | true => (match cx.info e with
      | some i => appI σ i s x
      | none => .er ["append: type"])
    | false => .er ["append: type"])
  | _ => .er ["append: type"]

/-! ### The steps -/

inductive Task where
  | code (rd : Option Nat) (c : Code) (a : Ac)
  | call (f : FuncId) (args : List Value)
  | dcall (f : FuncId) (args : List Value) (u : FrameMode)
  | dcode (c : Code) (a : Ac) (u : FrameMode)

inductive Out where
  | code (e : Exit) (a : Ac) (σ : Mem)
  | call (e : Ending) (σ : Mem)
  | dcall (e : Ending) (u : FrameMode) (σ : Mem)
  | dcode (e : Exit) (a : Ac) (u : FrameMode) (σ : Mem)

def putB (a : Ac) (d : Tmp) (v : Value) (b : Bool) : Rs Ac :=
  match b with
  | true => .ok ⟨a.T.set d (some v), a.nt, a.ds⟩
  | false => .er ["put: no such temporary"]

def Ac.put (a : Ac) (dst : Option Tmp) (v : Value) : Rs Ac :=
  match dst with
  | none => .ok a
  | some d => putB a d v (Nat.ble (d + 1) a.nt)

/-- Those of the library's that the model knows itself. -/
def cloneA (σ : Mem) (args : List Value) : Rs (Value × Mem) :=
  match args with
  | [.iface t (.map (some r))] => (match mapB (σ.h.get r) with
    | some (es, clock) => .ok (.iface t (.map (some σ.next)), { σ with h := σ.h.set σ.next (some (.map es clock)), next := σ.next + 1 })
    | none => .er ["maps.clone: no such map"])
  | _ => .er ["maps.clone"]

/-- The first place of a byte. -/
def byteAt (c : Nat) : List UInt8 → Nat → Option Nat
  | [], _ => none
  | b :: r, i => match Nat.beq b.toNat c with
    | true => some i
    | false => byteAt c r (i + 1)

def placeV (r : Option Nat) : Value :=
  match r with
  | some i => .int .i64 i
  | none => .int .i64 (-1)

def indexByteA (σ : Mem) (args : List Value) : Rs (Value × Mem) :=
  match args with
  | [.string s, .int .u8 (.ofNat c)] => (match Nat.ble c 255 with
    | true => .ok (placeV (byteAt c s.data.toList 0), σ)
    | false => .er ["IndexByteString"])
  | _ => .er ["IndexByteString"]

def extA (σ : Mem) (name : String) (args : List Value) : Rs (Value × Mem) :=
  if name = "maps.clone" then cloneA σ args
  else if name = "internal/bytealg.IndexByteString" then indexByteA σ args
  else .er ["no body: ", name]

def roundT : List Tmp → List Value → Tr Value → Tr Value
  | p :: ps, v :: vs, T => roundT ps vs (T.set p (some v))
  | _, _, T => T

def fillT : List Value → Nat → Tr Value → Tr Value
  | [], _, t => t
  | v :: r, i, t => fillT r (i + 1) (t.set i (some v))

end
end Go.VI
