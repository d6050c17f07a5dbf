/-
  VI: the steps: a task is brought to its end by the ends of its parts.
-/
import Derived.Test.YtkfdjlhjeclcbaaGreatDoorViDef
namespace Go.VI
open Go
noncomputable section

abbrev Rec := Task → Mem → Rs Out

/-! ### One operation -/

/-- One operation: on with what it leaves, or out. -/
inductive Ho where
  | go (a : Ac) (σ : Mem)
  | panic (chain : List PanicEntry) (a : Ac) (σ : Mem)
  | er (why : List String)

def goR (σ : Mem) (r : Rs Ac) : Ho :=
  match r with
  | .ok a => .go a σ
  | .er w => .er w

/-- A value comes into its place. -/
def fin (a : Ac) (dst : Option Tmp) (v : Value) (σ : Mem) : Ho := goR σ (a.put dst v)

def room (σ : Mem) (r : Ho) : Ho :=
  match Nat.ble (σ.next + 4) most with
  | true => r
  | false => .er ["too many blocks"]

/-- A light one, done at once. -/
def applyLi (a : Ac) (dst : Option Tmp) (σ : Mem) (l : Li) : Ho :=
  match l with
  | .val v => fin a dst v σ
  | .new k cs mk => room σ (fin a dst (mk σ.next) { σ with h := σ.h.set σ.next (some (blkOf k cs σ.next)), next := σ.next + 1 })
  | .wr .. => .er ["a store"]

def doLight (a : Ac) (dst : Option Tmp) (σ : Mem) (l : Rs Li) : Ho :=
  match l with
  | .ok l => applyLi a dst σ l
  | .er w => .er w

/-- Whom a call comes to. -/
inductive Whom where
  | fn (f : FuncId) (args : List Value)
  | round (l : Nat) (args : List Value)

def whomF (fn : Fn) (first : List Value) (vs captured : List Value) : Rs Whom :=
  match fn with
  | .func g => .ok (.fn g (first ++ vs ++ captured))
  | .yield l => .ok (.round l (first ++ vs))
  | _ => .er ["call"]

def whomV (f : Value) (vs : List Value) : Rs Whom :=
  match f with
  | .func fn first captured => whomF fn first.toList vs captured.toList
  | _ => .er ["call of no function"]

def whomL (f : Value) (args : Rs (List Value)) : Rs Whom :=
  match args with
  | .ok vs => whomV f vs
  | .er w => .er w

def whom (T : Tr Value) (f : Operand) (args : List Operand) : Rs Whom :=
  match evalO T f with
  | .ok f => whomL f (evalL T args)
  | .er w => .er w

/-! A round of a range over a function -/

/-- How a round is left: what the record bears then, and what yield answers. -/
def jumpOf (e : Exit) : Option (Option Code) :=
  match e with
  | .normal => some none
  | .ret => some (some .ret)
  | .exit id => some (some (.exit id))
  | .goto l => some (some (.goto l))
  | _ => none

def loopB (b : Option Blk) : Option Lp :=
  match b with
  | some (.loop r) => some r
  | _ => none

def isReady (s : LoopState) : Bool :=
  match s with
  | .ready => true
  | _ => false

def endJ (l : Nat) (j : Option Code) (σ : Mem) (r : Lp) : Rs (Value × Mem) :=
  .ok (.bool j.isNone, { σ with h := σ.h.set l (some (.loop { r with st := (match j with | none => .ready | some _ => .done), pend := j })) })

def endRoundA (l : Nat) (j : Option (Option Code)) (σ : Mem) (r : Option Lp) : Rs (Value × Mem) :=
  match j with
  | some j => (match r with
    | some r => endJ l j σ r
    | none => .er ["round: no record"])
  | none => .er ["round: how it was left"]

def afterBody (l : Nat) (r : Rs Out) : Rs (Value × Mem) :=
  match r with
  | .ok (.code e _ σ) => endRoundA l (jumpOf e) σ (loopB (σ.h.get l))
  | .ok _ => .er ["round"]
  | .er w => .er w

def beginA (rec : Rec) (l : Nat) (body : Code) (a : Ac) (σ : Mem) (r : Option Lp) : Rs (Value × Mem) :=
  match r with
  | some r => (match isReady r.st with
    | true => afterBody l (rec (.code (some l) body a) { σ with h := σ.h.set l (some (.loop { r with st := .busy })) })
    | false => .er ["round: not ready"])
  | none => .er ["round: no record"]

def afterAsg (rec : Rec) (l : Nat) (body : Code) (r : Rs Out) : Rs (Value × Mem) :=
  match r with
  | .ok (.code .normal a σ) => beginA rec l body a σ (loopB (σ.h.get l))
  | .ok _ => .er ["round: assignment"]
  | .er w => .er w

def allBelow (n : Nat) : List Nat → Bool
  | [] => true
  | k :: r => Nat.ble (k + 1) n && allBelow n r

def roundR (rec : Rec) (l : Nat) (args : List Value) (σ : Mem) (r : Lp) : Rs (Value × Mem) :=
  match Nat.beq args.length r.params.length && allBelow r.nt r.params with
  | true => afterAsg rec l r.body (rec (.code (some l) r.asg ⟨roundT r.params args r.T, r.nt, []⟩) σ)
  | false => .er ["round: parameters"]

def roundA (rec : Rec) (l : Nat) (args : List Value) (σ : Mem) (r : Option Lp) : Rs (Value × Mem) :=
  match r with
  | some r => roundR rec l args σ r
  | none => .er ["round: no record"]

/-! Calls -/

def backV (a : Ac) (dst : Option Tmp) (r : Rs (Value × Mem)) : Ho :=
  match r with
  | .ok (v, σ) => fin a dst v σ
  | .er w => .er w

def backE (a : Ac) (dst : Option Tmp) (e : Ending) (σ : Mem) : Ho :=
  match e with
  | .returned v => fin a dst v σ
  | .panicked c => .panic c a σ
  | .outgrown => .er ["call"]

def backC (a : Ac) (dst : Option Tmp) (r : Rs Out) : Ho :=
  match r with
  | .ok (.call e σ) => backE a dst e σ
  | .ok _ => .er ["call"]
  | .er w => .er w

def callB (rec : Rec) (a : Ac) (dst : Option Tmp) (σ : Mem) (g : FuncId) (args : List Value) (name : String) (b : Option Code) : Ho :=
  match b with
  | some _ => backC a dst (rec (.call g args) σ)
  | none => room σ (backV a dst (extA σ name args))

def callF (rec : Rec) (a : Ac) (dst : Option Tmp) (σ : Mem) (g : FuncId) (args : List Value) (fn : Option Func) : Ho :=
  match fn with
  | some fn => callB rec a dst σ g args fn.name fn.body
  | none => .er ["call: no such function"]

def callW (cx : Cx) (rec : Rec) (a : Ac) (dst : Option Tmp) (σ : Mem) (w : Rs Whom) : Ho :=
  match w with
  | .ok (.fn g args) => callF rec a dst σ g args (cx.fn g)
  | .ok (.round l args) => backV a dst (roundA rec l args σ (loopB (σ.h.get l)))
  | .er w => .er w

def appE (cx : Cx) (a : Ac) (dst : Option Tmp) (σ : Mem) (args : Rs (List Value)) (ts : List TypeId) : Ho :=
  match args with
  | .ok [s, x] => (match ts with
    | [t, u] => room σ (backV a dst (appendA cx σ t u s x))
    | _ => .er ["append: operands"])
  | .ok _ => .er ["append: operands"]
  | .er w => .er w

def doCall (cx : Cx) (rec : Rec) (a : Ac) (dst : Option Tmp) (σ : Mem) (c : Call) : Ho :=
  match c.callee with
  | .value f => callW cx rec a dst σ (whom a.T f c.args.toList)
  | .builtin .append => appE cx a dst σ (evalL a.T c.args.toList) c.argTypes.toList
  | _ => .er ["call: what isn't known"]

def memR (a : Ac) (dst : Option Tmp) (r : Rs Mem) : Ho :=
  match r with
  | .ok σ => fin a dst undef σ
  | .er w => .er w

def storeE (cx : Cx) (a : Ac) (dst : Option Tmp) (σ : Mem) (t : TypeId) (ad x : Rs Value) : Ho :=
  match ad with
  | .ok ad => (match x with
    | .ok x => memR a dst (storeA cx σ t ad x)
    | .er w => .er w)
  | .er w => .er w

def mapE (cx : Cx) (a : Ac) (dst : Option Tmp) (σ : Mem) (t : TypeId) (m k x : Rs Value) : Ho :=
  match m with
  | .ok m => (match k with
    | .ok k => (match x with
      | .ok x => memR a dst (mapSetA cx σ t m k x)
      | .er w => .er w)
    | .er w => .er w)
  | .er w => .er w

def deferV (a : Ac) (dst : Option Tmp) (σ : Mem) (f : Rs Value) (vs : Rs (List Value)) : Ho :=
  match f with
  | .ok (.func fn first captured) => (match vs with
    | .ok vs => fin { a with ds := { target := .fn fn captured, args := first ++ vs.toArray } :: a.ds } dst undef σ
    | .er w => .er w)
  | .ok _ => .er ["defer"]
  | .er w => .er w

def deferE (rd : Option Nat) (a : Ac) (dst : Option Tmp) (σ : Mem) (c : Call) : Ho :=
  match rd with
  | some _ => .er ["defer in a round"]
  | none => (match c.callee with
    | .value f => deferV a dst σ (evalO a.T f) (evalL a.T c.args.toList)
    | _ => .er ["defer"])

def panicE (a : Ac) (σ : Mem) (x : Rs Value) : Ho :=
  match x with
  | .ok (.iface t v) => .panic [{ v := .iface t v, recovered := false }] a σ
  | .ok _ => .er ["panic"]
  | .er w => .er w

/-- What is not light. -/
def heavy (cx : Cx) (rec : Rec) (rd : Option Nat) (o : Oper) (a : Ac) (σ : Mem) : Ho :=
  match o.op with
  | .call c => doCall cx rec a o.dst σ c
  | .store t ad x => storeE cx a o.dst σ t (evalO a.T ad) (evalO a.T x)
  | .mapUpdate t m k x => mapE cx a o.dst σ t (evalO a.T m) (evalO a.T k) (evalO a.T x)
  | .insert t m k x => mapE cx a o.dst σ t (evalO a.T m) (evalO a.T k) (evalO a.T x)
  | .defer c => deferE rd a o.dst σ c
  | .panic x => panicE a σ (evalO a.T x)
  | _ => .er ["an operation that isn't known"]

def act (cx : Cx) (rec : Rec) (rd : Option Nat) (o : Oper) (a : Ac) (σ : Mem) (l : Option (Rs Li)) : Ho :=
  match l with
  | some l => doLight a o.dst σ l
  | none => heavy cx rec rd o a σ

/-- Is a guard's value what is wanted? -/
def isWant (want : Bool) (v : Value) : Bool :=
  match v with
  | .bool b => b == want
  | _ => false

def guardV (want : Bool) (v : Option Value) : Option Bool :=
  match v with
  | some v => some (isWant want v)
  | none => none

def guardT (T : Tr Value) (want : Bool) (t : Option Tmp) : Option Bool :=
  match t with
  | some t => guardV want (T.get t)
  | none => none

def dstOf (o : Option Oper) : Option Tmp :=
  match o with
  | some o => o.dst
  | none => none

/-- Is an operation asked for? none: that isn't known. -/
def wantedA (ops : List Oper) (o : Oper) (T : Tr Value) : Option Bool :=
  match o.guard with
  | none => some true
  | some (j, want) => guardT T want (dstOf ops[j]?)

def oneOp (cx : Cx) (rec : Rec) (rd : Option Nat) (o : Oper) (a : Ac) (σ : Mem) (w : Option Bool) : Ho :=
  match w with
  | some true => act cx rec rd o a σ (light cx o a.T σ)
  | some false => fin a o.dst undef σ
  | none => .er ["guard"]

/-- Operations, one behind the other. -/
def seqOps (cx : Cx) (rec : Rec) (rd : Option Nat) (ops : List Oper) : List Oper → Ac → Mem → Rs Out
  | [], a, σ => .ok (.code .normal a σ)
  | o :: r, a, σ =>
    match oneOp cx rec rd o a σ (wantedA ops o a.T) with
    | .go a σ => seqOps cx rec rd ops r a σ
    | .panic c a σ => .ok (.code (.panic c) a σ)
    | .er w => .er (o.pos :: w)

/-! ### Operations whose order is open -/

/-- A light operation that is done here, and may be done later there: its number, what was known ahead of it, what came of it. -/
structure Pe where
  i : Nat
  o : Oper
  T : Tr Value
  id : Nat
  l : Li

/-- An operation, its number, and whom it must come behind (as a number's bits). -/
structure No where
  o : Oper
  i : Nat
  anc : Nat

def edgeOn (e : Edge) : Option Nat :=
  match e.ground with
  | .textOnly _ => none
  | .gcOnly _ => none
  | _ => some e.on

def edgesL : List Edge → List Nat
  | [] => []
  | e :: r => match edgeOn e with
    | some k => k :: edgesL r
    | none => edgesL r

def nth : List Nat → Nat → Nat
  | [], _ => 0
  | a :: r, k => match k with
    | 0 => a
    | k + 1 => nth r k

def ancOf (acc : List Nat) : List Nat → Nat → Nat
  | [], s => s
  | e :: r, s => ancOf acc r (s ||| 2 ^ e ||| nth acc e)

/-- Operations numbered. 'acc': whom the ones ahead come behind. -/
def number : List Oper → Nat → List Nat → List No
  | [], _, _ => []
  | o :: r, i, acc =>
    let a := ancOf acc (edgesL o.after.toList) 0
    ⟨o, i, a⟩ :: number r (i + 1) (acc ++ [a])

def has (k : Nat) : List Nat → Bool
  | [] => false
  | a :: r => match Nat.beq a k with
    | true => true
    | false => has k r

def bit (n i : Nat) : Bool := Nat.beq ((n >>> i) % 2) 1

def dstOnce : List Oper → List Nat → Bool
  | [], _ => true
  | o :: r, seen => match o.dst with
    | none => dstOnce r seen
    | some d => !has d seen && dstOnce r (d :: seen)

/-- What an operation looks at is written ahead of it, or behind it, in every order. -/
def lookOk (ts : List Tmp) (i anc : Nat) : List No → Bool
  | [] => true
  | p :: r => (match p.o.dst with
    | none => true
    | some d => !has d ts || Nat.beq i p.i || bit anc p.i || bit p.anc i) && lookOk ts i anc r

def tmpsO : List Operand → List Tmp
  | [] => []
  | x :: r => match x with
    | .tmp t => t :: tmpsO r
    | _ => tmpsO r

def tmpsOf (ops : List Oper) (o : Oper) : List Tmp :=
  match o.guard with
  | some (g, _) => (match dstOf ops[g]? with
    | some t => t :: tmpsO o.op.operands.toList
    | none => tmpsO o.op.operands.toList)
  | none => tmpsO o.op.operands.toList

def noSelect (o : Op) : Bool :=
  match o with
  | .select .. => false
  | _ => true

def regionOkL (ops : List Oper) (l : List No) : List No → Bool
  | [] => true
  | p :: r => allBelow p.i (edgesL p.o.after.toList) && lookOk (tmpsOf ops p.o) p.i p.anc l && noSelect p.o.op && regionOkL ops l r

def regionOk (ops : List Oper) (l : List No) : Bool := dstOnce ops [] && regionOkL ops l l

/-- The block that waits. -/
def peBlk (p : Pe) : Option Blk :=
  match p.l with
  | .val _ => none
  | .new k cs _ => some (blkOf k cs p.id)
  | .wr _ cs fam start => some (.cells cs fam start)

def settleB (p : Pe) (σ : Mem) (b : Option Blk) : Mem :=
  match b with
  | none => σ
  | some b => { σ with h := σ.h.set p.id (some b) }

/-- Blocks that have been waiting come in. -/
def settle1 (p : Pe) (σ : Mem) : Mem := settleB p σ (peBlk p)

def settleAll : List Pe → Mem → Mem
  | [], σ => σ
  | p :: r, σ => settleAll r (settle1 p σ)

def againV (l : Li) (r : Option (Rs Li)) : Bool :=
  match l with
  | .val v => (match r with
    | some (.ok (.val u)) => veq far v u
    | _ => false)
  | _ => true

/-- What was read ahead of what acts is there still. -/
def again (cx : Cx) (σ : Mem) : List Pe → Bool
  | [] => true
  | p :: r => (match looks p.o.op with
    | true => againV p.l (light cx p.o p.T σ)
    | false => true) && again cx σ r

/-- What a light one leaves, while the order is open. -/
inductive Po where
  | go (p : Pe) (a : Ac) (σ : Mem)
  | er (why : List String)

def poR (p : Pe) (σ : Mem) (r : Rs Ac) : Po :=
  match r with
  | .ok a => .go p a σ
  | .er w => .er w

def lightP (o : Oper) (i : Nat) (a : Ac) (σ : Mem) (l : Li) : Po :=
  match l with
  | .val v => poR ⟨i, o, a.T, 0, .val v⟩ σ (a.put o.dst v)
  | .new k cs mk => (match Nat.ble (σ.next + 4) most with
    | true => poR ⟨i, o, a.T, σ.next, .new k cs mk⟩ { σ with next := σ.next + 1 } (a.put o.dst (mk σ.next))
    | false => .er ["too many blocks"])
  | .wr .. => .er ["a store"]

def lightD (o : Oper) (i : Nat) (a : Ac) (σ : Mem) (l : Option (Rs Li)) : Po :=
  match l with
  | some (.ok l) => lightP o i a σ l
  | some (.er w) => .er w
  | none => .er ["not light"]

/-- Is there a store that waits? -/
def anyWr : List Pe → Bool
  | [] => false
  | p :: r => match p.l with
    | .wr .. => true
    | _ => anyWr r

/-- Are those that wait of other families? -/
def others (fam : Nat) : List Pe → Bool
  | [] => true
  | p :: r => match p.l with
    | .wr _ _ f _ => !Nat.beq f fam && others fam r
    | _ => others fam r

def storeP (cx : Cx) (o : Oper) (i : Nat) (pe : List Pe) (a : Ac) (σ : Mem) (t : TypeId) (b off : Nat) (x : Value) : Po :=
  match storeB cx σ t b off x with
  | some (cs, fam, start, n) => (match others fam pe with
    | true => poR ⟨i, o, a.T, b, .wr b cs fam start⟩ { σ with h := (killAll b (start + off) n (family σ fam) σ.h).set b none } (a.put o.dst undef)
    | false => .er ["store: kin"])
  | none => .er ["store: no such cells"]

def storeX (cx : Cx) (o : Oper) (i : Nat) (pe : List Pe) (a : Ac) (σ : Mem) (t : TypeId) (ad x : Rs Value) : Po :=
  match ad with
  | .ok (.pointer (some ⟨b, off, none⟩)) => (match x with
    | .ok x => storeP cx o i pe a σ t b off x
    | .er w => .er w)
  | _ => .er ["store: no address"]

/-- A store, where another one may come ahead of it or behind it. -/
def storeD (cx : Cx) (o : Oper) (i : Nat) (pe : List Pe) (a : Ac) (σ : Mem) : Po :=
  match o.op with
  | .store t ad x => storeX cx o i pe a σ t (evalO a.T ad) (evalO a.T x)
  | _ => .er ["region: two that act"]

def isLightC (c : Call) : Bool :=
  match c.callee with
  | .builtin .len => true
  | .builtin .min => true
  | .builtin .max => true
  | _ => false

def isLight (o : Op) : Bool :=
  match o with
  | .store .. => false
  | .mapUpdate .. => false
  | .insert .. => false
  | .mapEntry .. => false
  | .entryStore .. => false
  | .range .. => false
  | .next .. => false
  | .entry .. => false
  | .call c => isLightC c
  | .go .. => false
  | .defer .. => false
  | .panic .. => false
  | .send .. => false
  | .recv .. => false
  | .select .. => false
  | .ready .. => false
  | .waits .. => false
  | .makeChan .. => false
  | .sliceToArrayPointer .. => false
  | _ => true

/-- Is it done, or must it wait? -/
def isOpen (done : Nat) (p : No) : Bool := !bit done p.i && Nat.beq (done &&& p.anc) p.anc

def isFalse (b : Option Bool) : Bool :=
  match b with
  | some false => true
  | _ => false

/-- The next one that is light, or isn't asked for. -/
def nextLight (ops : List Oper) (done : Nat) (T : Tr Value) : List No → Option No
  | [] => none
  | p :: r => match isOpen done p && (isLight p.o.op || isFalse (wantedA ops p.o T)) with
    | true => some p
    | false => nextLight ops done T r

/-- All that are ready. -/
def readyAll (done : Nat) : List No → List No
  | [] => []
  | p :: r => match isOpen done p with
    | true => p :: readyAll done r
    | false => readyAll done r

def allDone (done : Nat) : List No → Bool
  | [] => true
  | p :: r => bit done p.i && allDone done r

/-- What was written in the region isn't known any more. -/
def forget : List Oper → Tr Value → Tr Value
  | [], T => T
  | o :: r, T => match o.dst with
    | some d => forget r (T.set d none)
    | none => forget r T

def mine (anc : Nat) : List Pe → List Pe
  | [] => []
  | p :: r => match bit anc p.i with
    | true => p :: mine anc r
    | false => mine anc r

def left (anc : Nat) : List Pe → List Pe
  | [] => []
  | p :: r => match bit anc p.i with
    | true => left anc r
    | false => p :: left anc r

/-- One step of a region whose order is open. -/
inductive Dr where
  | go (done : Nat) (pe : List Pe) (a : Ac) (σ : Mem)
  | out (r : Rs Out)

def drP (done i : Nat) (pe : List Pe) (r : Po) : Dr :=
  match r with
  | .go p a σ => .go (done ||| 2 ^ i) (p :: pe) a σ
  | .er w => .out (.er w)

def drSkip (done i : Nat) (pe : List Pe) (σ : Mem) (r : Rs Ac) : Dr :=
  match r with
  | .ok a => .go (done ||| 2 ^ i) pe a σ
  | .er w => .out (.er w)

def drLight (cx : Cx) (p : No) (done : Nat) (pe : List Pe) (a : Ac) (σ : Mem) (w : Option Bool) : Dr :=
  match w with
  | some true => drP done p.i pe (lightD p.o p.i a σ (light cx p.o a.T σ))
  | some false => drSkip done p.i pe σ (a.put p.o.dst undef)
  | none => .out (.er [p.o.pos, "guard"])

def drBack (cx : Cx) (ops : List Oper) (p : No) (done : Nat) (pe : List Pe) (r : Ho) : Dr :=
  match r with
  | .go a σ => (match again cx σ pe with
    | true => .go (done ||| 2 ^ p.i) pe a σ
    | false => .out (.er [p.o.pos, "what was read ahead of a call isn't there any more"]))
  | .panic c a σ => .out (.ok (.code (.panic c) { a with T := forget ops a.T } σ))
  | .er w => .out (.er (p.o.pos :: w))

def drHeavy (cx : Cx) (rec : Rec) (rd : Option Nat) (ops : List Oper) (p : No) (done : Nat) (pe : List Pe) (a : Ac) (σ : Mem) (w : Option Bool) : Dr :=
  match w with
  | some true => drBack cx ops p done (left p.anc pe) (heavy cx rec rd p.o a (settleAll (mine p.anc pe) σ))
  | _ => .out (.er [p.o.pos, "guard"])

def drPA (cx : Cx) (done i : Nat) (pe : List Pe) (r : Po) : Dr :=
  match r with
  | .go p a σ => (match again cx σ pe with
    | true => .go (done ||| 2 ^ i) (p :: pe) a σ
    | false => .out (.er ["what was read ahead of a store isn't there any more"]))
  | .er w => .out (.er w)

def drTwo (cx : Cx) (p : No) (done : Nat) (pe : List Pe) (a : Ac) (σ : Mem) (w : Option Bool) : Dr :=
  match w with
  | some true => drPA cx done p.i pe (storeD cx p.o p.i pe a σ)
  | _ => .out (.er [p.o.pos, "guard"])

def drReady (cx : Cx) (rec : Rec) (rd : Option Nat) (ops : List Oper) (l : List No) (done : Nat) (pe : List Pe) (a : Ac) (σ : Mem) (r : List No) : Dr :=
  match r with
  | [] => (match allDone done l with
    | true => .out (.ok (.code .normal a (settleAll pe σ)))
    | false => .out (.er ["region: stuck"]))
  | [p] => (match anyWr (left p.anc pe) with
    | false => drHeavy cx rec rd ops p done pe a σ (wantedA ops p.o a.T)
    | true => drTwo cx p done pe a σ (wantedA ops p.o a.T))
  | p :: _ :: _ => drTwo cx p done pe a σ (wantedA ops p.o a.T)

def drStep (cx : Cx) (rec : Rec) (rd : Option Nat) (ops : List Oper) (l : List No) (done : Nat) (pe : List Pe) (a : Ac) (σ : Mem) (n : Option No) : Dr :=
  match n with
  | some p => drLight cx p done pe a σ (wantedA ops p.o a.T)
  | none => drReady cx rec rd ops l done pe a σ (readyAll done l)

def drawn (cx : Cx) (rec : Rec) (rd : Option Nat) (ops : List Oper) (l : List No) : Nat → Nat → List Pe → Ac → Mem → Rs Out
  | 0, _, _, _, _ => .er ["region: fuel"]
  | n + 1, done, pe, a, σ => match drStep cx rec rd ops l done pe a σ (nextLight ops done a.T l) with
    | .go done pe a σ => drawn cx rec rd ops l n done pe a σ
    | .out r => r

def drawnL (cx : Cx) (rec : Rec) (rd : Option Nat) (ops : List Oper) (l : List No) (a : Ac) (σ : Mem) : Rs Out :=
  match regionOk ops l with
  | true => drawn cx rec rd ops l (ops.length + 1) 0 [] a σ
  | false => .er ["region: not in order"]

/-! ### Tasks -/

def resCons (v : Rs Value) (r : Rs (List Value)) : Rs (List Value) :=
  match v with
  | .ok v => consR v r
  | .er w => .er w

def loadO (cx : Cx) (σ : Mem) (t : TypeId) (v : Rs Value) : Rs Value :=
  match v with
  | .ok v => loadA cx σ t v
  | .er w => .er w

def resultsA (cx : Cx) (σ : Mem) (T : Tr Value) : List ResultVar → Rs (List Value)
  | [] => .ok []
  | v :: r => match v with
    | .tmp t => resCons (tmpO (T.get t)) (resultsA cx σ T r)
    | .cell a t => resCons (loadO cx σ t (tmpO (T.get a))) (resultsA cx σ T r)

def resultOf (vs : List Value) : Value :=
  match vs with
  | [v] => v
  | vs => .tuple vs.toArray

def retR (σ : Mem) (r : Rs (List Value)) : Rs Out :=
  match r with
  | .ok vs => .ok (.call (.returned (resultOf vs)) σ)
  | .er w => .er w

def isOpenD (b : Option Blk) : Bool :=
  match b with
  | some (.defs true) => true
  | _ => false

/-- What a frame that leaves does with a deferred call that has come back. -/
inductive Lv where
  | go (u : FrameMode) (σ : Mem)
  | er (why : List String)

def goU (u : FrameMode) (σ : Mem) : Lv :=
  match u with
  | .run => .er ["leave"]
  | u => .go u σ

def backD (r : Rs Out) : Lv :=
  match r with
  | .ok (.dcall (.returned _) u σ) => goU (settle u) σ
  | .ok (.dcall (.panicked c) u σ) => .go (raised u c) σ
  | .ok _ => .er ["leave"]
  | .er w => .er w

def bodyOf (fn : Option Func) : Option Code :=
  match fn with
  | some fn => fn.body
  | none => none

def leaveD (cx : Cx) (rec : Rec) (d : Deferred) (u : FrameMode) (σ : Mem) : Lv :=
  match d.target with
  | .collected r => (match isOpenD (σ.h.get r) with
    | true => .go u { σ with h := σ.h.set r (some (.defs false)) }
    | false => .er ["leave: no block of deferred calls"])
  | .fn (.func g) captured => (match bodyOf (cx.fn g) with
    | some _ => backD (rec (.dcall g (d.args.toList ++ captured.toList) u) σ)
    | none => .er ["leave: no body"])
  | _ => .er ["leave: a deferred call"]

def leaveA (cx : Cx) (rec : Rec) (fn : Func) (T : Tr Value) : List Deferred → FrameMode → Mem → Rs Out
  | [], u, σ => (match u with
    | .returning => retR σ (resultsA cx σ T fn.results.toList)
    | .panicking c => .ok (.call (.panicked c) σ)
    | .run => .er ["leave"])
  | d :: ds, u, σ => match leaveD cx rec d u σ with
    | .go u σ => leaveA cx rec fn T ds u σ
    | .er w => .er w

def startA (nt : Nat) (args : List Value) : Ac := ⟨fillT args 0 (Tr.blank deepT), nt, []⟩

def isRecover (c : Callee) : Bool :=
  match c with
  | .builtin .recover => true
  | _ => false

def recoverOp (o : Op) : Bool :=
  match o with
  | .call c => isRecover c.callee
  | _ => false

def anyRecover : List Oper → Bool
  | [] => false
  | o :: r => recoverOp o.op || anyRecover r

def recovers : Code → Bool
  | .region _ ops _ => anyRecover ops.toList
  | .seq a b => recovers a || recovers b
  | .cond _ a b => recovers a || recovers b
  | .block _ a => recovers a
  | .loop a => recovers a
  | .scope a => recovers a
  | .rangeFunc _ _ a b => recovers a || recovers b
  | _ => false

/-- One operation of a deferred call that may recover. -/
inductive Hd where
  | go (a : Ac) (u : FrameMode) (σ : Mem)
  | er (why : List String)

def hdR (u : FrameMode) (r : Ho) : Hd :=
  match r with
  | .go a σ => .go a u σ
  | .panic .. => .er ["beside recover"]
  | .er w => .er w

def recoverC (a : Ac) (dst : Option Tmp) (σ : Mem) (c : List PanicEntry) : Hd :=
  match c with
  | e :: older => (match e.recovered || e.goexit with
    | true => hdR (.panicking (e :: older)) (fin a dst .nilIface σ)
    | false => hdR (.panicking ({ v := e.v, recovered := true } :: older)) (fin a dst e.v σ))
  | [] => hdR (.panicking []) (fin a dst .nilIface σ)

def recoverA (a : Ac) (dst : Option Tmp) (σ : Mem) (u : FrameMode) : Hd :=
  match u with
  | .panicking c => recoverC a dst σ c
  | .returning => hdR .returning (fin a dst .nilIface σ)
  | .run => .er ["recover"]

def lightH (o : Oper) (a : Ac) (u : FrameMode) (σ : Mem) (l : Option (Rs Li)) : Hd :=
  match l with
  | some l => hdR u (doLight a o.dst σ l)
  | none => .er ["beside recover"]

def opD (cx : Cx) (o : Oper) (a : Ac) (u : FrameMode) (σ : Mem) : Hd :=
  match recoverOp o.op with
  | true => recoverA a o.dst σ u
  | false => lightH o a u σ (light cx o a.T σ)

def oneD (cx : Cx) (o : Oper) (a : Ac) (u : FrameMode) (σ : Mem) (w : Option Bool) : Hd :=
  match w with
  | some true => opD cx o a u σ
  | some false => hdR u (fin a o.dst undef σ)
  | none => .er ["guard"]

/-- Operations of a deferred call, recover among them. -/
def seqOpsD (cx : Cx) (ops : List Oper) : List Oper → Ac → FrameMode → Mem → Rs Out
  | [], a, u, σ => .ok (.dcode .normal a u σ)
  | o :: r, a, u, σ => match oneD cx o a u σ (wantedA ops o a.T) with
    | .go a u σ => seqOpsD cx ops r a u σ
    | .er w => .er (o.pos :: w)

/-! The code's own forms -/

def thenC (rec : Rec) (rd : Option Nat) (y : Code) (r : Rs Out) : Rs Out :=
  match r with
  | .ok (.code .normal a σ) => rec (.code rd y a) σ
  | r => r

def loopN (next : Ac → Mem → Rs Out) (r : Rs Out) : Rs Out :=
  match r with
  | .ok (.code .normal a σ) => next a σ
  | r => r

/-- A loop, so many rounds at most. -/
def loopC (rec : Rec) (rd : Option Nat) (x : Code) (n : Nat) : Ac → Mem → Rs Out :=
  Nat.rec (motive := fun _ => Ac → Mem → Rs Out) (fun _ _ => .er ["loop: fuel"]) (fun _ ih a σ => loopN ih (rec (.code rd x a) σ)) n

def condC (rec : Rec) (rd : Option Nat) (x y : Code) (a : Ac) (σ : Mem) (c : Rs Value) : Rs Out :=
  match c with
  | .ok (.bool true) => rec (.code rd x a) σ
  | .ok (.bool false) => rec (.code rd y a) σ
  | _ => .er ["cond"]

def outOf (id id' : Nat) (a : Ac) (σ : Mem) : Rs Out :=
  match Nat.beq id' id with
  | true => .ok (.code .normal a σ)
  | false => .ok (.code (.exit id') a σ)

def blockC (id : Nat) (r : Rs Out) : Rs Out :=
  match r with
  | .ok (.code (.exit id') a σ) => outOf id id' a σ
  | r => r

def scopeC (r : Rs Out) : Rs Out :=
  match r with
  | .ok (.code (.goto _) _ _) => .er ["goto"]
  | r => r

def pendC (rec : Rec) (rd : Option Nat) (a : Ac) (σ : Mem) (p : Option Code) : Rs Out :=
  match p with
  | none => .ok (.code .normal a σ)
  | some c => rec (.code rd c a) σ

def isBusy (s : LoopState) : Bool :=
  match s with
  | .busy => true
  | _ => false

def endLoopA (rec : Rec) (rd : Option Nat) (L : Nat) (a : Ac) (σ : Mem) (r : Option Lp) : Rs Out :=
  match r with
  | some r => (match isBusy r.st with
    | true => .er ["range over a function: busy"]
    | false => pendC rec rd a { σ with h := σ.h.set L (some (.loop { r with st := .exhausted })) } r.pend)
  | none => .er ["range over a function: no record"]

def rangeE (rec : Rec) (rd : Option Nat) (L : Nat) (a : Ac) (e : Ending) (σ : Mem) : Rs Out :=
  match e with
  | .returned _ => endLoopA rec rd L a σ (loopB (σ.h.get L))
  | .panicked c => .ok (.code (.panic c) a σ)
  | .outgrown => .er ["range over a function"]

def rangeB (rec : Rec) (rd : Option Nat) (L : Nat) (a : Ac) (r : Rs Out) : Rs Out :=
  match r with
  | .ok (.call e σ) => rangeE rec rd L a e σ
  | .ok _ => .er ["range over a function"]
  | .er w => .er w

def rangeW (cx : Cx) (rec : Rec) (rd : Option Nat) (L : Nat) (a : Ac) (σ : Mem) (w : Rs Whom) : Rs Out :=
  match w with
  | .ok (.fn g args) => (match bodyOf (cx.fn g) with
    | some _ => rangeB rec rd L a (rec (.call g args) σ)
    | none => .er ["range over a function: no body"])
  | .ok (.round ..) => .er ["range over a function: a round"]
  | .er w => .er w

def enterM (σ : Mem) (a : Ac) (ps : List Tmp) (asg body : Code) : Mem :=
  { σ with h := (σ.h.set σ.next (some (.defs true))).set (σ.next + 1) (some (.loop ⟨.ready, none, a.T, a.nt, ps, asg, body, σ.next⟩)), next := σ.next + 2 }

def enterT (a : Ac) (D : Nat) : Ac := { a with ds := { target := .collected D, args := #[] } :: a.ds }

def rangeF (cx : Cx) (rec : Rec) (rd : Option Nat) (ps : List Tmp) (asg body : Code) (a : Ac) (σ : Mem) (g : Rs Value) : Rs Out :=
  match rd with
  | some _ => .er ["range over a function in a round"]
  | none => (match g with
    | .ok f => (match Nat.ble (σ.next + 4) most with
      | true => rangeW cx rec rd (σ.next + 1) (enterT a σ.next) (enterM σ a ps asg body) (whomV f [.func (.yield (σ.next + 1)) #[] #[]])
      | false => .er ["too many blocks"])
    | .er w => .er w)

def regionC (cx : Cx) (rec : Rec) (rd : Option Nat) (ops : List Oper) (draw : Bool) (a : Ac) (σ : Mem) : Rs Out :=
  match draw with
  | false => seqOps cx rec rd ops ops a σ
  | true => drawnL cx rec rd ops (number ops 0 []) a σ

def codeA (cx : Cx) (rec : Rec) (rd : Option Nat) (a : Ac) (σ : Mem) (c : Code) : Rs Out :=
  match c with
  | .skip => .ok (.code .normal a σ)
  | .label _ => .ok (.code .normal a σ)
  | .region _ ops draw => regionC cx rec rd ops.toList draw a σ
  | .seq x y => thenC rec rd y (rec (.code rd x a) σ)
  | .cond c x y => condC rec rd x y a σ (evalO a.T c)
  | .block id x => blockC id (rec (.code rd x a) σ)
  | .loop x => loopC rec rd x 1000000 a σ
  | .exit id => .ok (.code (.exit id) a σ)
  | .goto l => .ok (.code (.goto l) a σ)
  | .ret => .ok (.code .ret a σ)
  | .rangeFunc g ps asg body => rangeF cx rec rd ps.toList asg body a σ (evalO a.T g)
  | .scope x => scopeC (rec (.code rd x a) σ)
  | .refuse w => .er [w]

def thenD (rec : Rec) (y : Code) (r : Rs Out) : Rs Out :=
  match r with
  | .ok (.dcode .normal a u σ) => rec (.dcode y a u) σ
  | r => r

def condD (rec : Rec) (x y : Code) (a : Ac) (u : FrameMode) (σ : Mem) (c : Rs Value) : Rs Out :=
  match c with
  | .ok (.bool true) => rec (.dcode x a u) σ
  | .ok (.bool false) => rec (.dcode y a u) σ
  | _ => .er ["cond"]

def outOfD (id id' : Nat) (a : Ac) (u : FrameMode) (σ : Mem) : Rs Out :=
  match Nat.beq id' id with
  | true => .ok (.dcode .normal a u σ)
  | false => .ok (.dcode (.exit id') a u σ)

def blockD (id : Nat) (r : Rs Out) : Rs Out :=
  match r with
  | .ok (.dcode (.exit id') a u σ) => outOfD id id' a u σ
  | r => r

def regionD (cx : Cx) (ops : List Oper) (draw : Bool) (a : Ac) (u : FrameMode) (σ : Mem) : Rs Out :=
  match draw with
  | false => seqOpsD cx ops ops a u σ
  | true => .er ["recover in an open order"]

/-- A code in which a deferred call recovers. -/
def codeD (cx : Cx) (rec : Rec) (a : Ac) (u : FrameMode) (σ : Mem) (c : Code) : Rs Out :=
  match c with
  | .seq x y => thenD rec y (rec (.dcode x a u) σ)
  | .cond c x y => condD rec x y a u σ (evalO a.T c)
  | .block id x => blockD id (rec (.dcode x a u) σ)
  | .region _ ops draw => regionD cx ops.toList draw a u σ
  | _ => .er ["recover there"]

def plainD (u : FrameMode) (r : Rs Out) : Rs Out :=
  match r with
  | .ok (.code e a σ) => .ok (.dcode e a u σ)
  | .ok _ => .er ["dcode"]
  | .er w => .er w

def dcodeA (cx : Cx) (rec : Rec) (a : Ac) (u : FrameMode) (σ : Mem) (c : Code) : Rs Out :=
  match recovers c with
  | true => codeD cx rec a u σ c
  | false => plainD u (rec (.code none c a) σ)

def leaveE (cx : Cx) (rec : Rec) (fn : Func) (e : Exit) (a : Ac) (σ : Mem) : Rs Out :=
  match e with
  | .normal => leaveA cx rec fn a.T a.ds .returning σ
  | .ret => leaveA cx rec fn a.T a.ds .returning σ
  | .panic c => leaveA cx rec fn a.T a.ds (.panicking c) σ
  | _ => .er ["call: left otherwise"]

def leaveR (cx : Cx) (rec : Rec) (fn : Func) (r : Rs Out) : Rs Out :=
  match r with
  | .ok (.code e a σ) => leaveE cx rec fn e a σ
  | .ok _ => .er ["call"]
  | .er w => .er w

def callC (cx : Cx) (rec : Rec) (args : List Value) (σ : Mem) (fn : Func) : Rs Out :=
  match fn.body with
  | some c => (match Nat.ble fn.ntmps mostT && Nat.ble args.length fn.ntmps with
    | true => leaveR cx rec fn (rec (.code none c (startA fn.ntmps args)) σ)
    | false => .er ["call: too many temporaries"])
  | none => .er ["no body"]

def retD (u : FrameMode) (σ : Mem) (r : Rs (List Value)) : Rs Out :=
  match r with
  | .ok vs => .ok (.dcall (.returned (resultOf vs)) u σ)
  | .er w => .er w

def leaveDE (cx : Cx) (fn : Func) (e : Exit) (a : Ac) (u : FrameMode) (σ : Mem) : Rs Out :=
  match a.ds with
  | [] => (match e with
    | .normal => retD u σ (resultsA cx σ a.T fn.results.toList)
    | .ret => retD u σ (resultsA cx σ a.T fn.results.toList)
    | .panic c => .ok (.dcall (.panicked c) u σ)
    | _ => .er ["deferred call: left otherwise"])
  | _ :: _ => .er ["deferred call that defers"]

def leaveDR (cx : Cx) (fn : Func) (r : Rs Out) : Rs Out :=
  match r with
  | .ok (.dcode e a u σ) => leaveDE cx fn e a u σ
  | .ok _ => .er ["deferred call"]
  | .er w => .er w

def callDC (cx : Cx) (rec : Rec) (args : List Value) (u : FrameMode) (σ : Mem) (fn : Func) : Rs Out :=
  match fn.body with
  | some c => (match Nat.ble fn.ntmps mostT && Nat.ble args.length fn.ntmps with
    | true => leaveDR cx fn (rec (.dcode c (startA fn.ntmps args) u) σ)
    | false => .er ["call: too many temporaries"])
  | none => .er ["no body"]

def callO (cx : Cx) (rec : Rec) (args : List Value) (σ : Mem) (fn : Option Func) : Rs Out :=
  match fn with
  | some fn => callC cx rec args σ fn
  | none => .er ["no such function"]

def callDO (cx : Cx) (rec : Rec) (args : List Value) (u : FrameMode) (σ : Mem) (fn : Option Func) : Rs Out :=
  match fn with
  | some fn => callDC cx rec args u σ fn
  | none => .er ["no such function"]

def step (cx : Cx) (rec : Rec) (t : Task) (σ : Mem) : Rs Out :=
  match t with
  | .code rd c a => codeA cx rec rd a σ c
  | .call f args => callO cx rec args σ (cx.fn f)
  | .dcall f args u => callDO cx rec args u σ (cx.fn f)
  | .dcode c a u => dcodeA cx rec a u σ c

/-- So many steps deep. -/
def run (cx : Cx) (n : Nat) : Rec :=
  Nat.rec (motive := fun _ => Rec) (fun _ _ => .er ["too deep"]) (fun _ ih => step cx ih) n

end
end Go.VI
