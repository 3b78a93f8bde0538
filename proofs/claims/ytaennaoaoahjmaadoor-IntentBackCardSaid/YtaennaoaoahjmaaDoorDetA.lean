/-
  DET, part A: abstract values, abstract memory, a small language of operations, its evaluator, and a compiler into it out of the model's code. No theorem on the model here.
-/
import GoSem.Dispatch
import GoSem.Core.Region
namespace Go.Det

/-- An abstract address: the depth of the call that owns the block, the block's name there, the block's size when the address was made, the cell. -/
structure AAddr where
  dep : Nat
  id : Nat
  sz : Nat
  off : Nat
  deriving DecidableEq, Repr, Inhabited

/-- Abstract values. 'slice0': a slice that is not nil, with no room. 'dead': nothing is known. -/
inductive AV where
  | bool (b : Bool)
  | int (k : IntKind) (n : Int)
  | str (s : List UInt8)
  | ptr (a : Option AAddr)
  | slice (a : Option AAddr) (len esz : Nat)
  | slice0 (esz : Nat)
  | map (a : Option AAddr)
  | func (f : Nat) (first captured : List AV)
  | nilFunc
  | agg (cells : List AV)
  | tuple (vs : List AV)
  | dead
  deriving Inhabited

abbrev AV.undef : AV := .tuple []

/- Are all addresses of a value of depth less than e? -/
mutual
def AV.under (e : Nat) : AV → Bool
  | .ptr (some a) | .slice (some a) _ _ | .map (some a) => decide (a.dep < e)
  | .func _ f c => AV.unders e f && AV.unders e c
  | .agg l | .tuple l => AV.unders e l
  | _ => true
def AV.unders (e : Nat) : List AV → Bool
  | [] => true
  | v :: l => AV.under e v && AV.unders e l
end

/- The names of the blocks of depth d that a value names. -/
mutual
def AV.ids (d : Nat) : AV → List Nat
  | .ptr (some a) | .slice (some a) _ _ | .map (some a) => if a.dep = d then [a.id] else []
  | .func _ f c => AV.idss d f ++ AV.idss d c
  | .agg l | .tuple l => AV.idss d l
  | _ => []
def AV.idss (d : Nat) : List AV → List Nat
  | [] => []
  | v :: l => AV.ids d v ++ AV.idss d l
end

/- May a value be what a call at depth d gives? -/
mutual
def AV.ret (d : Nat) : AV → Bool
  | .map (some a) => decide (a.dep < d)
  | .func _ _ _ => false
  | .agg l | .tuple l => AV.rets d l
  | _ => true
def AV.rets (d : Nat) : List AV → Bool
  | [] => true
  | v :: l => AV.ret d v && AV.rets d l
end

/-- What a block holds. 'rw': it may be written. 'flat': no cell holds an address. -/
inductive Con where
  | cells (c : List AV) (rw flat : Bool)
  | map (es : List (AV × AV)) (rw : Bool)
  /-- A strings.Builder: its type, its buffer. -/
  | bld (T : Nat) (buf : AV) (rw : Bool)
  /-- A builder's buffer: its cells' type, its bytes. -/
  | buf (E : Nat) (s : List UInt8) (rw : Bool)
  deriving Inhabited

def Con.size : Con → Nat
  | .cells c _ _ => c.length
  | .map _ _ => 0
  | .bld _ _ _ => 2
  | .buf _ s _ => s.length

def Con.rw : Con → Bool
  | .cells _ rw _ => rw
  | .map _ rw => rw
  | .bld _ _ rw => rw
  | .buf _ _ rw => rw

def Con.flat : Con → Bool
  | .cells _ _ f => f
  | .map _ _ => false
  | .bld _ _ _ => false
  | .buf _ _ _ => false

def Con.ro : Con → Con
  | .cells c _ f => .cells c false f
  | .map es _ => .map es false
  | .bld T b _ => .bld T b false
  | .buf E s _ => .buf E s false

abbrev Scope := Nat → Option Con
abbrev Mem := List Scope

/-- A scope out of a list. -/
def mk : List (Nat × Con) → Scope
  | [] => fun _ => none
  | (i, c) :: l => fun j => if j = i then some c else mk l j

def setAt (s : Scope) (id : Nat) (x : Option Con) : Scope := fun j => if j = id then x else s j

/-- The block of that depth and name. -/
def ent : Mem → Nat → Nat → Option Con
  | [], _, _ => none
  | s :: M, e, id => if e = M.length then s id else ent M e id

def put : Mem → Nat → Nat → Con → Mem
  | [], _, _, _ => []
  | s :: M, e, id, x => if e = M.length then setAt s id (some x) :: M else s :: put M e id x

/-- The block behind an address, if that is of today. -/
def get (M : Mem) (a : AAddr) : Option Con :=
  match ent M a.dep a.id with
  | some c => if c.size = a.sz then some c else none
  | none => none

def roScope (s : Scope) : Scope := fun j => (s j).map Con.ro

def ro : Mem → Mem
  | [] => []
  | s :: M => roScope s :: ro M

def allocTop (id : Nat) (c : Con) : Mem → Option (AAddr × Mem)
  | [] => none
  | s :: M => match s id with
    | some _ => none
    | none => some (⟨M.length, id, c.size, 0⟩, setAt s id (some c) :: M)

/-- What cells of a block of depth e may name. -/
def lim (fl : Bool) (e : Nat) : Nat := if fl then 0 else e + 1

def mkCells (c : List AV) : Con := .cells c true (AV.unders 0 c)

/-- Is there no nil among the cells, into which an address may come? -/
def AV.noNil : AV → Bool
  | .ptr none | .slice none _ _ | .slice0 _ | .map none | .nilFunc => false
  | _ => true
def AV.noNils : List AV → Bool
  | [] => true
  | v :: l => AV.noNil v && AV.noNils l

/-- Cells of a variable. -/
def mkCellsA (c : List AV) : Con := .cells c true (AV.unders 0 c && AV.noNils c)

/- Hidden blocks: the names in h are taken out of the uppermost scope, and laid back. -/
def without (h : List Nat) (s : Scope) : Scope := fun j => if h.contains j then none else s j
def only (h : List Nat) (s : Scope) : Scope := fun j => if h.contains j then s j else none
def join (h : List Nat) (s s' : Scope) : Scope := fun j => if h.contains j then s j else s' j

inductive Opd where
  | t (n : Nat)
  | c (v : AV)
  | g (n sz : Nat)
  | f (n : Nat)
  deriving Inhabited

def gid (g : Nat) : Nat := 1000000 + g

/-- The kinds of types that are held against nil. -/
inductive NilK where
  | ptr | slice | map | func
  deriving Inhabited

/-- Operations that neither read nor write memory. -/
inductive POp where
  | mv (x : Opd)
  | mvStr (x : Opd)
  | pick (c a b : Opd)
  | bin (op : BinOp) (x y : Opd)
  | eqb (neg : Bool) (x y : Opd)
  | eqn (k : NilK) (neg : Bool) (x y : Opd)
  | eqa (ks : List Nat) (neg : Bool) (x y : Opd)
  | un (op : UnOp) (x : Opd)
  | conv (k : IntKind) (x : Opd)
  | build (zero : List AV) (parts : List (Nat × Nat × Opd))
  | faddr (off : Nat) (x : Opd)
  | field1 (off : Nat) (x : Opd)
  | fieldN (off n : Nat) (x : Opd)
  | iaddrA (len esz : Nat) (x i : Opd)
  | iaddrS (esz : Nat) (x i : Opd)
  | idxStr (x i : Opd)
  | idxA (len : Nat) (x i : Opd)
  | idxAN (len esz : Nat) (x i : Opd)
  | slcStr (x : Opd) (lo hi : Option Opd)
  | slcS (esz : Nat) (x : Opd) (lo hi mx : Option Opd)
  | slcA (n esz : Nat) (x : Opd) (lo hi : Option Opd)
  | extract (x : Opd) (i : Nat)
  | mkFunc (f : Nat) (first captured : List Opd)
  | lenV (sl : Bool) (x : Opd)
  | konst (v : AV)
  | minmax (mx : Bool) (x y : Opd)
  | minmax3 (mx : Bool) (x y z : Opd)
  | minmax4 (mx : Bool) (x y z u : Opd)
  | arrPtr (n : Nat) (x : Opd)
  | nilChk (x : Opd)
  | bad
  deriving Inhabited

/-- Operations that make a block. -/
inductive AOp where
  | toBytes (x : Opd)
  | alloc (cells : List AV)
  | box (x : Opd)
  | buildS (esz len : Nat) (zero : List AV) (parts : List (Nat × Nat × Opd))
  | mkSlice (esz bytes : Nat) (zero : List AV) (len cap : Opd)
  | mkMap
  deriving Inhabited

/-- Operations that read memory. -/
inductive ROp where
  | load1 (x : Opd)
  | loadN (n : Nat) (x : Opd)
  | toStr (x : Opd)
  | lookup (sk : Bool) (zero : AV) (x k : Opd) (ok : Bool)
  | lenM (x : Opd)
  | loadT (i : Nat) (x : Opd)
  deriving Inhabited

/-- Operations that write memory. -/
inductive WOp where
  | store1 (x v : Opd)
  | storeN (n : Nat) (x v : Opd)
  | append (id esz bytes : Nat) (x y : Opd)
  | copy (esz : Nat) (x y : Opd)
  | mapSet (sk : Bool) (m k v : Opd)
  deriving Inhabited

/-- Operations on a strings.Builder of type T over bytes of type E: a new one; a call of the function i, which writes, or which tells what was written. -/
inductive BOp where
  | new (T : Nat)
  | write (i T E : Nat) (f : Opd) (args : List Opd)
  | str (i T E : Nat) (f : Opd) (args : List Opd)
  deriving Inhabited

inductive SOp where
  | p (o : POp)
  | a (id : Nat) (o : AOp)
  | r (o : ROp)
  | w (o : WOp)
  | call (id n : Nat) (quiet : Bool) (f : Opd) (args : List Opd)
  | b (id : Nat) (o : BOp)
  deriving Inhabited

/-- One operation: where its value goes, under which guard it runs, which blocks of its own scope it must not see. -/
structure SOper where
  dst : Option Nat
  guard : Option (Nat × Bool)
  hide : List Nat
  op : SOp
  deriving Inhabited

inductive SCode where
  | skip
  | region (ops : List SOper)
  | regionF (ops : List SOper) (far : List (Nat × Nat))
  | seq (a b : SCode)
  | cond (c : Opd) (thn els : SCode)
  | block (id : Nat) (body : SCode)
  | loop (keep after : List Nat) (body : SCode)
  | exit (id : Nat)
  | ret
  deriving Inhabited

/-- Temporaries: what each holds. -/
abbrev Env := List AV

def Env.get (e : Env) (t : Nat) : AV := (e[t]?).getD .undef

def opd (e : Env) : Opd → AV
  | .t n => e.get n
  | .c v => v
  | .g n sz => .ptr (some ⟨0, gid n, sz, 0⟩)
  | .f n => .func n [] []

def opds (e : Env) : List Opd → List AV
  | [] => []
  | x :: l => opd e x :: opds e l

/-! ### values -/

def aint (op : BinOp) (k : IntKind) (a b : Int) : Option AV :=
  match op with
  | .add => some (.int k (k.wrap (a + b)))
  | .sub => some (.int k (k.wrap (a - b)))
  | .mul => some (.int k (k.wrap (a * b)))
  | .quo => if b = 0 then none else some (.int k (k.wrap (a.tdiv b)))
  | .rem => if b = 0 then none else some (.int k (a.tmod b))
  | .and => some (.int k (k.wrap (BitVec.ofInt k.bits a &&& BitVec.ofInt k.bits b).toNat))
  | .or => some (.int k (k.wrap (BitVec.ofInt k.bits a ||| BitVec.ofInt k.bits b).toNat))
  | .xor => some (.int k (k.wrap (BitVec.ofInt k.bits a ^^^ BitVec.ofInt k.bits b).toNat))
  | .andNot => some (.int k (k.wrap (BitVec.ofInt k.bits a &&& ~~~ BitVec.ofInt k.bits b).toNat))
  | .eql => some (.bool (a == b))
  | .neq => some (.bool (a != b))
  | .lss => some (.bool (decide (a < b)))
  | .leq => some (.bool (decide (a ≤ b)))
  | .gtr => some (.bool (decide (a > b)))
  | .geq => some (.bool (decide (a ≥ b)))
  | .shl | .shr => none

def ashift (op : BinOp) (k : IntKind) (a b : Int) : Option AV :=
  if b < 0 then none else
  match op with
  | .shl => some (.int k (k.wrap (a * 2 ^ (min b.toNat k.bits))))
  | .shr => some (.int k (a.fdiv (2 ^ (min b.toNat k.bits))))
  | _ => none

def astr (op : BinOp) (a b : List UInt8) : Option AV :=
  match op with
  | .add => if a.length + b.length ≤ 2 ^ 62 then some (.str (a ++ b)) else none
  | .eql => some (.bool (a == b))
  | .neq => some (.bool !(a == b))
  | _ => none

def abin (op : BinOp) (x y : AV) : Option AV :=
  match x, y with
  | .int k a, .int k' b =>
    match op with
    | .shl | .shr => ashift op k a b
    | _ => if k = k' then aint op k a b else none
  | .str a, .str b => astr op a b
  | _, _ => none

/-- Plain cells that are alike; 'none': cells that can't be held against each other here. -/
def acell : AV → AV → Option Bool
  | .int k a, .int k' b => if k = k' then some (a == b) else none
  | .bool a, .bool b => some (a == b)
  | .str a, .str b => some (a == b)
  | _, _ => none

def acells : List AV → List AV → Option Bool
  | [], [] => some true
  | x :: l, y :: m => match acell x y, acells l m with
    | some a, some b => some (a && b)
    | _, _ => none
  | _, _ => none

/-- The kind of a cell that is held against another one. -/
def avK : AV → Nat
  | .int _ _ => 0
  | .str _ => 1
  | .bool _ => 2
  | _ => 3

def isNil : NilK → AV → Option Bool
  | .ptr, .ptr a => some a.isNone
  | .slice, .slice a _ _ => some a.isNone
  | .slice, .slice0 _ => some false
  | .map, .map a => some a.isNone
  | .func, .nilFunc => some true
  | .func, .func _ _ _ => some false
  | _, _ => none

/-- A pointer, slice, map or function against nil, on either side. -/
def anil (k : NilK) (x y : AV) : Option Bool :=
  match isNil k x, isNil k y with
  | some true, some b => some b
  | some b, some true => some b
  | _, _ => none

def aun (op : UnOp) (x : AV) : Option AV :=
  match op, x with
  | .neg, .int k n => some (.int k (k.wrap (0 - n)))
  | .xor, .int k n => some (.int k (k.wrap (BitVec.ofInt k.bits (if k.signed then -1 else k.max) ^^^ BitVec.ofInt k.bits n).toNat))
  | .not, .bool b => some (.bool !b)
  | _, _ => none

def byteAV (b : UInt8) : AV := .int .u8 b.toNat

def byteOf : AV → Option UInt8
  | .int .u8 n => some (UInt8.ofNat n.toNat)
  | _ => none

def bytesOf : List AV → Option (List UInt8)
  | [] => some []
  | v :: l => match byteOf v, bytesOf l with
    | some b, some m => some (b :: m)
    | _, _ => none

def asI : AV → Option Int
  | .int _ n => some n
  | _ => none

def scalar : AV → Bool
  | .agg _ | .tuple _ | .dead => false
  | _ => true

def cellsOf : AV → Option (List AV)
  | .agg l => some l
  | .tuple _ | .dead => none
  | v => some [v]

def rep (n : Nat) (zero : List AV) : List AV :=
  match zero with
  | [z] => List.replicate n z
  | _ => (List.range (n * zero.length)).map fun i => (zero[i % zero.length]?).getD .dead

/-- Parts laid into cells. -/
def fillA (e : Env) (cells : List AV) : List (Nat × Nat × Opd) → Option (List AV)
  | [] => some cells
  | (off, size, x) :: rest =>
    match cellsOf (opd e x) with
    | some cs => if cs.length = size ∧ off + size ≤ cells.length then fillA e (cells.take off ++ cs ++ cells.drop (off + size)) rest else none
    | none => none

/-- The bounds of a slice expression: low, high. -/
def bound (e : Env) (most : Nat) : Option Opd → Nat → Option Nat
  | none, dflt => some dflt
  | some x, _ => match opd e x with
    | .int _ i => if 0 ≤ i ∧ i ≤ most then some i.toNat else none
    | _ => none

/-- The cells that are appended or copied. -/
def srcCells (M : Mem) (n esz : Nat) : AV → Option (List AV)
  | .slice (some a) m e => match get M a with
    | some (.cells c _ _) => if n ≤ m ∧ e = esz ∧ a.off + n * esz ≤ c.length then some ((c.drop a.off).take (n * esz)) else none
    | _ => none
  | .slice none _ _ => if n = 0 then some [] else none
  | .slice0 _ => if n = 0 then some [] else none
  | .str s => if esz = 1 ∧ n ≤ s.length then some ((s.take n).map byteAV) else none
  | _ => none

def amm (mx : Bool) (x : Option AV) (y : AV) : Option AV :=
  match x, y with
  | some (.int k a), .int k' b => if k = k' then some (.int k (if mx then (if a < b then b else a) else if b < a then b else a)) else none
  | _, _ => none

def lenA : AV → Option Nat
  | .slice _ n _ => some n
  | .slice0 _ => some 0
  | .str s => some s.length
  | _ => none

/-! ### maps -/

def sameKey : AV → AV → Option Bool
  | .int k a, .int k' b => if k = k' then some (a == b) else none
  | .str a, .str b => some (a == b)
  | _, _ => none

/-- Is it a key of the map's kind? -/
def keyOk : Bool → AV → Bool
  | true, .str _ => true
  | false, .int _ _ => true
  | _, _ => false

/-- 'none': cannot tell; 'some none': not there. -/
def findIn (k : AV) : List (AV × AV) → Option (Option AV)
  | [] => some none
  | (x, v) :: es => match sameKey k x with
    | some true => some (some v)
    | some false => findIn k es
    | none => none

def setIn (k v : AV) : List (AV × AV) → List (AV × AV)
  | [] => [(k, v)]
  | (x, u) :: es => match sameKey k x with
    | some true => (k, v) :: es
    | _ => (x, u) :: setIn k v es

/-! ### what a call gives: blocks of the callee's own that its value names are handed over -/

/-- The callee's blocks that a value names become the blocks number j, j + 1, .. of what is handed over. -/
def mark (n : Nat) : Con := .map [(.int .i64 n, .dead)] false

/-- A block that was handed over already (in its place stands what no block is): its number there. -/
def unmark : Con → Option Nat
  | .map ((.int .i64 n, .dead) :: _) _ => some n.toNat
  | _ => none

def exp2 (d : Nat) (s : Scope) (cs : List Con) (a : AAddr) : Option Nat → Con → Option (AAddr × Scope × List Con)
  | some j, _ => match cs[j]? with
    | some c => if c.size = a.sz then some (⟨d, j, a.sz, a.off⟩, s, cs) else none
    | none => none
  | none, c => if c.size = a.sz ∧ c.flat = true then some (⟨d, cs.length, a.sz, a.off⟩, setAt s a.id (some (mark cs.length)), cs ++ [c]) else none

def exp1 (d : Nat) (s : Scope) (cs : List Con) (a : AAddr) : Option (AAddr × Scope × List Con) :=
  if a.dep < d then some (a, s, cs) else
  if a.dep = d then
    match s a.id with
    | some c => exp2 d s cs a (unmark c) c
    | none => none
  else none

def expC (d : Nat) (s : Scope) (cs : List Con) : AV → Option (AV × Scope × List Con)
  | .ptr (some a) => match exp1 d s cs a with | some (b, s, cs) => some (.ptr (some b), s, cs) | none => none
  | .slice (some a) n e => match exp1 d s cs a with | some (b, s, cs) => some (.slice (some b) n e, s, cs) | none => none
  | .func _ _ _ => none
  | v => if v.under d then some (v, s, cs) else none

def expL (d : Nat) : Scope → List Con → List AV → Option (List AV × Scope × List Con)
  | s, cs, [] => some ([], s, cs)
  | s, cs, v :: l => match expC d s cs v with
    | some (v, s, cs) => match expL d s cs l with
      | some (l, s, cs) => some (v :: l, s, cs)
      | none => none
    | none => none

def expV (d : Nat) (s : Scope) (cs : List Con) : AV → Option (AV × Scope × List Con)
  | .agg l => match expL d s cs l with | some (l, s, cs) => some (.agg l, s, cs) | none => none
  | v => expC d s cs v

def expVL (d : Nat) : Scope → List Con → List AV → Option (List AV × Scope × List Con)
  | s, cs, [] => some ([], s, cs)
  | s, cs, v :: l => match expV d s cs v with
    | some (v, s, cs) => match expVL d s cs l with
      | some (l, s, cs) => some (v :: l, s, cs)
      | none => none
    | none => none

def expAll (d : Nat) (s : Scope) : AV → Option (AV × List Con)
  | .tuple l => match expVL d s [] l with | some (l, _, cs) => some (.tuple l, cs) | none => none
  | v => match expV d s [] v with | some (v, _, cs) => some (v, cs) | none => none

/-- What was handed over gets names in the caller's scope: base, base + 1, .. -/
def take1 (d base : Nat) (a : AAddr) : AAddr := if a.dep = d + 1 then ⟨d, base + a.id, a.sz, a.off⟩ else a

mutual
def takeV (d base : Nat) : AV → AV
  | .ptr (some a) => .ptr (some (take1 d base a))
  | .slice (some a) n e => .slice (some (take1 d base a)) n e
  | .agg l => .agg (takeVL d base l)
  | .tuple l => .tuple (takeVL d base l)
  | v => v
def takeVL (d base : Nat) : List AV → List AV
  | [] => []
  | v :: l => takeV d base v :: takeVL d base l
end

def takeC (base : Nat) : List Con → Scope → Option Scope
  | [], s => some s
  | c :: cs, s => match s base with
    | some _ => none
    | none => takeC (base + 1) cs (setAt s base (some c))

abbrev Calls := Nat → List AV → Mem → Option (AV × List Con × Mem)

/-- A function of the program: its code, how many temporaries it has, where its results stand. -/
structure SFunc where
  body : SCode
  nt : Nat
  res : List (Sum Nat (Nat × Nat × Bool))
  deriving Inhabited

structure SProg where
  fn : Nat → Option SFunc
  ora : Calls

def evP (op : POp) (e : Env) : Option AV :=
  match op with
  | .mv x => some (opd e x)
  | .mvStr x => match opd e x with
    | .str s => some (.str s)
    | _ => none
  | .pick c a b => match opd e c with
    | .bool t => some (if t then opd e a else opd e b)
    | _ => none
  | .bin op x y => abin op (opd e x) (opd e y)
  | .eqb neg x y => match opd e x, opd e y with
    | .bool a, .bool b => some (.bool (if neg then !(a == b) else a == b))
    | _, _ => none
  | .eqn k neg x y => match anil k (opd e x) (opd e y) with
    | some b => some (.bool (if neg then !b else b))
    | none => none
  | .eqa ks neg x y => match opd e x, opd e y with
    | .agg a, .agg b => if a.map avK = ks then match acells a b with
      | some r => some (.bool (if neg then !r else r))
      | none => none
      else none
    | _, _ => none
  | .un op x => aun op (opd e x)
  | .conv k x => match opd e x with
    | .int _ n => some (.int k (k.wrap n))
    | _ => none
  | .build zero parts => match fillA e zero parts with
    | some cs => some (.agg cs)
    | none => none
  | .faddr off x => match opd e x with
    | .ptr (some a) => some (.ptr (some { a with off := a.off + off }))
    | _ => none
  | .field1 off x => match opd e x with
    | .agg cs => cs[off]?
    | _ => none
  | .fieldN off n x => match opd e x with
    | .agg cs => if off + n ≤ cs.length then some (.agg ((cs.drop off).take n)) else none
    | _ => none
  | .iaddrA len esz x i => match opd e x, opd e i with
    | .ptr (some a), .int _ i => if 0 ≤ i ∧ i < (len : Int) then some (.ptr (some { a with off := a.off + i.toNat * esz })) else none
    | _, _ => none
  | .iaddrS esz x i => match opd e x, opd e i with
    | .slice (some a) n s, .int _ i => if s = esz ∧ 0 ≤ i ∧ i < (n : Int) then some (.ptr (some { a with off := a.off + i.toNat * esz })) else none
    | _, _ => none
  | .idxStr x i => match opd e x, opd e i with
    | .str s, .int _ i => if 0 ≤ i then match s[i.toNat]? with
      | some b => some (byteAV b)
      | none => none
      else none
    | _, _ => none
  | .idxA len x i => match opd e x, opd e i with
    | .agg cs, .int _ i => if 0 ≤ i ∧ i < (len : Int) then cs[i.toNat]? else none
    | _, _ => none
  | .idxAN len esz x i => match opd e x, opd e i with
    | .agg cs, .int _ i => if 0 ≤ i ∧ i < (len : Int) ∧ i.toNat * esz + esz ≤ cs.length then some (.agg ((cs.drop (i.toNat * esz)).take esz)) else none
    | _, _ => none
  | .slcStr x lo hi => match opd e x with
    | .str s => match bound e s.length hi s.length with
      | some h => match bound e h lo 0 with
        | some l => some (.str ((s.take h).drop l))
        | none => none
      | none => none
    | _ => none
  | .slcS esz x lo hi mx => match opd e x with
    | .slice (some a) n s =>
      if s = esz then
        match mx with
        | some _ => match bound e 0 lo 0, bound e 0 hi 1, bound e 0 mx 1 with
          | some 0, some 0, some 0 => some (.slice0 esz)
          | _, _, _ => none
        | none => match bound e n hi n with
          | some h => match bound e h lo 0 with
            | some l => some (.slice (some { a with off := a.off + l * esz }) (h - l) esz)
            | none => none
          | none => none
      else none
    | .slice none _ _ => match bound e 0 lo 0, bound e 0 hi (if mx.isSome then 1 else 0), bound e 0 mx 0 with
      | some 0, some 0, some 0 => some (.slice none 0 esz)
      | _, _, _ => none
    | .slice0 _ => match bound e 0 lo 0, bound e 0 hi (if mx.isSome then 1 else 0), bound e 0 mx 0 with
      | some 0, some 0, some 0 => some (.slice0 esz)
      | _, _, _ => none
    | _ => none
  | .slcA n esz x lo hi => match opd e x with
    | .ptr (some a) => match bound e n hi n with
      | some h => match bound e h lo 0 with
        | some l => if a.off + n * esz ≤ a.sz then some (.slice (some { a with off := a.off + l * esz }) (h - l) esz) else none
        | none => none
      | none => none
    | _ => none
  | .extract x i => match opd e x with
    | .tuple l => l[i]?
    | _ => none
  | .mkFunc f first captured => if (opds e first).all scalar = true ∧ (opds e captured).all scalar = true then some (.func f (opds e first) (opds e captured)) else none
  | .lenV sl x => match sl, opd e x with
    | true, .slice _ n _ => some (.int .i64 n)
    | true, .slice0 _ => some (.int .i64 0)
    | false, .str s => some (.int .i64 s.length)
    | _, _ => none
  | .konst v => some v
  | .minmax mx x y => amm mx (some (opd e x)) (opd e y)
  | .minmax3 mx x y z => amm mx (amm mx (some (opd e x)) (opd e y)) (opd e z)
  | .minmax4 mx x y z u => amm mx (amm mx (amm mx (some (opd e x)) (opd e y)) (opd e z)) (opd e u)
  | .arrPtr n x => match opd e x with
    | .slice (some a) m _ => if n ≤ m ∧ 0 < n then some (.ptr (some a)) else none
    | _ => none
  | .nilChk x => match opd e x with
    | .ptr (some a) => some (.ptr (some a))
    | .func f a b => some (.func f a b)
    | _ => none
  | .bad => none

/-- What a new block holds, and the value made of its address. -/
def evA (op : AOp) (e : Env) : Option (Con × (AAddr → AV)) :=
  match op with
  | .toBytes x => match opd e x with
    | .str s => if s.length ≤ 2 ^ 45 then some (.cells (s.map byteAV) true true, fun a => .slice (some a) s.length 1) else none
    | _ => none
  | .alloc cells => some (mkCellsA cells, fun a => .ptr (some a))
  | .box x => match cellsOf (opd e x) with
    | some cs => some (mkCellsA cs, fun a => .ptr (some a))
    | none => none
  | .buildS esz len zero parts => match fillA e (rep len zero) parts with
    | some cs => if cs.length = len * esz then some (mkCells cs, fun a => .slice (some a) len esz) else none
    | none => none
  | .mkSlice esz bytes zero len cap => match opd e len, opd e cap with
    | .int .i64 n, .int .i64 c =>
      if 0 ≤ n ∧ n ≤ c ∧ c ≤ 2 ^ 45 ∧ c * bytes ≤ 2 ^ 45 ∧ zero.length = esz ∧ 0 < esz then
        some (mkCells (rep n.toNat zero), fun a => .slice (some a) n.toNat esz)
      else none
    | _, _ => none
  | .mkMap => some (.map [] true, fun a => .map (some a))

def evR (op : ROp) (e : Env) (M : Mem) : Option AV :=
  match op with
  | .load1 x => match opd e x with
    | .ptr (some a) => match get M a with
      | some (.cells c _ _) => c[a.off]?
      | _ => none
    | _ => none
  | .loadN n x => match opd e x with
    | .ptr (some a) => match get M a with
      | some (.cells c _ _) => if a.off + n ≤ c.length then some (.agg ((c.drop a.off).take n)) else none
      | _ => none
    | _ => none
  | .toStr x => match opd e x with
    | .slice none _ _ => some (.str [])
    | .slice (some a) n s => match srcCells M n 1 (.slice (some a) n s) with
      | some c => match bytesOf c with
        | some s => some (.str s)
        | none => none
      | none => none
    | _ => none
  | .lookup sk zero x k ok => if keyOk sk (opd e k) = false then none else match opd e x with
    | .map none => some (if ok then .tuple [zero, .bool false] else zero)
    | .map (some a) => match get M a with
      | some (.map es _) => match findIn (opd e k) es with
        | some (some v) => some (if ok then .tuple [v, .bool true] else v)
        | some none => some (if ok then .tuple [zero, .bool false] else zero)
        | none => none
      | _ => none
    | _ => none
  | .lenM x => match opd e x with
    | .map none => some (.int .i64 0)
    | .map (some a) => match get M a with
      | some (.map es _) => some (.int .i64 es.length)
      | _ => none
    | _ => none
  | .loadT i x => match opd e x with
    | .ptr (some a) => if a.id = i ∧ a.dep + 1 = M.length then match get M a with
      | some (.cells c _ _) => c[a.off]?
      | _ => none
      else none
    | _ => none

def evW (op : WOp) (e : Env) (M : Mem) : Option (AV × Mem) :=
  match op with
  | .store1 x v => match opd e x with
    | .ptr (some a) => match get M a with
      | some (.cells c true fl) =>
        if scalar (opd e v) ∧ a.off < c.length ∧ (opd e v).under (lim fl a.dep) then
          some (.undef, put M a.dep a.id (.cells (c.set a.off (opd e v)) true fl))
        else none
      | _ => none
    | _ => none
  | .storeN n x v => match opd e x with
    | .ptr (some a) => match get M a with
      | some (.cells c true fl) => match opd e v with
        | .agg cs =>
          if cs.length = n ∧ a.off + n ≤ c.length ∧ AV.unders (lim fl a.dep) cs then
            some (.undef, put M a.dep a.id (.cells (c.take a.off ++ cs ++ c.drop (a.off + n)) true fl))
          else none
        | _ => none
      | _ => none
    | _ => none
  | .append id esz bytes x y => match lenA (opd e y) with
    | none => none
    | some m => match srcCells M m esz (opd e y) with
      | none => none
      | some new => match opd e x with
        | .slice none _ _ => if m = 0 then some (.slice none 0 esz, M) else
          if m * bytes ≤ 2 ^ 45 ∧ m ≤ 2 ^ 45 then match allocTop id (mkCells new) M with
            | some (a, M) => some (.slice (some a) m esz, M)
            | none => none
          else none
        | .slice0 _ => if m = 0 then some (.slice0 esz, M) else
          if m * bytes ≤ 2 ^ 45 ∧ m ≤ 2 ^ 45 then match allocTop id (mkCells new) M with
            | some (a, M) => some (.slice (some a) m esz, M)
            | none => none
          else none
        | .slice (some a) n s => match get M a with
          | some (.cells c true fl) =>
            if s = esz ∧ a.off = 0 ∧ n * esz = c.length ∧ (n + m) * bytes ≤ 2 ^ 45 ∧ n + m ≤ 2 ^ 45 ∧ AV.unders (lim fl a.dep) new then
              some (.slice (some { a with sz := c.length + new.length }) (n + m) esz, put M a.dep a.id (.cells (c ++ new) true fl))
            else none
          | _ => none
        | _ => none
  | .copy esz x y => match lenA (opd e x), lenA (opd e y) with
    | some n, some m => match srcCells M (min m n) esz (opd e y) with
      | some new => match opd e x with
        | .slice (some a) _ s => match get M a with
          | some (.cells c true fl) =>
            if s = esz ∧ a.off + min m n * esz ≤ c.length ∧ AV.unders (lim fl a.dep) new then
              some (.int .i64 (min m n : Nat), put M a.dep a.id (.cells (c.take a.off ++ new ++ c.drop (a.off + new.length)) true fl))
            else none
          | _ => none
        | .slice none _ _ => some (.int .i64 0, M)
        | .slice0 _ => some (.int .i64 0, M)
        | _ => none
      | none => none
    | _, _ => none
  | .mapSet sk m k v => if keyOk sk (opd e k) = false then none else match opd e m with
    | .map (some a) => match get M a with
      | some (.map es true) => match findIn (opd e k) es with
        | some _ => if scalar (opd e v) ∧ (opd e v).under 0 then some (.undef, put M a.dep a.id (.map (setIn (opd e k) (opd e v) es) true)) else none
        | none => none
      | _ => none
    | _ => none

def callOp (C : Calls) (id n : Nat) (quiet : Bool) (f : AV) (args : List AV) (M : Mem) : Option (AV × Mem) :=
  match f with
  | .func i first captured =>
    match C i (first ++ args ++ captured) (if quiet then ro M else M) with
    | some (v, cs, M') =>
      match (if quiet then M else M') with
      | s :: M0 => if cs.length ≤ n ∧ M0.length + 1 = M.length then match takeC id cs s with
        | some s' => some (takeV M0.length id v, s' :: M0)
        | none => none
        else none
      | [] => none
    | none => none
  | _ => none

/-- Bytes behind what a buffer holds. -/
def bApp (id E : Nat) (buf : AV) (s : List UInt8) (M : Mem) : Option (AV × Mem) :=
  match buf with
  | .slice none _ _ => if s.length = 0 then some (.slice none 0 1, M) else
    if s.length ≤ 2 ^ 45 then match allocTop id (.buf E s true) M with
      | some (a, M) => some (.slice (some a) s.length 1, M)
      | none => none
    else none
  | .slice (some a) n e => match get M a with
    | some (.buf E' c true) => if E' = E ∧ e = 1 ∧ a.off = 0 ∧ n = c.length ∧ 0 < n ∧ c.length + s.length ≤ 2 ^ 45 then
        some (.slice (some { a with sz := c.length + s.length }) (n + s.length) 1, put M a.dep a.id (.buf E (c ++ s) true))
      else none
    | _ => none
  | _ => none

def bWrite (id T E : Nat) (args : List AV) (M : Mem) : Option (AV × Mem) :=
  match args with
  | [.ptr (some p), .str s] => match get M p with
    | some (.bld T' buf true) => if T' = T ∧ p.off = 0 then
        match bApp id E buf s M with
        | some (buf', M') => if AV.under (p.dep + 1) buf' = true then some (.dead, put M' p.dep p.id (.bld T buf' true)) else none
        | none => none
      else none
    | _ => none
  | _ => none

def bStr (T E : Nat) (args : List AV) (M : Mem) : Option AV :=
  match args with
  | [.ptr (some p)] => match get M p with
    | some (.bld T' buf _) => if T' = T ∧ p.off = 0 then
        match buf with
        | .slice none _ _ => some (.str [])
        | .slice (some a) n e => match get M a with
          | some (.buf E' c true) => if E' = E ∧ e = 1 ∧ a.off = 0 ∧ n = c.length ∧ 0 < n ∧ n ≤ 2 ^ 45 then some (.str c) else none
          | _ => none
        | _ => none
      else none
    | _ => none
  | _ => none

/-- What the function i is called with. -/
def bArgs (i : Nat) (f : AV) (args : List AV) : Option (List AV) :=
  match f with
  | .func j first captured => if j = i then some (first ++ args ++ captured) else none
  | _ => none

def evB (id : Nat) (o : BOp) (e : Env) (M : Mem) : Option (AV × Mem) :=
  match o with
  | .new T => match allocTop id (.bld T (.slice none 0 1) true) M with
    | some (a, M) => some (.ptr (some a), M)
    | none => none
  | .write i T E f args => match bArgs i (opd e f) (opds e args) with
    | some l => bWrite id T E l M
    | none => none
  | .str i T E f args => match bArgs i (opd e f) (opds e args) with
    | some l => match bStr T E l M with
      | some v => some (v, M)
      | none => none
    | none => none

def evOp (C : Calls) (op : SOp) (e : Env) (M : Mem) : Option (AV × Mem) :=
  match op with
  | .p o => match evP o e with
    | some v => some (v, M)
    | none => none
  | .a id o => match evA o e with
    | some (c, f) => match allocTop id c M with
      | some (a, M) => some (f a, M)
      | none => none
    | none => none
  | .r o => match evR o e M with
    | some v => some (v, M)
    | none => none
  | .w o => evW o e M
  | .call id n quiet f args => callOp C id n quiet (opd e f) (opds e args) M
  | .b id o => evB id o e M

/-! ### code -/

inductive Ex where
  | normal
  | exit (id : Nat)
  | ret
  deriving DecidableEq, Inhabited

def setDst (e : Env) : Option Nat → AV → Env
  | some d, v => e.set d v
  | none, _ => e

/-- Does the guard let the operation run? 'none': it cannot be told. -/
def wants (e : Env) : Option (Nat × Bool) → Option Bool
  | none => some true
  | some (t, want) => match e.get t with
    | .bool b => some (b == want)
    | .tuple [] => some false
    | _ => none

def evOper (C : Calls) (o : SOper) (e : Env) (M : Mem) : Option (Env × Mem) :=
  match wants e o.guard with
  | some true =>
    match o.hide with
    | [] => match evOp C o.op e M with
      | some (v, M) => some (setDst e o.dst v, M)
      | none => none
    | x :: h => match M with
      | [] => none
      | s :: M0 => match evOp C o.op e (without (x :: h) s :: M0) with
        | some (v, s' :: M0') => some (setDst e o.dst v, join (x :: h) s s' :: M0')
        | _ => none
  | some false => some (setDst e o.dst .undef, M)
  | none => none

def evOps (C : Calls) : List SOper → Env → Mem → Option (Env × Mem)
  | [], e, M => some (e, M)
  | o :: l, e, M => match evOper C o e M with
    | some (e, M) => evOps C l e M
    | none => none

/- What a round begins with: the temporaries in 'keep', and the blocks of the scope that these name, straight or through others. -/
def keepEnv (keep : List Nat) : Nat → Env → Env
  | _, [] => []
  | n, v :: e => (if keep.contains n then v else .dead) :: keepEnv keep (n + 1) e

def conIds (d : Nat) : Con → List Nat
  | .cells c _ fl => if fl then [] else AV.idss d c
  | .map _ _ => []
  | .bld _ b _ => AV.ids d b
  | .buf _ _ _ => []

def scopeIds (d : Nat) (s : Scope) : List Nat → List Nat
  | [] => []
  | r :: l => match s r with
    | some c => conIds d c ++ scopeIds d s l
    | none => scopeIds d s l

def envIds (d : Nat) (e : Env) : List Nat → List Nat
  | [] => []
  | t :: l => AV.ids d (e.get t) ++ envIds d e l

def gc (keep : List Nat) (e : Env) (M : Mem) : Option (Env × Mem) :=
  match M with
  | [] => none
  | s :: M0 =>
    let r1 := envIds M0.length e keep
    let r2 := r1 ++ scopeIds M0.length s r1
    if (scopeIds M0.length s r2).all r2.contains then some (keepEnv keep 0 e, only r2 s :: M0) else none

def evLoop (keep : List Nat) (body : Env → Mem → Option (Ex × Env × Mem)) : Nat → Env → Mem → Option (Ex × Env × Mem)
  | 0, _, _ => none
  | n + 1, e, M => match gc keep e M with
    | none => none
    | some (e, M) => match body e M with
      | some (.normal, e, M) => evLoop keep body n e M
      | r => r

def rounds : Nat := 2 ^ 50

/-- Behind a loop: what is not named any more is forgotten. -/
def fgt (after : List Nat) (r : Option (Ex × Env × Mem)) : Option (Ex × Env × Mem) :=
  match r with
  | some (ex, e, M) => match gc after e M with
    | some (e, M) => some (ex, e, M)
    | none => none
  | none => none

/-- The block that a value names. -/
def adr : AV → Option (Nat × Nat)
  | .ptr (some a) | .slice (some a) _ _ => some (a.dep, a.id)
  | _ => none

/-- Two values name unlike blocks. -/
def apartO (v w : AV) : Bool :=
  match adr v, adr w with
  | some a, some b => decide (a.1 ≠ b.1) || decide (a.2 ≠ b.2)
  | _, _ => true

def farOk (e : Env) (far : List (Nat × Nat)) : Bool := far.all fun p => apartO (e.get p.1) (e.get p.2)

def evC (C : Calls) : SCode → Env → Mem → Option (Ex × Env × Mem)
  | .skip, e, M => some (.normal, e, M)
  | .region ops, e, M => match evOps C ops e M with
    | some (e, M) => some (.normal, e, M)
    | none => none
  | .regionF ops far, e, M => match evOps C ops e M with
    | some (e, M) => if farOk e far = true then some (.normal, e, M) else none
    | none => none
  | .seq a b, e, M => match evC C a e M with
    | some (.normal, e, M) => evC C b e M
    | r => r
  | .cond c x y, e, M => match opd e c with
    | .bool true => evC C x e M
    | .bool false => evC C y e M
    | _ => none
  | .block id c, e, M => match evC C c e M with
    | some (.exit i, e, M) => if i = id then some (.normal, e, M) else some (.exit i, e, M)
    | r => r
  | .loop keep after c, e, M => fgt after (evLoop keep (evC C c) rounds e M)
  | .exit id, e, M => some (.exit id, e, M)
  | .ret, e, M => some (.ret, e, M)

def resV (e : Env) (M : Mem) : Sum Nat (Nat × Nat × Bool) → Option AV
  | .inl t => some (e.get t)
  | .inr (t, n, agg) => match e.get t with
    | .ptr (some a) => match get M a with
      | some (.cells c _ _) => if agg then (if a.off + n ≤ c.length then some (.agg ((c.drop a.off).take n)) else none) else c[a.off]?
      | _ => none
    | _ => none

/-- A value that may be one of several results. -/
def okRes : AV → Bool
  | .tuple _ | .dead => false
  | _ => true

def resVs (e : Env) (M : Mem) : List (Sum Nat (Nat × Nat × Bool)) → Option (List AV)
  | [] => some []
  | r :: l => match resV e M r, resVs e M l with
    | some v, some l => some (v :: l)
    | _, _ => none

def resOf (e : Env) (M : Mem) (l : List (Sum Nat (Nat × Nat × Bool))) : Option AV :=
  match resVs e M l with
  | some [v] => some v
  | some l => if l.all okRes then some (.tuple l) else none
  | none => none

/-- The end of a call: its value, what is handed over, the memory of the caller. -/
def leave (res : List (Sum Nat (Nat × Nat × Bool))) (e : Env) : Mem → Option (AV × List Con × Mem)
  | [] => none
  | s :: M => match resOf e (s :: M) res with
    | some v => match expAll M.length s v with
      | some (v, cs) => some (v, cs, M)
      | none => none
    | none => none

/-- A call, with the calls that it makes. -/
def runFn (C : Calls) (fn : SFunc) (args : List AV) (M : Mem) : Option (AV × List Con × Mem) :=
  if fn.nt < args.length then none else
  match evC C fn.body (args ++ List.replicate (fn.nt - args.length) .undef) (mk [] :: M) with
  | some (.normal, e, M) | some (.ret, e, M) => leave fn.res e M
  | _ => none

/-- A call: depth 'k' of calls at most. -/
def callFn (SP : SProg) : Nat → Calls
  | 0, _, _, _ => none
  | k + 1, f, args, M => match SP.fn f with
    | none => SP.ora f args M
    | some fn => runFn (callFn SP k) fn args M

end Go.Det
