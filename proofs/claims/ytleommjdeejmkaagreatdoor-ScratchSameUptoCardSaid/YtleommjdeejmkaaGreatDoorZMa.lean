/-
  An abstract machine for the given program's functions, in plain Lean: abstract values, an abstract store, a small code language with all type facts resolved, and an evaluator with fuel. No program, no world, no tape.
  Does a piece of the small code language stand for a piece of the given program's code? A test that the kernel reckons.
  Conditions: none but those that each theorem names.
-/
import GoSem.Dispatch
import GoSem.Core.Utf8
set_option linter.all false

namespace Go.Proofs.YtleommjdeejmkaaGreatDoor.Zq
open Go

/-- A function as the abstract machine names it: one of the table, or the yield of a loop over a function. -/
inductive Afn where
  | f (id : Nat)
  | y (l : Nat)
  deriving DecidableEq

/-- Abstract values. 'sl': a slice by its elements, each its row of cells, in memory that nobody writes any more. 'vptr': a pointer into such memory. 'ref': a pointer into a live object of the store. 'msl': a slice of a live object. 'zsl': a slice of length and capacity 0. 'junk': anything. -/
inductive AV where
  | junk
  | bool (b : Bool)
  | int (k : IntKind) (n : Int)
  | str (s : List UInt8)
  | nilp
  | ref (r ver row off : Nat)
  | vptr (row : List AV) (off : Nat)
  | zsl (isnil : Bool)
  | sl (z : Nat) (rows : List (List AV))
  | msl (r ver z off len : Nat)
  | nilm
  | mp (r : Nat)
  | it (r : Nat)
  | nilf
  | fn (f : Afn) (first caps : List AV)
  | niface
  | iface (t : Nat) (v : AV)
  | agg (cs : List AV)
  | tup (vs : List AV)

instance : Inhabited AV := ⟨.junk⟩

/-- The cells of a value that may lie in memory. -/
def AV.cells? : AV → Option (List AV)
  | .junk | .tup _ => none
  | .agg cs => some cs
  | v => some [v]

/- Does a value lead to no live object, and hold no junk? -/
mutual
def AV.pure : AV → Bool
  | .junk | .ref .. | .msl .. | .mp _ | .it _ => false
  | .vptr row _ => pureL row
  | .sl _ rows => pureLL rows
  | .fn (.f _) a b => pureL a && pureL b
  | .fn (.y _) _ _ => false
  | .iface _ v => v.pure
  | .agg cs => pureL cs
  | .tup vs => pureL vs
  | .bool _ | .int _ _ | .str _ | .nilp | .zsl _ | .nilm | .nilf | .niface => true
def pureL : List AV → Bool
  | [] => true
  | x :: xs => x.pure && pureL xs
def pureLL : List (List AV) → Bool
  | [] => true
  | x :: xs => pureL x && pureLL xs
end

/- Are all live objects that a value leads to below n? -/
mutual
def AV.lim (n : Nat) : AV → Bool
  | .ref r _ _ _ => r < n
  | .msl r _ _ _ _ => r < n
  | .mp r => r < n
  | .it r => r < n
  | .vptr row _ => limL n row
  | .sl _ rows => limLL n rows
  | .fn (.f _) a b => limL n a && limL n b
  | .fn (.y l) a b => l < n && limL n a && limL n b
  | .iface _ v => v.lim n
  | .agg cs => limL n cs
  | .tup vs => limL n vs
  | .junk | .bool _ | .int _ _ | .str _ | .nilp | .zsl _ | .nilm | .nilf | .niface => true
def limL (n : Nat) : List AV → Bool
  | [] => true
  | x :: xs => x.lim n && limL n xs
def limLL (n : Nat) : List (List AV) → Bool
  | [] => true
  | x :: xs => limL n x && limLL n xs
end

inductive Opd where
  | t (n : Nat)
  | c (v : AV)

/-- One operation. -/
inductive IOp where
  | mv (x : Opd)
  | pick (c a b : Opd)
  | bin (op : BinOp) (x y : Opd)
  | beq (neg : Bool) (x y : Opd)
  | aeq (ks : List Nat) (neg : Bool) (x y : Opd)
  | nileq (kd : Nat) (neg : Bool) (x : Opd)
  | un (op : UnOp) (x : Opd)
  | conv (k : IntKind) (x : Opd)
  | s2b (x : Opd)
  | b2s (x : Opd)
  | build (zero : List AV) (parts : List (Nat × Nat × Opd))
  | bsl (sz : Nat) (xs : List Opd)
  | boxv (x : Opd)
  | boxr (x : Opd)
  | alloc (zero : List AV)
  | loadv (agg : Bool) (n : Nat) (a : Opd)
  | load (agg : Bool) (n : Nat) (a : Opd)
  | store (n : Nat) (a x : Opd)
  | fa (a : Opd) (off : Nat)
  | fld (x : Opd) (off n : Nat) (agg : Bool)
  | ia (z : Nat) (x i : Opd)
  | iaa (x i : Opd) (len esz : Nat)
  | ixs (x i : Opd)
  | ixa (x i : Opd) (len esz : Nat) (agg : Bool)
  | sls (x : Opd) (lo hi : Option Opd)
  | slv (z : Nat) (x : Opd) (lo hi mx : Option Opd)
  | len (str : Bool) (x : Opd)
  | lenm (x : Opd)
  | min2 (x y : Opd)
  | max2 (x y : Opd)
  | capz (x : Opd)
  | appn (zero : List AV) (bytes : Nat) (s n : Opd)
  | app (sz bytes : Nat) (s x : Opd)
  | mkmap
  | bsm (sz : Nat) (xs : List Opd)
  | mksl (zero : List AV) (bytes : Nat) (n c : Opd)
  | look (ag : Bool) (ks : List Nat) (m k : Opd) (zero : AV) (ok : Bool)
  | mset (ag : Bool) (ks : List Nat) (m k v : Opd)
  | mdel (ag : Bool) (ks : List Nat) (m k : Opd)
  | srange (x : Opd)
  | snext (x : Opd)
  | call (f : Opd) (args : List Opd)
  | pcall (f : Opd) (args : List Opd)
  | scall (f : Opd) (args : List Opd)
  | ext (x : Opd) (i : Nat)
  | nchk (x : Opd)
  | mkfn (f : Nat) (first caps : List Opd)
  | mkif (t : Nat) (x : Opd)
  | defdel (ag : Bool) (ks : List Nat) (m k : Opd)

structure IOper where
  dst : Option Nat
  op : IOp
  guard : Option (Nat × Bool) := none

/-- What is done to the abstract state alone. -/
inductive Ghost where
  | clr (m : Nat)
  | frz (t : Nat)
  | frzc (t j : Nat)
  | trunc (k : Nat)
  | pop

inductive ICode where
  | skip
  | reg (draw : Bool) (ops : List IOper)
  | seq (a b : ICode)
  | cond (c : Opd) (a b : ICode)
  | blk (id : Nat) (c : ICode)
  | loop (c : ICode)
  | exit (id : Nat)
  | ret
  | rf (f : Opd) (params : List Nat) (assign body : ICode)
  | scope (c : ICode)
  | gh (g : Ghost)
  | never

inductive Ex where
  | normal
  | exit (id : Nat)
  | ret
  deriving DecidableEq

/-- Live objects. 'dead': one that is over (all values that speak of it are of a lesser version), or a place kept for a new one (0). 'cells': a version and rows of cells. 'loop': the record of a loop over a function: its activation's frame, whether a round may begin (0: yes, 1: one is under way, 2: one has left it, 3: over), and how a round has left it. -/
inductive AObj where
  | dead (ver : Nat)
  | cells (ver : Nat) (rows : List (List AV))
  | map (es : List (AV × AV))
  | siter (s : List UInt8) (pos : Nat)
  | loop (fr : List AV) (params : List Nat) (assign body : ICode) (st : Nat) (pend : Option Ex)

/-- A deferred 'delete' of a map's key, or the mark that a loop over a function leaves. -/
inductive ADef where
  | del (ag : Bool) (ks : List Nat) (m k : AV)
  | mark

structure St where
  t : List AV
  s : List AObj
  b : Nat
  d : List ADef

inductive IRes where
  | tmp (n : Nat)
  | cell (n : Nat) (agg : Bool) (sz : Nat)

structure IFun where
  np : Nat
  nt : Nat
  body : ICode
  res : List IRes

inductive IFn where
  | code (f : IFun)
  | prim (p : List AV → List AObj → Option (AV × List AObj))

/-! Operands and pieces of memory -/

def opd (fr : List AV) : Opd → Option AV
  | .t n => fr[n]?
  | .c v => some v

def opds (fr : List AV) : List Opd → Option (List AV)
  | [] => some []
  | x :: xs => match opd fr x, opds fr xs with
    | some v, some vs => some (v :: vs)
    | _, _ => none

def oopd (fr : List AV) : Option Opd → Option (Option AV)
  | none => some none
  | some x => (opd fr x).map some

def span (row : List AV) (off n : Nat) : Option (List AV) :=
  if off + n ≤ row.length then some ((row.drop off).take n) else none

def splice (row : List AV) (off : Nat) (cs : List AV) : List AV := row.take off ++ cs ++ row.drop (off + cs.length)

def asVal (agg : Bool) (cs : List AV) : Option AV :=
  if agg then some (.agg cs) else match cs with
    | [v] => some v
    | _ => none

def cellsAt (S : List AObj) (r ver : Nat) : Option (List (List AV)) :=
  match S[r]? with
  | some (.cells v rows) => if v = ver then some rows else none
  | _ => none

/-! Integers, strings, comparisons -/

def ibits (op : BinOp) (k : IntKind) (x y : Int) : Option AV :=
  let a := BitVec.ofInt k.bits x
  let b := BitVec.ofInt k.bits y
  match op with
  | .and => some (.int k (k.wrap (a &&& b).toNat))
  | .or => some (.int k (k.wrap (a ||| b).toNat))
  | .xor => some (.int k (k.wrap (a ^^^ b).toNat))
  | .andNot => some (.int k (k.wrap (a &&& ~~~b).toNat))
  | _ => none

def ibin (op : BinOp) (k : IntKind) (x y : Int) : Option AV :=
  match op with
  | .add => some (.int k (k.wrap (x + y)))
  | .sub => some (.int k (k.wrap (x - y)))
  | .mul => some (.int k (k.wrap (x * y)))
  | .quo => if y = 0 then none else some (.int k (k.wrap (x.tdiv y)))
  | .rem => if y = 0 then none else some (.int k (x.tmod y))
  | .eql => some (.bool (x == y))
  | .neq => some (.bool (x != y))
  | .lss => some (.bool (x < y))
  | .leq => some (.bool (x ≤ y))
  | .gtr => some (.bool (x > y))
  | .geq => some (.bool (x ≥ y))
  | .and | .or | .xor | .andNot => ibits op k x y
  | .shl | .shr => none

def ishift (op : BinOp) (k : IntKind) (x y : Int) : Option AV :=
  if y < 0 then none else
  match op with
  | .shl => some (.int k (k.wrap (x * 2 ^ (min y.toNat k.bits))))
  | .shr => some (.int k (x.fdiv (2 ^ (min y.toNat k.bits))))
  | _ => none

def sbin (op : BinOp) (x y : List UInt8) : Option AV :=
  match op with
  | .add => if x.length + y.length ≤ 9223372036854775807 then some (.str (x ++ y)) else none
  | .eql => some (.bool (x == y))
  | .neq => some (.bool !(x == y))
  | .lss => some (.bool (Op.bytesLess x y))
  | .leq => some (.bool (Op.bytesLess x y || x == y))
  | .gtr => some (.bool !(Op.bytesLess x y || x == y))
  | .geq => some (.bool !(Op.bytesLess x y))
  | _ => none

def abin (op : BinOp) : AV → AV → Option AV
  | .int k a, .int k' b =>
    match op with
    | .shl | .shr => ishift op k a b
    | _ => if k = k' then ibin op k a b else none
  | .str a, .str b => sbin op a b
  | _, _ => none

/-- Two cells of one kind (0: bool, 1: integer, 2: string): the same? -/
def kq : Nat → AV → AV → Option Bool
  | 0, .bool a, .bool b => some (a == b)
  | 1, .int k a, .int k' b => if k = k' then some (a == b) else none
  | 2, .str a, .str b => some (a == b)
  | _, _, _ => none

def keqK : List Nat → List AV → List AV → Option Bool
  | [], [], [] => some true
  | k :: ks, x :: xs, y :: ys => match kq k x y, keqK ks xs ys with
    | some a, some b => some (a && b)
    | _, _ => none
  | _, _, _ => none

/-- Two keys of a map: 'ag': they are arrays or structs. -/
def keq (ag : Bool) (ks : List Nat) (x y : AV) : Option Bool :=
  match ag, x, y with
  | true, .agg xs, .agg ys => keqK ks xs ys
  | false, x, y => keqK ks [x] [y]
  | _, _, _ => none

def aun (op : UnOp) : AV → Option AV
  | .int k n => match op with
    | .neg => some (.int k (k.wrap (0 - n)))
    | .xor => ibits .xor k (if k.signed then -1 else k.max) n
    | _ => none
  | .bool b => match op with
    | .not => some (.bool !b)
    | _ => none
  | _ => none

/-- Is a pointer (0), a map (1), a function (2), an interface value (3) nil? -/
def isNil : Nat → AV → Option Bool
  | 0, .nilp => some true
  | 0, .ref .. => some false
  | 0, .vptr .. => some false
  | 1, .nilm => some true
  | 1, .mp _ => some false
  | 2, .nilf => some true
  | 2, .fn .. => some false
  | 3, .niface => some true
  | 3, .iface .. => some false
  | 4, .zsl b => some b
  | 4, .sl .. => some false
  | 4, .msl .. => some false
  | _, _ => none

/-! Maps -/

def mfind (ag : Bool) (ks : List Nat) (k : AV) : List (AV × AV) → Option (Option AV)
  | [] => some none
  | (a, v) :: es => match keq ag ks k a with
    | some true => some (some v)
    | some false => mfind ag ks k es
    | none => none

def mput (ag : Bool) (ks : List Nat) (k v : AV) : List (AV × AV) → Option (List (AV × AV))
  | [] => some [(k, v)]
  | (a, u) :: es => match keq ag ks k a with
    | some true => some ((k, v) :: es)
    | some false => (mput ag ks k v es).map ((a, u) :: ·)
    | none => none

def mdrop (ag : Bool) (ks : List Nat) (k : AV) : List (AV × AV) → Option (List (AV × AV))
  | [] => some []
  | (a, u) :: es => match keq ag ks k a with
    | some true => some es
    | some false => (mdrop ag ks k es).map ((a, u) :: ·)
    | none => none

/-- Is it a key of these kinds? -/
def keyOk (ag : Bool) (ks : List Nat) (k : AV) : Bool := (keq ag ks k k).isSome

/-! Bytes -/

def byteRow (b : UInt8) : List AV := [.int .u8 b.toNat]
def bytesRows (s : List UInt8) : List (List AV) := s.map byteRow
def rowByte : List AV → Option UInt8
  | [.int .u8 n] => some (UInt8.ofNat n.toNat)
  | _ => none
def rowsBytes : List (List AV) → Option (List UInt8)
  | [] => some []
  | r :: rs => match rowByte r, rowsBytes rs with
    | some b, some bs => some (b :: bs)
    | _, _ => none

/-! Slices -/

def srows (S : List AObj) : AV → Option (List (List AV))
  | .zsl _ => some []
  | .sl _ rows => some rows
  | .msl r ver _ off len => match cellsAt S r ver with
    | some rows => if off + len ≤ rows.length then some ((rows.drop off).take len) else none
    | none => none
  | _ => none

def bnd (len : Nat) (hi : Option AV) (dflt : Nat) : Option Nat :=
  match hi with
  | none => some dflt
  | some (.int _ n) => if 0 ≤ n ∧ n ≤ len then some n.toNat else none
  | _ => none

def aslice (z : Nat) (x : AV) (lo hi mx : Option AV) : Option AV :=
  match x with
  | .zsl b => match bnd 0 lo 0, bnd 0 hi 0, bnd 0 mx 0 with
    | some _, some _, some _ => some (.zsl b)
    | _, _, _ => none
  | .sl z' rows => if z' ≠ z then none else match bnd rows.length hi rows.length with
    | some h => match bnd h lo 0 with
      | some l => match mx with
        | none => some (.sl z ((rows.take h).drop l))
        | some m => match bnd rows.length (some m) 0 with
          | some m => if h ≤ m ∧ m = l then some (.zsl false) else if h ≤ m then some (.sl z ((rows.take h).drop l)) else none
          | none => none
      | none => none
    | none => none
  | .msl r ver z' off len => if z' ≠ z then none else match bnd len hi len with
    | some h => match bnd h lo 0 with
      | some l => match mx with
        | none => some (.msl r ver z (off + l) (h - l))
        | some m => match bnd len (some m) 0 with
          | some m => if h ≤ m ∧ m = l then some (.zsl false) else none
          | none => none
      | none => none
    | none => none
  | _ => none

def asls (x : AV) (lo hi : Option AV) : Option AV :=
  match x with
  | .str s => match bnd s.length hi s.length with
    | some h => match bnd h lo 0 with
      | some l => some (.str ((s.take h).drop l))
      | none => none
    | none => none
  | _ => none

/-! Operations on temporaries alone -/

def fillIn (cells : List AV) : List (Nat × Nat × AV) → Option (List AV)
  | [] => some cells
  | (off, sz, v) :: rest => match v.cells? with
    | some cs => if cs.length = sz ∧ off + sz ≤ cells.length then fillIn (splice cells off cs) rest else none
    | none => none

def partVals (fr : List AV) : List (Nat × Nat × Opd) → Option (List (Nat × Nat × AV))
  | [] => some []
  | (o, z, x) :: ps => match opd fr x, partVals fr ps with
    | some v, some vs => some ((o, z, v) :: vs)
    | _, _ => none

def rowsOf (sz : Nat) : List AV → Option (List (List AV))
  | [] => some []
  | v :: vs => match v.cells?, rowsOf sz vs with
    | some cs, some rs => if cs.length = sz then some (cs :: rs) else none
    | _, _ => none

def fieldA (a : AV) (off : Nat) : Option AV :=
  match a with
  | .ref r v i o => some (.ref r v i (o + off))
  | .vptr row o => some (.vptr row (o + off))
  | _ => none

def indexA (z : Nat) (x i : AV) : Option AV :=
  match x, i with
  | .sl z' rows, .int _ n => if z' = z ∧ 0 ≤ n then match rows[n.toNat]? with
      | some row => some (.vptr row 0)
      | none => none
    else none
  | .msl r ver z' off len, .int _ n => if z' = z ∧ 0 ≤ n ∧ n < len then some (.ref r ver (off + n.toNat) 0) else none
  | _, _ => none

def pop (fr : List AV) : IOp → Option AV
  | .mv x => opd fr x
  | .pick c a b => match opd fr c, opd fr a, opd fr b with
    | some (.bool t), some x, some y => some (if t then x else y)
    | _, _, _ => none
  | .bin op x y => match opd fr x, opd fr y with
    | some a, some b => abin op a b
    | _, _ => none
  | .beq neg x y => match opd fr x, opd fr y with
    | some (.bool a), some (.bool b) => some (.bool (if neg then !(a == b) else a == b))
    | _, _ => none
  | .aeq ks neg x y => match opd fr x, opd fr y with
    | some (.agg a), some (.agg b) => match keqK ks a b with
      | some e => some (.bool (if neg then !e else e))
      | none => none
    | _, _ => none
  | .nileq kd neg x => match opd fr x with
    | some a => match isNil kd a with
      | some e => some (.bool (if neg then !e else e))
      | none => none
    | none => none
  | .un op x => match opd fr x with
    | some a => aun op a
    | none => none
  | .conv k x => match opd fr x with
    | some (.int _ n) => some (.int k (k.wrap n))
    | _ => none
  | .build zero parts => match partVals fr parts with
    | some ps => (fillIn zero ps).map .agg
    | none => none
  | .bsl sz xs => match opds fr xs with
    | some [] => some (.zsl false)
    | some (v :: vs) => (rowsOf sz (v :: vs)).map (.sl sz)
    | none => none
  | .boxv x => match opd fr x with
    | some v => match v.cells? with
      | some cs => some (.vptr cs 0)
      | none => none
    | none => none
  | .loadv agg n a => match opd fr a with
    | some (.vptr row off) => match span row off n with
      | some cs => asVal agg cs
      | none => none
    | _ => none
  | .fa a off => match opd fr a with
    | some v => fieldA v off
    | none => none
  | .fld x off n agg => match opd fr x with
    | some (.agg cs) => match span cs off n with
      | some cs => asVal agg cs
      | none => none
    | _ => none
  | .ia z x i => match opd fr x, opd fr i with
    | some a, some b => indexA z a b
    | _, _ => none
  | .iaa x i len esz => match opd fr x, opd fr i with
    | some a, some (.int _ n) => if 0 ≤ n ∧ n < len then fieldA a (n.toNat * esz) else none
    | _, _ => none
  | .ixs x i => match opd fr x, opd fr i with
    | some (.str s), some (.int _ n) => if 0 ≤ n then match s[n.toNat]? with
        | some b => some (.int .u8 b.toNat)
        | none => none
      else none
    | _, _ => none
  | .ixa x i len esz agg => match opd fr x, opd fr i with
    | some (.agg cs), some (.int _ n) => if 0 ≤ n ∧ n < len then match span cs (n.toNat * esz) esz with
        | some cs => asVal agg cs
        | none => none
      else none
    | _, _ => none
  | .sls x lo hi => match opd fr x, oopd fr lo, oopd fr hi with
    | some a, some l, some h => asls a l h
    | _, _, _ => none
  | .slv z x lo hi mx => match opd fr x, oopd fr lo, oopd fr hi, oopd fr mx with
    | some a, some l, some h, some m => aslice z a l h m
    | _, _, _, _ => none
  | .len true x => match opd fr x with
    | some (.str s) => some (.int .i64 s.length)
    | _ => none
  | .len false x => match opd fr x with
    | some (.zsl _) => some (.int .i64 0)
    | some (.sl _ rows) => some (.int .i64 rows.length)
    | some (.msl _ _ _ _ n) => some (.int .i64 n)
    | _ => none
  | .min2 x y => match opd fr x, opd fr y with
    | some (.int k a), some (.int k' b) => if k = k' then some (.int k (if b < a then b else a)) else none
    | _, _ => none
  | .max2 x y => match opd fr x, opd fr y with
    | some (.int k a), some (.int k' b) => if k = k' then some (.int k (if b > a then b else a)) else none
    | _, _ => none
  | .capz x => match opd fr x with
    | some (.zsl _) => some (.int .i64 0)
    | _ => none
  | .ext x i => match opd fr x with
    | some (.tup vs) => vs[i]?
    | _ => none
  | .nchk x => match opd fr x with
    | some (.ref r v i o) => some (.ref r v i o)
    | some (.vptr row o) => some (.vptr row o)
    | some (.fn (.f f) a b) => some (.fn (.f f) a b)
    | some (.iface t v) => some (.iface t v)
    | _ => none
  | .mkfn f first caps => match opds fr first, opds fr caps with
    | some a, some b => some (.fn (.f f) a b)
    | _, _ => none
  | .mkif t x => match opd fr x with
    | some v => some (.iface t v)
    | none => none
  | _ => none

/-! Operations that read the store -/

def loadAt (S : List AObj) (agg : Bool) (n : Nat) (a : AV) : Option AV :=
  match a with
  | .vptr row off => match span row off n with
    | some cs => asVal agg cs
    | none => none
  | .ref r ver i off => match cellsAt S r ver with
    | some rows => match rows[i]? with
      | some row => match span row off n with
        | some cs => asVal agg cs
        | none => none
      | none => none
    | none => none
  | _ => none

def mapAt (S : List AObj) : AV → Option (List (AV × AV))
  | .nilm => some []
  | .mp r => match S[r]? with
    | some (.map es) => some es
    | _ => none
  | _ => none

def rop (fr : List AV) (S : List AObj) : IOp → Option AV
  | .load agg n a => match opd fr a with
    | some v => loadAt S agg n v
    | none => none
  | .lenm x => match opd fr x with
    | some m => match mapAt S m with
      | some es => some (.int .i64 es.length)
      | none => none
    | none => none
  | .b2s x => match opd fr x with
    | some v => match srows S v with
      | some rows => (rowsBytes rows).map .str
      | none => none
    | none => none
  | .look ag ks m k zero ok => match opd fr m, opd fr k with
    | some m, some k => if !keyOk ag ks k then none else match mapAt S m with
      | some es => match mfind ag ks k es with
        | some (some v) => some (if ok then .tup [v, .bool true] else v)
        | some none => some (if ok then .tup [zero, .bool false] else zero)
        | none => none
      | none => none
    | _, _ => none
  | o => pop fr o

/-! Operations that write the store -/

def newObj (ph : Option Nat) (o : AObj) (S : List AObj) : Option (Nat × List AObj) :=
  match ph with
  | none => some (S.length, S ++ [o])
  | some r => match S[r]? with
    | some (.dead 0) => some (r, S.set r o)
    | _ => none

def kill : AObj → AObj
  | .cells v _ => .dead (v + 1)
  | .dead v => .dead v
  | _ => .dead 1

def killAt (S : List AObj) (r : Nat) : List AObj :=
  match S[r]? with
  | some o => S.set r (kill o)
  | none => S

def storeAt (S : List AObj) (n : Nat) (a x : AV) : Option (List AObj) :=
  match a with
  | .ref r ver i off => match cellsAt S r ver with
    | some rows => match rows[i]? with
      | some row => match x.cells? with
        | some cs => if off + n ≤ row.length ∧ cs.length = n then some (S.set r (.cells ver (rows.set i (splice row off cs)))) else none
        | none => none
      | none => none
    | none => none
  | _ => none

def appRows (S : List AObj) (z : Nat) (x : AV) : Option (List (List AV)) :=
  match x with
  | .str s => if z = 1 then some (bytesRows s) else none
  | .zsl _ => some []
  | .sl z' rows => if z' = z then some rows else none
  | .msl r ver z' off len => if z' = z then srows S (.msl r ver z' off len) else none
  | _ => none

def aapp (S : List AObj) (sz bytes : Nat) (s x : AV) : Option (AV × List AObj) :=
  match appRows S sz x with
  | none => none
  | some xs =>
    match s with
    | .zsl b => if xs = [] then some (.zsl b, S) else if xs.length * bytes ≤ 140737488355328 then
        some (.msl S.length 0 sz 0 xs.length, S ++ [.cells 0 xs]) else none
    | .sl z rows => if xs = [] then some (.sl z rows, S) else none
    | .msl r ver z off len => if z ≠ sz then none else match cellsAt S r ver with
      | some rows =>
        if off + len + xs.length ≤ rows.length then some (.msl r ver z off (len + xs.length), S.set r (.cells ver (rows.take (off + len) ++ xs ++ rows.drop (off + len + xs.length))))
        else if off + len = rows.length ∧ (len + xs.length) * bytes ≤ 140737488355328 then
          some (.msl r (ver + 1) z 0 (len + xs.length), S.set r (.cells (ver + 1) (rows.drop off ++ xs)))
        else none
      | none => none
    | _ => none

def sop (ph : Option Nat) (fr : List AV) (S : List AObj) (o : IOp) : Option (AV × List AObj) :=
  match o with
  | .boxr x => match opd fr x with
    | some v => match v.cells? with
      | some cs => match newObj ph (.cells 0 [cs]) S with
        | some (r, S') => some (.ref r 0 0 0, S')
        | none => none
      | none => none
    | none => none
  | .alloc zero => match newObj ph (.cells 0 [zero]) S with
    | some (r, S') => some (.ref r 0 0 0, S')
    | none => none
  | .mkmap => match newObj ph (.map []) S with
    | some (r, S') => some (.mp r, S')
    | none => none
  | .s2b x => match opd fr x with
    | some (.str s) => if s.length ≤ 140737488355328 then some (.msl S.length 0 1 0 s.length, S ++ [.cells 0 (bytesRows s)]) else none
    | _ => none
  | .bsm sz xs => match opds fr xs with
    | some (v :: vs) => match rowsOf sz (v :: vs) with
      | some rows => some (.msl S.length 0 sz 0 rows.length, S ++ [.cells 0 rows])
      | none => none
    | _ => none
  | .mksl zero bytes n c => match opd fr n, opd fr c with
    | some (.int .i64 a), some (.int .i64 b) => if 0 ≤ a ∧ a ≤ b ∧ b * bytes ≤ 140737488355328 ∧ zero.length ≠ 0 ∧ b ≤ 140737488355328 then
        some (.msl S.length 0 zero.length 0 a.toNat, S ++ [.cells 0 (List.replicate b.toNat zero)]) else none
    | _, _ => none
  | .appn zero bytes s n => match opd fr s, opd fr n with
    | some (.zsl _), some (.int .i64 a) => if 0 < a ∧ a * bytes ≤ 140737488355328 ∧ zero.length ≠ 0 ∧ a ≤ 140737488355328 then
        some (.msl S.length 0 zero.length 0 a.toNat, S ++ [.cells 0 (List.replicate a.toNat zero)]) else none
    | _, _ => none
  | .store n a x => match opd fr a, opd fr x with
    | some a, some x => match storeAt S n a x with
      | some S' => some (.tup [], S')
      | none => none
    | _, _ => none
  | .app sz bytes s x => match opd fr s, opd fr x with
    | some s, some x => aapp S sz bytes s x
    | _, _ => none
  | .mset ag ks m k v => match opd fr m, opd fr k, opd fr v with
    | some (.mp r), some k, some v => if !keyOk ag ks k then none else match S[r]? with
      | some (.map es) => match mput ag ks k v es with
        | some es' => some (.tup [], S.set r (.map es'))
        | none => none
      | _ => none
    | _, _, _ => none
  | .mdel ag ks m k => match opd fr m, opd fr k with
    | some .nilm, some k => if keyOk ag ks k then some (.tup [], S) else none
    | some (.mp r), some k => if !keyOk ag ks k then none else match S[r]? with
      | some (.map es) => match mdrop ag ks k es with
        | some es' => some (.tup [], S.set r (.map es'))
        | none => none
      | _ => none
    | _, _ => none
  | .srange x => match opd fr x with
    | some (.str s) => some (.it S.length, S ++ [.siter s 0])
    | _ => none
  | .snext x => match opd fr x with
    | some (.it r) => match S[r]? with
      | some (.siter s pos) => if pos < s.length then
          some (.tup [.bool true, .int .i64 pos, .int .i32 (Utf8.decode ⟨s.toArray⟩ pos).1], S.set r (.siter s (pos + (Utf8.decode ⟨s.toArray⟩ pos).2)))
        else some (.tup [.bool false], S)
      | _ => none
    | _ => none
  | o => match rop fr S o with
    | some v => some (v, S)
    | none => none

/-- The result of a call that leads to no live object of the caller's: what the callee's own objects hold is taken by value. -/
def frzV (S : List AObj) (v : AV) : Option AV :=
  if v.pure then some v else
  match v with
  | .msl _ _ z _ _ => match srows S v with
    | some rows => if pureLL rows then some (.sl z rows) else none
    | none => none
  | .ref r ver i off => match cellsAt S r ver with
    | some rows => match rows[i]? with
      | some row => if pureL row then some (.vptr row off) else none
      | none => none
    | none => none
  | _ => none

/-- What a live slice or pointer leads to, taken by value; it may lead on to live objects. -/
def frzW (S : List AObj) (v : AV) : Option AV :=
  match v with
  | .msl r ver z off len => match srows S (.msl r ver z off len) with
    | some rows => some (.sl z rows)
    | none => none
  | .ref r ver i off => match cellsAt S r ver with
    | some rows => match rows[i]? with
      | some row => some (.vptr row off)
      | none => none
    | none => none
  | v => frzV S v

/-- The object that a value leads into. -/
def AV.root : AV → Option Nat
  | .ref r _ _ _ => some r
  | .msl r _ _ _ _ => some r
  | _ => none

def frzL (S : List AObj) : List AV → Option (List AV)
  | [] => some []
  | x :: xs => match frzV S x, frzL S xs with
    | some v, some vs => some (v :: vs)
    | _, _ => none

def frzA (S : List AObj) (v : AV) : Option AV :=
  match v with
  | .agg cs => (frzL S cs).map .agg
  | v => frzV S v

def frzR (S : List AObj) : List AV → Option (List AV)
  | [] => some []
  | x :: xs => match frzA S x, frzR S xs with
    | some v, some vs => some (v :: vs)
    | _, _ => none

def frz (S : List AObj) (v : AV) : Option AV :=
  match v with
  | .tup vs => (frzR S vs).map .tup
  | v => frzA S v

/-! The evaluator -/

abbrev Caller := Afn → List AV → List AObj → Option (AV × List AObj)

/- Does a value lead to no memory at all? -/
mutual
def AV.dry : AV → Bool
  | .bool _ | .int _ _ | .str _ | .nilp | .zsl _ | .nilm | .nilf | .niface => true
  | .iface _ v => v.dry
  | .agg cs => dryL cs
  | .tup vs => dryL vs
  | .junk | .ref .. | .msl .. | .mp _ | .it _ | .vptr .. | .sl .. | .fn .. => false
def dryL : List AV → Bool
  | [] => true
  | x :: xs => x.dry && dryL xs
end

/-- A call that leaves the caller's objects alone. -/
def pureCall (call : Caller) (f : AV) (args : List AV) : Option AV :=
  match f with
  | .fn f first caps => if pureL first && pureL args && pureL caps then
      match call f (first ++ args ++ caps) [] with
      | some (v, S) => frz S v
      | none => none
    else none
  | _ => none

/-- A call that takes its arguments by value, and whose result leads to no memory. -/
def snapCall (call : Caller) (S : List AObj) (f : AV) (args : List AV) : Option AV :=
  match f with
  | .fn f first caps => match frzR S first, frzR S args, frzR S caps with
      | some a, some b, some c => match call f (a ++ b ++ c) [] with
        | some (v, _) => if v.dry then some v else none
        | none => none
      | _, _, _ => none
  | _ => none

/-- One operation: its value, the store, the deferred calls. -/
def oneOp (call : Caller) (ph : Option Nat) (st : St) (o : IOp) : Option (AV × List AObj × List ADef) :=
  match o with
  | .call f args => match opd st.t f, opds st.t args with
    | some (.fn f first caps), some as => match call f (first ++ as ++ caps) st.s with
      | some (v, S) => some (v, S, st.d)
      | none => none
    | _, _ => none
  | .pcall f args => match opd st.t f, opds st.t args with
    | some f, some as => match pureCall call f as with
      | some v => some (v, st.s, st.d)
      | none => none
    | _, _ => none
  | .scall f args => match opd st.t f, opds st.t args with
    | some f, some as => match snapCall call st.s f as with
      | some v => some (v, st.s, st.d)
      | none => none
    | _, _ => none
  | .defdel ag ks m k => match opd st.t m, opd st.t k with
    | some m, some k => some (.tup [], st.s, .del ag ks m k :: st.d)
    | _, _ => none
  | o => match sop ph st.t st.s o with
    | some (v, S) => some (v, S, st.d)
    | none => none

def putT (t : List AV) (dst : Option Nat) (v : AV) : List AV :=
  match dst with
  | some d => t.set d v
  | none => t

/-- Is the operation carried out, by its guard? -/
def wantOp (t : List AV) : Option (Nat × Bool) → Option Bool
  | none => some true
  | some (j, want) => match t[j]? with
    | some (.bool b) => some (b == want)
    | some (.tup []) => some false
    | _ => none

@[reducible] def isA : IOp → Bool
  | .boxr _ | .alloc _ | .mkmap => true
  | _ => false

def stepOp (call : Caller) (ph : Option Nat) (o : IOper) (st : St) : Option St :=
  match wantOp st.t o.guard with
  | some true => match oneOp call ph st o.op with
    | some (v, S, d) => some { st with t := putT st.t o.dst v, s := S, d := d }
    | none => none
  | some false => some { st with t := putT st.t o.dst (.tup []) }
  | none => none

def runOps (call : Caller) : List IOper → St → Option St
  | [], st => some st
  | o :: os, st => match stepOp call none o st with
    | some st' => runOps call os st'
    | none => none

/-- A region that draws its order: the places of its new variables are laid ahead. -/
def runDraw (call : Caller) : Nat → List IOper → St → Option St
  | _, [], st => some st
  | r, o :: os, st => match stepOp call (if isA o.op then some r else none) o st with
    | some st' => runDraw call (if isA o.op then r + 1 else r) os st'
    | none => none

def countA (ops : List IOper) : Nat := (ops.filter fun o => isA o.op).length

/-- Temporaries become junk, but for those whose bit is set. -/
def clrT : List AV → Nat → List AV
  | [], _ => []
  | v :: vs, m => (if Nat.beq (m % 2) 1 then v else .junk) :: clrT vs (m / 2)

def limO (n : Nat) : AObj → Bool
  | .dead _ => true
  | .cells _ rows => limLL n rows
  | .map es => es.all fun e => e.1.lim n && e.2.lim n
  | .siter _ _ => true
  | .loop .. => false

def limS (n : Nat) : List AObj → Bool
  | [] => true
  | o :: os => limO n o && limS n os

def ghost (g : Ghost) (st : St) : Option St :=
  match g with
  | .clr l => some { st with t := clrT st.t l }
  | .frz i => match st.t[i]? with
    | some v => match frzW st.s v with
      | some u => some { st with t := st.t.set i u, s := match v with
          | .ref r _ _ _ => killAt st.s r
          | .msl r _ _ _ _ => killAt st.s r
          | _ => st.s }
      | none => none
    | none => none
  | .frzc i j => match st.t[i]? with
    | some (.ref r ver row off) => match cellsAt st.s r ver with
      | some rows => match rows[row]? with
        | some cs => match cs[off + j]? with
          | some v => match frzW st.s v, v.root with
            | some u, some q => match cellsAt (killAt st.s q) r ver with
              | some _ => some { st with s := (killAt st.s q).set r (.cells ver (rows.set row (cs.set (off + j) u))) }
              | none => none
            | _, _ => none
          | none => none
        | none => none
      | none => none
    | _ => none
  | .pop => if st.b < st.s.length && limL (st.s.length - 1) st.t && limS (st.s.length - 1) (st.s.take (st.s.length - 1)) && st.d.isEmpty then some { st with s := st.s.take (st.s.length - 1) } else none
  | .trunc k => if limL (st.b + k) st.t && limS (st.b + k) (st.s.take (st.b + k)) && st.d.isEmpty then some { st with s := st.s.take (st.b + k) } else none

def setS (st : St) (r : Nat) (o : AObj) : St := { st with s := st.s.set r o }

def resOne (t : List AV) (S : List AObj) : IRes → Option AV
  | .tmp n => t[n]?
  | .cell n agg sz => match t[n]? with
    | some a => loadAt S agg sz a
    | none => none

def resAll (t : List AV) (S : List AObj) : List IRes → Option (List AV)
  | [] => some []
  | r :: rs => match resOne t S r, resAll t S rs with
    | some v, some vs => some (v :: vs)
    | _, _ => none

def results1 : List AV → AV
  | [v] => v
  | vs => .tup vs

def runDefers : List ADef → List AObj → Option (List AObj)
  | [], S => some S
  | .mark :: ds, S => runDefers ds S
  | .del ag ks m k :: ds, S => match m with
    | .mp r => if !keyOk ag ks k then none else match S[r]? with
      | some (.map es) => match mdrop ag ks k es with
        | some es' => runDefers ds (S.set r (.map es'))
        | none => none
      | _ => none
    | _ => none

/-- What a function's body has come to: its results, behind its deferred calls. -/
def finishFn (F : IFun) (st : St) : Option (AV × List AObj) :=
  match runDefers st.d st.s with
  | some S => match resAll st.t S F.res with
    | some vs => some (results1 vs, S)
    | none => none
  | none => none

def calmOp : IOp → Bool
  | .defdel .. => false
  | _ => true

/-- No deferred call, no loop over a function. -/
def calm : ICode → Bool
  | .reg _ ops => ops.all fun o => calmOp o.op
  | .seq a b | .cond _ a b => calm a && calm b
  | .blk _ c | .loop c | .scope c => calm c
  | .rf .. => false
  | .skip | .exit _ | .ret | .gh _ | .never => true

def setParams (fr : List AV) : List Nat → List AV → Option (List AV)
  | [], [] => some fr
  | p :: ps, a :: as => setParams (fr.set p a) ps as
  | _, _ => none

def isCode (T : Nat → Option IFn) (id : Nat) : Bool :=
  match T id with
  | some (.code _) => true
  | _ => false

mutual
def ecall (T : Nat → Option IFn) : Nat → Afn → List AV → List AObj → Option (AV × List AObj)
  | 0, _, _, _ => none
  | n + 1, .f id, args, S => match T id with
    | some (.prim p) => p args S
    | some (.code F) => if args.length = F.np then
        match run T n F.body { t := args ++ List.replicate (F.nt - F.np) .junk, s := S, b := S.length, d := [] } with
        | some (.normal, st) | some (.ret, st) => finishFn F st
        | _ => none
      else none
    | none => none
  | n + 1, .y l, args, S => match S[l]? with
    | some (.loop fr params assign body 0 none) => if !(calm assign && calm body) then none else match setParams fr params args with
      | some fr' => match run T n assign { t := fr', s := S, b := S.length, d := [] } with
        | some (.normal, st) => match st.s[l]? with
          | some (.loop fr1 ps1 as1 bo1 0 pe1) => match run T n body { st with s := st.s.set l (.loop fr1 ps1 as1 bo1 1 pe1) } with
            | some (e, st') => match st'.s[l]? with
              | some (.loop fr2 ps2 as2 bo2 _ _) => match e with
                | .normal => some (.bool true, st'.s.set l (.loop fr2 ps2 as2 bo2 0 none))
                | e => some (.bool false, st'.s.set l (.loop fr2 ps2 as2 bo2 2 (some e)))
              | _ => none
            | none => none
          | _ => none
        | _ => none
      | none => none
    | _ => none
def run (T : Nat → Option IFn) : Nat → ICode → St → Option (Ex × St)
  | 0, _, _ => none
  | _ + 1, .skip, st => some (.normal, st)
  | _ + 1, .never, _ => none
  | n + 1, .reg false ops, st => (runOps (ecall T n) ops st).map (.normal, ·)
  | n + 1, .reg true ops, st => (runDraw (ecall T n) st.s.length ops { st with s := st.s ++ List.replicate (countA ops) (.dead 0) }).map (.normal, ·)
  | n + 1, .seq a b, st => match run T n a st with
    | some (.normal, st') => run T n b st'
    | r => r
  | n + 1, .cond c a b, st => match opd st.t c with
    | some (.bool t) => if t then run T n a st else run T n b st
    | _ => none
  | n + 1, .blk id c, st => match run T n c st with
    | some (.exit i, st') => some (if i = id then .normal else .exit i, st')
    | r => r
  | n + 1, .loop c, st => match run T n c st with
    | some (.normal, st') => run T n (.loop c) st'
    | r => r
  | _ + 1, .exit id, st => some (.exit id, st)
  | _ + 1, .ret, st => some (.ret, st)
  | n + 1, .scope c, st => run T n c st
  | _ + 1, .gh g, st => (ghost g st).map (.normal, ·)
  | n + 1, .rf f params assign body, st => match opd st.t f with
    | some (.fn (.f id) first caps) => if !isCode T id then none else
      match ecall T n (.f id) (first ++ [.fn (.y st.s.length) [] []] ++ caps) (st.s ++ [.loop st.t params assign body 0 none]) with
      | some (_, S) => match S[st.s.length]? with
        | some (.loop _ _ _ _ s pend) => if s = 1 then none else
          some (pend.getD .normal, { st with s := S.set st.s.length (.dead 1), d := .mark :: st.d })
        | _ => none
      | none => none
    | _ => none
end

end Go.Proofs.YtleommjdeejmkaaGreatDoor.Zq

namespace Go.Proofs.YtleommjdeejmkaaGreatDoor.Zq
open Go

/-- What is fixed throughout: which of the program's functions is which of the table's; which type is which; what the package-level variables hold. -/
structure Env where
  P : Program
  T : Nat → Option IFn
  σ : FuncId → Option Nat
  τ : TypeId → Option Nat
  gl : List (Nat × Nat × Value) := []

section
variable (E : Env)

def szOf (t : TypeId) : Option Nat := (E.P.info? t).map (·.size)

def aggT (t : TypeId) : Option Bool :=
  match E.P.underlying t with
  | some (.struct _) | some (.array _ _) => some true
  | some _ => some false
  | none => none

def cellT (t : TypeId) (agg : Bool) (n : Nat) : Bool := szOf E t == some n && aggT E t == some agg && (agg || n == 1)

/-- A constant of one cell. -/
def cst1 : AV → Value → Bool
  | .bool a, .bool b => a == b
  | .int k n, .int j m => k == j && n == m
  | .str s, .string b => b.data.toList == s
  | .nilp, .pointer none => true
  | .zsl true, .slice none 0 0 => true
  | .nilm, .map none => true
  | .nilf, .nilFunc => true
  | .niface, .nilIface => true
  | _, _ => false

def cstL : List AV → List Value → Bool
  | [], [] => true
  | x :: xs, v :: vs => cst1 x v && cstL xs vs
  | _, _ => false

def cst (x : AV) (v : Value) : Bool :=
  match x, v with
  | .agg xs, .agg vs => cstL xs vs.toList
  | .tup [], .tuple vs => vs.size == 0
  | x, v => cst1 x v

def mOpd : Opd → Operand → Bool
  | .t n, .tmp m => n == m
  | .c v, .const u => cst v u
  | .c (.fn (.f id) [] []), .func g => E.σ g == some id
  | _, _ => false

def mOpds : List Opd → List Operand → Bool
  | [], [] => true
  | x :: xs, y :: ys => mOpd E x y && mOpds xs ys
  | _, _ => false

def mOopd : Option Opd → Option Operand → Bool
  | none, none => true
  | some x, some y => mOpd E x y
  | _, _ => false

/-- The zero value of a type, by its cells. -/
def zeroT (t : TypeId) (zero : List AV) : Bool :=
  match E.P.info? t with
  | some i => i.size == zero.length && (match i.zero with
    | some z => cstL zero z.cells.toList
    | none => false)
  | none => false

def zeroV (t : TypeId) (zero : AV) : Bool :=
  match E.P.info? t with
  | some i => (match i.zero with
    | some z => cst zero z
    | none => false)
  | none => false

/-- The fields of a struct, one behind the other, each compared cell by cell. -/
def flatFs (rec : TypeId → Option (List Nat)) : Nat → List Field → Option (List Nat)
  | _, [] => some []
  | off, f :: fs =>
    if f.name ≠ "_" ∧ f.offset = off ∧ (aggT E f.type).isSome = true then
      match rec f.type with
      | some ks => if szOf E f.type = some ks.length ∧ 0 < ks.length then (flatFs rec (off + ks.length) fs).map (ks ++ ·) else none
      | none => none
    else none

def repK : Nat → List Nat → List Nat
  | 0, _ => []
  | n + 1, ks => ks ++ repK n ks

/-- Types compared cell by cell: the kinds of their cells. -/
def flatK : Nat → TypeId → Option (List Nat)
  | 0, _ => none
  | d + 1, t =>
    match E.P.underlying t with
    | some .bool => some [0]
    | some (.int _) => some [1]
    | some .string => some [2]
    | some (.struct fs) => if E.P.stoodInHeld t then none else flatFs E (flatK d) 0 fs.toList
    | some (.array k e) => match flatK d e with
      | some ks => if (szOf E e = some ks.length ∧ 0 < ks.length) ∧ (aggT E e).isSome = true then some (repK k ks) else none
      | none => none
    | _ => none

def isFlat (t : TypeId) (ks : List Nat) : Bool := aggT E t == some true && flatK E 8 t == some ks && !E.P.eqGuardType E.P.depth t

def keyT (t : TypeId) (ag : Bool) (ks : List Nat) : Bool :=
  aggT E t == some ag && flatK E 8 t == some ks && (match E.P.underlying t with
    | some (.array _ e) => aggT E e == some false && (szOf E e).isSome
    | some (.struct _) => false
    | _ => true)

def mParts (sz : Nat) : Nat → List Opd → List (Nat × Operand) → Bool
  | _, [], [] => true
  | i, x :: xs, (j, y) :: ys => i == j && mOpd E x y && mParts sz (i + 1) xs ys
  | _, _, _ => false

def mFields (place : Nat → Option (Nat × Nat)) : List (Nat × Nat × Opd) → List (Nat × Operand) → Bool
  | [], [] => true
  | (o, z, x) :: xs, (i, y) :: ys => place i == some (o, z) && mOpd E x y && mFields place xs ys
  | _, _ => false

def fieldPlaceT (fs : Array Field) (i : Nat) : Option (Nat × Nat) :=
  match fs[i]? with
  | some f => (szOf E f.type).map (f.offset, ·)
  | none => none

def mBuiltin (o : IOp) (b : Builtin) (args : List Operand) (ts : List TypeId) : Bool :=
  match o, b, args, ts with
  | .mv (.c (.int .i64 n)), .len, [_], [t] => (match E.P.underlying t with
    | some (.array k _) => n == k
    | some (.pointer e) => (match E.P.underlying e with | some (.array k _) => n == k | _ => false)
    | _ => false)
  | .len s x, .len, [y], [t] => mOpd E x y && (match E.P.underlying t with | some .string => s | some (.slice _) => !s | _ => false)
  | .lenm x, .len, [y], [t] => mOpd E x y && (match E.P.underlying t with | some (.map _ _) => true | _ => false)
  | .min2 x y, .min, [a, b], [_, _] => mOpd E x a && mOpd E y b
  | .max2 x y, .max, [a, b], [_, _] => mOpd E x a && mOpd E y b
  | .capz x, .cap, [y], [t] => mOpd E x y && (match E.P.underlying t with | some (.slice _) => true | _ => false)
  | .appn zero bytes s n, .append, [a, b], [t, u] => mOpd E s a && mOpd E n b && zero.length != 0 &&
    (match E.P.underlying t, E.P.underlying u with
      | some (.slice e), some (.int _) => zeroT E e zero && (match E.P.info? e with | some i => i.bytes == bytes | none => false)
      | _, _ => false)
  | .app sz bytes s x, .append, [a, b], [t, u] => mOpd E s a && mOpd E x b && sz != 0 &&
    (match E.P.underlying t with
      | some (.slice e) => (match E.P.info? e with
        | some i => i.size == sz && i.bytes == bytes && bytes != 0 && bytes < 65536 && (match i.zero with | some z => z.cells.size == sz | none => false)
        | none => false) && (match E.P.underlying u with | some .string | some (.slice _) => true | _ => false)
      | _ => false)
  | .mdel ag ks m k, .delete, [a, b], [t, _] => mOpd E m a && mOpd E k b && (match E.P.underlying t with | some (.map kt _) => keyT E kt ag ks | _ => false)
  | _, _, _, _ => false

/-- One operation, by the program's. -/
def mBin (op : BinOp) (t : TypeId) (a b : Operand) : IOp → Bool
  | .bin op' x y => op' == op && mOpd E x a && mOpd E y b
  | .beq neg x y => op == (if neg then .neq else .eql) && mOpd E x a && mOpd E y b && (match E.P.underlying t with | some .bool => true | _ => false)
  | .aeq ks neg x y => op == (if neg then .neq else .eql) && mOpd E x a && mOpd E y b && isFlat E t ks
  | .nileq kd neg x => op == (if neg then .neq else .eql) && mOpd E x a && (match E.P.underlying t, b with
      | some (.pointer _), .const (.pointer none) => kd == 0
      | some (.map _ _), .const (.map none) => kd == 1
      | some (.func _ _ _), .const .nilFunc => kd == 2
      | some (.interface _), .const .nilIface => kd == 3
      | some (.slice _), .const (.slice none 0 0) => kd == 4
      | _, _ => false)
  | _ => false

def mConv (src dst : TypeId) (a : Operand) : IOp → Bool
  | .conv k x => mOpd E x a && (match E.P.underlying dst with | some (.int k') => k == k' | _ => false) && (E.P.underlying src).isSome
  | .s2b x => mOpd E x a && (match E.P.underlying src, E.P.underlying dst with | some .string, some (.slice e) => (match E.P.underlying e with | some (.int .u8) => true | _ => false) | _, _ => false)
  | .b2s x => mOpd E x a && (match E.P.underlying src, E.P.underlying dst with | some (.slice e), some .string => (match E.P.underlying e with | some (.int .u8) => true | _ => false) | _, _ => false)
  | _ => false

def mBuild (t : TypeId) (ps : Array (Nat × Operand)) : IOp → Bool
  | .build zero parts => zeroT E t zero && (match E.P.underlying t with
      | some (.struct fs) => mFields E (fieldPlaceT E fs) parts ps.toList && (fs.toList.all fun f => (szOf E f.type).isSome)
      | some (.array _ e) => (match szOf E e with | some z => mFields E (fun i => some (i * z, z)) parts ps.toList | none => false)
      | _ => false)
  | _ => false

def mBuildSlice (t : TypeId) (n : Nat) (ps : Array (Nat × Operand)) : IOp → Bool
  | .bsl sz xs | .bsm sz xs => sz != 0 && xs.length == n && n * sz ≤ 16777216 && mParts E sz 0 xs ps.toList && (match E.P.underlying t with
      | some (.slice e) => (match E.P.info? e with | some i => i.size == sz && (match i.zero with | some z => z.cells.size == sz | none => false) | none => false)
      | _ => false)
  | _ => false

def mIndexAddr (t : TypeId) (y j : Operand) : IOp → Bool
  | .ia z x i => mOpd E x y && mOpd E i j && z != 0 && (match E.P.underlying t with | some (.slice e) => szOf E e == some z | _ => false)
  | .iaa x i len esz => mOpd E x y && mOpd E i j && esz != 0 && (match E.P.underlying t with | some (.array n e) => n == len && szOf E e == some esz | _ => false)
  | _ => false

def mIndex (t : TypeId) (y j : Operand) : IOp → Bool
  | .ixs x i => mOpd E x y && mOpd E i j && (match E.P.underlying t with | some .string => true | _ => false)
  | .ixa x i len esz agg => mOpd E x y && mOpd E i j && (match E.P.underlying t with | some (.array n e) => n == len && cellT E e agg esz | _ => false)
  | _ => false

def mSlice (t : TypeId) (y : Operand) (l h m : Option Operand) : IOp → Bool
  | .sls x lo hi => mOpd E x y && mOopd E lo l && mOopd E hi h && m.isNone && (match E.P.underlying t with | some .string => true | _ => false)
  | .slv z x lo hi mx => mOpd E x y && mOopd E lo l && mOopd E hi h && mOopd E mx m && (mx.isNone || hi.isSome) && z != 0 && (match E.P.underlying t with | some (.slice e) => szOf E e == some z | _ => false)
  | _ => false

def mCall (c : Call) (io : IOp) : Bool :=
  match c.callee with
  | .value g => (match io with
    | .call f args | .pcall f args | .scall f args => mOpd E f g && mOpds E args c.args.toList
    | _ => false)
  | .builtin b => mBuiltin E io b c.args.toList c.argTypes.toList
  | .invoke _ _ => false

def mDefer (c : Call) : IOp → Bool
  | .defdel ag ks m k => (match c.callee, c.args.toList, c.argTypes.toList with
      | .builtin .delete, [a, b], [t, _] => mOpd E m a && mOpd E k b && (match E.P.underlying t with | some (.map kt _) => keyT E kt ag ks | _ => false)
      | _, _, _ => false)
  | _ => false

def mOp (io : IOp) (o : Op) : Bool :=
  match o with
  | .move y => (match io with | .mv x => mOpd E x y | _ => false)
  | .assign y => (match io with | .mv x => mOpd E x y | _ => false)
  | .pick c' a' b' => (match io with | .pick c a b => mOpd E c c' && mOpd E a a' && mOpd E b b' | _ => false)
  | .binOp op t a b _ => mBin E op t a b io
  | .unOp op _ a => (match io with | .un op' x => op' == op && mOpd E x a | _ => false)
  | .convert src dst a => mConv E src dst a io
  | .build t ps => mBuild E t ps io
  | .buildSlice t n ps => mBuildSlice E t n ps io
  | .box _ y => (match io with | .boxv x => mOpd E x y | .boxr x => mOpd E x y | _ => false)
  | .alloc t => (match io with | .alloc zero => zeroT E t zero | _ => false)
  | .load t b => (match io with | .loadv agg n a => mOpd E a b && cellT E t agg n | .load agg n a => mOpd E a b && cellT E t agg n | _ => false)
  | .store t b y => (match io with | .store n a x => mOpd E a b && mOpd E x y && szOf E t == some n | _ => false)
  | .fieldAddr s b f => (match io with
      | .fa a off => mOpd E a b && (match E.P.underlying s with
        | some (.struct fs) => (match fs[f]? with | some g => g.offset == off && (match szOf E g.type with | some z => z != 0 | none => false) | none => false)
        | _ => false)
      | _ => false)
  | .field s y f => (match io with
      | .fld x off n agg => mOpd E x y && (match E.P.underlying s with
        | some (.struct fs) => (match fs[f]? with | some g => g.offset == off && cellT E g.type agg n | none => false)
        | _ => false)
      | _ => false)
  | .indexAddr t y j => mIndexAddr E t y j io
  | .index t y j => mIndex E t y j io
  | .slice t y l h m => mSlice E t y l h m io
  | .makeMap t r => (match io with
      | .mkmap => (match E.P.underlying t, r with | some (.map _ _), none => true | some (.map _ _), some (.const (.int _ _)) => true | _, _ => false)
      | _ => false)
  | .makeSlice t a b => (match io with
      | .mksl zero bytes n c => mOpd E n a && mOpd E c b && zero.length != 0 && (match E.P.underlying t with
        | some (.slice e) => zeroT E e zero && (match E.P.info? e with | some i => i.bytes == bytes | none => false)
        | _ => false)
      | _ => false)
  | .lookup t a b ok' => (match io with
      | .look ag ks m k zero ok => mOpd E m a && mOpd E k b && ok == ok' && (match E.P.underlying t with | some (.map kt e) => keyT E kt ag ks && zeroV E e zero | _ => false)
      | _ => false)
  | .mapUpdate t a b c => (match io with
      | .mset ag ks m k v => mOpd E m a && mOpd E k b && mOpd E v c && (match E.P.underlying t with | some (.map kt _) => keyT E kt ag ks | _ => false)
      | _ => false)
  | .range t y => (match io with | .srange x => mOpd E x y && (match E.P.underlying t with | some .string => true | _ => false) | _ => false)
  | .next y isString => (match io with | .snext x => mOpd E x y && isString | _ => false)
  | .extract y j => (match io with | .ext x i => mOpd E x y && i == j | _ => false)
  | .nilCheck y => (match io with | .nchk x => mOpd E x y | _ => false)
  | .makeFunc fn a b => (match io, fn with | .mkfn f first caps, .func g => E.σ g == some f && mOpds E first a.toList && mOpds E caps b.toList | _, _ => false)
  | .makeInterface u y => (match io with
      | .mkif t x => mOpd E x y && E.τ u == some t && (match E.P.underlying u with | some (.interface _) | none => false | _ => true)
      | _ => false)
  | .call c => mCall E c io
  | .defer c => mDefer E c io
  | _ => false

def mGuard (ops : List Oper) : Option (Nat × Bool) → Option (Nat × Bool) → Bool
  | none, none => true
  | some (s, w), some (j, v) => w == v && (match ops[j]? with | some o => o.dst == some s | none => false)
  | _, _ => false

def mOper (ops : List Oper) (io : IOper) (o : Oper) : Bool := io.dst == o.dst && mGuard ops io.guard o.guard && mOp E io.op o.op

def mOps (all : List Oper) : List IOper → List Oper → Bool
  | [], [] => true
  | x :: xs, y :: ys => mOper E all x y && mOps all xs ys
  | _, _ => false

/-! Regions that draw their order: which pairs may stand in either order -/

/-- 0: on temporaries alone; 1: it reads the store; 2: it makes a new object; 3: it writes the store. -/
def kindOf : IOp → Nat
  | .load .. | .lenm .. | .b2s .. | .look .. | .scall .. => 1
  | .boxr .. | .alloc .. | .mkmap => 2
  | .bsm .. | .srange .. | .snext .. | .appn .. | .s2b .. | .store .. | .app .. | .mksl .. | .mset .. | .mdel .. | .call .. | .defdel .. => 3
  | _ => 0

/-- May the operation of kind b, that stands behind the one of kind a, come ahead of it? -/
def swapK (a b : Nat) : Bool := a == 0 || b == 0 || (a == 1 && b == 1) || (a == 1 && b == 2) || (a == 2 && b == 2)

def opdTmps : List Opd → List Nat
  | [] => []
  | .t n :: xs => n :: opdTmps xs
  | _ :: xs => opdTmps xs

def IOp.opds : IOp → List Opd
  | .mv x | .nileq _ _ x | .un _ x | .conv _ x | .s2b x | .b2s x | .boxv x | .boxr x | .loadv _ _ x | .load _ _ x | .fa x _ | .fld x _ _ _ | .len _ x | .lenm x | .ext x _ | .nchk x | .mkif _ x | .srange x | .snext x | .capz x => [x]
  | .pick a b c | .mset _ _ a b c => [a, b, c]
  | .bin _ x y | .beq _ x y | .aeq _ _ x y | .store _ x y | .ia _ x y | .iaa x y _ _ | .ixs x y | .ixa x y _ _ _ | .min2 x y | .max2 x y | .app _ _ x y | .appn _ _ x y | .mksl _ _ x y | .look _ _ x y _ _ | .mdel _ _ x y | .defdel _ _ x y => [x, y]
  | .build _ ps => ps.map fun p => p.2.2
  | .bsl _ xs | .bsm _ xs => xs
  | .alloc _ | .mkmap => []
  | .sls x lo hi => x :: (lo.toList ++ hi.toList)
  | .slv _ x lo hi mx => x :: (lo.toList ++ hi.toList ++ mx.toList)
  | .call f as | .pcall f as | .scall f as => f :: as
  | .mkfn _ a b => a ++ b

def IOper.reads (o : IOper) : List Nat := opdTmps o.op.opds ++ (match o.guard with | some (s, _) => [s] | none => [])

/-- Two operations that touch no temporary in common that one of them writes. -/
def apartT (a b : IOper) : Bool :=
  (match a.dst with | some d => !b.reads.contains d && b.dst != some d | none => true) &&
  (match b.dst with | some d => !a.reads.contains d && a.dst != some d | none => true)

def swapOk (a b : IOper) : Bool := apartT a b && swapK (kindOf a.op) (kindOf b.op)

/-- Bound to come ahead, by the edges that bind in every order: for each operation a set of numbers. -/
def aheadM (ms : List Nat) : List Edge → Nat
  | [] => 0
  | e :: es => if Region.binds .any e then (1 <<< e.on) ||| (ms.getD e.on 0) ||| aheadM ms es else aheadM ms es

def aheadL : List Nat → List Oper → List Nat
  | ms, [] => ms
  | ms, o :: os => aheadL (ms ++ [aheadM ms o.after.toList]) os

/-- All pairs that no edge orders may be swapped. -/
def pairsOk (ms : List Nat) : Nat → List (Nat × IOper) → List IOper → Bool
  | _, _, [] => true
  | j, pre, o :: os => (pre.all fun (i, x) => (ms.getD j 0).testBit i || swapOk x o) && pairsOk ms (j + 1) (pre ++ [(j, o)]) os

/-- The edges that bind lead to what stands ahead. -/
def edgesOk : Nat → List Oper → Bool
  | _, [] => true
  | k, o :: os => (o.after.toList.all fun e => !Region.binds .any e || decide (e.on < k)) && edgesOk (k + 1) os

def drawOk (iops : List IOper) (ops : Array Oper) : Bool :=
  E.P.follows .mixedOrders && edgesOk 0 ops.toList && pairsOk (aheadL [] ops.toList) 0 [] iops

def mCode : ICode → Code → Bool
  | .never, _ => true
  | .skip, .skip => true
  | .skip, .label _ => true
  | .reg d iops, .region _ ops d' => d == d' && mOps E ops.toList iops ops.toList && (!d || drawOk E iops ops)
  | .seq (.gh _) c, pc => mCode c pc
  | .seq c (.gh _), pc => mCode c pc
  | .seq a b, .seq x y => mCode a x && mCode b y
  | .cond c a b, .cond o x y => mOpd E c o && mCode a x && mCode b y
  | .blk id c, .block id' x => id == id' && mCode c x
  | .loop c, .loop x => mCode c x
  | .exit id, .exit id' => id == id'
  | .ret, .ret => true
  | .scope c, .scope x => mCode c x
  | .rf f ps as bo, .rangeFunc g qs x y => mOpd E f g && ps == qs.toList && mCode as x && mCode bo y
  | _, _ => false

def mRes : List IRes → List ResultVar → Bool
  | [], [] => true
  | .tmp n :: xs, .tmp m :: ys => n == m && mRes xs ys
  | .cell n agg sz :: xs, .cell m t :: ys => n == m && cellT E t agg sz && mRes xs ys
  | _, _ => false

def mFun (F : IFun) (f : Func) : Bool :=
  F.np == f.params.size + f.nfree && F.nt == f.ntmps && F.np ≤ F.nt && mRes E F.res f.results.toList && f.name != "runtime.NumGoroutine" &&
  (match f.body with | some c => mCode E F.body c | none => false)
end
end Go.Proofs.YtleommjdeejmkaaGreatDoor.Zq
