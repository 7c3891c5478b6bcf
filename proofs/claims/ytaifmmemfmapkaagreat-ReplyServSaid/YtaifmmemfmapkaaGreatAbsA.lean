import GoSem.Step
import Derived.Calls
import Derived.Laws.Sem
namespace Go.Abs

/-- What a Go value is, for the abstract machine. -/
inductive AV where
  | bool (b : Bool)
  | int (k : IntKind) (n : Int)
  | str (s : List UInt8)
  | nilp | nilm | nilf | nili
  | ptr (β off : Nat)
  | rp (cs : List AV)
  | sl (β sz off len : Nat)
  | row (sz : Nat) (xs : List (List AV))
  | emp (isnil : Bool)
  | map (β : Nat)
  | fn (f : Fn) (first captured : List AV)
  | ifc (t : TypeId) (v : AV)
  | agg (cs : List AV)
  | tup (vs : List AV)
  /-- of which nothing is known -/
  | any

abbrev AV.undef : AV := .tup []
def AV.cells : AV → List AV
  | .agg cs => cs
  | v => [v]
def AV.toI : AV → Int
  | .int _ n => n
  | _ => 0
def AV.isI (k : IntKind) : AV → Bool
  | .int k' _ => decide (k' = k)
  | _ => false
def AV.toB : AV → Bool
  | .bool b => b
  | _ => false
def AV.isB : AV → Bool
  | .bool _ => true
  | _ => false
def AV.toS : AV → List UInt8
  | .str s => s
  | _ => []
def AV.isS : AV → Bool
  | .str _ => true
  | _ => false

mutual
def ofV : Value → Option AV
  | .bool b => some (.bool b)
  | .int k n => some (.int k n)
  | .string s => some (.str s.data.toList)
  | .pointer none => some .nilp
  | .slice none 0 0 => some (.emp true)
  | .map none => some .nilm
  | .nilFunc => some .nilf
  | .nilIface => some .nili
  | .agg ⟨cs⟩ => cond (cs.all Value.oneCell') ((ofVs cs).map .agg) none
  | .tuple ⟨vs⟩ => (ofVs vs).map .tup
  | _ => none
def ofVs : List Value → Option (List AV)
  | [] => some []
  | v :: vs => match ofV v, ofVs vs with
    | some a, some as => some (a :: as)
    | _, _ => none
end

/-- A cell's kind, where a whole variable is loaded. -/
inductive CK where
  | int (k : IntKind) | bool | str | raw

inductive TD where
  | bool | int (k : IntKind) | str
  | ptr (e : TypeId) | slice (e : TypeId) | arr (n : Nat) (e : TypeId)
  | struct (fs : List (TypeId × Nat))
  | map (k e : TypeId) | func | iface | other

structure TI where
  d : TD
  size : Nat
  bytes : Nat
  zero : List AV
  flat : List CK
  /-- may '==' be asked cell by cell? -/
  eq : Bool

def TI.isAgg (i : TI) : Bool := match i.d with | .arr .. | .struct _ => true | _ => false

inductive Blk where
  | cells (ro : Bool) (t : TypeId) (cs : List AV)
  | map (kt et : TypeId) (es : List (AV × AV))
  | dead

abbrev Heap := List Blk
def Heap.at (h : Heap) (β : Nat) : Blk := h.getD β .dead

/-- a call's answer: a side condition, the value, the heap, the blocks that are not as they were -/
structure Ans where
  ok : Bool
  v : AV
  h : Heap
  T : List Nat

abbrev Contracts := FuncId → List AV → Heap → Option Ans

structure Env where
  ty : TypeId → Option TI
  fns : FuncId → Option Func
  /-- calls that neither ask nor turn the heap -/
  Cp : FuncId → List AV → Option (Bool × AV)
  /-- calls that ask some blocks of the heap, and turn none -/
  Cr : FuncId → List AV → Heap → Option (List Nat × Bool × AV)
  C : Contracts

def upd (t : Nat → AV) (d : Nat) (v : AV) : Nat → AV := fun i => cond (Nat.beq i d) v (t i)
def putT (t : Nat → AV) (d : Option Tmp) (v : AV) : Nat → AV := match d with | some d => upd t d v | none => t
/-- The same as 'K (putT t d v)', the value brought to its head first. -/
def withV (t : Nat → AV) (d : Option Tmp) (v : AV) (K : (Nat → AV) → Prop) : Prop :=
  match d with
  | none => K t
  | some d => match v with
    | .bool b => K (upd t d (.bool b))
    | .int k n => K (upd t d (.int k n))
    | .str s => K (upd t d (.str s))
    | .nilp => K (upd t d .nilp)
    | .nilm => K (upd t d .nilm)
    | .nilf => K (upd t d .nilf)
    | .nili => K (upd t d .nili)
    | .ptr β o => K (upd t d (.ptr β o))
    | .rp cs => K (upd t d (.rp cs))
    | .sl β sz o n => K (upd t d (.sl β sz o n))
    | .row sz xs => K (upd t d (.row sz xs))
    | .emp b => K (upd t d (.emp b))
    | .map β => K (upd t d (.map β))
    | .fn f a c => K (upd t d (.fn f a c))
    | .ifc u v => K (upd t d (.ifc u v))
    | .agg cs => K (upd t d (.agg cs))
    | .tup vs => K (upd t d (.tup vs))
    | .any => K (upd t d .any)
/-- The same as 'K h', the list of blocks brought to its form first. -/
def withH : Heap → (Heap → Prop) → Prop
  | [], K => K []
  | b :: h, K => withH h fun h => match b with
    | .cells ro t cs => K (.cells ro t cs :: h)
    | .map k e es => K (.map k e es :: h)
    | .dead => K (.dead :: h)

def ev (t : Nat → AV) : Operand → Option AV
  | .tmp i => some (t i)
  | .const v => ofV v
  | .global _ => none
  | .func f => some (.fn (.func f) [] [])

def setCells : List AV → Nat → List AV → List AV
  | cs, _, [] => cs
  | [], _, _ :: _ => []
  | _ :: cs, 0, v :: vs => v :: setCells cs 0 vs
  | c :: cs, n + 1, v :: vs => c :: setCells cs n (v :: vs)

def proj : CK → AV → AV
  | .int k, c => match c with
    | .int _ n => .int k n
    | _ => .int k 0
  | .bool, c => match c with
    | .bool b => .bool b
    | _ => .bool false
  | .str, c => match c with
    | .str s => .str s
    | _ => .str []
  | .raw, c => c
def projOk : CK → AV → Bool
  | .int k, c => c.isI k
  | .bool, c => c.isB
  | .str, c => c.isS
  | .raw, _ => true
def projs : List CK → List AV → List AV
  | [], _ => []
  | k :: ks, cs => proj k (cs.headD .undef) :: projs ks cs.tail
def projsOk : List CK → List AV → Bool
  | [], _ => true
  | k :: ks, cs => match cs with
    | [] => false
    | c :: cs => cond (projOk k c) (projsOk ks cs) false

/-- A side condition, a value. -/
abbrev R := Option (Bool × AV)

def loadFrom (i : TI) (cs : List AV) : Bool × AV :=
  cond i.isAgg (projsOk i.flat cs, .agg (cond (Nat.beq cs.length i.size) cs (cs.take i.size)))
    (projsOk i.flat cs, (projs i.flat cs).headD .undef)

def intBin (op : BinOp) (k : IntKind) (x y : Int) : R :=
  match op with
  | .add => some (true, .int k (k.wrap (x + y)))
  | .sub => some (true, .int k (k.wrap (x - y)))
  | .mul => some (true, .int k (k.wrap (x * y)))
  | .quo => some (decide (y ≠ 0), .int k (k.wrap (x.tdiv y)))
  | .rem => some (decide (y ≠ 0), .int k (x.tmod y))
  | .and => some (true, .int k (k.wrap ((BitVec.ofInt k.bits x &&& BitVec.ofInt k.bits y).toNat)))
  | .or => some (true, .int k (k.wrap ((BitVec.ofInt k.bits x ||| BitVec.ofInt k.bits y).toNat)))
  | .xor => some (true, .int k (k.wrap ((BitVec.ofInt k.bits x ^^^ BitVec.ofInt k.bits y).toNat)))
  | .andNot => some (true, .int k (k.wrap ((BitVec.ofInt k.bits x &&& ~~~ BitVec.ofInt k.bits y).toNat)))
  | .eql => some (true, .bool (x == y))
  | .neq => some (true, .bool (x != y))
  | .lss => some (true, .bool (decide (x < y)))
  | .leq => some (true, .bool (decide (x ≤ y)))
  | .gtr => some (true, .bool (decide (x > y)))
  | .geq => some (true, .bool (decide (x ≥ y)))
  | _ => none

def cellEq : AV → AV → Option Bool
  | .bool a, .bool b => some (a == b)
  | .int k a, .int k' b => if k = k' then some (a == b) else none
  | .str a, .str b => some (a == b)
  | _, _ => none
def cellsEq : List AV → List AV → Option Bool
  | [], [] => some true
  | x :: xs, y :: ys => match cellEq x y, cellsEq xs ys with
    | some a, some b => some (a && b)
    | _, _ => none
  | _, _ => none

def nilEq : TD → AV → AV → Option (Bool × Bool)
  | .ptr _, .nilp, .nilp => some (true, true)
  | .ptr _, .nilp, .ptr _ _ => some (true, false)
  | .ptr _, .ptr _ _, .nilp => some (true, false)
  | .map _ _, .nilm, .nilm => some (true, true)
  | .map _ _, .nilm, .map _ => some (true, false)
  | .map _ _, .map _, .nilm => some (true, false)
  | .func, .nilf, .nilf => some (true, true)
  | .func, .nilf, .fn _ _ _ => some (true, false)
  | .func, .fn _ _ _, .nilf => some (true, false)
  | .slice _, .emp b, .emp b' => cond (b && b') (some (true, true)) none
  | .slice _, .row _ xs, .emp b => cond b (some (Nat.blt 0 xs.length, false)) none
  | .slice _, .sl _ _ _ n, .emp b => cond b (some (Nat.blt 0 n, false)) none
  | .bool, .bool a, .bool b => some (true, a == b)
  | _, _, _ => none

def eqA (E : Env) (t : TypeId) (x y : AV) : Option (Bool × Bool) :=
  match E.ty t with
  | some i => match x, y with
    | .agg xs, .agg ys => cond (i.eq && Nat.beq xs.length i.size && Nat.beq ys.length i.size) ((cellsEq xs ys).map fun b => (projsOk i.flat xs && projsOk i.flat ys, b)) none
    | x, y => nilEq i.d x y
  | none => none

def i64max : Nat := 9223372036854775807

def strBin (op : BinOp) (a b : List UInt8) : R :=
  match op with
  | .add => some (decide (a.length + b.length ≤ i64max), .str (a ++ b))
  | .eql => some (true, .bool (a == b))
  | .neq => some (true, .bool (!(a == b)))
  | _ => none

def binA (E : Env) (op : BinOp) (t : TypeId) (x y : AV) : R :=
  match x, y with
  | .int k a, .int k' b => match op with
    | .shl => some (decide (0 ≤ b), .int k (k.wrap (a * 2 ^ (min b.toNat k.bits))))
    | .shr => some (decide (0 ≤ b), .int k (a.fdiv (2 ^ (min b.toNat k.bits))))
    | op => if k = k' then intBin op k a b else none
  | .str a, .str b => strBin op a b
  | x, y => match op with
    | .eql => (eqA E t x y).map fun (c, b) => (c, .bool b)
    | .neq => (eqA E t x y).map fun (c, b) => (c, .bool (!b))
    | _ => none

def pickA (c a b : AV) : Option AV :=
  match c with
  | .bool c => match a, b with
    | .bool x, .bool y => some (.bool (cond c x y))
    | a, b => some (cond c a b)
  | _ => none

def idxOk (n : Int) (len : Nat) : Bool := decide (0 ≤ n) && decide (n < (len : Int))
def bndOk (lo hi len : Int) : Bool := decide (0 ≤ lo) && decide (lo ≤ hi) && decide (hi ≤ len)

def boundA (t : Nat → AV) : Option Operand → Option (Option Int)
  | none => some none
  | some x => match ev t x with
    | some (.int _ n) => some (some n)
    | _ => none

def sliceA (E : Env) (ty : TypeId) (x : AV) (lo hi mx : Option Int) : R :=
  match E.ty ty with
  | some ti => match ti.d, x with
    | .str, .str s => match mx with
      | some _ => none
      | none => some (bndOk (lo.getD 0) (hi.getD s.length) s.length, .str ((s.drop (lo.getD 0).toNat).take ((hi.getD s.length).toNat - (lo.getD 0).toNat)))
    | .slice e, x => match E.ty e with
      | some ei => match x with
        | .row sz xs => match mx with
          | some m => match lo, hi with
            | none, some h => some (decide (h = 0) && decide (m = 0), .emp false)
            | _, _ => none
          | none => cond (Nat.beq sz ei.size)
              (some (bndOk (lo.getD 0) (hi.getD xs.length) xs.length, .row sz ((xs.drop (lo.getD 0).toNat).take ((hi.getD xs.length).toNat - (lo.getD 0).toNat)))) none
        | .sl β sz off len => match mx with
          | some _ => none
          | none => cond (Nat.beq sz ei.size)
              (some (bndOk (lo.getD 0) (hi.getD len) len, .sl β sz (off + (lo.getD 0).toNat * sz) ((hi.getD len).toNat - (lo.getD 0).toNat))) none
        | .emp b => match mx with
          | some m => match lo, hi with
            | none, some h => some (decide (h = 0) && decide (m = 0), .emp b)
            | _, _ => none
          | none => some (bndOk (lo.getD 0) (hi.getD 0) 0, .emp b)
        | _ => none
      | none => none
    | _, _ => none
  | none => none

def indexAddrA (E : Env) (t : TypeId) (x i : AV) : R :=
  match E.ty t, i with
  | some ti, .int _ n => match ti.d with
    | .slice e => match E.ty e with
      | some ei => match x with
        | .sl β sz off len => cond (Nat.beq sz ei.size) (some (idxOk n len, .ptr β (off + n.toNat * sz))) none
        | .row sz xs => cond (Nat.beq sz ei.size) (some (idxOk n xs.length, .rp (xs.getD n.toNat []))) none
        | _ => none
      | none => none
    | .arr len e => match E.ty e with
      | some ei => match x with
        | .ptr β off => some (idxOk n len, .ptr β (off + n.toNat * ei.size))
        | .rp cs => some (idxOk n len, .rp (cs.drop (n.toNat * ei.size)))
        | _ => none
      | none => none
    | _ => none
  | _, _ => none

def fieldOff (E : Env) (s : TypeId) (f : Nat) : Option Nat :=
  match E.ty s with
  | some ti => match ti.d with
    | .struct fs => match fs[f]? with
      | some (ft, o) => match E.ty ft with
        | some fi => cond (Nat.beq fi.size 0) none (some o)
        | none => none
      | none => none
    | _ => none
  | none => none

def fieldAddrA (E : Env) (s : TypeId) (x : AV) (f : Nat) : Option AV :=
  match fieldOff E s f with
  | some o => match x with
    | .ptr β off => some (.ptr β (off + o))
    | .rp cs => some (.rp (cs.drop o))
    | _ => none
  | none => none

/-- Filling a struct's or an array's cells. -/
def fillA (place : Nat → Option (Nat × Nat)) (cells : List AV) : List (Nat × AV) → Option (List AV)
  | [] => some cells
  | (i, v) :: rest => match place i with
    | none => none
    | some (off, size) => cond (Nat.beq v.cells.length size && Nat.ble (off + size) cells.length) (fillA place (setCells cells off v.cells) rest) none

def noTup : AV → Option AV
  | .tup _ => none
  | .any => none
  | .bool b => some (.bool b)
  | .int k n => some (.int k n)
  | .str s => some (.str s)
  | .nilp => some .nilp
  | .nilm => some .nilm
  | .nilf => some .nilf
  | .nili => some .nili
  | .ptr β o => some (.ptr β o)
  | .rp cs => some (.rp cs)
  | .sl β sz o n => some (.sl β sz o n)
  | .row sz xs => some (.row sz xs)
  | .emp b => some (.emp b)
  | .map β => some (.map β)
  | .fn f a c => some (.fn f a c)
  | .ifc t v => some (.ifc t v)
  | .agg cs => some (.agg cs)
def evParts (t : Nat → AV) : List (Nat × Operand) → Option (List (Nat × AV))
  | [] => some []
  | (i, x) :: r => match (ev t x).bind noTup, evParts t r with
    | some a, some l => some ((i, a) :: l)
    | _, _ => none
def evs (t : Nat → AV) : List Operand → Option (List AV)
  | [] => some []
  | x :: r => match ev t x, evs t r with
    | some a, some l => some (a :: l)
    | _, _ => none

def szE (E : Env) (t : TypeId) : Nat := match E.ty t with | some i => i.size | none => 0
def buildA (E : Env) (t : TypeId) (parts : List (Nat × AV)) : Option AV :=
  match E.ty t with
  | some ti => match ti.d with
    | .struct fs => cond (fs.all fun f => (E.ty f.1).isSome) ((fillA (fun i => (fs[i]?).map fun f => (f.2, szE E f.1)) ti.zero parts).map .agg) none
    | .arr _ e => match E.ty e with
      | some ei => (fillA (fun i => some (i * ei.size, ei.size)) ti.zero parts).map .agg
      | none => none
    | _ => none
  | none => none

/-- The operations that ask nothing of the heap. -/
def pureA0 (E : Env) (t : Nat → AV) (o : Oper) : R :=
  match o.op with
  | .move x | .assign x => (ev t x).map fun v => (true, v)
  | .pick c a b => match ev t c, ev t a, ev t b with
    | some c, some a, some b => (pickA c a b).map fun v => (true, v)
    | _, _, _ => none
  | .build ty ps => match evParts t ps.toList with
    | some l => (buildA E ty l).map fun v => (true, v)
    | none => none
  | .nilCheck x => match ev t x with
    | some (.ptr β o) => some (true, .ptr β o)
    | some (.rp cs) => some (true, .rp cs)
    | some (.fn f a c) => match f with
      | .func _ => some (true, .fn f a c)
      | _ => none
    | _ => none
  | .binOp op ty x y _ => match ev t x, ev t y with
    | some x, some y => binA E op ty x y
    | _, _ => none
  | .unOp op _ x => match op, ev t x with
    | .not, some (.bool b) => some (true, .bool (!b))
    | .neg, some (.int k n) => some (true, .int k (k.wrap (0 - n)))
    | _, _ => none
  | .convert src dst x => match E.ty src, E.ty dst, ev t x with
    | some _, some ti, some (.int _ n) => match ti.d with
      | .int k => some (true, .int k (k.wrap n))
      | _ => none
    | some _, some ti, some (.str s) => match ti.d with
      | .str => some (true, .str s)
      | _ => none
    | _, _, _ => none
  | .makeInterface ty x => match E.ty ty, ev t x with
    | some ti, some v => match ti.d with
      | .iface => none
      | _ => some (true, .ifc ty v)
    | _, _ => none
  | .makeFunc f first cap => match evs t first.toList, evs t cap.toList with
    | some a, some b => some (true, .fn f a b)
    | _, _ => none
  | .slice ty x lo hi mx => match ev t x, boundA t lo, boundA t hi, boundA t mx with
    | some x, some lo, some hi, some mx => sliceA E ty x lo hi mx
    | _, _, _, _ => none
  | .fieldAddr s x f => match ev t x with
    | some x => (fieldAddrA E s x f).map fun v => (true, v)
    | none => none
  | .indexAddr ty x i => match ev t x, ev t i with
    | some x, some i => indexAddrA E ty x i
    | _, _ => none
  | .index ty x i => match E.ty ty, ev t x, ev t i with
    | some ti, some (.str s), some (.int _ n) => match ti.d with
      | .str => some (idxOk n s.length, .int .u8 ((s.getD n.toNat 0).toNat : Int))
      | _ => none
    | _, _, _ => none
  | .extract x i => match ev t x with
    | some (.tup vs) => (vs[i]?).map fun v => (true, v)
    | _ => none
  | .call { callee := .builtin b, args, argTypes } => match b, evs t args.toList with
    | .len, some [x] => match (argTypes[0]?).bind E.ty with
      | some ti => match ti.d, x with
        | .str, .str s => some (true, .int .i64 s.length)
        | .slice _, .row _ xs => some (true, .int .i64 xs.length)
        | .slice _, .sl _ _ _ n => some (true, .int .i64 n)
        | .slice _, .emp _ => some (true, .int .i64 0)
        | _, _ => none
      | none => none
    | .min, some [.int k x, .int _ y] => some (true, .int k (cond (decide (y < x)) y x))
    | .max, some [.int k x, .int _ y] => some (true, .int k (cond (decide (y > x)) y x))
    | _, _ => none
  | _ => none

def partA (ei : TI) (cs : List AV) (off : Nat) : AV := cond ei.isAgg (.agg ((cs.drop off).take ei.size)) ((cs.drop off).headD .undef)
def isPtrT (E : Env) (t : TypeId) : Bool :=
  match E.ty t with
  | some i => match i.d with
    | .ptr e => (E.ty e).isSome
    | _ => false
  | none => false
def isListT (E : Env) (t : Option TypeId) : Bool :=
  match t.bind E.ty with
  | some i => match i.d with
    | .slice _ => true
    | _ => false
  | none => false
/-- More operations that ask nothing of the heap. -/
def pureX (E : Env) (t : Nat → AV) (o : Oper) : R :=
  match o.op with
  | .binOp op ty x y _ => match ev t x, ev t y with
    | some (.ptr β a), some (.ptr γ b) => cond (Nat.beq β γ && Nat.beq a b && isPtrT E ty) (match op with
      | .eql => some (true, .bool true)
      | .neq => some (true, .bool false)
      | _ => none) none
    | _, _ => none
  | .index ty x i => match E.ty ty, ev t x, ev t i with
    | some ti, some (.agg cs), some (.int _ n) => match ti.d with
      | .arr len e => match E.ty e with
        | some ei => some (idxOk n len && Nat.ble (n.toNat * ei.size + ei.size) cs.length, partA ei cs (n.toNat * ei.size))
        | none => none
      | _ => none
    | _, _, _ => none
  | .call { callee := .builtin b, args, argTypes } => match b, evs t args.toList with
    | .cap, some [.emp _] => cond (isListT E argTypes[0]?) (some (true, .int .i64 0)) none
    | .unsafeSliceData, some [.sl β _ off len] => some (Nat.blt 0 len, .ptr β off)
    | .unsafeSliceData, some [.emp b] => cond b (some (true, .nilp)) none
    | .unsafeString, some [.nilp, .int .i64 n] => cond (Nat.beq argTypes.size 2) (some (decide (n = 0), .str [])) none
    | _, _ => none
  | _ => none
def pureA (E : Env) (t : Nat → AV) (o : Oper) : R :=
  match pureA0 E t o with
  | some r => some r
  | none => pureX E t o

/-- A load: the block that is read (none: what stands fast), and what it gives. -/
def loadA (E : Env) (t : Nat → AV) (o : Oper) (h : Heap) : Option (Option Nat × Bool × AV) :=
  match o.op with
  | .load ty x => match E.ty ty, ev t x with
    | some ti, some (.ptr β off) => match h.at β with
      | .cells _ _ cs => some (some β, loadFrom ti (cs.drop off))
      | _ => none
    | some ti, some (.rp cs) => some (none, loadFrom ti cs)
    | _, _ => none
  | _ => none

def roomy (n bytes : Nat) : Bool := Nat.ble (n * bytes) 35184372088832

def bytesCells (s : List UInt8) : List AV := s.map fun b => .int .u8 (b.toNat : Int)
def cellsBytes (cs : List AV) : List UInt8 := cs.map fun c => UInt8.ofNat c.toI.toNat

/-- The cells that are appended: how many elements, which cells. -/
def srcCells (sz : Nat) (h : Heap) : AV → Option (Bool × Nat × List AV)
  | .emp _ => some (true, 0, [])
  | .row sz' xs => cond (Nat.beq sz sz') (some (true, xs.length, xs.flatten)) none
  | .sl β sz' off len => cond (Nat.beq sz sz') (match h.at β with
      | .cells _ _ cs => some (Nat.ble (off + len * sz) cs.length, len, (cs.drop off).take (len * sz))
      | _ => none) none
  | .str s => cond (Nat.beq sz 1) (some (true, s.length, bytesCells s)) none
  | _ => none

def isBytes (E : Env) (e : TypeId) : Bool :=
  match E.ty e with
  | some i => match i.d with
    | .int .u8 => true
    | _ => false
  | none => false
def listy (E : Env) (t : Option TypeId) : Bool :=
  match t.bind E.ty with
  | some i => match i.d with
    | .slice _ => true
    | .str => true
    | _ => false
  | none => false
def zerosOf (n : Nat) (z : List AV) : List AV := (List.replicate n z).flatten

/-- 'append': ok, n, new: what is appended; s: to what. -/
def appendA (e : TypeId) (ei : TI) (h : Heap) (ok : Bool) (n : Nat) (new : List AV) (s : AV) : Option Ans :=
  match s with
  | .emp b => cond (Nat.beq n 0) (some ⟨ok, .emp b, h, []⟩)
      (some ⟨ok && roomy n ei.bytes, .sl h.length ei.size 0 n, h ++ [.cells false e new], [h.length]⟩)
  | .sl β sz off len => match h.at β with
    | .cells false e' cs => some ⟨ok && Nat.beq e e' && Nat.beq sz ei.size && Nat.beq off 0 && Nat.beq (len * sz) cs.length && roomy (len + n) ei.bytes,
        .sl h.length sz 0 (len + n), h.set β .dead ++ [.cells false e (cs ++ new)], [β, h.length]⟩
    | _ => none
  | _ => none
def exactA (sz : Nat) (h : Heap) : AV → Bool
  | .sl β _ _ len => match h.at β with
    | .cells _ _ cs => Nat.beq (len * sz) cs.length
    | _ => true
  | _ => true
/-- A row that is seen up to its slice's end alone. -/
def trimA (sz : Nat) (h : Heap) : AV → Heap
  | .sl β _ _ len => match h.at β with
    | .cells false e cs => h.set β (.cells false e (cs.take (len * sz)))
    | _ => h
  | _ => h
/-- The operations that make or turn blocks. -/
def actA0 (E : Env) (t : Nat → AV) (o : Oper) (h : Heap) : Option Ans :=
  let new (ty : TypeId) (cs : List AV) (ok : Bool) (v : AV) : Option Ans := some ⟨ok, v, h ++ [.cells false ty cs], [h.length]⟩
  match o.op with
  | .alloc e => match E.ty e with
    | some ti => new e ti.zero true (.ptr h.length 0)
    | none => none
  | .box e x => match (ev t x).bind noTup with
    | some v => new e v.cells true (.ptr h.length 0)
    | none => none
  | .buildSlice ty len ps => match E.ty ty with
    | some ti => match ti.d with
      | .slice e => match E.ty e, evParts t ps.toList with
        | some ei, some l => match fillA (fun i => some (i * ei.size, ei.size)) (zerosOf len ei.zero) l with
          | some cs => new e cs (Nat.ble (len * ei.size) 16777216) (.sl h.length ei.size 0 len)
          | none => none
        | _, _ => none
      | _ => none
    | none => none
  | .makeSlice ty n c => match E.ty ty with
    | some ti => match ti.d with
      | .slice e => match E.ty e, ev t n, ev t c with
        | some ei, some (.int _ n), some (.int _ c) => new e (zerosOf n.toNat ei.zero) (decide (0 ≤ n) && decide (n ≤ c) && roomy c.toNat ei.bytes) (.sl h.length ei.size 0 n.toNat)
        | _, _, _ => none
      | _ => none
    | none => none
  | .convert src dst x => match E.ty src, E.ty dst, ev t x with
    | some si, some ti, some x => match si.d, ti.d, x with
      | .str, .slice e, .str s => cond (isBytes E e) (new e (bytesCells s) true (.sl h.length 1 0 s.length)) none
      | .slice _, .str, .str _ => none
      | .slice e, .str, x => cond (isBytes E e) (match srcCells 1 h x with
          | some (ok, _, cs) => some ⟨ok && cs.all (AV.isI .u8), .str (cellsBytes cs), h, []⟩
          | none => none) none
      | _, _, _ => none
    | _, _, _ => none
  | .store ty x v => match E.ty ty, ev t x, (ev t v).bind noTup with
    | some ti, some (.ptr β off), some v => match h.at β with
      | .cells false e cs => match ti.isAgg && Nat.beq off 0 && Nat.beq v.cells.length cs.length with
        | true => some ⟨Nat.beq v.cells.length ti.size && Nat.ble (off + ti.size) cs.length, .undef, h.set β (.cells false e v.cells), [β]⟩
        | false => some ⟨Nat.beq v.cells.length ti.size && Nat.ble (off + ti.size) cs.length, .undef, h.set β (.cells false e (setCells cs off v.cells)), [β]⟩
      | _ => none
    | _, _, _ => none
  | .call { callee := .builtin b, args, argTypes } => match b, (argTypes[0]?).bind E.ty, evs t args.toList with
    | .append, some ti, some [s, x] => match ti.d, listy E argTypes[1]? with
      | .slice e, true => match E.ty e with
        | some ei => match srcCells ei.size h x with
          | some (ok, n, new) => appendA e ei (trimA ei.size h s) ok n new s
          | none => none
        | none => none
      | _, _ => none
    | _, _, _ => none
  | _ => none

/-- The place of a key in a map's entries. -/
def findA (E : Env) (kt : TypeId) (k : AV) : List (AV × AV) → Nat → Option (Option (Nat × AV))
  | [], _ => some none
  | (k', v) :: es, i => match E.ty kt with
    | some ti => cond (projsOk ti.flat [k] && projsOk ti.flat [k']) (match cellEq k k' with
      | some true => some (some (i, v))
      | some false => findA E kt k es (i + 1)
      | none => none) none
    | none => none
/-- Is a type one by which maps may be kept here? -/
def plainT (E : Env) (t : TypeId) : Bool :=
  match E.ty t with
  | some i => match i.d, i.flat with
    | .int q, [.int q'] => decide (q = q')
    | .str, [.str] => true
    | .bool, [.bool] => true
    | _, _ => false
  | none => false
def keyOkA (E : Env) (t : TypeId) (k : AV) : Bool := match E.ty t with | some i => projsOk i.flat [k] | none => false
def zeroA (ti : TI) : AV := cond ti.isAgg (.agg ti.zero) (ti.zero.headD .undef)
/-- More operations that make or turn blocks. -/
def actX (E : Env) (t : Nat → AV) (o : Oper) (h : Heap) : Option Ans :=
  match o.op with
  | .makeMap ty none => match E.ty ty with
    | some ti => match ti.d with
      | .map k e => cond (plainT E k) (some ⟨true, .map h.length, h ++ [.map k e []], [h.length]⟩) none
      | _ => none
    | none => none
  | .insert ty m k v | .mapUpdate ty m k v => match E.ty ty, ev t m, ev t k, (ev t v).bind noTup with
    | some ti, some (.map β), some k, some v => match ti.d, h.at β with
      | .map kt et, .map kt' et' es => cond (Nat.beq kt kt' && Nat.beq et et' && plainT E kt && keyOkA E kt k) (match findA E kt k es 0 with
        | some none => some ⟨true, .undef, h.set β (.map kt et (es ++ [(k, v)])), [β]⟩
        | some (some (i, _)) => some ⟨true, .undef, h.set β (.map kt et (es.set i (k, v))), [β]⟩
        | none => none) none
      | _, _ => none
    | _, _, _, _ => none
  | .lookup ty m k ok => match E.ty ty, ev t m, ev t k with
    | some ti, some (.map β), some k => match ti.d, h.at β with
      | .map kt et, .map kt' et' es => cond (Nat.beq kt kt' && Nat.beq et et' && plainT E kt && keyOkA E kt k) (match findA E kt k es 0, E.ty et with
        | some none, some ei => some ⟨true, cond ok (.tup [zeroA ei, .bool false]) (zeroA ei), h, []⟩
        | some (some (_, v)), _ => some ⟨true, cond ok (.tup [v, .bool true]) v, h, []⟩
        | _, _ => none) none
      | _, _ => none
    | _, _, _ => none
  | .call { callee := .builtin b, args, argTypes } => match b, evs t args.toList, argTypes.toList with
    | .unsafeString, some [.ptr β off, .int .i64 n], [pt, _] => match h.at β, E.ty pt with
      | .cells false e cs, some pi => match pi.d with
        | .ptr e' => cond (Nat.beq e e' && isBytes E e && Nat.beq off 0) (some ⟨decide (0 < n) && decide (n ≤ cs.length) && (cs.take n.toNat).all (AV.isI .u8) && decide (n ≤ 9223372036854775807), .str (cellsBytes (cs.take n.toNat)), h.set β .dead, [β]⟩) none
        | _ => none
      | _, _ => none
    | .append, some [.emp _, .int .i64 n], [ty, it] => match E.ty ty, E.ty it with
      | some ti, some ii => match ti.d, ii.d with
        | .slice e, .int _ => match E.ty e with
          | some ei => some ⟨decide (0 < n) && roomy n.toNat ei.bytes, .sl h.length ei.size 0 n.toNat, h ++ [.cells false e (zerosOf n.toNat ei.zero)], [h.length]⟩
          | none => none
        | _, _ => none
      | _, _ => none
    | _, _, _ => none
  | _ => none
def actA (E : Env) (t : Nat → AV) (o : Oper) (h : Heap) : Option Ans :=
  match actA0 E t o h with
  | some r => some r
  | none => actX E t o h

inductive Ex where
  | normal | exit (id : Nat) | ret

/-- A call by contract, or of a function's text. -/
abbrev Gen := FuncId → List AV → Heap → (AV → Heap → Prop) → Prop

/-- A call's callee. -/
def callee (t : Nat → AV) (f : Operand) (args : List AV) : Option (FuncId × List AV) :=
  match ev t f with
  | some (.fn (.func k) first cap) => some (k, first ++ args ++ cap)
  | _ => none

abbrev Kont := (Nat → AV) → Heap → Prop

def doOp (E : Env) (G : Gen) (o : Oper) (t : Nat → AV) (h : Heap) (K : Kont) : Prop :=
  match pureA E t o with
  | some (c, v) => cond c (withV t o.dst v fun t => K t h) False
  | none => match loadA E t o h with
    | some (_, c, v) => cond c (withV t o.dst v fun t => K t h) False
    | none => match actA E t o h with
      | some a => cond a.ok (withV t o.dst a.v fun t => withH a.h fun h => K t h) False
      | none => match o.op with
        | .call { callee := .value f, args, .. } => match evs t args.toList with
          | some l => match callee t f l with
            | some (k, l) => G k l h fun v h => withV t o.dst v fun t => withH h fun h => K t h
            | none => False
          | none => False
        | _ => False

/-- A guard: does the operation run? -/
def guardT (ops : Array Oper) (j : Nat) : Option Tmp := (ops[j]?).bind (·.dst)

def awpOps (E : Env) (G : Gen) (ops : Array Oper) : List Oper → (Nat → AV) → Heap → Kont → Prop
  | [], t, h, K => K t h
  | o :: rest, t, h, K => match o.guard with
    | none => doOp E G o t h fun t h => awpOps E G ops rest t h K
    | some (j, want) => match guardT ops j with
      | none => False
      | some d => match t d with
        | .bool b => cond b
            (cond want (doOp E G o (upd t d (.bool true)) h fun t h => awpOps E G ops rest t h K) (awpOps E G ops rest (putT (upd t d (.bool true)) o.dst .undef) h K))
            (cond want (awpOps E G ops rest (putT (upd t d (.bool false)) o.dst .undef) h K) (doOp E G o (upd t d (.bool false)) h fun t h => awpOps E G ops rest t h K))
        | .tup [] => awpOps E G ops rest (putT t o.dst .undef) h K
        | _ => False

/-- What an operation in a region that draws its order has read of the heap, or turned. -/
inductive Log where
  | rd (i β : Nat)
  | act (i : Nat) (T : List Nat)

/-- One operation of a region that draws its order: contracts alone. -/
def doOpD (E : Env) (i : Nat) (o : Oper) (t : Nat → AV) (h : Heap) (L : List Log) (K : (Nat → AV) → Heap → List Log → Prop) : Prop :=
  match pureA E t o with
  | some (c, v) => cond c (withV t o.dst v fun t => K t h L) False
  | none => match loadA E t o h with
    | some (none, c, v) => cond c (withV t o.dst v fun t => K t h L) False
    | some (some β, c, v) => cond c (withV t o.dst v fun t => K t h (.rd i β :: L)) False
    | none => match actA E t o h with
      | some a => cond a.ok (withV t o.dst a.v fun t => withH a.h fun h => K t h (.act i a.T :: L)) False
      | none => match o.op with
        | .call { callee := .value f, args, .. } => match evs t args.toList with
          | some l => match callee t f l with
            | some (k, l) => match E.Cp k l with
              | some (c, v) => cond c (withV t o.dst v fun t => K t h L) False
              | none => match E.Cr k l h with
                | some (R, c, v) => cond c (withV t o.dst v fun t => K t h (R.map (.rd i) ++ L)) False
                | none => match E.C k l h with
                  | some a => cond a.ok (withV t o.dst a.v fun t => withH a.h fun h => K t h (.act i a.T :: L)) False
                  | none => False
            | none => False
          | none => False
        | _ => False

/-- Which operations come ahead of each, one behind the other. -/
def befs : List Oper → List Nat → List Nat
  | [], acc => acc
  | o :: r, acc => befs r (acc ++ [o.after.toList.foldl (fun s e => bif Region.binds .any e then s ||| 2 ^ e.on ||| acc.getD e.on 0 else s) 0])
/-- Are two operations in an order? -/
def ordd (bef : List Nat) (i j : Nat) : Bool := (bef.getD j 0).testBit i || (bef.getD i 0).testBit j
def chk1 (bef : List Nat) : Log → Log → Bool
  | .rd _ _, .rd _ _ => true
  | .rd i β, .act j T => cond (ordd bef i j) true (!T.contains β)
  | .act j T, .rd i β => cond (ordd bef i j) true (!T.contains β)
  | .act i _, .act j _ => ordd bef i j
def chkAll (bef : List Nat) : List Log → Bool
  | [] => true
  | x :: l => l.all (chk1 bef x) && chkAll bef l

def awpOpsD (E : Env) (ops : Array Oper) : List Oper → Nat → (Nat → AV) → Heap → List Log → Kont → Prop
  | [], _, t, h, L, K => cond (chkAll (befs ops.toList []) L) (K t h) False
  | o :: rest, i, t, h, L, K => match o.guard with
    | none => doOpD E i o t h L fun t h L => awpOpsD E ops rest (i + 1) t h L K
    | some (j, want) => match guardT ops j with
      | none => False
      | some d => match t d with
        | .bool b => cond b
            (cond want (doOpD E i o (upd t d (.bool true)) h L fun t h L => awpOpsD E ops rest (i + 1) t h L K) (awpOpsD E ops rest (i + 1) (putT (upd t d (.bool true)) o.dst .undef) h L K))
            (cond want (awpOpsD E ops rest (i + 1) (putT (upd t d (.bool false)) o.dst .undef) h L K) (doOpD E i o (upd t d (.bool false)) h L fun t h L => awpOpsD E ops rest (i + 1) t h L K))
        | .tup [] => awpOpsD E ops rest (i + 1) (putT t o.dst .undef) h L K
        | _ => False

abbrev KontE := Ex → (Nat → AV) → Heap → Prop

def rounds (body : (Nat → AV) → Heap → KontE → Prop) (K : KontE) : Nat → (Nat → AV) → Heap → Prop
  | 0, _, _ => False
  | n + 1, t, h => body t h fun e t h => match e with
    | .normal => rounds body K n t h
    | e => K e t h

def awp (E : Env) (G : Gen) : Code → (Nat → AV) → Heap → KontE → Prop
  | .skip, t, h, K => K .normal t h
  | .label _, t, h, K => K .normal t h
  | .region _ ops draw, t, h, K => cond draw (awpOpsD E ops ops.toList 0 t h [] (K .normal)) (awpOps E G ops ops.toList t h (K .normal))
  | .seq a b, t, h, K => awp E G a t h fun e t h => match e with
    | .normal => awp E G b t h K
    | e => K e t h
  | .cond c a b, t, h, K => match ev t c with
    | some (.bool c) => cond c (awp E G a t h K) (awp E G b t h K)
    | _ => False
  | .block id c, t, h, K => awp E G c t h fun e t h => match e with
    | .exit i => cond (Nat.beq i id) (K .normal t h) (K (.exit i) t h)
    | e => K e t h
  | .loop c, t, h, K => ∃ n, rounds (awp E G c) K n t h
  | .scope c, t, h, K => awp E G c t h K
  | .exit id, t, h, K => K (.exit id) t h
  | .ret, t, h, K => K .ret t h
  | _, _, _, _ => False

def resultsA (E : Env) (t : Nat → AV) (h : Heap) : List ResultVar → Option (Bool × List AV)
  | [] => some (true, [])
  | .tmp i :: r => match resultsA E t h r with
    | some (c, l) => some (c, t i :: l)
    | none => none
  | .cell a ty :: r => match t a, E.ty ty with
    | .ptr β off, some ti => match h.at β, resultsA E t h r with
      | .cells _ _ cs, some (c, l) => match loadFrom ti (cs.drop off) with
        | (c', v) => some (c' && c, v :: l)
      | _, _ => none
    | _, _ => none

def oneOrTup : List AV → AV
  | [v] => v
  | l => .tup l

def awpFn (E : Env) (G : Gen) (fn : Func) (args : List AV) (h : Heap) (K : AV → Heap → Prop) : Prop :=
  match fn.body with
  | none => False
  | some c => awp E G c (fun i => args.getD i .undef) h fun e t h => match e with
    | .exit _ => False
    | _ => match resultsA E t h fn.results.toList with
      | some (c, l) => cond c (K (oneOrTup l) h) False
      | none => False

def inl (E : Env) : Nat → Gen
  | 0, f, args, h, K => match E.C f args h with
    | some a => cond a.ok (K a.v a.h) False
    | none => False
  | d + 1, f, args, h, K => match E.C f args h with
    | some a => cond a.ok (K a.v a.h) False
    | none => match E.fns f with
      | some fn => awpFn E (inl E d) fn args h K
      | none => False

/-! ### What is asked of the text -/
def looks (ops : Array Oper) (o : Oper) : List Tmp :=
  (o.op.operands.toList.filterMap fun | .tmp t => some t | _ => none) ++
  (match o.guard with
   | some (g, _) => ((ops[g]?).bind (·.dst)).toList
   | none => [])
def slotOk (bef : List Nat) (ops : Array Oper) (oi : Oper) (i : Nat) (oj : Oper) (j : Nat) : Bool :=
  match oj.dst with
  | none => true
  | some d => Nat.beq i j || (decide (oi.dst ≠ some d) && (!(looks ops oi).contains d || ordd bef i j))
def drawOk (ops : Array Oper) : Bool :=
  let bef := befs ops.toList []
  let l := ops.toList.zipIdx
  l.all fun (o, i) => (o.after.all fun e => !Region.binds .any e || Nat.blt e.on i) && (match o.op with | .select .. => false | _ => true) && l.all fun (o', j) => slotOk bef ops o i o' j
def codeOk (n : Nat) : Code → Bool
  | .region _ ops draw => (ops.all fun o => match o.dst with | some d => Nat.blt d n | none => true) && (!draw || drawOk ops)
  | .seq a b => codeOk n a && codeOk n b
  | .cond _ a b => codeOk n a && codeOk n b
  | .block _ c => codeOk n c
  | .loop c => codeOk n c
  | .scope c => codeOk n c
  | _ => true
def fnOk (f : Func) : Bool := decide (f.name ≠ "runtime.NumGoroutine") && match f.body with
  | some c => codeOk f.ntmps c
  | none => false

theorem tst {b : Bool} {A B : Prop} (h : b = true → A) (k : b = false → B) : cond b A B := by cases b <;> simp_all
theorem obl {b : Bool} {A : Prop} (h : b = true) (k : A) : cond b A False := by simp_all
end Go.Abs
