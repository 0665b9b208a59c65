/- A deterministic evaluator of the model's code over an abstract memory: definitions. -/
import Derived.Orders
import Derived.LoopN
namespace Go.Proofs.YtcbileongahhiaaGreat.Ev
open Go
set_option linter.unusedVariables false
set_option linter.unusedSimpArgs false

/-- abstract values: addresses are numbers of abstract blocks -/
inductive AV where
  | bool (b : Bool)
  | int (k : IntKind) (n : Int)
  | flt (k : FloatKind) (bits : Nat)
  | str (s : List UInt8)
  | ptr (b off : Nat)
  | nilp
  | slc (b off len cap esz : Nat) (ex : Bool)
  | nils
  | map (b : Nat)
  | nilm
  | func (f : Fn) (first captured : List AV)
  | nilf
  | iface (t : TypeId) (v : AV)
  | nili
  | agg (cs : List AV)
  | tup (vs : List AV)
  /-- some value of one cell, not known -/
  | any
  deriving Inhabited

def AV.isAny : AV → Bool
  | .any => true
  | _ => false

def AV.cells : AV → List AV
  | .agg cs => cs
  | v => [v]

def AV.flat : AV → Bool
  | .agg _ | .tup _ => false
  | _ => true

mutual
def AV.same : AV → AV → Bool
  | .bool a, .bool b => a == b
  | .int k a, .int k' b => k == k' && a == b
  | .flt k a, .flt k' b => k == k' && a == b
  | .str a, .str b => a == b
  | .ptr a b, .ptr c d => a == c && b == d
  | .nilp, .nilp | .nils, .nils | .nilm, .nilm | .nilf, .nilf | .nili, .nili | .any, .any => true
  | .slc a b c d e f, .slc a' b' c' d' e' f' => a == a' && b == b' && c == c' && d == d' && e == e' && f == f'
  | .map a, .map b => a == b
  | .func f l c, .func f' l' c' => f == f' && AV.sameL l l' && AV.sameL c c'
  | .iface t v, .iface t' v' => t == t' && AV.same v v'
  | .agg a, .agg b => AV.sameL a b
  | .tup a, .tup b => AV.sameL a b
  | _, _ => false
def AV.sameL : List AV → List AV → Bool
  | [], [] => true
  | a :: x, b :: y => AV.same a b && AV.sameL x y
  | _, _ => false
end

def AV.scal1 : AV → Bool
  | .bool _ | .int _ _ | .str _ => true
  | _ => false

/-- a key made of numbers, truth values and texts -/
def AV.scal : AV → Bool
  | .agg cs => cs.all AV.scal1
  | v => v.scal1

/-- finite maps from numbers -/
inductive Tr (α : Type) where
  | nil
  | node (l : Tr α) (v : Option α) (r : Tr α)
  deriving Inhabited

namespace Tr
variable {α : Type}
def get : Tr α → Nat → Option α
  | .nil, _ => none
  | .node l v r, n => if n = 0 then v else if n % 2 = 1 then l.get (n / 2) else r.get (n / 2 - 1)

def putF : Nat → Tr α → Nat → Option α → Tr α
  | 0, t, _, _ => t
  | f + 1, .nil, n, x => if n = 0 then .node .nil x .nil else if n % 2 = 1 then .node (putF f .nil (n / 2) x) none .nil else .node .nil none (putF f .nil (n / 2 - 1) x)
  | f + 1, .node l v r, n, x => if n = 0 then .node l x r else if n % 2 = 1 then .node (putF f l (n / 2) x) v r else .node l v (putF f r (n / 2 - 1) x)

def put (t : Tr α) (n : Nat) (x : Option α) : Tr α := putF (n + 1) t n x
end Tr

inductive Blk where
  | row (own : Bool) (fz : Option Nat) (elem : TypeId) (cells : List AV)
  | map (es : List (AV × AV))
  deriving Inhabited

structure Mem where
  tree : Tr Blk
  next : Nat
  deriving Inhabited

namespace Mem
def get (m : Mem) (b : Nat) : Option Blk := m.tree.get b
def set (m : Mem) (b : Nat) (x : Blk) : Mem := { m with tree := m.tree.put b (some x) }
def kill (m : Mem) (b : Nat) : Mem := { m with tree := m.tree.put b none }
def new (m : Mem) (x : Blk) : Mem := { tree := m.tree.put m.next (some x), next := m.next + 1 }

def cells (m : Mem) (b off n : Nat) : Option (List AV) :=
  match m.get b with
  | some (.row _ _ _ cs) => if off + n ≤ cs.length then some ((cs.drop off).take n) else none
  | _ => none

def store (m : Mem) (b off : Nat) (vs : List AV) : Option Mem :=
  match m.get b with
  | some (.row true fz e cs) => if off + vs.length ≤ cs.length && vs.all AV.flat && decide (fz.getD 0 ≤ off) then some (m.set b (.row true fz e (cs.take off ++ vs ++ cs.drop (off + vs.length)))) else none
  | _ => none

/-- the element's type of a row of ours -/
def elem (m : Mem) (b : Nat) : Option TypeId :=
  match m.get b with
  | some (.row true _ e _) => some e
  | _ => none

def entries (m : Mem) (b : Nat) : Option (List (AV × AV)) :=
  match m.get b with
  | some (.map es) => some es
  | _ => none
end Mem

/-- what an operation looked at or did, for regions that draw their order -/
inductive Fx where
  | none
  | cells (b off n : Nat)
  | obj (b : Nat)
  | alloc
  | eff
  deriving Inhabited, DecidableEq

def flatAV : Value → Option AV
  | .bool b => some (.bool b)
  | .int k n => some (.int k n)
  | .float k b => some (.flt k b)
  | .string s => some (.str s.data.toList)
  | .pointer none => some .nilp
  | .slice none 0 0 => some .nils
  | .map none => some .nilm
  | .nilFunc => some .nilf
  | .nilIface => some .nili
  | _ => none

def flatAVs : List Value → Option (List AV)
  | [] => some []
  | v :: vs => match flatAV v, flatAVs vs with
    | some a, some l => some (a :: l)
    | _, _ => none

def toAV : Value → Option AV
  | .agg cs => (flatAVs cs.toList).map .agg
  | v => flatAV v

/-- back, for numbers and truth values -/
def toV : AV → Option Value
  | .bool b => some (.bool b)
  | .int k n => some (.int k n)
  | .flt k b => some (.float k b)
  | _ => none

def strip {α : Type} (P : Program) : Sem α → Option α
  | .pure a => some a
  | .program k => strip P (k P)
  | _ => none

section
variable (P : Program)

def csize (t : TypeId) : Option Nat := (P.info? t).map (·.size)
def aggT (t : TypeId) : Option Bool :=
  match P.underlying t with
  | some (.struct _) | some (.array _ _) => some true
  | some _ => some false
  | none => none
def zeroAV (t : TypeId) : Option AV := (P.info? t).bind fun i => i.zero.bind toAV
def partAV (t : TypeId) (cs : List AV) (off : Nat) : Option AV :=
  match aggT P t with
  | some true => (csize P t).bind fun n => if off + n ≤ cs.length then some (.agg ((cs.drop off).take n)) else none
  | some false => cs[off]?
  | none => none

def eqFields (f : Field → Option Bool) : List Field → Option Bool
  | [] => some true
  | x :: xs => if x.name = "_" then eqFields f xs else
    match f x with
    | some true => eqFields f xs
    | r => r
def eqItems (f : Nat → Option Bool) : Nat → Nat → Option Bool
  | 0, _ => some true
  | n + 1, i =>
    match f i with
    | some true => eqItems f n (i + 1)
    | r => r

def eqv : Nat → TypeId → AV → AV → Option Bool
  | 0, _, _, _ => none
  | d + 1, t, x, y =>
    match P.underlying t, x, y with
    | some .bool, .bool a, .bool b => some (a == b)
    | some (.int _), .int k a, .int k' b => if k = k' then some (a == b) else none
    | some (.float _), .flt k a, .flt k' b => if k = k' then some (Op.floatEq k a b) else none
    | some .string, .str a, .str b => some (a == b)
    | some (.pointer _), .nilp, .nilp => some true
    | some (.pointer _), .nilp, .ptr _ _ => some false
    | some (.pointer _), .ptr _ _, .nilp => some false
    | some (.pointer e), .ptr b o, .ptr b' o' => if b = b' && (csize P e).any (· != 0) then some (o == o') else none
    | some (.interface _), .nili, .nili => some true
    | some (.interface _), .nili, .iface _ _ => some false
    | some (.interface _), .iface _ _, .nili => some false
    | some (.interface _), .iface tx vx, .iface ty vy =>
      if tx ≠ ty then some false
      else if (P.info? tx).any (·.comparable) then eqv d tx vx vy else none
    | some (.slice _), .nils, .nils => some true
    | some (.slice _), .nils, .slc _ _ _ _ _ _ => some false
    | some (.slice _), .slc _ _ _ _ _ _, .nils => some false
    | some (.map _ _), .nilm, .nilm => some true
    | some (.map _ _), .nilm, .map _ => some false
    | some (.map _ _), .map _, .nilm => some false
    | some (.func _ _ _), .nilf, .nilf => some true
    | some (.func _ _ _), .nilf, .func _ _ _ => some false
    | some (.func _ _ _), .func _ _ _, .nilf => some false
    | some (.struct fs), .agg xs, .agg ys =>
      if P.stoodInHeld t then none else
      eqFields (fun f => match partAV P f.type xs f.offset, partAV P f.type ys f.offset with | some a, some b => eqv d f.type a b | _, _ => none) fs.toList
    | some (.array n e), .agg xs, .agg ys =>
      (csize P e).bind fun s => eqItems (fun i => match partAV P e xs (i * s), partAV P e ys (i * s) with | some a, some b => eqv d e a b | _, _ => none) n 0
    | _, _, _ => none

/-- a key of its type, in which no interface lies -/
def keyV : Nat → TypeId → AV → Bool
  | 0, _, _ => false
  | d + 1, t, v =>
    match P.underlying t, v with
    | some (.int _), .int _ _ => true
    | some .string, .str _ => true
    | some .bool, .bool _ => true
    | some (.struct fs), .agg cs => fs.toList.all fun f => f.name = "_" || (match partAV P f.type cs f.offset with | some a => keyV d f.type a | none => false)
    | _, _ => false

def findAV (kt : TypeId) (k : AV) : List (AV × AV) → Nat → Option (Option (Nat × AV))
  | [], _ => some none
  | (k', v) :: es, i =>
    match eqv P 100 kt k k' with
    | some true => some (some (i, v))
    | some false => findAV kt k es (i + 1)
    | none => none

def isConstOp : Operand → Bool
  | .const _ => true
  | _ => false

def strBin (op : BinOp) (a b : List UInt8) : Option AV :=
  match op with
  | .add => if a.length + b.length ≤ 2 ^ 40 then some (.str (a ++ b)) else none
  | .eql => some (.bool (a == b))
  | .neq => some (.bool (!(a == b)))
  | .lss => some (.bool (Op.bytesLess a b))
  | .leq => some (.bool (Op.bytesLess a b || a == b))
  | .gtr => some (.bool (!(Op.bytesLess a b || a == b)))
  | .geq => some (.bool (!(Op.bytesLess a b)))
  | _ => none

def evEq (t : TypeId) (x y : Operand) (a b : AV) : Option Bool :=
  match a, b with
  | .nili, .nili => if isConstOp x || isConstOp y then eqv P 100 t .nili .nili else none
  | .agg a, .agg b => if P.eqGuardType P.depth t then none else eqv P 100 t (.agg a) (.agg b)
  | a, b => if a.isAny || b.isAny then none else eqv P 100 t a b

def evBin (op : BinOp) (t : TypeId) (x y : Operand) (a b : AV) : Option AV :=
  match a, b with
  | .str a, .str b => strBin op a b
  | .int k a, .int k' b => (strip P (binOp op t (.int k a) (.int k' b))).bind flatAV
  | .flt k a, .flt k' b => (strip P (binOp op t (.float k a) (.float k' b))).bind flatAV
  | a, b =>
    match op with
    | .eql => (evEq P t x y a b).map .bool
    | .neq => (evEq P t x y a b).map fun r => .bool (!r)
    | _ => none

def natOf : AV → Option Nat
  | .int _ n => if 0 ≤ n then some n.toNat else none
  | _ => none

def optNat (d : Nat) : Option AV → Option Nat
  | none => some d
  | some v => natOf v

def evSlice (t : TypeId) (x : AV) (lo hi mx : Option AV) : Option AV :=
  match P.underlying t, x with
  | some .string, .str s =>
    match mx, optNat s.length hi, optNat 0 lo with
    | none, some h, some l => if l ≤ h && h ≤ s.length then some (.str ((s.drop l).take (h - l))) else none
    | _, _, _ => none
  | some (.slice e), .slc b off len cap esz ex =>
    match optNat cap mx, optNat len hi, optNat 0 lo with
    | some mm, some h, some l =>
      if csize P e = some esz && l ≤ h && h ≤ mm && mm ≤ cap && (mx.isNone || hi.isSome) then some (.slc b (off + l * esz) (h - l) (mm - l) esz (ex || mx.isSome)) else none
    | _, _, _ => none
  | some (.slice e), .nils =>
    match optNat 0 mx, optNat 0 hi, optNat 0 lo with
    | some 0, some 0, some 0 => if (mx.isNone || hi.isSome) && (csize P e).isSome then some .nils else none
    | _, _, _ => none
  | _, _ => none

def asField (t : TypeId) (f : Nat) : Option Field :=
  match P.underlying t with
  | some (.struct fs) => fs[f]?
  | _ => none

def fillAV (place : Nat → Option (Nat × Nat)) (cells : List AV) : List (Nat × AV) → Option (List AV)
  | [] => some cells
  | (i, v) :: rest =>
    match place i with
    | none => none
    | some (off, size) =>
      if v.cells.length ≠ size || off + v.cells.length > cells.length then none
      else fillAV place (cells.take off ++ v.cells ++ cells.drop (off + v.cells.length)) rest

def repCells (zero : List AV) : Nat → List AV
  | 0 => []
  | n + 1 => zero ++ repCells zero n

def opVals (ρ : Operand → Option AV) : List Operand → Option (List AV)
  | [] => some []
  | x :: xs => match ρ x, opVals ρ xs with
    | some a, some l => some (a :: l)
    | _, _ => none
def partVals (ρ : Operand → Option AV) : List (Nat × Operand) → Option (List (Nat × AV))
  | [] => some []
  | (i, x) :: xs => match ρ x, partVals ρ xs with
    | some a, some l => some ((i, a) :: l)
    | _, _ => none
def optVal (ρ : Operand → Option AV) : Option Operand → Option (Option AV)
  | none => some none
  | some x => (ρ x).map some

def intsOf : List AV → Option (List UInt8)
  | [] => some []
  | .int .u8 n :: l => (intsOf l).map (UInt8.ofNat n.toNat :: ·)
  | _ => none

/-- the cells that append or copy takes of its second argument: n of them -/
def srcCells (m : Mem) (esz n : Nat) : AV → Option (List AV)
  | .slc b off len _ e _ => if e = esz && n ≤ len then m.cells b off (n * esz) else none
  | .nils => if n = 0 then some [] else none
  | .str s => if n ≤ s.length && esz = 1 then some ((s.take n).map fun c => .int .u8 c.toNat) else none
  | _ => none
def lenAV : AV → Option Nat
  | .slc _ _ len _ _ _ => some len
  | .nils => some 0
  | .str s => some s.length
  | _ => none

/-- is the second argument of append a number (of zero elements)? -/
def appZeros (argTypes : Array TypeId) : Option Bool :=
  match argTypes[1]? with
  | none => some false
  | some t =>
    match P.underlying t with
    | some (.int _) => some true
    | some _ => some false
    | none => none

/-- how many elements append puts behind, and their cells -/
def appNew (m : Mem) (elem : TypeId) (esz bytes : Nat) (zeros : Bool) (x : AV) : Option (Nat × List AV) :=
  if zeros then
    match natOf x, zeroAV P elem with
    | some n, some z => if n * bytes ≤ 2 ^ 40 && n ≤ 2 ^ 40 && z.cells.length = esz then some (n, repCells z.cells n) else none
    | _, _ => none
  else (lenAV x).bind fun n => (srcCells m esz n x).map fun cs => (n, cs)

/-- append, when its type is known -/
def appRow (m : Mem) (elem : TypeId) (esz bytes n : Nat) (new : List AV) (s : AV) : Option (AV × Mem) :=
  match s with
  | .nils =>
    if n = 0 then some (.nils, m)
    else if n * bytes ≤ 2 ^ 40 && n ≤ 2 ^ 40 && (zeroAV P elem).any (fun z => z.cells.length = esz) then some (.slc m.next 0 n n esz false, m.new (.row true (some 0) elem new)) else none
  | .slc b off len cap e ex =>
    if e ≠ esz then none else
    if len + n ≤ cap then
      if n = 0 then some (.slc b off len cap e ex, m)
      else (m.store b (off + len * esz) new).map fun m => (.slc b off (len + n) cap e ex, m)
    else if (len + n) * bytes ≤ 2 ^ 40 && len + n ≤ 2 ^ 40 && (zeroAV P elem).any (fun z => z.cells.length = esz) then
      match m.cells b off (len * esz) with
      | none => none
      | some old =>
        if ex then some (.slc m.next 0 (len + n) (len + n) esz false, m.new (.row true (some 0) elem (old ++ new)))
        else match m.get b with
          | some (.row true fz el _) => if el = elem && new.all AV.flat && decide (fz.getD 0 ≤ len * esz) && fz.isSome && (off = 0 || fz = some 0) && off % esz = 0 then some (.slc m.next 0 (len + n) (len + n) esz false, (m.kill b).new (.row true fz elem (old ++ new))) else none
          | _ => none
    else none
  | _ => none

def evAppend (m : Mem) (argTypes : Array TypeId) (s x : AV) : Option (AV × Mem) :=
  match argTypes[0]?.bind P.underlying, appZeros P argTypes with
  | some (.slice elem), some zeros =>
    match csize P elem, (P.info? elem).map (·.bytes) with
    | some esz, some bytes => (appNew P m elem esz bytes zeros x).bind fun p => appRow P m elem esz bytes p.1 p.2 s
    | _, _ => none
  | _, _ => none

def foldInt (f : Int → Int → Int) : Int → List AV → Option Int
  | a, [] => some a
  | a, .int _ b :: l => foldInt f (f a b) l
  | _, _ => none

/-- operations that look at no memory -/
def evPure (ρ : Operand → Option AV) (o : Oper) : Option AV :=
  match o.op with
  | .move x | .assign x => ρ x
  | .pick c a b =>
    match ρ c with
    | some (.bool true) => ρ a
    | some (.bool false) => ρ b
    | _ => none
  | .build t parts =>
    match zeroAV P t, partVals ρ parts.toList with
    | some z, some ps =>
      match P.underlying t with
      | some (.struct fs) =>
        if !(fs.toList.all fun f => (csize P f.type).isSome) then none else
        (fillAV (fun i => fs[i]?.bind fun f => (csize P f.type).map fun s => (f.offset, s)) z.cells ps).map .agg
      | some (.array _ e) =>
        (csize P e).bind fun s => (fillAV (fun i => some (i * s, s)) z.cells ps).map .agg
      | _ => none
    | _, _ => none
  | .nilCheck x =>
    match ρ x with
    | some (.ptr b o) => some (.ptr b o)
    | some (.func (.func f) l c) => some (.func (.func f) l c)
    | _ => none
  | .binOp op t x y _ =>
    match ρ x, ρ y with
    | some a, some b => evBin P op t x y a b
    | _, _ => none
  | .unOp op _ x => (ρ x).bind fun v => (toV v).bind fun v => (strip P (Op.unary op v)).bind flatAV
  | .convert src dst x =>
    match P.underlying src, P.underlying dst, ρ x with
    | some _, some (.int k), some (.int _ n) => some (.int k (k.wrap n))
    | some _, some (.float k), some (.int j n) => (strip P (convert src dst (.int j n))).bind flatAV
    | some _, some .string, some (.str s) => some (.str s)
    | some (.slice e), some .string, some .nils =>
      match P.underlying e with
      | some (.int .u8) => some (.str [])
      | _ => none
    | _, _, _ => none
  | .makeInterface t x =>
    match P.underlying t with
    | some (.interface _) => none
    | some _ => (ρ x).map (.iface t)
    | _ => none
  | .makeFunc fn first captured =>
    match opVals ρ first.toList, opVals ρ captured.toList with
    | some l, some c => some (.func fn l c)
    | _, _ => none
  | .slice t x lo hi mx =>
    match ρ x, optVal ρ lo, optVal ρ hi, optVal ρ mx with
    | some x, some lo, some hi, some mx => evSlice P t x lo hi mx
    | _, _, _, _ => none
  | .fieldAddr s x f =>
    match asField P s f, ρ x with
    | some f, some (.ptr b off) => if (csize P f.type).any (· != 0) then some (.ptr b (off + f.offset)) else none
    | _, _ => none
  | .field t x f =>
    match asField P t f, ρ x with
    | some f, some (.agg cs) => partAV P f.type cs f.offset
    | _, _ => none
  | .indexAddr t x ix =>
    match P.underlying t, ρ x, (ρ ix).bind natOf with
    | some (.array n e), some (.ptr b off), some i => (csize P e).bind fun s => if i < n then some (.ptr b (off + i * s)) else none
    | some (.slice e), some (.slc b off len _ s _), some i => if i < len && csize P e = some s then some (.ptr b (off + i * s)) else none
    | _, _, _ => none
  | .index t x ix =>
    match P.underlying t, ρ x, (ρ ix).bind natOf with
    | some (.array n e), some (.agg cs), some i => (csize P e).bind fun s => if i < n then partAV P e cs (i * s) else none
    | some .string, some (.str s), some i => (s[i]?).map fun c => .int .u8 c.toNat
    | _, _, _ => none
  | .typeAssert x _ asserted ok =>
    match P.underlying asserted, ρ x with
    | some (.interface _), _ => none
    | some _, some .nili => if ok then (zeroAV P asserted).map fun z => .tup [z, .bool false] else none
    | some _, some (.iface t v) =>
      if t = asserted then some (if ok then .tup [v, .bool true] else v)
      else if ok then (zeroAV P asserted).map fun z => .tup [z, .bool false] else none
    | _, _ => none
  | .extract t ix =>
    match ρ t with
    | some (.tup vs) => vs[ix]?
    | _ => none
  | .call { callee := .builtin b, args, argTypes } =>
    match b, opVals ρ args.toList with
    | .len, some [x] =>
      match argTypes[0]?.bind P.underlying, x with
      | some .string, .str s => some (.int .i64 s.length)
      | some (.slice _), .slc _ _ len _ _ _ => some (.int .i64 len)
      | some (.slice _), .nils => some (.int .i64 0)
      | some (.array n _), _ => some (.int .i64 n)
      | some (.pointer arr), _ => match P.underlying arr with | some (.array n _) => some (.int .i64 n) | _ => none
      | some (.map _ _), .nilm => some (.int .i64 0)
      | _, _ => none
    | .cap, some [x] =>
      match argTypes[0]?.bind P.underlying, x with
      | some (.slice _), .slc _ _ _ cap _ true => some (.int .i64 cap)
      | some (.slice _), .nils => some (.int .i64 0)
      | _, _ => none
    | .max, some (.int k a :: l) => (foldInt (fun a b => if b > a then b else a) a l).map (.int k)
    | .min, some (.int k a :: l) => (foldInt (fun a b => if b < a then b else a) a l).map (.int k)
    | .unsafeSliceData, some [x] =>
      match x with
      | .nils => some .nilp
      | .slc b off _ cap _ _ => if cap = 0 then none else some (.ptr b off)
      | _ => none
    | _, _ => none
  | _ => none

/-- operations that read memory -/
def evRead (ρ : Operand → Option AV) (o : Oper) (m : Mem) : Option (AV × Fx) :=
  match o.op with
  | .load t a =>
    match ρ a, csize P t, aggT P t with
    | some (.ptr b off), some n, some true => (m.cells b off n).map fun cs => (.agg cs, .cells b off n)
    | some (.ptr b off), some _, some false =>
      match m.cells b off 1 with
      | some [v] => some (v, .cells b off 1)
      | _ => none
    | _, _, _ => none
  | .convert src dst x =>
    match P.underlying src, P.underlying dst, ρ x with
    | some (.pointer t), some .unsafePointer, some (.ptr b off) =>
      if (csize P t).any (· != 0) then (m.cells b off 1).map fun _ => (.ptr b off, .cells b off 1) else none
    | some .unsafePointer, some (.pointer u), some (.ptr b off) =>
      match csize P u with
      | some n => if m.elem b = some u && off = 0 && n != 0 then (m.cells b 0 n).map fun _ => (.ptr b off, .cells b 0 n) else none
      | _ => none
    | some (.slice e), some .string, some (.slc b off len _ 1 _) =>
      match P.underlying e with
      | some (.int .u8) => (m.cells b off len).bind fun cs => (intsOf cs).map fun s => (.str s, .cells b off len)
      | _ => none
    | _, _, _ => none
  | .lookup t x k ok =>
    match P.underlying t, ρ x, ρ k with
    | some (.map kt et), some (.map b), some k =>
      match m.entries b with
      | some es =>
        if keyV P 100 kt k && k.scal then
          match findAV P kt k es 0 with
          | some (some (_, v)) => some (if ok then .tup [v, .bool true] else v, .obj b)
          | some none => (zeroAV P et).map fun z => (if ok then .tup [z, .bool false] else z, .obj b)
          | none => none
        else none
      | none => none
    | _, _, _ => none
  | .slice t x lo hi mx =>
    match P.underlying t, ρ x, optVal ρ lo, optVal ρ hi, optVal ρ mx with
    | some (.array n e), some (.ptr b off), some lo, some hi, some mx =>
      match optNat n mx, optNat n hi, optNat 0 lo, csize P e with
      | some mm, some h, some l, some esz =>
        if l ≤ h && h ≤ mm && mm ≤ n && (mx.isNone || hi.isSome) then (m.cells b off (n * esz)).map fun _ => (.slc b (off + l * esz) (h - l) (mm - l) esz true, .cells b off (n * esz)) else none
      | _, _, _, _ => none
    | _, _, _, _, _ => none
  | .call { callee := .builtin .len, args, argTypes } =>
    match opVals ρ args.toList, argTypes[0]?.bind P.underlying with
    | some [.map b], some (.map _ _) => (m.entries b).map fun es => (.int .i64 es.length, .obj b)
    | _, _ => none
  | _ => none

/-- a value that holds the address of a new block -/
inductive Ref where
  | ptr
  | slc (len cap esz : Nat) (ex : Bool)
  | map

def Ref.at (b : Nat) : Ref → AV
  | .ptr => .ptr b 0
  | .slc l c e x => .slc b 0 l c e x
  | .map => .map b

/-- operations that make a block and look at no memory -/
def evNew (ρ : Operand → Option AV) (o : Oper) : Option (Ref × Blk) :=
  match o.op with
  | .alloc elem => (zeroAV P elem).map fun z => (.ptr, .row true (some 0) elem z.cells)
  | .box elem x => (ρ x).map fun v => (.ptr, .row true (some 0) elem v.cells)
  | .buildSlice t len parts =>
    match P.underlying t, partVals ρ parts.toList with
    | some (.slice elem), some ps =>
      match csize P elem, zeroAV P elem with
      | some s, some z =>
        if len * s ≤ 2 ^ 24 && z.cells.length = s then
          (fillAV (fun i => some (i * s, s)) (repCells z.cells len) ps).map fun cs => (.slc len len s true, .row true (some 0) elem cs)
        else none
      | _, _ => none
    | _, _ => none
  | .convert src dst x =>
    match P.underlying src, P.underlying dst, ρ x with
    | some _, some (.slice e), some (.str s) =>
      match P.underlying e with
      | some (.int .u8) => some (.slc s.length s.length 1 false, .row true none e (s.map fun c => .int .u8 c.toNat))
      | _ => none
    | _, _, _ => none
  | .makeMap _ none => some (.map, .map [])
  | .makeMap t (some r) =>
    match P.underlying t, ρ r with
    | some (.map _ _), some (.int _ _) => some (.map, .map [])
    | _, _ => none
  | .makeSlice t l c =>
    match P.underlying t, (ρ l).bind natOf, (ρ c).bind natOf with
    | some (.slice elem), some l, some c =>
      match csize P elem, (P.info? elem).map (·.bytes), zeroAV P elem with
      | some s, some bytes, some z =>
        if l ≤ c && c ≤ 2 ^ 40 && bytes * c ≤ 2 ^ 40 && z.cells.length = s then some (.slc l c s true, .row true (some 0) elem (repCells z.cells c)) else none
      | _, _, _ => none
    | _, _, _ => none
  | _ => none

def evBuiltin (m : Mem) (b : Builtin) (argTypes : Array TypeId) (args : List AV) : Option (AV × Mem) :=
  match b, args with
  | .append, [s, x] => evAppend P m argTypes s x
  | .copy, [d, s] =>
    match argTypes[0]?.bind P.underlying, d, lenAV s with
    | some (.slice elem), .slc b off len _ e _, some ls =>
      if csize P elem = some e then
        let n := Nat.min ls len
        (srcCells m e n s).bind fun cs => if cs.isEmpty then some (.int .i64 n, m) else (m.store b off cs).map fun m => (.int .i64 n, m)
      else none
    | some (.slice elem), .nils, some _ => (csize P elem).bind fun e => (srcCells m e 0 s).map fun _ => (.int .i64 0, m)
    | _, _, _ => none
  | .clear, [x] =>
    match argTypes[0]?.bind P.underlying, x with
    | some (.map _ _), .nilm => some (.tup [], m)
    | some (.map _ _), .map b => (m.entries b).map fun _ => (.tup [], m.set b (.map []))
    | some (.slice _), .nils => some (.tup [], m)
    | some (.slice elem), .slc b off len _ e _ =>
      match csize P elem, zeroAV P elem with
      | some e', some z =>
        if len = 0 then some (.tup [], m)
        else if e = e' && z.cells.length = e then (m.store b off (repCells z.cells len)).map fun m => (.tup [], m) else none
      | _, _ => none
    | _, _ => none
  | .delete, [x, k] =>
    match argTypes[0]?.bind P.underlying, x with
    | some (.map kt _), .nilm => if keyV P 100 kt k then some (.tup [], m) else none
    | some (.map kt _), .map b =>
      (m.entries b).bind fun es => if keyV P 100 kt k && k.scal then
        match findAV P kt k es 0 with
        | some (some (i, _)) => some (.tup [], m.set b (.map (es.eraseIdx i)))
        | some none => some (.tup [], m)
        | none => none
      else none
    | _, _ => none
  | .unsafeString, [p, n] =>
    match p, natOf n with
    | .nilp, some 0 => if argTypes[0]?.isSome then some (.str [], m) else none
    | .ptr _ _, some 0 => if argTypes[0]?.isSome then some (.str [], m) else none
    | .ptr b off, some n =>
      match m.get b, argTypes[0]?.bind P.underlying with
      | some (.row true (some k) el cs), some (.pointer u) =>
        if el = u && csize P u = some 1 && off = 0 && n ≤ 2 ^ 40 && n ≤ cs.length then (intsOf (cs.take n)).map fun s => (.str s, m.set b (.row true (some (max k n)) el cs)) else none
      | _, _ => none
    | _, _ => none
  | _, _ => none

/-- operations that write memory -/
def evEff (ρ : Operand → Option AV) (o : Oper) (m : Mem) : Option (AV × Mem) :=
  match o.op with
  | .store t a x =>
    match ρ a, ρ x, csize P t with
    | some (.ptr b off), some v, some n => if v.cells.length = n then (m.store b off v.cells).map fun m => (.tup [], m) else none
    | _, _, _ => none
  | .mapUpdate t x k v | .insert t x k v =>
    match P.underlying t, ρ x, ρ k, ρ v with
    | some (.map kt _), some (.map b), some k, some v =>
      (m.entries b).bind fun es => if keyV P 100 kt k && k.scal then
        match findAV P kt k es 0 with
        | some (some (i, _)) => match es[i]? with
          | some (k', _) => if AV.same k' k then some (.tup [], m.set b (.map (es.set i (k, v)))) else none
          | none => none
        | some none => some (.tup [], m.set b (.map (es ++ [(k, v)])))
        | none => none
      else none
    | _, _, _, _ => none
  | .call { callee := .builtin b, args, argTypes } => (opVals ρ args.toList).bind fun l => evBuiltin P m b argTypes l
  | _ => none

/-- an operation that is no call of a function -/
def evOp (ρ : Operand → Option AV) (o : Oper) (m : Mem) : Option (AV × Mem × Fx) :=
  match evPure P ρ o with
  | some v => some (v, m, .none)
  | none =>
    match evNew P ρ o with
    | some (r, x) => some (r.at m.next, m.new x, .alloc)
    | none =>
      match evRead P ρ o m with
      | some (v, fx) => some (v, m, fx)
      | none => (evEff P ρ o m).map fun (v, m) => (v, m, .eff)

/-- the same, where the name of what is made is given -/
def evOpAt (id : Nat) (ρ : Operand → Option AV) (o : Oper) (m : Mem) : Option (AV × Mem × Fx) :=
  match evPure P ρ o with
  | some v => some (v, m, .none)
  | none =>
    match evNew P ρ o with
    | some (r, x) => some (r.at id, m.set id x, .alloc)
    | none =>
      match evRead P ρ o m with
      | some (v, fx) => some (v, m, fx)
      | none => (evEff P ρ o m).map fun (v, m) => (v, m, .eff)

end

inductive XT where
  | normal
  | exit (id : Nat)
  | ret
  deriving Inhabited

def evOperand (G : Nat) (ts : Tr AV) : Operand → Option AV
  | .tmp t => ts.get t
  | .const v => toAV v
  | .global g => if g < G then some (.ptr g 0) else none
  | .func f => some (.func (.func f) [] [])

/-- a call's function and arguments -/
def callTo (ρ : Operand → Option AV) (o : Oper) : Option (FuncId × List AV) :=
  match o.op with
  | .call { callee := .value f, args, .. } =>
    match ρ f, opVals ρ args.toList with
    | some (.func (.func f) first captured), some l => some (f, first ++ l ++ captured)
    | _, _ => none
  | _ => none

def setT (ts : Tr AV) (d : Option Tmp) (v : AV) : Tr AV :=
  match d with
  | some d => ts.put d (some v)
  | none => ts

/-- is an operation done? none: that is not known -/
def wantedAV (ops : Array Oper) (ts : Tr AV) (o : Oper) : Option Bool :=
  match o.guard with
  | none => some true
  | some (j, want) =>
    match (ops[j]?).bind (·.dst) with
    | some d => match ts.get d with
      | some (.bool b) => some (b == want)
      | some (.tup _) => some false
      | _ => none
    | none => none

/-- an operation that was done: its place, what it did, the memory ahead of it and behind it -/
structure Ev1 where
  i : Nat
  fx : Fx
  m : Mem
  m' : Mem

section
variable (P : Program) (G : Nat) (call : FuncId → List AV → Mem → Option (AV × Mem))

def evOper (o : Oper) (ts : Tr AV) (m : Mem) : Option (AV × Mem × Fx) :=
  match callTo (evOperand G ts) o with
  | some (f, args) => (call f args m).map fun (v, m) => (v, m, .eff)
  | none => evOp P (evOperand G ts) o m

def evOperAt (id : Nat) (o : Oper) (ts : Tr AV) (m : Mem) : Option (AV × Mem × Fx) :=
  match callTo (evOperand G ts) o with
  | some (f, args) => (call f args m).map fun (v, m) => (v, m, .eff)
  | none => evOpAt P id (evOperand G ts) o m

def evOps (ops : Array Oper) : List Oper → Tr AV → Mem → Option (Tr AV × Mem)
  | [], ts, m => some (ts, m)
  | o :: rest, ts, m =>
    match wantedAV ops ts o with
    | some true =>
      match evOper P G call o ts m with
      | some (v, m, _) => evOps ops rest (setT ts o.dst v) m
      | none => none
    | some false => evOps ops rest (setT ts o.dst (.tup [])) m
    | none => none

def evOpsT (base : Nat) (ops : Array Oper) : List Oper → Nat → Tr AV → Mem → Option (Tr AV × Mem × List Ev1)
  | [], _, ts, m => some (ts, m, [])
  | o :: rest, i, ts, m =>
    match wantedAV ops ts o with
    | some true =>
      match evOperAt P G call (base + i) o ts m with
      | some (v, m', fx) =>
        match evOpsT base ops rest (i + 1) (setT ts o.dst v) m' with
        | some (ts, mm, l) => some (ts, mm, ⟨i, fx, m, m'⟩ :: l)
        | none => none
      | none => none
    | some false => evOpsT base ops rest (i + 1) (setT ts o.dst (.tup [])) m
    | none => none
end

/-- of each operation of a region the set of those that stand ahead of it in every order -/
def ancs : List Oper → List Nat → List Nat
  | [], acc => acc
  | o :: rest, acc =>
    ancs rest (acc ++ [o.after.toList.foldl (fun s e => if Region.binds .any e && decide (e.on < acc.length) then s ||| (2 ^ e.on ||| acc.getD e.on 0) else s) 0])

def tmpsOf (l : List Operand) : List Tmp := l.filterMap fun | .tmp t => some t | _ => none

/-- the slots that an operation reads or writes -/
def namesOf (ops : Array Oper) (o : Oper) : List Tmp :=
  o.dst.toList ++ tmpsOf o.op.operands.toList ++ (match o.guard with | some (g, _) => ((ops[g]?).bind (·.dst)).toList | none => [])

def orderedIn (an : List Nat) (i j : Nat) : Bool := (an.getD j 0).testBit i || (an.getD i 0).testBit j

/-- who writes a slot is in a fixed order with whoever reads or writes it -/
def slotsOk (ops : Array Oper) (an : List Nat) : Bool :=
  ops.toList.zipIdx.all fun (o, j) => (namesOf ops o).all fun t => ops.toList.zipIdx.all fun (o', i) => o'.dst != some t || i == j || (an.getD (max i j) 0).testBit (min i j)

def sameEs : List (AV × AV) → List (AV × AV) → Bool
  | [], [] => true
  | (a, b) :: x, (c, d) :: y => AV.same a c && AV.same b d && sameEs x y
  | _, _ => false

/-- what was looked at is the same in both memories (or is not there in both) -/
def sameAt (m m' : Mem) : Fx → Bool
  | .cells b off n =>
    match m.get b, m'.get b with
    | none, none => true
    | some (.row o _ e cs), some (.row o' _ e' cs') => o == o' && e == e' && decide (off + n ≤ cs.length) == decide (off + n ≤ cs'.length) && AV.sameL ((cs.drop off).take n) ((cs'.drop off).take n)
    | _, _ => false
  | .obj b =>
    match m.get b, m'.get b with
    | none, none => true
    | some (.map es), some (.map es') => sameEs es es'
    | _, _ => false
  | _ => true

def isEff : Fx → Bool
  | .eff => true
  | _ => false

/-- the block that was looked at was not made behind the look -/
def notAhead (base n i : Nat) : Fx → Bool
  | .cells b _ _ => decide (b < base + i) || decide (base + n ≤ b)
  | .obj b => decide (b < base + i) || decide (base + n ≤ b)
  | _ => true

/-- whatever order a region's operations take: the same is read, and what writes is in order -/
def drawOk (base n : Nat) (an : List Nat) (l : List Ev1) : Bool :=
  l.all fun r => notAhead base n r.i r.fx && (if isEff r.fx then l.all fun e => !isEff e.fx || e.i == r.i || orderedIn an r.i e.i
    else r.fx == .none || r.fx == .alloc || l.all fun e => !isEff e.fx || orderedIn an r.i e.i || sameAt e.m e.m' r.fx)

/-- an operation's bonds go to operations ahead of it -/
def edgesOk (ops : Array Oper) : Bool := ops.toList.zipIdx.all fun (o, j) => o.after.toList.all fun e => !Region.binds .any e || decide (e.on < j)

/-- a code whose slots lie among the function's, and whose regions that draw have their slots in order -/
def codeOk (nt : Nat) : Code → Bool
  | .seq a b => codeOk nt a && codeOk nt b
  | .cond _ a b => codeOk nt a && codeOk nt b
  | .block _ a => codeOk nt a
  | .loop a => codeOk nt a
  | .scope a => codeOk nt a
  | .region _ ops draw => (ops.toList.all fun o => o.dst.all (· < nt)) && (!draw || (edgesOk ops && slotsOk ops (ancs ops.toList [])))
  | _ => true

def initT : List AV → Nat → Tr AV → Tr AV
  | [], _, t => t
  | v :: vs, i, t => initT vs (i + 1) (t.put i (some v))

def evResult (P : Program) (ts : Tr AV) (m : Mem) : ResultVar → Option AV
  | .tmp t => ts.get t
  | .cell a t =>
    match ts.get a, csize P t, aggT P t with
    | some (.ptr b off), some n, some true => (m.cells b off n).map .agg
    | some (.ptr b off), some _, some false =>
      match m.cells b off 1 with
      | some [v] => some v
      | _ => none
    | _, _, _ => none

def evResults (P : Program) (ts : Tr AV) (m : Mem) : List ResultVar → Option (List AV)
  | [] => some []
  | r :: rs => match evResult P ts m r, evResults P ts m rs with
    | some a, some l => some (a :: l)
    | _, _ => none

def tupled : List AV → AV
  | [v] => v
  | vs => .tup vs

abbrev Prim := FuncId → Option (List AV → Mem → Option (AV × Mem))

def callWith (P : Program) (prim : Prim) (run : Code → Tr AV → Mem → Option (XT × Tr AV × Mem)) (f : FuncId) (args : List AV) (m : Mem) : Option (AV × Mem) :=
  match prim f with
  | some p => p args m
  | none =>
    match P.funcs[f]? with
    | none => none
    | some fn =>
      match fn.body with
      | none => none
      | some c =>
        if args.length ≤ fn.ntmps then
          match run c (initT args 0 .nil) m with
          | some (.exit _, _, _) => none
          | some (_, ts, m) => (evResults P ts m fn.results.toList).map fun vs => (tupled vs, m)
          | none => none
        else none

def ev (P : Program) (prim : Prim) (G : Nat) : Nat → Code → Tr AV → Mem → Option (XT × Tr AV × Mem)
  | 0, _, _, _ => none
  | n + 1, c, ts, m =>
    match c with
    | .skip | .label _ => some (.normal, ts, m)
    | .scope a => ev P prim G n a ts m
    | .seq a b =>
      match ev P prim G n a ts m with
      | some (.normal, ts, m) => ev P prim G n b ts m
      | r => r
    | .cond x a b =>
      match evOperand G ts x with
      | some (.bool true) => ev P prim G n a ts m
      | some (.bool false) => ev P prim G n b ts m
      | _ => none
    | .block id a =>
      match ev P prim G n a ts m with
      | some (.exit id', ts, m) => if id' = id then some (.normal, ts, m) else some (.exit id', ts, m)
      | r => r
    | .loop a =>
      match ev P prim G n a ts m with
      | some (.normal, ts, m) => ev P prim G n (.loop a) ts m
      | r => r
    | .exit id => some (.exit id, ts, m)
    | .ret => some (.ret, ts, m)
    | .region _ ops false => (evOps P G (callWith P prim (ev P prim G n)) ops ops.toList ts m).map fun (ts, m) => (.normal, ts, m)
    | .region _ ops true =>
      match evOpsT P G (callWith P prim (ev P prim G n)) m.next ops ops.toList 0 ts { m with next := m.next + ops.size } with
      | some (ts, m', l) => if drawOk m.next ops.size (ancs ops.toList []) l then some (.normal, ts, m') else none
      | none => none
    | _ => none

def evCall (P : Program) (prim : Prim) (G : Nat) (n : Nat) : FuncId → List AV → Mem → Option (AV × Mem) :=
  callWith P prim (ev P prim G n)

end Go.Proofs.YtcbileongahhiaaGreat.Ev
