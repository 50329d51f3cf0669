/- AX: a deterministic evaluator of the model's code over abstract values. Part 0: definitions. -/
import Derived.RangeFuncRecord
import Derived.OrdersIn
import Derived.Below
import Derived.KernelRfl
import Derived.Laws.Cells
import Derived.Laws.CopyRow
import Derived.ChangeKeysEq
import Derived.Laws.StructEq
import Derived.Laws.Tables
import Derived.Laws.Build
namespace Go.AX
open Go

/-- Abstract values. 'ptr', 'sl' name live abstract blocks; 'lst', 'cptr' are memory that is never written again. -/
inductive AV where
  | bool (b : Bool)
  | int (k : IntKind) (n : Int)
  | str (s : ByteArray)
  | nilptr
  | ptr (id off : Nat)
  | cptr (cells : List AV)
  | nilsl
  | sl (id off len sz : Nat) (cap : Option Nat)
  | lst (cells : List AV) (len : Nat) (cap : Option Nat)
  | func (fn : Fn) (first captured : List AV)
  | nilfunc
  | iface (t : TypeId) (v : AV)
  | nilif
  | agg (cs : List AV)
  | tup (vs : List AV)
  deriving Inhabited

def AV.undef : AV := .tup []
def AV.cells : AV → List AV
  | .agg cs => cs
  | v => [v]

/-- An abstract block. -/
inductive Blk where
  | dead
  | cells (cs : List AV)
  | loop (tmps : List AV) (params : List Tmp) (assign body : Code) (st : LoopState) (pend : Option Code)
  deriving Inhabited

abbrev Heap := List Blk

structure St where
  T : List AV
  H : Heap

/-- A constant as an abstract value. -/
def ofValue : Value → Option AV
  | .bool b => some (.bool b)
  | .int k n => some (.int k n)
  | .string s => some (.str s)
  | .pointer none => some .nilptr
  | .slice none 0 0 => some .nilsl
  | .nilFunc => some .nilfunc
  | .nilIface => some .nilif
  | .agg cs => (go cs.toList).map .agg
  | .tuple ⟨[]⟩ => some (.tup [])
  | _ => none
where
  one : Value → Option AV
    | .bool b => some (.bool b)
    | .int k n => some (.int k n)
    | .string s => some (.str s)
    | .pointer none => some .nilptr
    | .slice none 0 0 => some .nilsl
    | .nilFunc => some .nilfunc
    | .nilIface => some .nilif
    | _ => none
  go : List Value → Option (List AV)
    | [] => some []
    | v :: vs => match one v, go vs with
      | some x, some xs => some (x :: xs)
      | _, _ => none

def ev (T : List AV) : Operand → Option AV
  | .tmp t => some (T.getD t .undef)
  | .const v => ofValue v
  | .global _ => none
  | .func f => some (.func (.func f) [] [])

def evs (T : List AV) : List Operand → Option (List AV)
  | [] => some []
  | x :: xs => match ev T x, evs T xs with
    | some a, some as => some (a :: as)
    | _, _ => none

def sizeT (P : Program) (t : TypeId) : Option Nat := (P.info? t).map (·.size)
def bytesT (P : Program) (t : TypeId) : Option Nat := (P.info? t).map (·.bytes)
def isAggT (P : Program) (t : TypeId) : Option Bool := (P.underlying t).map fun | .struct _ | .array _ _ => true | _ => false
def zeroT (P : Program) (t : TypeId) : Option AV := ((P.info? t).bind (·.zero)).bind ofValue

/-- Reading a variable of type t out of cells. -/
def readAt (P : Program) (t : TypeId) (cs : List AV) (off : Nat) : Option AV :=
  match isAggT P t with
  | some true => match sizeT P t with
    | some n => if off + n ≤ cs.length then some (.agg ((cs.drop off).take n)) else none
    | none => none
  | some false => cs[off]?
  | none => none

def writeAt (cs : List AV) (off : Nat) (vs : List AV) : Option (List AV) :=
  if off + vs.length ≤ cs.length then some (cs.take off ++ (vs ++ cs.drop (off + vs.length))) else none

def oneCell : AV → Bool
  | .agg _ | .tup _ => false
  | _ => true

def loadA (P : Program) (H : Heap) (t : TypeId) : AV → Option AV
  | .ptr id off => match H[id]? with
    | some (.cells cs) => readAt P t cs off
    | _ => none
  | .cptr cs => readAt P t cs 0
  | _ => none

def storeA (P : Program) (H : Heap) (t : TypeId) (a v : AV) : Option Heap :=
  match a with
  | .ptr id off => match H[id]? with
    | some (.cells cs) =>
      if sizeT P t = some v.cells.length && v.cells.all oneCell then
        match writeAt cs off v.cells with
        | some cs' => some (H.set id (.cells cs'))
        | none => none
      else none
    | _ => none
  | _ => none

def newA (H : Heap) (cs : List AV) : Option (Nat × Heap) :=
  if cs.all oneCell then some (H.length, H ++ [.cells cs]) else none

def fillA (place : Nat → Option (Nat × Nat)) (cells : List AV) : List (Nat × AV) → Option (List AV)
  | [] => some cells
  | (i, v) :: rest => match place i with
    | none => none
    | some (off, size) => if v.cells.length = size then
        match writeAt cells off v.cells with
        | some cells' => fillA place cells' rest
        | none => none
      else none

def evParts (T : List AV) : List (Nat × Operand) → Option (List (Nat × AV))
  | [] => some []
  | (i, x) :: xs => match ev T x, evParts T xs with
    | some a, some as => some ((i, a) :: as)
    | _, _ => none

/-- n copies of a list. -/
def copies (n : Nat) (z : List AV) : List AV := match n with
  | 0 => []
  | n + 1 => z ++ copies n z

def intOp (op : BinOp) (k : IntKind) (a b : Int) : Option AV :=
  match op with
  | .add => some (.int k (k.wrap (a + b)))
  | .sub => some (.int k (k.wrap (a - b)))
  | .mul => some (.int k (k.wrap (a * b)))
  | .quo => if b = 0 then none else some (.int k (k.wrap (a.tdiv b)))
  | .rem => if b = 0 then none else some (.int k (a.tmod b))
  | .and => some (.int k (k.wrap (BitVec.ofInt k.bits a &&& BitVec.ofInt k.bits b).toNat))
  | .or => some (.int k (k.wrap (BitVec.ofInt k.bits a ||| BitVec.ofInt k.bits b).toNat))
  | .xor => some (.int k (k.wrap (BitVec.ofInt k.bits a ^^^ BitVec.ofInt k.bits b).toNat))
  | .andNot => some (.int k (k.wrap (BitVec.ofInt k.bits a &&& ~~~ BitVec.ofInt k.bits b).toNat))
  | .eql => some (.bool (a == b))
  | .neq => some (.bool (a != b))
  | .lss => some (.bool (a < b))
  | .leq => some (.bool (a ≤ b))
  | .gtr => some (.bool (a > b))
  | .geq => some (.bool (a ≥ b))
  | _ => none

def shiftOp (op : BinOp) (k : IntKind) (a b : Int) : Option AV :=
  if b < 0 then none else
  match op with
  | .shl => some (.int k (k.wrap (a * 2 ^ (min b.toNat k.bits))))
  | .shr => some (.int k (a.fdiv (2 ^ (min b.toNat k.bits))))
  | _ => none

def strOp (op : BinOp) (x y : ByteArray) : Option AV :=
  match op with
  | .add => if ((x.size + y.size : Nat) : Int) > IntKind.i64.max then none else some (.str (x ++ y))
  | .eql => some (.bool (x.toList == y.toList))
  | .neq => some (.bool !(x.toList == y.toList))
  | .lss => some (.bool (Op.bytesLess x.toList y.toList))
  | .leq => some (.bool (Op.bytesLess x.toList y.toList || x.toList == y.toList))
  | .gtr => some (.bool !(Op.bytesLess x.toList y.toList || x.toList == y.toList))
  | .geq => some (.bool !(Op.bytesLess x.toList y.toList))
  | _ => none

/-- Two lists of whole numbers of one kind. -/
def intsEq : List AV → List AV → Option Bool
  | [], [] => some true
  | .int k a :: xs, .int k' b :: ys => if k = k' then (intsEq xs ys).map fun r => a == b && r else none
  | _, _ => none

/-- '==' beside numbers and strings: bools; nil against a slice, a pointer, a function, an interface value. -/
def eqA (P : Program) (t : TypeId) (x y : AV) : Option Bool :=
  match P.underlying t, x, y with
  | some .bool, .bool a, .bool b => some (a == b)
  | some (.slice _), .nilsl, .nilsl => some true
  | some (.slice _), .nilsl, .sl .. | some (.slice _), .nilsl, .lst .. | some (.slice _), .sl .., .nilsl | some (.slice _), .lst .., .nilsl => some false
  | some (.pointer _), .nilptr, .nilptr => some true
  | some (.pointer _), .nilptr, .ptr .. | some (.pointer _), .nilptr, .cptr .. | some (.pointer _), .ptr .., .nilptr | some (.pointer _), .cptr .., .nilptr => some false
  | some (.func ..), .nilfunc, .nilfunc => some true
  | some (.func ..), .nilfunc, .func .. | some (.func ..), .func .., .nilfunc => some false
  | some (.interface _), .nilif, .iface .. | some (.interface _), .iface .., .nilif => some false
  | some (.array n e), .agg xs, .agg ys => match P.underlying e with
    | some (.int _) => if sizeT P e = some 1 && xs.length = n && ys.length = n && !P.eqGuardType P.depth t then intsEq xs ys else none
    | _ => none
  | _, _, _ => none

def isConst : Operand → Bool
  | .const _ => true
  | _ => false

def binA (P : Program) (op : BinOp) (t : TypeId) (ox oy : Operand) (x y : AV) : Option AV :=
  match op, x, y with
  | .shl, .int k a, .int _ b => shiftOp .shl k a b
  | .shr, .int k a, .int _ b => shiftOp .shr k a b
  | _, .int k a, .int k' b => if k = k' then intOp op k a b else none
  | _, .str a, .str b => strOp op a b
  | .eql, .nilif, .nilif => if isConst ox || isConst oy then (match P.underlying t with | some (.interface _) => some (.bool true) | _ => none) else none
  | .neq, .nilif, .nilif => if isConst ox || isConst oy then (match P.underlying t with | some (.interface _) => some (.bool false) | _ => none) else none
  | .eql, x, y => (eqA P t x y).map .bool
  | .neq, x, y => (eqA P t x y).map fun b => .bool (!b)
  | _, _, _ => none

def unA (op : UnOp) (x : AV) : Option AV :=
  match op, x with
  | .neg, .int k n => some (.int k (k.wrap (0 - n)))
  | .xor, .int k n => some (.int k (k.wrap (BitVec.ofInt k.bits (if k.signed then -1 else k.max) ^^^ BitVec.ofInt k.bits n).toNat))
  | .not, .bool b => some (.bool !b)
  | _, _ => none

def convA (P : Program) (src dst : TypeId) (x : AV) : Option AV :=
  match P.underlying src, P.underlying dst, x with
  | some _, some (.int k), .int _ n => some (.int k (k.wrap n))
  | some _, some .string, .str s => some (.str s)
  | _, _, _ => none

def asNat : AV → Option Nat
  | .int _ n => if 0 ≤ n then some n.toNat else none
  | _ => none

def fieldA (P : Program) (s : TypeId) (f : Nat) : Option Field :=
  match P.underlying s with
  | some (.struct fs) => fs[f]?
  | _ => none

/-- The place of an offset behind an address. -/
def addA : AV → Nat → Option AV
  | .ptr id off, n => some (.ptr id (off + n))
  | .cptr cs, n => if n ≤ cs.length then some (.cptr (cs.drop n)) else none
  | _, _ => none

def indexAddrA (P : Program) (t : TypeId) (x : AV) (i : Nat) : Option AV :=
  match P.underlying t, x with
  | some (.slice e), .sl id off len _ _ => if i < len then (sizeT P e).map fun s => .ptr id (off + i * s) else none
  | some (.slice e), .lst cs len _ => if i < len then (sizeT P e).bind fun s => if i * s ≤ cs.length then some (.cptr (cs.drop (i * s))) else none else none
  | some (.array n e), x => if i < n then (sizeT P e).bind fun s => addA x (i * s) else none
  | _, _ => none

def natOr (d : Nat) : Option AV → Option Nat
  | none => some d
  | some v => asNat v

/-- The bounds of x[l:h:m]; 'lim': up to where it is known to be allowed. -/
def bnds (len lim : Nat) (lo hi mx : Option AV) : Option (Nat × Nat × Option Nat) :=
  match natOr 0 lo, natOr len hi, mx with
  | some l, some h, none => if l ≤ h ∧ h ≤ lim then some (l, h, none) else none
  | some l, some h, some v => match asNat v with
    | some m => if hi.isSome = true ∧ l ≤ h ∧ h ≤ m ∧ m ≤ lim then some (l, h, some m) else none
    | none => none
  | _, _, _ => none

/-- x[l:h:m]. -/
def sliceA (P : Program) (H : Heap) (t : TypeId) (x : AV) (lo hi mx : Option AV) : Option AV :=
  match P.underlying t, x with
  | some (.slice e), .nilsl => match sizeT P e, bnds 0 0 lo hi mx with
    | some _, some _ => some .nilsl
    | _, _ => none
  | some (.slice e), .sl id off len sz cap => if sizeT P e = some sz then
      match bnds len (cap.getD len) lo hi mx with
      | some (l, h, mo) => some (.sl id (off + l * sz) (h - l) sz (match mo with | some m => some (m - l) | none => cap.map (· - l)))
      | none => none
    else none
  | some (.slice e), .lst cs len cap => match sizeT P e, bnds len len lo hi mx with
    | some s, some (l, h, mo) => some (.lst ((cs.drop (l * s)).take ((h - l) * s)) (h - l) (match mo with | some m => some (m - l) | none => cap.map (· - l)))
    | _, _ => none
  | some (.array n e), .ptr id off => match sizeT P e, bnds n n lo hi mx with
    | some s, some (l, h, mo) => (match H[id]? with
      | some (.cells cs) => if off + n * s ≤ cs.length then some (.sl id (off + l * s) (h - l) s (some (mo.getD n - l))) else none
      | _ => none)
    | _, _ => none
  | some .string, .str s => match bnds s.size s.size lo hi none, mx with
    | some (l, h, _), none => some (.str (s.extract l h))
    | _, _ => none
  | _, _ => none

def indexA (P : Program) (t : TypeId) (x : AV) (i : Nat) : Option AV :=
  match P.underlying t, x with
  | some (.array n e), .agg cs => if i < n then (sizeT P e).bind fun s => readAt P e cs (i * s) else none
  | some .string, .str s => if h : i < s.size then some (.int .u8 ((s[i]'h).toNat : Int)) else none
  | _, _ => none

/-! ### Freezing: a value that is handed to a function that only computes -/

def viewL (f : AV → Option (AV × List Nat)) : List AV → Option (List AV × List Nat)
  | [] => some ([], [])
  | v :: vs => match f v, viewL f vs with
    | some (x, is), some (xs, js) => some (x :: xs, is ++ js)
    | _, _ => none

/-- What a value reads as, written without names of blocks; and the blocks that were met. -/
def view (H : Heap) : Nat → AV → Option (AV × List Nat)
  | 0, _ => none
  | n + 1, v => match v with
    | .bool _ | .int .. | .str _ | .nilptr | .nilsl | .nilfunc | .nilif | .lst .. | .cptr _ => some (v, [])
    | .agg cs => match viewL (view H n) cs with
      | some (xs, is) => some (.agg xs, is)
      | none => none
    | .tup cs => match viewL (view H n) cs with
      | some (xs, is) => some (.tup xs, is)
      | none => none
    | .iface t x => match view H n x with
      | some (y, is) => some (.iface t y, is)
      | none => none
    | .sl id off len sz cap => match H[id]? with
      | some (.cells cs) => if off + len * sz ≤ cs.length then
          match viewL (view H n) ((cs.drop off).take (len * sz)) with
          | some (xs, is) => some (.lst xs len cap, id :: is)
          | none => none
        else none
      | _ => none
    | .func (.func f) first captured => match viewL (view H n) first, viewL (view H n) captured with
      | some (xs, is), some (ys, js) => some (.func (.func f) xs ys, is ++ js)
      | _, _ => none
    | _ => none

def kill (H : Heap) : List Nat → Heap
  | [] => H
  | i :: is => kill (H.set i .dead) is

def depthA : Nat := 40

/-! ### Builtins -/

def lenA : AV → Option Nat
  | .nilsl => some 0
  | .sl _ _ len _ _ => some len
  | .lst _ len _ => some len
  | .str s => some s.size
  | _ => none

/-- The first n elements' cells of a slice. -/
def cellsOf (H : Heap) (size n : Nat) : AV → Option (List AV)
  | .nilsl => some []
  | .sl id off _ _ _ => match H[id]? with
    | some (.cells cs) => if off + n * size ≤ cs.length then some ((cs.drop off).take (n * size)) else none
    | _ => none
  | .lst cs _ _ => if n * size ≤ cs.length then some (cs.take (n * size)) else none
  | .str s => if size = 1 then some ((s.data.toList.take n).map fun b => .int .u8 (b.toNat : Int)) else none
  | _ => none

def roomA : Nat := 2 ^ 45

def appendA (P : Program) (H : Heap) (t : TypeId) (s x : AV) : Option (AV × Heap) :=
  match P.underlying t with
  | some (.slice e) => match sizeT P e, bytesT P e, lenA x with
    | some size, some bytes, some n =>
      match cellsOf H size n x with
      | some new =>
        if !new.all oneCell then none else
        if n = 0 then (match s with | .nilsl | .sl .. | .lst .. => some (s, H) | _ => none) else
        if (zeroT P e).all (fun z => z.cells.length != size) then none else
        match s with
        | .nilsl => if n * bytes ≤ roomA && bytes > 0 then some (.sl H.length 0 n size none, H ++ [.cells new]) else none
        | .lst cs len (some cap) => if cap < len + n && (len + n) * bytes ≤ roomA && bytes > 0 && len * size ≤ cs.length && (cs.take (len * size)).all oneCell then
            some (.sl H.length 0 (len + n) size none, H ++ [.cells (cs.take (len * size) ++ new)]) else none
        | .sl id off len sz cap => if sz = size && (len + n) * bytes ≤ roomA && bytes > 0 then
            match cellsOf H size len s with
            | some old =>
              match cap with
              | some c => if c < len + n then some (.sl H.length 0 (len + n) size none, H ++ [.cells (old ++ new)])
                  else some (.sl H.length 0 (len + n) size (some c), (H.set id .dead) ++ [.cells (old ++ new)])
              | none => some (.sl H.length 0 (len + n) size none, (H.set id .dead) ++ [.cells (old ++ new)])
            | none => none
          else none
        | _ => none
      | none => none
    | _, _, _ => none
  | _ => none

def isSlice : AV → Bool
  | .nilsl | .sl .. | .lst .. => true
  | _ => false

def copyA (P : Program) (H : Heap) (t : TypeId) (d x : AV) : Option (AV × Heap) :=
  if !isSlice x then none else
  match P.underlying t with
  | some (.slice e) => match sizeT P e, lenA x with
    | some size, some n => match d with
      | .sl id off len sz _ =>
        if sz = size then
          match H[id]?, cellsOf H size (min n len) x with
          | some (.cells cs), some new =>
            if new.all oneCell then
              match writeAt cs off new with
              | some cs' => some (.int .i64 (min n len : Nat), H.set id (.cells cs'))
              | none => none
            else none
          | _, _ => none
        else none
      | .nilsl => some (.int .i64 0, H)
      | _ => none
    | _, _ => none
  | _ => none

def foldA (f : Int → Int → Int) (k : IntKind) : Int → List AV → Option AV
  | a, [] => some (.int k a)
  | a, .int k' b :: r => if k = k' then foldA f k (f a b) r else none
  | _, _ => none

def builtinA (P : Program) (b : Builtin) (ts : List TypeId) (H : Heap) (args : List AV) : Option (AV × Heap) :=
  match b, ts, args with
  | .len, t :: _, x :: _ => match P.underlying t with
    | some .string | some (.slice _) => (match P.underlying t, x with
        | some .string, .str s => some (.int .i64 s.size, H)
        | some (.slice _), .nilsl => some (.int .i64 0, H)
        | some (.slice _), .sl _ _ len _ _ => some (.int .i64 len, H)
        | some (.slice _), .lst _ len _ => some (.int .i64 len, H)
        | _, _ => none)
    | some (.array n _) => some (.int .i64 n, H)
    | _ => none
  | .append, [t, u], [s, x] => match P.underlying u, x with
    | some (.slice _), .nilsl => appendA P H t s .nilsl
    | some (.slice _), .sl i o l z c => appendA P H t s (.sl i o l z c)
    | some (.slice _), .lst cs l c => appendA P H t s (.lst cs l c)
    | some .string, .str b => appendA P H t s (.str b)
    | _, _ => none
  | .copy, [t, _], [s, x] => copyA P H t s x
  | .max, _, .int k a :: r => (foldA (fun x y => if y > x then y else x) k a r).map fun v => (v, H)
  | .min, _, .int k a :: r => (foldA (fun x y => if y < x then y else x) k a r).map fun v => (v, H)
  | _, _, _ => none

end Go.AX

/- AX, part 1: the evaluator. -/
namespace Go.AX
open Go

mutual
def AV.beq : AV → AV → Bool
  | .bool a, .bool b => a == b
  | .int k a, .int k' b => k = k' && a == b
  | .str s, .str t => decide (s = t)
  | .nilptr, .nilptr => true
  | .ptr i o, .ptr i' o' => i == i' && o == o'
  | .cptr a, .cptr b => AV.beqL a b
  | .nilsl, .nilsl => true
  | .sl i o l s c, .sl i' o' l' s' c' => i == i' && o == o' && l == l' && s == s' && c == c'
  | .lst a l c, .lst b l' c' => AV.beqL a b && l == l' && c == c'
  | .func f a b, .func f' a' b' => f = f' && AV.beqL a a' && AV.beqL b b'
  | .nilfunc, .nilfunc => true
  | .iface t v, .iface t' v' => t == t' && AV.beq v v'
  | .nilif, .nilif => true
  | .agg a, .agg b => AV.beqL a b
  | .tup a, .tup b => AV.beqL a b
  | _, _ => false
def AV.beqL : List AV → List AV → Bool
  | [], [] => true
  | a :: as, b :: bs => AV.beq a b && AV.beqL as bs
  | _, _ => false
end

structure Env where
  P : Program
  /-- 0: walked in place; 1: run on its own (its arguments and its result are plain data); 2: known. -/
  kind : FuncId → Nat
  /-- what is known of a function -/
  O : FuncId → List AV → Option AV

structure Rec where
  call : FuncId → List AV → Heap → Option (AV × Heap)
  round : Nat → List AV → Heap → Option (AV × Heap)

inductive Ex where
  | normal
  | exit (id : Nat)
  | goto (l : Nat)
  | ret
  deriving DecidableEq

def put (T : List AV) (dst : Option Tmp) (v : AV) : List AV :=
  match dst with
  | some d => T.set d v
  | none => T

def callV (R : Rec) (f : AV) (args : List AV) (H : Heap) : Option (AV × Heap) :=
  match f with
  | .func (.func g) first captured => R.call g (first ++ args ++ captured) H
  | .func (.yield l) first _ => R.round l (first ++ args) H
  | _ => none

def optEv (T : List AV) : Option Operand → Option (Option AV)
  | none => some none
  | some x => match ev T x with
    | some v => some (some v)
    | none => none

def keep (H : Heap) : Option AV → Option (AV × Heap)
  | some v => some (v, H)
  | none => none

def axOp (E : Env) (R : Rec) (T : List AV) (H : Heap) (o : Oper) : Option (AV × Heap) :=
  match o.op with
  | .move x | .assign x => keep H (ev T x)
  | .pick c a b => match ev T c with
    | some (.bool true) => keep H (ev T a)
    | some (.bool false) => keep H (ev T b)
    | _ => none
  | .alloc e => match zeroT E.P e with
    | some z => match newA H z.cells with
      | some (id, H') => some (.ptr id 0, H')
      | none => none
    | none => none
  | .box _ x => match ev T x with
    | some v => match newA H v.cells with
      | some (id, H') => some (.ptr id 0, H')
      | none => none
    | none => none
  | .build t parts => match evParts T parts.toList, zeroT E.P t, E.P.underlying t with
    | some ps, some z, some (.struct fs) => match fs.toList.mapM (fun f => (E.P.info? f.type).map fun i => (f.offset, i.size)) with
      | some places => keep H ((fillA (fun i => places[i]?) z.cells ps).map .agg)
      | none => none
    | some ps, some z, some (.array _ e) => match sizeT E.P e with
      | some s => keep H ((fillA (fun i => some (i * s, s)) z.cells ps).map .agg)
      | none => none
    | _, _, _ => none
  | .buildSlice t len parts => match evParts T parts.toList, E.P.underlying t with
    | some ps, some (.slice e) => match sizeT E.P e, zeroT E.P e with
      | some s, some z => if len * s ≤ 2 ^ 24 && z.cells.length = s && 0 < s then
          match fillA (fun i => some (i * s, s)) (copies len z.cells) ps with
          | some cs => match newA H cs with
            | some (id, H') => some (.sl id 0 len s (some len), H')
            | none => none
          | none => none
        else none
      | _, _ => none
    | _, _ => none
  | .load t a => match ev T a with
    | some p => keep H (loadA E.P H t p)
    | none => none
  | .store t a x => match ev T a, ev T x with
    | some p, some v => match storeA E.P H t p v with
      | some H' => some (.undef, H')
      | none => none
    | _, _ => none
  | .nilCheck x => match ev T x with
    | some (.ptr i o) => some (.ptr i o, H)
    | some (.cptr cs) => some (.cptr cs, H)
    | some (.func (.func f) a b) => some (.func (.func f) a b, H)
    | some (.func (.yield l) a b) => some (.func (.yield l) a b, H)
    | some (.iface t v) => some (.iface t v, H)
    | _ => none
  | .binOp op t x y _ => match ev T x, ev T y with
    | some a, some b => keep H (binA E.P op t x y a b)
    | _, _ => none
  | .unOp op _ x => match ev T x with
    | some a => keep H (unA op a)
    | none => none
  | .convert src dst x => match ev T x with
    | some a => keep H (convA E.P src dst a)
    | none => none
  | .makeInterface t x => match ev T x, E.P.underlying t with
    | some _, some (.interface _) => none
    | some v, some _ => some (.iface t v, H)
    | _, _ => none
  | .makeFunc fn first captured => match fn, evs T first.toList, evs T captured.toList with
    | .func f, some a, some b => some (.func (.func f) a b, H)
    | _, _, _ => none
  | .makeSlice t l c => match ev T l, ev T c, E.P.underlying t with
    | some x, some y, some (.slice e) => match asNat x, asNat y, sizeT E.P e, bytesT E.P e, zeroT E.P e with
      | some l, some c, some s, some b, some z =>
        if l ≤ c && c * b ≤ roomA && z.cells.length = s && z.cells.all oneCell && 0 < s && 0 < b then some (.sl H.length 0 l s (some c), H ++ [.cells (copies c z.cells)]) else none
      | _, _, _, _, _ => none
    | _, _, _ => none
  | .slice t x lo hi mx => match ev T x, optEv T lo, optEv T hi, optEv T mx with
    | some v, some a, some b, some c => keep H (sliceA E.P H t v a b c)
    | _, _, _, _ => none
  | .fieldAddr s x f => match ev T x, fieldA E.P s f with
    | some p, some fd => match sizeT E.P fd.type with
      | some (_ + 1) => keep H (addA p fd.offset)
      | _ => none
    | _, _ => none
  | .field s x f => match ev T x, fieldA E.P s f with
    | some (.agg cs), some fd => keep H (readAt E.P fd.type cs fd.offset)
    | _, _ => none
  | .indexAddr t x i => match ev T x, (ev T i).bind asNat with
    | some v, some n => keep H (indexAddrA E.P t v n)
    | _, _ => none
  | .index t x i => match ev T x, (ev T i).bind asNat with
    | some v, some n => keep H (indexA E.P t v n)
    | _, _ => none
  | .typeAssert x _ asserted ok => match ev T x, E.P.underlying asserted with
    | some _, some (.interface _) => none
    | some (.iface t v), some _ =>
      if t = asserted then some (if ok then .tup [v, .bool true] else v, H)
      else if ok then (match zeroT E.P asserted with | some z => some (.tup [z, .bool false], H) | none => none) else none
    | some .nilif, some _ => if ok then (match zeroT E.P asserted with | some z => some (.tup [z, .bool false], H) | none => none) else none
    | _, _ => none
  | .extract t i => match ev T t with
    | some (.tup vs) => keep H (vs[i]?)
    | _ => none
  | .call c => match evs T c.args.toList with
    | some args => match c.callee with
      | .value f => match ev T f with
        | some fv => callV R fv args H
        | none => none
      | .builtin b => builtinA E.P b c.argTypes.toList H args
      | .invoke .. => none
    | none => none
  | _ => none

def wantedA (ops : List Oper) (T : List AV) (o : Oper) : Bool :=
  match o.guard with
  | none => true
  | some (j, want) => match (ops[j]?).bind (·.dst) with
    | some d => match T[d]? with
      | some (.bool b) => b == want
      | _ => false
    | none => false

def axOne (E : Env) (R : Rec) (ops : List Oper) (o : Oper) (s : St) : Option (AV × Heap) :=
  if wantedA ops s.T o then axOp E R s.T s.H o else some (.undef, s.H)

def axRun (E : Env) (R : Rec) (ops : List Oper) : List Oper → St → Option St
  | [], s => some s
  | o :: os, s => match axOne E R ops o s with
    | some (v, H') => axRun E R ops os ⟨put s.T o.dst v, H'⟩
    | none => none

/-! ### A region whose order is open -/

/-- A new variable at its zero value, for which nothing must go ahead: it may be made at any time. -/
def hoist (o : Oper) : Bool :=
  match o.op with
  | .alloc _ => o.after.toList.isEmpty && o.guard.isNone
  | _ => false

/-- The order in which a region is run here: new variables first. -/
def seqOf (ops : List Oper) : List (Oper × Nat) :=
  (ops.zipIdx.filter fun x => hoist x.1) ++ (ops.zipIdx.filter fun x => !hoist x.1)

/-- The states before each operation, and the last one. -/
def axTrace (E : Env) (R : Rec) (ops : List Oper) : List (Oper × Nat) → St → Option (List (St × AV) × St)
  | [], s => some ([], s)
  | (o, _) :: os, s => match axOne E R ops o s with
    | some (v, H') => match axTrace E R ops os ⟨put s.T o.dst v, H'⟩ with
      | some (tr, s') => some ((s, v) :: tr, s')
      | none => none
    | none => none

/-- It doesn't change memory. -/
def quietOp : Op → Bool
  | .move _ | .assign _ | .pick .. | .build .. | .load .. | .nilCheck _ | .binOp .. | .unOp .. | .convert .. | .makeInterface .. | .makeFunc ..
  | .slice .. | .fieldAddr .. | .field .. | .indexAddr .. | .index .. | .typeAssert .. | .extract .. => true
  | .call { callee := .builtin .len, .. } | .call { callee := .builtin .max, .. } | .call { callee := .builtin .min, .. } => true
  | _ => false

def loudOp (o : Oper) : Bool := !quietOp o.op && !hoist o

def looks (ops : List Oper) (o : Oper) : List Tmp :=
  (o.op.operands.toList.filterMap fun | .tmp t => some t | _ => none) ++
  (match o.guard with
   | some (g, _) => ((ops[g]?).bind (·.dst)).toList
   | none => [])

/-- What must go before: a set of bits an operation. -/
def befs (ops : List Oper) : List Nat := (Region.before ops.toArray).toList

def bit (bs : List Nat) (i j : Nat) : Bool := (bs.getD i 0).testBit j

/-- The heaps at which an operation that only reads, or makes a variable, may come to stand: before each loud operation that need not go ahead of it, up to the first that must go behind it. -/
def heapsFor (bs : List Nat) (last : Heap) (i : Nat) : List (Oper × Nat) → List (St × AV) → List Heap
  | (o, j) :: os, (s, _) :: tr =>
    if loudOp o then
      if bit bs j i then [s.H]
      else if bit bs i j then heapsFor bs last i os tr
      else s.H :: heapsFor bs last i os tr
    else heapsFor bs last i os tr
  | _, _ => [last]

def okHeap (E : Env) (R : Rec) (ops : List Oper) (o : Oper) (s : St) (v : AV) (h : Heap) : Bool :=
  if hoist o then
    (match v, s.H.length with
     | .ptr id 0, n => id == n && (match o.op, h[id]? with
        | .alloc e, some (.cells cs) => (match zeroT E.P e with | some z => AV.beqL cs z.cells | none => false)
        | _, _ => false)
     | _, _ => false)
  else
    (match o.op with
     | .load .. | .slice .. => (match axOne E R ops o ⟨s.T, h⟩ with
        | some (u, _) => AV.beq u v
        | none => false)
     | _ => true)

def okAt (E : Env) (R : Rec) (ops : List Oper) (bs : List Nat) (sq : List (Oper × Nat)) (all : List (St × AV)) (last : St) (i : Nat) (o : Oper) (s : St) (v : AV) : Bool :=
  (o.after.toList.all fun e => !Region.binds .any e || e.on < i) &&
  (match o.dst with
   | some d => (ops.zipIdx.all fun (p, j) => j == i || p.dst != some d)
   | none => true) &&
  ((looks ops o).all fun t => ops.zipIdx.all fun (p, j) => j == i || p.dst != some t || bit bs i j || bit bs j i) &&
  (loudOp o || (heapsFor bs last.H i sq all).all (okHeap E R ops o s v))

def okAll (E : Env) (R : Rec) (ops : List Oper) (bs : List Nat) (sq : List (Oper × Nat)) (all : List (St × AV)) (last : St) : List (Oper × Nat) → List (St × AV) → Bool
  | [], [] => true
  | (o, i) :: os, (s, v) :: tr => okAt E R ops bs sq all last i o s v && okAll E R ops bs sq all last os tr
  | _, _ => false

def pairOK (bs : List Nat) : List Nat → Bool
  | [] => true
  | a :: r => (r.all fun b => bit bs b a) && pairOK bs r

def loudsOf (sq : List (Oper × Nat)) : List Nat := (sq.filter fun x => loudOp x.1).map (·.2)

/-- The block that a store writes. -/
def storeId (o : Oper) (s : St) : Option Nat :=
  match o.op with
  | .store _ a _ => match ev s.T a with
    | some (.ptr id _) => some id
    | _ => none
  | _ => none

def stateOf (sq : List (Oper × Nat)) (all : List (St × AV)) (a : Nat) : Option ((Oper × Nat) × (St × AV)) := (sq.zip all).find? fun x => x.1.2 == a

/-- The last two loud operations may be two stores into two blocks, in either order. -/
def tailOK (bs : List Nat) (ops : List Oper) (sq : List (Oper × Nat)) (all : List (St × AV)) (a b : Nat) : Bool :=
  (match stateOf sq all a, stateOf sq all b with
   | some ((p, _), (s, _)), some ((q, _), (s', _)) => (match storeId p s, storeId q s' with
      | some x, some y => x != y && p.guard.isNone && q.guard.isNone
      | _, _ => false)
   | _, _ => false) &&
  (ops.zipIdx.all fun (o, i) => (match o.op with
    | .load .. | .slice .. | .alloc _ => bit bs a i && bit bs b i
    | _ => true))

def louds (bs : List Nat) (ops : List Oper) (sq : List (Oper × Nat)) (all : List (St × AV)) : Bool :=
  let ls := loudsOf sq
  pairOK bs ls || (match ls.reverse with
    | b :: a :: pre => pairOK bs (pre.reverse ++ [a]) && pairOK bs (pre.reverse ++ [b]) && tailOK bs ops sq all a b
    | _ => false)

def axDraw (E : Env) (R : Rec) (ops : List Oper) (s : St) : Option St :=
  match axTrace E R ops (seqOf ops) s with
  | some (tr, last) =>
    if louds (befs ops) ops (seqOf ops) tr && okAll E R ops (befs ops) (seqOf ops) tr last (seqOf ops) tr then some last else none
  | none => none

/-! ### Code and calls -/

def resultsL (P : Program) (s : St) : List ResultVar → Option (List AV)
  | [] => some []
  | .tmp t :: rs => match resultsL P s rs with
    | some vs => some (s.T.getD t .undef :: vs)
    | none => none
  | .cell a t :: rs => match loadA P s.H t (s.T.getD a .undef), resultsL P s rs with
    | some v, some vs => some (v :: vs)
    | _, _ => none

def resultsA (P : Program) (fn : Func) (s : St) : Option AV :=
  match resultsL P s fn.results.toList with
  | some [v] => some v
  | some vs => some (.tup vs)
  | none => none

abbrev Run := Code → St → Option (Ex × St)

def axFn (E : Env) (run : Run) (f : FuncId) (args : List AV) (H : Heap) : Option (AV × Heap) :=
  match E.P.funcs[f]? with
  | some fn => match fn.body with
    | some c => match run c ⟨args ++ List.replicate (fn.ntmps - args.length) .undef, H⟩ with
      | some (.normal, s) => (match resultsA E.P fn s with | some v => some (v, s.H) | none => none)
      | some (.ret, s) => (match resultsA E.P fn s with | some v => some (v, s.H) | none => none)
      | _ => none
    | none => none
  | none => none

def axCall (E : Env) (run : Run) (f : FuncId) (args : List AV) (H : Heap) : Option (AV × Heap) :=
  match E.kind f with
  | 0 => axFn E run f args H
  | 1 => match viewL (view H depthA) args with
    | some (xs, ids) => match axFn E run f xs [] with
      | some (r, H1) => match view H1 depthA r with
        | some (r', _) => some (r', kill H ids)
        | none => none
      | none => none
    | none => none
  | _ => match viewL (view H depthA) args with
    | some (xs, ids) => match E.O f xs with
      | some r => some (r, kill H ids)
      | none => none
    | none => none

def bindP : List AV → List Tmp → List AV → List AV
  | T, t :: ts, a :: as => bindP (T.set t a) ts as
  | T, _, _ => T

def jumpOf : Ex → Option Code
  | .normal => none
  | .ret => some .ret
  | .exit id => some (.exit id)
  | .goto l => some (.goto l)

def axRound (run : Run) (l : Nat) (args : List AV) (H : Heap) : Option (AV × Heap) :=
  match H[l]? with
  | some (.loop tm ps as bo st _) =>
    if st = .ready ∧ args.length = ps.length then
      match run as ⟨bindP tm ps args, H⟩ with
      | some (.normal, s1) => match s1.H[l]? with
        | some (.loop tm ps as bo' .ready pd) => match run bo ⟨s1.T, s1.H.set l (.loop tm ps as bo' .busy pd)⟩ with
          | some (ex, s2) => match s2.H[l]? with
            | some (.loop tm ps as bo _ _) => some (.bool (jumpOf ex).isNone, s2.H.set l (.loop tm ps as bo (if (jumpOf ex).isNone then .ready else .done) (jumpOf ex)))
            | _ => none
          | none => none
        | _ => none
      | _ => none
    else none
  | _ => none

def recOf (E : Env) (run : Run) : Rec := { call := axCall E run, round := axRound run }

def axCode (E : Env) : Nat → Run
  | 0, _, _ => none
  | n + 1, c, s => match c with
    | .skip | .label _ => some (.normal, s)
    | .region _ ops draw => (match (if draw then axDraw E (recOf E (axCode E n)) ops.toList s else axRun E (recOf E (axCode E n)) ops.toList ops.toList s) with
      | some s' => some (.normal, s')
      | none => none)
    | .seq a b => (match axCode E n a s with
      | some (.normal, s') => axCode E n b s'
      | r => r)
    | .cond c x y => (match ev s.T c with
      | some (.bool true) => axCode E n x s
      | some (.bool false) => axCode E n y s
      | _ => none)
    | .block id b => (match axCode E n b s with
      | some (.exit id', s') => if id' = id then some (.normal, s') else some (.exit id', s')
      | r => r)
    | .loop b => (match axCode E n b s with
      | some (.normal, s') => axCode E n (.loop b) s'
      | r => r)
    | .scope b => (match axCode E n b s with
      | some (.goto _, _) => none
      | r => r)
    | .exit id => some (.exit id, s)
    | .goto l => some (.goto l, s)
    | .ret => some (.ret, s)
    | .rangeFunc f ps as bo => (match ev s.T f with
      | some (.func (.func g) a b) =>
        (match axCall E (axCode E n) g (a ++ [.func (.yield s.H.length) [] []] ++ b) (s.H ++ [.loop s.T ps.toList as bo .ready none]) with
        | some (_, H2) => (match H2[s.H.length]? with
          | some (.loop tm ps as bo st pd) => if st = .busy then none else
            (match pd with
            | none => some (.normal, ⟨s.T, H2.set s.H.length (.loop tm ps as bo .exhausted pd)⟩)
            | some c => axCode E n c ⟨s.T, H2.set s.H.length (.loop tm ps as bo .exhausted pd)⟩)
          | _ => none)
        | none => none)
      | _ => none)
    | .refuse _ => none

end Go.AX

/- AX, part 2: what an abstract state says of a state of the model. -/
set_option linter.unusedVariables false
set_option linter.unusedSimpArgs false
namespace Go.AX
open Go Go.RowKit

abbrev Rho := Nat → Option (Nat × Nat)
def noRho : Rho := fun _ => none

inductive FnRel (ρ : Rho) : Fn → Fn → Prop
  | func (f : FuncId) : FnRel ρ (.func f) (.func f)
  | yield {id b : Nat} : ρ id = some (b, 0) → FnRel ρ (.yield id) (.yield b)

inductive Rel (Z : Nat → Prop) (w : World) : Rho → AV → Value → Prop
  | bool {ρ : Rho} (b : Bool) : Rel Z w ρ (.bool b) (.bool b)
  | int {ρ : Rho} (k : IntKind) (n : Int) : Rel Z w ρ (.int k n) (.int k n)
  | str {ρ : Rho} (s : ByteArray) : Rel Z w ρ (.str s) (.string s)
  | nilptr {ρ : Rho} : Rel Z w ρ .nilptr (.pointer none)
  | ptr {ρ : Rho} {id off b base : Nat} : ρ id = some (b, base) → Rel Z w ρ (.ptr id off) (.pointer (some ⟨b, base + off, none⟩))
  | cptr {ρ : Rho} {cells : List AV} {b o : Nat} (vs : Nat → Value) : (0 < cells.length → Z b) → (∀ i, i < cells.length → w.cell? ⟨b, o + i, none⟩ = some (vs i)) →
      (∀ i (h : i < cells.length), Rel Z w noRho cells[i] (vs i)) → Rel Z w ρ (.cptr cells) (.pointer (some ⟨b, o, none⟩))
  | nilsl {ρ : Rho} : Rel Z w ρ .nilsl (.slice none 0 0)
  | sl {ρ : Rho} {id off len sz : Nat} {cap : Option Nat} {b base o c t n : Nat} : ρ id = some (b, base) → w.shape? b = some (t, n) → len ≤ c →
      (c ≠ 0 → o = base + off) → base + off + c * sz ≤ n → (∀ k, cap = some k → c = k) → Rel Z w ρ (.sl id off len sz cap) (.slice (some ⟨b, o, none⟩) len c)
  | lst {ρ : Rho} {cells : List AV} {len : Nat} {cap : Option Nat} {b o c : Nat} (vs : Nat → Value) : (0 < cells.length → Z b) → (∀ i, i < cells.length → w.cell? ⟨b, o + i, none⟩ = some (vs i)) →
      (∀ i (h : i < cells.length), Rel Z w noRho cells[i] (vs i)) → len ≤ c → (∀ k, cap = some k → c = k) → Rel Z w ρ (.lst cells len cap) (.slice (some ⟨b, o, none⟩) len c)
  | lst0 {ρ : Rho} {cap : Option Nat} (a : Addr) : (∀ k, cap = some k → k = 0) → Rel Z w ρ (.lst [] 0 cap) (.slice (some a) 0 0)
  | func {ρ : Rho} {fn fn' : Fn} {first cap : List AV} {f g : Array Value} : FnRel ρ fn fn' → first.length = f.size → (∀ i (h : i < first.length) (h' : i < f.size), Rel Z w ρ first[i] f[i]) →
      cap.length = g.size → (∀ i (h : i < cap.length) (h' : i < g.size), Rel Z w ρ cap[i] g[i]) → Rel Z w ρ (.func fn first cap) (.func fn' f g)
  | nilfunc {ρ : Rho} : Rel Z w ρ .nilfunc .nilFunc
  | iface {ρ : Rho} (t : TypeId) {v : AV} {x : Value} : Rel Z w ρ v x → Rel Z w ρ (.iface t v) (.iface t x)
  | nilif {ρ : Rho} : Rel Z w ρ .nilif .nilIface
  | agg {ρ : Rho} {cs : List AV} {vs : Array Value} : cs.length = vs.size → (∀ i (h : i < cs.length) (h' : i < vs.size), Rel Z w ρ cs[i] vs[i]) → Rel Z w ρ (.agg cs) (.agg vs)
  | tup {ρ : Rho} {cs : List AV} {vs : Array Value} : cs.length = vs.size → (∀ i (h : i < cs.length) (h' : i < vs.size), Rel Z w ρ cs[i] vs[i]) → Rel Z w ρ (.tup cs) (.tuple vs)

/-- A list of abstract values and an array of values. -/
def RelA (Z : Nat → Prop) (w : World) (ρ : Rho) (l : List AV) (a : Array Value) : Prop :=
  l.length = a.size ∧ ∀ i (h : i < l.length) (h' : i < a.size), Rel Z w ρ l[i] a[i]

theorem rel_agg {Z : Nat → Prop} {w : World} {ρ : Rho} {cs : List AV} {vs : Array Value} : Rel Z w ρ (.agg cs) (.agg vs) ↔ RelA Z w ρ cs vs :=
  ⟨fun h => by cases h with | agg h1 h2 => exact ⟨h1, h2⟩, fun h => .agg h.1 h.2⟩

/-! ### Growing -/

structure Ext (B : Nat) (Z : Nat → Prop) (w : World) (ρ : Rho) (n : Nat) (Z' : Nat → Prop) (w' : World) (ρ' : Rho) : Prop where
  z : ∀ b, Z b → Z' b
  zb : ∀ b, Z' b → Z b ∨ B ≤ b
  same : ∀ b, Z b → w'.heap[b]? = w.heap[b]?
  rho : ∀ id, id < n → ρ' id = ρ id
  shape : ∀ b s, w.shape? b = some s → w'.shape? b = some s
  defer : ∀ (r : Nat) ds, w.heap[r]? = some (.deferred ds) → w'.heap[r]? = some (.deferred ds)
  below : Below B w w'
  isloop : ∀ (b : Nat) r, w.heap[b]? = some (.loop r) → ∃ r', w'.heap[b]? = some (.loop r')

theorem Ext.refl (B : Nat) (Z : Nat → Prop) (w : World) (ρ : Rho) (n : Nat) : Ext B Z w ρ n Z w ρ :=
  ⟨fun _ h => h, fun _ h => .inl h, fun _ _ => rfl, fun _ _ => rfl, fun _ _ h => h, fun _ _ h => h, Below.refl _ _, fun _ r h => ⟨r, h⟩⟩

theorem Ext.trans {B : Nat} {Z : Nat → Prop} {w : World} {ρ : Rho} {n : Nat} {Z' : Nat → Prop} {w' : World} {ρ' : Rho} {n' : Nat} {Z'' : Nat → Prop} {w'' : World} {ρ'' : Rho}
    (h : Ext B Z w ρ n Z' w' ρ') (k : Ext B Z' w' ρ' n' Z'' w'' ρ'') (hn : n ≤ n') : Ext B Z w ρ n Z'' w'' ρ'' :=
  ⟨fun b hb => k.z b (h.z b hb), fun b hb => (k.zb b hb).elim (fun hb => h.zb b hb) .inr, fun b hb => (k.same b (h.z b hb)).trans (h.same b hb),
   fun id hi => (k.rho id (by omega)).trans (h.rho id hi), fun b s hs => k.shape b s (h.shape b s hs), fun r ds hr => k.defer r ds (h.defer r ds hr), h.below.trans k.below,
   fun b r hb => let ⟨r', h'⟩ := h.isloop b r hb; k.isloop b r' h'⟩

theorem cell_of_same {w w' : World} {b o : Nat} {s : Option Nat} (h : w'.heap[b]? = w.heap[b]?) : w'.cell? ⟨b, o, s⟩ = w.cell? ⟨b, o, s⟩ := by
  unfold World.cell?
  simp only [h]

theorem Rel.mono' {Z : Nat → Prop} {w : World} {Z' : Nat → Prop} {w' : World} (hz : ∀ b, Z b → Z' b) (hs : ∀ b, Z b → w'.heap[b]? = w.heap[b]?)
    (hsh : ∀ b s, w.shape? b = some s → w'.shape? b = some s) {ρ : Rho} {v : AV} {x : Value} (h : Rel Z w ρ v x) :
    ∀ ρ' : Rho, (∀ id y, ρ id = some y → ρ' id = some y) → Rel Z' w' ρ' v x := by
  induction h with
  | bool b => intro ρ' _; exact .bool b
  | int k n => intro ρ' _; exact .int k n
  | str s => intro ρ' _; exact .str s
  | nilptr => intro ρ' _; exact .nilptr
  | ptr h => intro ρ' hr; exact .ptr (hr _ _ h)
  | cptr vs hb hc _ ih => intro ρ' _; exact .cptr vs (fun h => hz _ (hb h)) (fun i hi => by rw [cell_of_same (hs _ (hb (by omega)))]; exact hc i hi) (fun i hi => ih i hi _ (fun _ _ h => by simp [noRho] at h))
  | nilsl => intro ρ' _; exact .nilsl
  | sl h1 h2 h3 h4 h5 h6 => intro ρ' hr; exact .sl (hr _ _ h1) (hsh _ _ h2) h3 h4 h5 h6
  | lst vs hb hc _ hl hcap ih => intro ρ' _; exact .lst vs (fun h => hz _ (hb h)) (fun i hi => by rw [cell_of_same (hs _ (hb (by omega)))]; exact hc i hi) (fun i hi => ih i hi _ (fun _ _ h => by simp [noRho] at h)) hl hcap
  | lst0 a h => intro ρ' _; exact .lst0 a h
  | func hf h1 _ h2 _ ih1 ih2 =>
    intro ρ' hr
    refine .func ?_ h1 (fun i hi hi' => ih1 i hi hi' _ hr) h2 (fun i hi hi' => ih2 i hi hi' _ hr)
    cases hf with
    | func f => exact .func f
    | yield h => exact .yield (hr _ _ h)
  | nilfunc => intro ρ' _; exact .nilfunc
  | iface t _ ih => intro ρ' hr; exact .iface t (ih _ hr)
  | nilif => intro ρ' _; exact .nilif
  | agg h1 _ ih => intro ρ' hr; exact .agg h1 (fun i hi hi' => ih i hi hi' _ hr)
  | tup h1 _ ih => intro ρ' hr; exact .tup h1 (fun i hi hi' => ih i hi hi' _ hr)

/-- What a state's names are good for. -/
def Blk.live : Blk → Prop
  | .dead => False
  | _ => True

structure HRel (B : Nat) (Z : Nat → Prop) (w : World) (ρ : Rho) (H : Heap) : Prop where
  dom : ∀ id x, ρ id = some x → id < H.length
  cells : ∀ id cs b base, H[id]? = some (.cells cs) → ρ id = some (b, base) → ¬ Z b ∧ ∃ c t, w.heap[b]? = some (.cells c t (0, 0)) ∧ base + cs.length ≤ c.size ∧
    ∀ i (h : i < cs.length), ∃ v, c[base + i]? = some v ∧ Rel Z w ρ cs[i] v ∧ oneCell cs[i] = true
  loop : ∀ id tm ps as bo st pd b base, H[id]? = some (.loop tm ps as bo st pd) → ρ id = some (b, base) → ¬ Z b ∧ base = 0 ∧ ∃ fn tmv dfr,
    w.heap[b]? = some (.loop { state := st, pending := pd, fn, tmps := tmv, params := ps.toArray, assign := as, body := bo, defers := dfr }) ∧ RelA Z w ρ tm tmv
  inj : ∀ (id id' b base base' : Nat) (k k' : Blk), H[id]? = some k → k.live → H[id']? = some k' → k'.live → ρ id = some (b, base) → ρ id' = some (b, base') → id = id'
  low : ∀ id b base, ρ id = some (b, base) → B ≤ b ∧ b < w.heap.size
  zlt : ∀ b, Z b → b < w.heap.size
  big : B ≤ w.heap.size
  zc : ∀ b, Z b → ∃ c t fr, w.heap[b]? = some (.cells c t fr)

theorem Rel.mono {B : Nat} {Z : Nat → Prop} {w : World} {ρ : Rho} {n : Nat} {Z' : Nat → Prop} {w' : World} {ρ' : Rho} (e : Ext B Z w ρ n Z' w' ρ') (hd : ∀ id x, ρ id = some x → id < n)
    {v : AV} {x : Value} (h : Rel Z w ρ v x) : Rel Z' w' ρ' v x :=
  h.mono' e.z e.same e.shape ρ' fun id y hy => by rw [e.rho id (hd _ _ hy)]; exact hy

theorem RelA.mono {B : Nat} {Z : Nat → Prop} {w : World} {ρ : Rho} {n : Nat} {Z' : Nat → Prop} {w' : World} {ρ' : Rho} (e : Ext B Z w ρ n Z' w' ρ') (hd : ∀ id x, ρ id = some x → id < n)
    {l : List AV} {a : Array Value} (h : RelA Z w ρ l a) : RelA Z' w' ρ' l a := ⟨h.1, fun i hi hi' => (h.2 i hi hi').mono e hd⟩

/-- The marks that ranges over functions leave among the deferred calls. -/
def DefOK (D : Nat) (w : World) (ds : List Deferred) : Prop :=
  ∃ rs : List Nat, ds = rs.map (fun r => { target := .collected r, args := #[] }) ∧ rs.Nodup ∧ ∀ r ∈ rs, D ≤ r ∧ w.heap[r]? = some (.deferred (some []))

theorem DefOK.mono {B D : Nat} {Z : Nat → Prop} {w : World} {ρ : Rho} {n : Nat} {Z' : Nat → Prop} {w' : World} {ρ' : Rho} (e : Ext B Z w ρ n Z' w' ρ') {ds : List Deferred} (h : DefOK D w ds) : DefOK D w' ds := by
  obtain ⟨rs, h1, h2, h3⟩ := h
  exact ⟨rs, h1, h2, fun r hr => ⟨(h3 r hr).1, e.defer _ _ (h3 r hr).2⟩⟩

theorem DefOK.nil (D : Nat) (w : World) : DefOK D w [] := ⟨[], rfl, List.nodup_nil, fun r hr => by simp at hr⟩

/-! ### Operands -/

theorem rel_ofValue_one {Z : Nat → Prop} {w : World} {ρ : Rho} {v : Value} {a : AV} (h : ofValue.one v = some a) : Rel Z w ρ a v := by
  unfold ofValue.one at h
  split at h <;> simp at h <;> subst h
  · exact .bool _
  · exact .int _ _
  · exact .str _
  · exact .nilptr
  · exact .nilsl
  · exact .nilfunc
  · exact .nilif

theorem rel_ofValue_go {Z : Nat → Prop} {w : World} {ρ : Rho} : ∀ (vs : List Value) (as : List AV), ofValue.go vs = some as → as.length = vs.length ∧ ∀ i (h : i < as.length) (h' : i < vs.length), Rel Z w ρ as[i] vs[i]
  | [], as, h => by simp [ofValue.go] at h; subst h; simp
  | v :: vs, as, h => by
    simp only [ofValue.go] at h
    split at h
    · rename_i x xs h1 h2
      simp at h
      subst h
      obtain ⟨hl, hr⟩ := rel_ofValue_go (Z := Z) (w := w) (ρ := ρ) vs xs h2
      refine ⟨by simp [hl], fun i hi hi' => ?_⟩
      cases i with
      | zero => exact rel_ofValue_one h1
      | succ i => exact hr i (by simpa using hi) (by simpa using hi')
    · simp at h

theorem rel_ofValue {Z : Nat → Prop} {w : World} {ρ : Rho} {v : Value} {a : AV} (h : ofValue v = some a) : Rel Z w ρ a v := by
  unfold ofValue at h
  split at h <;> try (simp at h; subst h)
  · exact .bool _
  · exact .int _ _
  · exact .str _
  · exact .nilptr
  · exact .nilsl
  · exact .nilfunc
  · exact .nilif
  · rename_i cs
    cases hg : ofValue.go cs.toList with
    | none => simp [hg] at h
    | some as =>
      simp [hg] at h
      subst h
      obtain ⟨hl, hr⟩ := rel_ofValue_go (Z := Z) (w := w) (ρ := ρ) _ _ hg
      exact .agg (by simpa using hl) (fun i hi hi' => by have := hr i hi (by simpa using hi'); rwa [Array.getElem_toList] at this)
  · exact .tup rfl (fun i hi _ => by simp at hi)
  · simp at h

theorem rel_undef {Z : Nat → Prop} {w : World} {ρ : Rho} : Rel Z w ρ .undef Go.undef := .tup rfl (fun i hi _ => by simp at hi)

theorem RelA.getD {Z : Nat → Prop} {w : World} {ρ : Rho} {l : List AV} {a : Array Value} (h : RelA Z w ρ l a) (t : Nat) : Rel Z w ρ (l.getD t .undef) (a.getD t Go.undef) := by
  by_cases ht : t < l.length
  · have ht' : t < a.size := h.1 ▸ ht
    have := h.2 t ht ht'
    simpa [List.getD, ht, Array.getD, ht'] using this
  · have ht' : ¬ t < a.size := h.1 ▸ ht
    simpa [List.getD, ht, Array.getD, ht'] using rel_undef

theorem ev_rel {Z : Nat → Prop} {w : World} {ρ : Rho} {T : List AV} {a : Act} (h : RelA Z w ρ T a.tmps) {x : Operand} {v : AV} (hv : ev T x = some v) : Rel Z w ρ v (a.eval x) := by
  cases x with
  | tmp t => simp [ev] at hv; subst hv; simpa [Act.eval, List.getD] using h.getD t
  | const v => exact rel_ofValue hv
  | global g => simp [ev] at hv
  | func f => simp [ev] at hv; subst hv; exact .func (.func f) rfl (fun i hi _ => by simp at hi) rfl (fun i hi _ => by simp at hi)

theorem evs_rel {Z : Nat → Prop} {w : World} {ρ : Rho} {T : List AV} {a : Act} (h : RelA Z w ρ T a.tmps) : ∀ {xs : List Operand} {vs : List AV}, evs T xs = some vs →
    vs.length = xs.length ∧ ∀ i (hi : i < vs.length) (hi' : i < xs.length), Rel Z w ρ vs[i] (a.eval xs[i])
  | [], vs, hv => by simp [evs] at hv; subst hv; simp
  | x :: xs, vs, hv => by
    simp only [evs] at hv
    split at hv
    · rename_i u us h1 h2
      simp at hv
      subst hv
      obtain ⟨hl, hr⟩ := evs_rel h h2
      refine ⟨by simp [hl], fun i hi hi' => ?_⟩
      cases i with
      | zero => exact ev_rel h h1
      | succ i => exact hr i (by simpa using hi) (by simpa using hi')
    · simp at hv

theorem evs_relA {Z : Nat → Prop} {w : World} {ρ : Rho} {T : List AV} {a : Act} (h : RelA Z w ρ T a.tmps) {xs : Array Operand} {vs : List AV} (hv : evs T xs.toList = some vs) : RelA Z w ρ vs (xs.map a.eval) := by
  obtain ⟨hl, hr⟩ := evs_rel h hv
  exact ⟨by simpa using hl, fun i hi hi' => by have := hr i hi (by simpa using hi'); rw [Array.getElem_toList] at this; simpa using this⟩

theorem put_relA {Z : Nat → Prop} {w : World} {ρ : Rho} {T : List AV} {a : Act} (h : RelA Z w ρ T a.tmps) (dst : Option Tmp) {v : AV} {x : Value} (hv : Rel Z w ρ v x) :
    RelA Z w ρ (put T dst v) (a.put dst x).tmps := by
  cases dst with
  | none => exact h
  | some d =>
    refine ⟨by simp [put, Act.put, h.1], fun i hi hi' => ?_⟩
    simp only [put, Act.put] at hi hi' ⊢
    simp only [List.length_set, Array.size_setIfInBounds] at hi hi'
    by_cases hd : d = i
    · subst hd; simpa [hi'] using hv
    · simpa [List.getElem_set, hd, Array.getElem_setIfInBounds, hi'] using h.2 i hi hi'

end Go.AX

/- AX, part 3: operations that only compute and read. -/
set_option linter.unusedVariables false
set_option linter.unusedSimpArgs false
namespace Go.AX
open Go Go.RowKit

theorem add_plain (b o n : Nat) : (⟨b, o, none⟩ : Addr).add n = ⟨b, o + n, none⟩ := by unfold Addr.add; split <;> simp_all

section
variable {P : Program} {Z : Nat → Prop} {w : World} {ρ : Rho}

theorem info_of_size {t : TypeId} {n : Nat} (h : sizeT P t = some n) : ∃ i, P.info? t = some i ∧ i.size = n := by
  unfold sizeT at h
  cases hi : P.info? t with
  | none => simp [hi] at h
  | some i => simp [hi] at h; exact ⟨i, rfl, h⟩

theorem run_sizeOf' {t : TypeId} {n : Nat} (h : sizeT P t = some n) (w : World) : (sizeOf t).run P w = .ok n w := by
  obtain ⟨i, hi, rfl⟩ := info_of_size h
  simp [sizeOf, typeInfo, hi]

theorem run_info' {t : TypeId} {i : TypeInfo} (h : P.info? t = some i) (w : World) : (typeInfo t).run P w = .ok i w := by
  simp [typeInfo, h]

theorem under_of_agg {t : TypeId} {b : Bool} (h : isAggT P t = some b) : ∃ d, P.underlying t = some d ∧ (match d with | .struct _ | .array _ _ => true | _ => false) = b := by
  unfold isAggT at h
  cases hd : P.underlying t with
  | none => simp [hd] at h
  | some d => simp [hd] at h; exact ⟨d, rfl, by cases d <;> simpa using h⟩

theorem run_isAgg' {t : TypeId} {b : Bool} (h : isAggT P t = some b) (w : World) : (isAgg t).run P w = .ok b w := by
  obtain ⟨d, hd, hb⟩ := under_of_agg h
  unfold isAgg
  simp only [Sem.run_bind, run_underlying hd, Result.andThen_ok]
  cases d <;> simp_all

theorem run_zero' {t : TypeId} {z : AV} (h : zeroT P t = some z) (w : World) : ∃ v, (zeroValue t).run P w = .ok v w ∧ ofValue v = some z := by
  unfold zeroT at h
  cases hi : P.info? t with
  | none => simp [hi] at h
  | some i =>
    cases hz : i.zero with
    | none => simp [hi, hz] at h
    | some v => exact ⟨v, by simp [zeroValue, typeInfo, hi, hz], by simpa [hi, hz] using h⟩

/-- Cells that lie in a row. -/
def CellsAt (Z : Nat → Prop) (w : World) (ρ : Rho) (b o : Nat) (cs : List AV) : Prop :=
  ∃ vs : Nat → Value, (∀ i, i < cs.length → w.cell? ⟨b, o + i, none⟩ = some (vs i)) ∧ ∀ i (h : i < cs.length), Rel Z w ρ cs[i] (vs i)

theorem CellsAt.of {b o : Nat} {cs : List AV} (h : ∀ i (hi : i < cs.length), ∃ v, w.cell? ⟨b, o + i, none⟩ = some v ∧ Rel Z w ρ cs[i] v) : CellsAt Z w ρ b o cs := by
  refine ⟨fun i => if hi : i < cs.length then (h i hi).choose else Go.undef, fun i hi => ?_, fun i hi => ?_⟩
  · simp only [hi, dif_pos]; exact (h i hi).choose_spec.1
  · simp only [hi, dif_pos]; exact (h i hi).choose_spec.2

theorem CellsAt.sub {b o : Nat} {cs : List AV} (h : CellsAt Z w ρ b o cs) (off n : Nat) : CellsAt Z w ρ b (o + off) ((cs.drop off).take n) := by
  obtain ⟨vs, h1, h2⟩ := h
  refine ⟨fun i => vs (off + i), fun i hi => ?_, fun i hi => ?_⟩
  · rw [Nat.add_assoc]; exact h1 _ (by simp at hi; omega)
  · simp only [List.getElem_take, List.getElem_drop]; exact h2 _ _

theorem CellsAt.drop {b o : Nat} {cs : List AV} (h : CellsAt Z w ρ b o cs) (off : Nat) : CellsAt Z w ρ b (o + off) (cs.drop off) := by
  obtain ⟨vs, h1, h2⟩ := h
  refine ⟨fun i => vs (off + i), fun i hi => ?_, fun i hi => ?_⟩
  · rw [Nat.add_assoc]; exact h1 _ (by simp at hi; omega)
  · simp only [List.getElem_drop]; exact h2 _ _

theorem CellsAt.weaken {b o : Nat} {cs : List AV} (h : CellsAt Z w noRho b o cs) (ρ : Rho) : CellsAt Z w ρ b o cs := by
  obtain ⟨vs, h1, h2⟩ := h
  exact ⟨vs, h1, fun i hi => (h2 i hi).mono' (fun _ h => h) (fun _ _ => rfl) (fun _ _ h => h) ρ (fun _ _ h => by simp [noRho] at h)⟩

theorem run_loadCells' {b o : Nat} {cs : List AV} (h : CellsAt Z w ρ b o cs) : ∃ vs : Array Value, (loadCells ⟨b, o, none⟩ cs.length).run P w = .ok vs w ∧ RelA Z w ρ cs vs := by
  obtain ⟨vs, h1, h2⟩ := h
  refine ⟨((List.range cs.length).map vs).toArray, run_loadCells w _ _ vs fun j hj => by rw [add_plain]; exact h1 j hj, by simp, fun i hi hi' => ?_⟩
  simpa using h2 i hi

theorem readAt_rel {b o : Nat} {cs : List AV} (h : CellsAt Z w ρ b o cs) {t : TypeId} {off : Nat} {r : AV} (hr : readAt P t cs off = some r) :
    ∃ v, (loadVar t ⟨b, o + off, none⟩).run P w = .ok v w ∧ Rel Z w ρ r v := by
  unfold readAt at hr
  split at hr
  · rename_i hagg
    split at hr
    · rename_i n hn
      split at hr
      · rename_i hle
        simp at hr
        subst hr
        obtain ⟨vs, hrun, hrel⟩ := run_loadCells' (P := P) (h.sub off n)
        have hl : ((cs.drop off).take n).length = n := by simp; omega
        rw [hl] at hrun
        exact ⟨.agg vs, by simp [loadVar, Sem.run_bind, run_isAgg' hagg, run_sizeOf' hn, hrun], rel_agg.2 hrel⟩
      · simp at hr
    · simp at hr
  · rename_i hagg
    obtain ⟨vs, h1, h2⟩ := h
    have hlt : off < cs.length := by
      rcases Nat.lt_or_ge off cs.length with h | h
      · exact h
      · rw [List.getElem?_eq_none h] at hr; simp at hr
    rw [List.getElem?_eq_getElem hlt] at hr
    simp at hr
    subst hr
    exact ⟨vs off, by simp [loadVar, Sem.run_bind, run_isAgg' hagg, h1 off hlt], h2 off hlt⟩
  · simp at hr

/-- The same out of a value. -/
theorem part_rel {cs : List AV} {vs : Array Value} (h : RelA Z w ρ cs vs) {t : TypeId} {off : Nat} {r : AV} (hr : readAt P t cs off = some r) :
    ∃ v, (part t vs off).run P w = .ok v w ∧ Rel Z w ρ r v := by
  unfold readAt at hr
  split at hr
  · rename_i hagg
    split at hr
    · rename_i n hn
      split at hr
      · rename_i hle
        simp at hr
        subst hr
        refine ⟨.agg (vs.extract off (off + n)), by simp [part, Sem.run_bind, run_isAgg' hagg, run_sizeOf' hn], rel_agg.2 ⟨?_, fun i hi hi' => ?_⟩⟩
        · have := h.1; simp; omega
        · have := h.2 (off + i) (by simp at hi; omega) (by simp at hi'; omega)
          simpa using this
      · simp at hr
    · simp at hr
  · rename_i hagg
    have hlt : off < cs.length := by
      rcases Nat.lt_or_ge off cs.length with h | h
      · exact h
      · rw [List.getElem?_eq_none h] at hr; simp at hr
    have hlt' : off < vs.size := h.1 ▸ hlt
    rw [List.getElem?_eq_getElem hlt] at hr
    simp at hr
    subst hr
    exact ⟨vs[off], by simp [part, Sem.run_bind, run_isAgg' hagg, hlt'], h.2 off hlt hlt'⟩
  · simp at hr

theorem HRel.at {B : Nat} {H : Heap} (h : HRel B Z w ρ H) {id b base : Nat} {cs : List AV} (hc : H[id]? = some (.cells cs)) (hr : ρ id = some (b, base)) : CellsAt Z w ρ b base cs := by
  obtain ⟨_, c, t, hw, hl, hcell⟩ := h.cells id cs b base hc hr
  refine CellsAt.of fun i hi => ?_
  obtain ⟨v, h1, h2, _⟩ := hcell i hi
  exact ⟨v, by simp [World.cell?, hw, h1], h2⟩

theorem loadA_rel {B : Nat} {H : Heap} (h : HRel B Z w ρ H) {t : TypeId} {p r : AV} {x : Value} (hp : Rel Z w ρ p x) (hl : loadA P H t p = some r) :
    ∃ a v, x = .pointer (some a) ∧ (loadVar t a).run P w = .ok v w ∧ Rel Z w ρ r v := by
  unfold loadA at hl
  split at hl
  · rename_i id off
    split at hl
    · rename_i cs hc
      cases hp with
      | ptr hr =>
        obtain ⟨v, h1, h2⟩ := readAt_rel (P := P) (h.at hc hr) hl
        exact ⟨_, v, rfl, h1, h2⟩
    · simp at hl
  · rename_i cs
    cases hp with
    | cptr vs hz hc hrel =>
      obtain ⟨v, h1, h2⟩ := readAt_rel (P := P) (CellsAt.weaken ⟨vs, hc, hrel⟩ ρ) hl
      exact ⟨_, v, rfl, by simpa using h1, h2⟩
  · simp at hl

/-! ### fill -/

theorem writeAt_eq {cs vs r : List AV} {off : Nat} (h : writeAt cs off vs = some r) : off + vs.length ≤ cs.length ∧ r = cs.take off ++ (vs ++ cs.drop (off + vs.length)) := by
  unfold writeAt at h
  split at h
  · simp at h; exact ⟨by assumption, h.symm⟩
  · simp at h

theorem writeAt_get {cs vs r : List AV} {off : Nat} (h : writeAt cs off vs = some r) : r.length = cs.length ∧
    ∀ i (hi : i < r.length), (∃ (_ : off ≤ i) (h2 : i - off < vs.length), r[i] = vs[i - off]) ∨ ((i < off ∨ off + vs.length ≤ i) ∧ ∃ h' : i < cs.length, r[i] = cs[i]) := by
  obtain ⟨hl, rfl⟩ := writeAt_eq h
  have hlen : (cs.take off ++ (vs ++ cs.drop (off + vs.length))).length = cs.length := by simp; omega
  refine ⟨hlen, fun i hi => ?_⟩
  rw [hlen] at hi
  by_cases h1 : i < off
  · right
    refine ⟨.inl h1, hi, ?_⟩
    rw [List.getElem_append_left (by simp; omega)]
    simp
  · by_cases h2 : i < off + vs.length
    · left
      refine ⟨by omega, by omega, ?_⟩
      rw [List.getElem_append_right (by simp; omega), List.getElem_append_left (by simp; omega)]
      congr 1
      simp; omega
    · right
      refine ⟨.inr (by omega), hi, ?_⟩
      rw [List.getElem_append_right (by simp; omega), List.getElem_append_right (by simp; omega)]
      simp only [List.getElem_drop]
      congr 1
      simp; omega

/-- A store into an array, value by value. -/
theorem fold_set_get (vs : List Value) (off : Nat) : ∀ (k : Nat) (a : Array Value), off + k + vs.length ≤ a.size →
    ((vs.zipIdx k).foldl (fun cs (p : Value × Nat) => cs.setIfInBounds (off + p.2) p.1) a).size = a.size ∧
    ∀ i, ((vs.zipIdx k).foldl (fun cs (p : Value × Nat) => cs.setIfInBounds (off + p.2) p.1) a)[i]? = if off + k ≤ i ∧ i < off + k + vs.length then vs[i - (off + k)]? else a[i]? := by
  induction vs with
  | nil => intro k a h; simp; intro i h1 h2; omega
  | cons v vs ih =>
    intro k a h
    simp only [List.length_cons] at h
    simp only [List.zipIdx_cons, List.foldl_cons]
    obtain ⟨h1, h2⟩ := ih (k + 1) (a.setIfInBounds (off + k) v) (by simp; omega)
    refine ⟨by simpa using h1, fun i => ?_⟩
    rw [h2 i]
    by_cases c1 : off + (k + 1) ≤ i ∧ i < off + (k + 1) + vs.length
    · rw [if_pos c1, if_pos (by simp; omega)]
      rw [show i - (off + k) = (i - (off + (k + 1))) + 1 by omega]
      simp
    · rw [if_neg c1]
      by_cases c2 : i = off + k
      · subst c2
        rw [if_pos (by simp)]
        simp [show off + k < a.size by omega]
      · rw [if_neg (by simp; omega)]
        rw [Array.getElem?_setIfInBounds_ne (by omega)]

theorem cells_rel {v : AV} {x : Value} (h : Rel Z w ρ v x) : RelA Z w ρ v.cells x.cells := by
  cases h with
  | agg h1 h2 => exact ⟨h1, h2⟩
  | _ =>
    refine ⟨rfl, fun i hi hi' => ?_⟩
    simp only [AV.cells, Value.cells, List.length_singleton] at hi
    obtain rfl : i = 0 := by omega
    simp only [AV.cells, Value.cells, List.getElem_cons_zero, List.getElem_toArray]
    first
    | exact .bool _ | exact .int _ _ | exact .str _ | exact .nilptr | exact .nilsl | exact .nilfunc | exact .nilif
    | (exact .ptr (by assumption)) | (exact .cptr _ (by assumption) (by assumption) (by assumption))
    | (exact .sl (by assumption) (by assumption) (by assumption) (by assumption) (by assumption) (by assumption))
    | (exact .lst _ (by assumption) (by assumption) (by assumption) (by assumption) (by assumption))
    | (exact .lst0 _ (by assumption))
    | (exact .func (by assumption) (by assumption) (by assumption) (by assumption) (by assumption))
    | (exact .iface _ (by assumption)) | (exact .tup (by assumption) (by assumption))

/-- Parts, evaluated. -/
def PartsRel (Z : Nat → Prop) (w : World) (ρ : Rho) : List (Nat × AV) → List (Nat × Value) → Prop
  | [], [] => True
  | (i, a) :: r, (j, v) :: s => i = j ∧ Rel Z w ρ a v ∧ PartsRel Z w ρ r s
  | _, _ => False

theorem evParts_rel {T : List AV} {a : Act} (h : RelA Z w ρ T a.tmps) : ∀ {xs : List (Nat × Operand)} {ps : List (Nat × AV)}, evParts T xs = some ps →
    PartsRel Z w ρ ps (xs.map fun (i, x) => (i, a.eval x))
  | [], ps, hv => by simp [evParts] at hv; subst hv; trivial
  | (i, x) :: xs, ps, hv => by
    simp only [evParts] at hv
    split at hv
    · rename_i u us h1 h2
      simp at hv
      subst hv
      exact ⟨rfl, ev_rel h h1, evParts_rel h h2⟩
    · simp at hv

theorem fill_rel {place place' : Nat → Option (Nat × Nat)} (hpl : ∀ i x, place i = some x → place' i = some x) : ∀ {ps : List (Nat × AV)} {qs : List (Nat × Value)} {cs r : List AV} {vs : Array Value},
    PartsRel Z w ρ ps qs → RelA Z w ρ cs vs → fillA place cs ps = some r → ∃ us, Instr.fill place' vs qs = some us ∧ RelA Z w ρ r us
  | [], [], cs, r, vs, _, hc, h => by simp [fillA] at h; subst h; exact ⟨vs, rfl, hc⟩
  | [], _ :: _, _, _, _, hp, _, _ => by simp [PartsRel] at hp
  | _ :: _, [], _, _, _, hp, _, _ => by simp [PartsRel] at hp
  | (i, a) :: ps, (j, v) :: qs, cs, r, vs, hp, hc, h => by
    obtain ⟨rfl, hav, hps⟩ := hp
    simp only [fillA] at h
    split at h
    · simp at h
    · rename_i off size hplace
      split at h
      · rename_i hsz
        split at h
        · rename_i cells' hw
          have hcv := cells_rel hav
          obtain ⟨hle, _⟩ := writeAt_eq hw
          have hlv : v.cells.size = size := by rw [← hcv.1]; exact hsz
          have hle' : off + v.cells.size ≤ vs.size := by rw [← hcv.1, ← hc.1]; exact hle
          obtain ⟨hl1, hg1⟩ := writeAt_get hw
          obtain ⟨hl2, hg2⟩ := fold_set_get v.cells.toList off 0 vs (by simpa using hle')
          have hfold : (v.cells.zipIdx.foldl (fun cs (p : Value × Nat) => cs.setIfInBounds (off + p.2) p.1) vs) = ((v.cells.toList.zipIdx 0).foldl (fun cs (p : Value × Nat) => cs.setIfInBounds (off + p.2) p.1) vs) := by
            rw [← Array.foldl_toList, Array.toList_zipIdx]
          have hrel : RelA Z w ρ cells' (v.cells.zipIdx.foldl (fun cs (p : Value × Nat) => cs.setIfInBounds (off + p.2) p.1) vs) := by
            rw [hfold]
            refine ⟨by rw [hl1, hl2, hc.1], fun k hk hk' => ?_⟩
            have hget := hg2 k
            rw [Array.getElem?_eq_getElem hk'] at hget
            rcases hg1 k hk with ⟨h1, h2, h3⟩ | ⟨h1, h2, h3⟩
            · have h2' : k - off < v.cells.size := hcv.1 ▸ h2
              rw [if_pos (by simp; omega)] at hget
              simp only [Nat.add_zero] at hget
              rw [show v.cells.toList[k - off]? = some v.cells[k - off] by simp [h2']] at hget
              rw [h3, Option.some.inj hget]
              exact hcv.2 _ h2 h2'
            · have h2' : k < vs.size := hc.1 ▸ h2
              rw [if_neg (by have := hcv.1; simp; omega)] at hget
              rw [Array.getElem?_eq_getElem h2'] at hget
              rw [h3, Option.some.inj hget]
              exact hc.2 _ h2 h2'
          obtain ⟨us, hus, hr⟩ := fill_rel hpl hps hrel h
          refine ⟨us, ?_, hr⟩
          rw [Instr.fill, hpl _ _ hplace]
          simp only
          rw [if_neg (by simp only [Bool.or_eq_true, decide_eq_true_eq, not_or]; exact ⟨fun h => h hlv, by omega⟩)]
          exact hus
        · simp at h
      · simp at h

end
end Go.AX

/- AX, part 4: an operation that is quiet does what AX says. -/
set_option linter.unusedVariables false
set_option linter.unusedSimpArgs false
namespace Go.AX
open Go Go.RowKit

/-- The operation comes to r, and the world is as it was. -/
def Quiet (P : Program) (Z : Nat → Prop) (w : World) (ρ : Rho) (s : Sem Next) (r : AV) : Prop := ∃ v, s.run P w = .ok (.value v) w ∧ Rel Z w ρ r v

section
variable {P : Program} {Z : Nat → Prop} {w : World} {ρ : Rho}

theorem keep_eq {H H' : Heap} {x : Option AV} {r : AV} (h : keep H x = some (r, H')) : x = some r ∧ H' = H := by
  cases x with
  | none => simp [keep] at h
  | some v => simp [keep] at h; exact ⟨by rw [h.1], h.2.symm⟩

theorem Quiet.of {s : Sem Value} {r : AV} {v : Value} (h : s.run P w = .ok v w) (hr : Rel Z w ρ r v) : Quiet P Z w ρ (do pure (.value (← s))) r :=
  ⟨v, by simp [Sem.run_bind, h], hr⟩

theorem rel_int {k : IntKind} {n : Int} {x : Value} (h : Rel Z w ρ (.int k n) x) : x = .int k n := by cases h; rfl
theorem rel_bool {b : Bool} {x : Value} (h : Rel Z w ρ (.bool b) x) : x = .bool b := by cases h; rfl
theorem rel_str {s : ByteArray} {x : Value} (h : Rel Z w ρ (.str s) x) : x = .string s := by cases h; rfl
theorem rel_nilif {x : Value} (h : Rel Z w ρ .nilif x) : x = .nilIface := by cases h; rfl

theorem rel_oneCell {v : AV} {x : Value} (h : Rel Z w ρ v x) (h1 : oneCell v = true) : x.oneCell' = true := by
  cases h <;> first | rfl | (simp [oneCell] at h1)

/-! ### '==' and arithmetic -/

theorem guard_num (op : BinOp) (t : TypeId) (ox oy : Operand) (x y : Value) (hx : x ≠ .nilIface ∨ y ≠ .nilIface) (ha : (∀ cs, x ≠ .agg cs) ∨ (∀ cs, y ≠ .agg cs)) (w : World) :
    (eqGuard op t ox oy x y).run P w = .ok () w := by
  unfold eqGuard
  cases op <;> first
    | (simp; done)
    | (cases x <;> cases y <;> simp_all)

theorem intOp_run (op : BinOp) (t : TypeId) (k : IntKind) (a b : Int) {r : AV} (hsh : op ≠ .shl ∧ op ≠ .shr) (h : intOp op k a b = some r) (w : World) : ∃ v, (binOp op t (.int k a) (.int k b)).run P w = .ok v w ∧ Rel Z w ρ r v := by
  cases op <;> simp only [intOp, Option.some.injEq, reduceCtorEq] at h <;> first
    | (exact absurd rfl hsh.1)
    | (exact absurd rfl hsh.2)
    | (split at h
       · simp at h
       · rename_i h0
         simp only [Option.some.injEq] at h
         subst h
         refine ⟨_, ?_, .int _ _⟩
         simp only [binOp, ne_eq, not_true_eq_false, if_false, Op.intDiv, h0]
         rfl)
    | (subst h
       refine ⟨_, ?_, .int _ _⟩
       simp only [binOp, ne_eq, not_true_eq_false, if_false, Op.intArith, Op.intBits]
       rfl)
    | (subst h
       refine ⟨_, ?_, .bool _⟩
       simp only [binOp, ne_eq, not_true_eq_false, if_false, Op.intCmp]
       rfl)

theorem shiftOp_run (op : BinOp) (hop : op = .shl ∨ op = .shr) (t : TypeId) (k k' : IntKind) (a b : Int) {r : AV} (h : shiftOp op k a b = some r) (w : World) : ∃ v, (binOp op t (.int k a) (.int k' b)).run P w = .ok v w ∧ Rel Z w ρ r v := by
  unfold shiftOp at h
  split at h
  · simp at h
  · rename_i hb
    rcases hop with rfl | rfl <;>
    · simp only [Option.some.injEq] at h
      subst h
      refine ⟨_, ?_, .int _ _⟩
      simp only [binOp, Op.shift, hb, if_false]
      rfl

theorem strOp_run (op : BinOp) (t : TypeId) (a b : ByteArray) {r : AV} (h : strOp op a b = some r) (w : World) : ∃ v, (binOp op t (.string a) (.string b)).run P w = .ok v w ∧ Rel Z w ρ r v := by
  cases op <;> simp only [strOp, Option.some.injEq, reduceCtorEq] at h <;> first
    | (split at h
       · simp at h
       · rename_i h0
         simp only [Option.some.injEq] at h
         subst h
         refine ⟨_, ?_, .str _⟩
         simp only [binOp, Op.stringOp, h0, if_false]
         rfl)
    | (subst h
       refine ⟨_, ?_, .bool _⟩
       simp only [binOp, Op.stringOp]
       rfl)

theorem intsEq_run {e : TypeId} {k : IntKind} (he : P.underlying e = some (.int k)) (d : Nat) (hs : P.cellsOf e = 1) (hagg : isAggT P e = some false) : ∀ (xs ys : List AV) (vs us : Array Value) (m : Nat) (r : Bool),
    m + xs.length = vs.size → m + ys.length = us.size → (∀ i (h : i < xs.length) (h' : m + i < vs.size), Rel Z w ρ xs[i] vs[m + i]) → (∀ i (h : i < ys.length) (h' : m + i < us.size), Rel Z w ρ ys[i] us[m + i]) →
    intsEq xs ys = some r → (Op.eqItems (d + 1) e 1 vs us (List.range' m xs.length)).run P w = .ok r w := by
  intro xs
  induction xs with
  | nil =>
    intro ys vs us m r _ _ _ _ h
    cases ys with
    | nil => simp [intsEq] at h; subst h; simp [Op.eqItems]
    | cons y ys => simp [intsEq] at h
  | cons x xs ih =>
    intro ys vs us m r hv hu hx hy h
    cases ys with
    | nil => cases x <;> simp [intsEq] at h
    | cons y ys =>
      cases x <;> try (simp [intsEq] at h; done)
      rename_i k1 a
      cases y <;> try (simp [intsEq] at h; done)
      rename_i k2 b
      simp only [intsEq] at h
      split at h
      · rename_i hk
        subst hk
        cases hr : intsEq xs ys with
        | none => simp [hr] at h
        | some r' =>
          simp [hr] at h
          simp only [List.length_cons] at hv hu
          have hx0 := hx 0 (by simp) (by omega)
          have hy0 := hy 0 (by simp) (by omega)
          simp only [List.getElem_cons_zero, Nat.add_zero] at hx0 hy0
          have ex : vs[m] = .int k1 a := rel_int hx0
          have ey : us[m] = .int k1 b := rel_int hy0
          have px : (part e vs (m * 1)).run P w = .ok (.int k1 a) w := by
            simp [part, Sem.run_bind, run_isAgg' hagg, show m < vs.size by omega, ex]
          have py : (part e us (m * 1)).run P w = .ok (.int k1 b) w := by
            simp [part, Sem.run_bind, run_isAgg' hagg, show m < us.size by omega, ey]
          have pe : (Op.equalIn (d + 1) e (.int k1 a) (.int k1 b)).run P w = .ok (a == b) w := run_equalIn_int w d e k1 k a b he
          simp only [List.length_cons, List.range'_succ, Op.eqItems, Sem.run_bind, px, py, pe, Result.andThen_ok]
          by_cases hab : a = b
          · have : (a == b) = true := by simpa using hab
            simp only [this, Bool.not_true, Bool.false_eq_true, if_false]
            rw [this] at h
            simp at h
            rw [ih ys vs us (m + 1) r (by omega) (by omega) (fun i hi hi' => by have := hx (i + 1) (by simp; omega) (by omega); simpa [show m + (i + 1) = m + 1 + i by omega] using this)
              (fun i hi hi' => by have := hy (i + 1) (by simp; omega) (by omega); simpa [show m + (i + 1) = m + 1 + i by omega] using this) (by rw [hr, h])]
          · have : (a == b) = false := by simpa using hab
            rw [this] at h
            simp at h
            subst h
            simp [this]
      · simp at h

theorem cells_of_sizeT {t : TypeId} {n : Nat} (h : sizeT P t = some n) : P.cellsOf t = n := by
  obtain ⟨i, hi, rfl⟩ := info_of_size h
  simp [Program.cellsOf, hi]

theorem bin_of {op : BinOp} {t : TypeId} {ox oy : Operand} {x y v : Value} (h : (binOp op t x y).run P w = .ok v w) (hx : x ≠ .nilIface ∨ y ≠ .nilIface) (ha : (∀ cs, x ≠ .agg cs) ∨ (∀ cs, y ≠ .agg cs)) :
    ((do eqGuard op t ox oy x y; binOp op t x y) : Sem Value).run P w = .ok v w := by
  simp only [Sem.run_bind, guard_num op t ox oy x y hx ha, Result.andThen_ok, h]

theorem eq_of {t : TypeId} {x y : Value} {b : Bool} (h : (Op.equal t x y).run P w = .ok b w) : ((do pure (.bool (← Op.equal t x y))) : Sem Value).run P w = .ok (.bool b) w ∧
    ((do pure (.bool (!(← Op.equal t x y)))) : Sem Value).run P w = .ok (.bool (!b)) w := by
  simp only [Sem.run_bind, h, Result.andThen_ok, Sem.run_pure, and_self]

theorem eqA_run {t : TypeId} {x y : AV} {b : Bool} (h : eqA P t x y = some b) {vx vy : Value} (hx : Rel Z w ρ x vx) (hy : Rel Z w ρ y vy) (ox oy : Operand) :
    ((do eqGuard .eql t ox oy vx vy; binOp .eql t vx vy) : Sem Value).run P w = .ok (.bool b) w ∧ ((do eqGuard .neq t ox oy vx vy; binOp .neq t vx vy) : Sem Value).run P w = .ok (.bool (!b)) w := by
  unfold eqA at h
  split at h
  case h_17 =>
    rename_i n e xs ys hu
    split at h
    · rename_i k he
      split at h
      · rename_i hc
        simp only [Bool.and_eq_true, decide_eq_true_eq, Bool.not_eq_true'] at hc
        obtain ⟨⟨⟨hs, hlx⟩, hly⟩, hg⟩ := hc
        cases hx with
        | agg hx1 hx2 =>
          cases hy with
          | agg hy1 hy2 =>
            rename_i vs us
            obtain ⟨i, hi, hsz⟩ := info_of_size hs
            have hagg : isAggT P e = some false := by simp [isAggT, he]
            have hcs := cells_of_sizeT hs
            have hr := intsEq_run (w := w) (Z := Z) (ρ := ρ) he 9998 hcs hagg xs ys vs us 0 b (by omega) (by omega) (fun i hi hi' => by simpa using hx2 i hi (by omega)) (fun i hi hi' => by simpa using hy2 i hi (by omega)) h
            have he1 : (Op.equalIn 10000 t (.agg vs) (.agg us)).run P w = .ok b w := by
              rw [show 10000 = 9999 + 1 from rfl, run_equalIn_array w 9999 vs us hu hi, hcs, List.range_eq_range', ← hlx]
              exact hr
            constructor
            · simp only [Sem.run_bind, run_eqGuard_agg w .eql t ox oy vs us hg, Result.andThen_ok, run_eql_struct, he1]
            · simp only [Sem.run_bind, run_eqGuard_agg w .neq t ox oy vs us hg, Result.andThen_ok, run_neq_struct, he1]
      · simp at h
    · simp at h
  case h_18 => simp at h
  all_goals
    rename_i hu
    simp only [Option.some.injEq] at h
    subst h
    cases hx <;> cases hy <;> refine ⟨bin_of (eq_of ?_).1 ?_ ?_, bin_of (eq_of ?_).2 ?_ ?_⟩
    all_goals first
      | (show (Op.equalIn (9999 + 1) t _ _).run P w = _; rw [Op.equalIn, Sem.run_bind, run_underlying hu, Result.andThen_ok]; rfl)
      | simp

theorem binA_run {op : BinOp} {t : TypeId} {ox oy : Operand} {x y r : AV} (h : binA P op t ox oy x y = some r) {vx vy : Value} (hx : Rel Z w ρ x vx) (hy : Rel Z w ρ y vy) :
    ∃ v, ((do eqGuard op t ox oy vx vy; binOp op t vx vy) : Sem Value).run P w = .ok v w ∧ Rel Z w ρ r v := by
  unfold binA at h
  split at h
  · cases rel_int hx; cases rel_int hy
    obtain ⟨v, h1, h2⟩ := shiftOp_run (P := P) (Z := Z) (ρ := ρ) .shl (.inl rfl) t _ _ _ _ h w
    refine ⟨v, bin_of h1 ?_ ?_, h2⟩ <;> simp
  · cases rel_int hx; cases rel_int hy
    obtain ⟨v, h1, h2⟩ := shiftOp_run (P := P) (Z := Z) (ρ := ρ) .shr (.inr rfl) t _ _ _ _ h w
    refine ⟨v, bin_of h1 ?_ ?_, h2⟩ <;> simp
  · rename_i k a k' b h1 h2
    split at h
    · rename_i hk
      subst hk
      cases rel_int hx; cases rel_int hy
      obtain ⟨v, h3, h4⟩ := intOp_run (P := P) (Z := Z) (ρ := ρ) op t k a b ⟨fun e => h1 e, fun e => h2 e⟩ h w
      refine ⟨v, bin_of h3 ?_ ?_, h4⟩ <;> simp
    · simp at h
  · cases rel_str hx; cases rel_str hy
    obtain ⟨v, h1, h2⟩ := strOp_run (P := P) (Z := Z) (ρ := ρ) op t _ _ h w
    refine ⟨v, bin_of h1 ?_ ?_, h2⟩ <;> simp
  · cases rel_nilif hx; cases rel_nilif hy
    split at h
    · rename_i hc
      split at h
      · rename_i hu
        simp only [Option.some.injEq] at h
        subst h
        refine ⟨_, ?_, .bool _⟩
        have hg : (eqGuard .eql t ox oy .nilIface .nilIface).run P w = .ok () w := by
          unfold eqGuard
          cases ox <;> cases oy <;> simp [isConst] at hc <;> simp
        have he : (Op.equal t .nilIface .nilIface).run P w = .ok true w := by
          show (Op.equalIn (9999 + 1) t _ _).run P w = _
          rw [Op.equalIn, Sem.run_bind, run_underlying hu, Result.andThen_ok]
          rfl
        simp only [Sem.run_bind, hg, Result.andThen_ok]
        exact (eq_of he).1
      · simp at h
    · simp at h
  · cases rel_nilif hx; cases rel_nilif hy
    split at h
    · rename_i hc
      split at h
      · rename_i hu
        simp only [Option.some.injEq] at h
        subst h
        refine ⟨_, ?_, .bool _⟩
        have hg : (eqGuard .neq t ox oy .nilIface .nilIface).run P w = .ok () w := by
          unfold eqGuard
          cases ox <;> cases oy <;> simp [isConst] at hc <;> simp
        have he : (Op.equal t .nilIface .nilIface).run P w = .ok true w := by
          show (Op.equalIn (9999 + 1) t _ _).run P w = _
          rw [Op.equalIn, Sem.run_bind, run_underlying hu, Result.andThen_ok]
          rfl
        simp only [Sem.run_bind, hg, Result.andThen_ok]
        exact (eq_of he).2
      · simp at h
    · simp at h
  · cases hb : eqA P t x y with
    | none => simp [hb] at h
    | some b =>
      simp [hb] at h
      subst h
      exact ⟨_, (eqA_run hb hx hy ox oy).1, .bool _⟩
  · cases hb : eqA P t x y with
    | none => simp [hb] at h
    | some b =>
      simp [hb] at h
      subst h
      exact ⟨_, (eqA_run hb hx hy ox oy).2, .bool _⟩
  · simp at h

theorem unA_run {op : UnOp} {x r : AV} (h : unA op x = some r) {vx : Value} (hx : Rel Z w ρ x vx) : ∃ v, (Op.unary op vx).run P w = .ok v w ∧ Rel Z w ρ r v := by
  unfold unA at h
  split at h
  · cases rel_int hx
    simp only [Option.some.injEq] at h
    subst h
    exact ⟨_, by simp only [Op.unary, Op.intArith]; rfl, .int _ _⟩
  · cases rel_int hx
    simp only [Option.some.injEq] at h
    subst h
    exact ⟨_, by simp only [Op.unary, Op.intBits]; rfl, .int _ _⟩
  · cases rel_bool hx
    simp only [Option.some.injEq] at h
    subst h
    exact ⟨_, by simp only [Op.unary]; rfl, .bool _⟩
  · simp at h

theorem convA_run {s d : TypeId} {x r : AV} (h : convA P s d x = some r) {vx : Value} (hx : Rel Z w ρ x vx) : ∃ v, (convert s d vx).run P w = .ok v w ∧ Rel Z w ρ r v := by
  unfold convA at h
  split at h
  · rename_i ds k k0 n hs hd
    cases rel_int hx
    simp only [Option.some.injEq] at h
    subst h
    refine ⟨_, ?_, .int _ _⟩
    simp only [convert, Sem.run_bind, run_underlying hs, run_underlying hd, Result.andThen_ok]
    cases ds <;> rfl
  · rename_i ds b hs hd
    cases rel_str hx
    simp only [Option.some.injEq] at h
    subst h
    refine ⟨_, ?_, .str _⟩
    simp only [convert, Sem.run_bind, run_underlying hs, run_underlying hd, Result.andThen_ok]
    cases ds <;> rfl
  · simp at h

end
end Go.AX

/- AX, part 5: the quiet operations, all of them. -/
set_option linter.unusedVariables false
set_option linter.unusedSimpArgs false
namespace Go.AX
open Go Go.RowKit

section
variable {P : Program} {Z : Nat → Prop} {w : World} {ρ : Rho}

theorem asNat_int {v : AV} {n : Nat} (h : asNat v = some n) {x : Value} (hr : Rel Z w ρ v x) : ∃ k i, x = .int k i ∧ 0 ≤ i ∧ i.toNat = n := by
  unfold asNat at h
  split at h
  · rename_i k i
    split at h
    · simp at h
      cases hr
      exact ⟨_, _, rfl, by assumption, h⟩
    · simp at h
  · simp at h

theorem addA_rel {p q : AV} {n : Nat} (h : addA p n = some q) {x : Value} (hp : Rel Z w ρ p x) : ∃ a, x = .pointer (some a) ∧ Rel Z w ρ q (.pointer (some (a.add n))) := by
  unfold addA at h
  split at h
  · simp at h; subst h
    cases hp with
    | ptr hr => exact ⟨_, rfl, by rw [add_plain, Nat.add_assoc]; exact .ptr hr⟩
  · split at h
    · simp at h; subst h
      cases hp with
      | cptr vs hz hc hrel =>
        rename_i cs n' hle b o
        refine ⟨_, rfl, ?_⟩
        rw [add_plain]
        refine .cptr (fun i => vs (n + i)) (fun h => hz (by simp at h; omega)) (fun i hi => ?_) (fun i hi => ?_)
        · rw [Nat.add_assoc]; exact hc _ (by simp at hi; omega)
        · simp only [List.getElem_drop]; exact hrel _ _
    · simp at h
  · simp at h

theorem fieldA_run {s f : Nat} {fd : Field} (h : fieldA P s f = some fd) : ∃ fs, P.underlying s = some (.struct fs) ∧ fs[f]? = some fd := by
  unfold fieldA at h
  split at h
  · exact ⟨_, by assumption, h⟩
  · simp at h

theorem fieldAt_run {s f : Nat} {fd : Field} (h : fieldA P s f = some fd) {k : Nat} (hs : sizeT P fd.type = some (k + 1)) (a : Addr) : (Instr.fieldAt s (.pointer (some a)) f).run P w = .ok (.pointer (some (a.add fd.offset))) w := by
  obtain ⟨fs, h1, h2⟩ := fieldA_run h
  simp [Instr.fieldAt, Sem.run_bind, run_underlying h1, h2, Instr.sureAddr, fieldPlace, run_sizeOf' hs]

theorem indexAddrA_run {t : TypeId} {x r : AV} {n : Nat} (h : indexAddrA P t x n = some r) {vx vi : Value} (hx : Rel Z w ρ x vx) {i : AV} (hi : Rel Z w ρ i vi) (hn : asNat i = some n) :
    ∃ v, (Instr.indexAt t vx vi).run P w = .ok v w ∧ Rel Z w ρ r v := by
  obtain ⟨k, j, rfl, h0, rfl⟩ := asNat_int hn hi
  unfold indexAddrA at h
  split at h
  · rename_i e id off len sz cap hu
    split at h
    · rename_i hlt
      cases hs : sizeT P e with
      | none => simp [hs] at h
      | some s =>
        simp [hs] at h
        subst h
        cases hx with
        | sl h1 h2 h3 h4 h5 h6 =>
          rename_i b base o c t' n'
          have hc : c ≠ 0 := by omega
          have hj : j < (len : Int) := by omega
          refine ⟨_, ?_, .ptr h1⟩
          simp only [Instr.indexAt, asIntOf, Sem.run_bind, Sem.run_pure, Result.andThen_ok, run_underlying hu, h0, hj, and_self, if_true, run_sizeOf' hs]
          rw [add_plain, h4 hc, Nat.add_assoc]
    · simp at h
  · rename_i e cs len cap hu
    split at h
    · rename_i hlt
      cases hs : sizeT P e with
      | none => simp [hs] at h
      | some s =>
        simp [hs] at h
        obtain ⟨hle, rfl⟩ := h
        cases hx with
        | lst vs hz hc hrel h3 h6 =>
          rename_i b o c
          have hj : j < (len : Int) := by omega
          refine ⟨.pointer (some ⟨b, o + j.toNat * s, none⟩), ?_, .cptr (fun i => vs (j.toNat * s + i)) (fun h => hz (by simp at h; omega)) (fun i hi => ?_) (fun i hi => ?_)⟩
          · simp only [Instr.indexAt, asIntOf, Sem.run_bind, Sem.run_pure, Result.andThen_ok, run_underlying hu, h0, hj, and_self, if_true, run_sizeOf' hs]
            rw [add_plain]
          · rw [Nat.add_assoc]; exact hc _ (by simp at hi; omega)
          · simp only [List.getElem_drop]; exact hrel _ _
        | lst0 => omega
    · simp at h
  · rename_i m e hu
    split at h
    · rename_i hlt
      cases hs : sizeT P e with
      | none => simp [hs] at h
      | some s =>
        simp [hs] at h
        obtain ⟨a, rfl, hrel⟩ := addA_rel h hx
        have hj : j < (m : Int) := by omega
        refine ⟨_, ?_, hrel⟩
        simp only [Instr.indexAt, asIntOf, Sem.run_bind, Sem.run_pure, Result.andThen_ok, run_underlying hu, Instr.sureAddr, h0, hj, and_self, if_true, run_sizeOf' hs]
    · simp at h
  · simp at h

theorem indexA_run {t : TypeId} {x r : AV} {n : Nat} (h : indexA P t x n = some r) {vx vi : Value} (hx : Rel Z w ρ x vx) {i : AV} (hi : Rel Z w ρ i vi) (hn : asNat i = some n) :
    ∃ v, (Instr.index t vx vi).run P w = .ok v w ∧ Rel Z w ρ r v := by
  obtain ⟨k, j, rfl, h0, rfl⟩ := asNat_int hn hi
  unfold indexA at h
  split at h
  · rename_i m e cs hu
    split at h
    · rename_i hlt
      cases hs : sizeT P e with
      | none => simp [hs] at h
      | some s =>
        simp [hs] at h
        cases hx with
        | agg h1 h2 =>
          rename_i vs
          obtain ⟨v, hv, hrel⟩ := part_rel (P := P) ⟨h1, h2⟩ h
          have hj : j < (m : Int) := by omega
          refine ⟨v, ?_, hrel⟩
          simp only [Instr.index, asIntOf, Sem.run_bind, Sem.run_pure, Result.andThen_ok, run_underlying hu, h0, hj, and_self, if_true, run_sizeOf' hs, hv]
    · simp at h
  · rename_i s hu
    split at h
    · rename_i hlt
      simp at h
      subst h
      cases hx
      refine ⟨_, ?_, .int _ _⟩
      simp only [Instr.index, asIntOf, Sem.run_bind, Sem.run_pure, Result.andThen_ok, run_underlying hu, h0, if_true]
      rw [getElem?_pos s j.toNat hlt]
      rfl
    · simp at h
  · simp at h

inductive OptRel (Z : Nat → Prop) (w : World) (ρ : Rho) : Option AV → Option Value → Prop
  | none : OptRel Z w ρ none none
  | some {v : AV} {x : Value} : Rel Z w ρ v x → OptRel Z w ρ (some v) (some x)

theorem optEv_rel {T : List AV} {a : Act} (h : RelA Z w ρ T a.tmps) {x : Option Operand} {v : Option AV} (hv : optEv T x = some v) : OptRel Z w ρ v (x.map a.eval) := by
  cases x with
  | none => simp [optEv] at hv; subst hv; exact .none
  | some x =>
    simp only [optEv] at hv
    split at hv
    · rename_i u hu
      simp at hv; subst hv
      exact .some (ev_rel h hu)
    · simp at hv

theorem bound_run {v : AV} {n y : Nat} (h : asNat v = some n) (hle : n ≤ y) {x : Value} (hr : Rel Z w ρ v x) (code : BoundsCode) : (Instr.sliceBound x y code).run P w = .ok n w := by
  obtain ⟨k, i, rfl, h0, rfl⟩ := asNat_int h hr
  have : i ≤ (y : Int) := by omega
  simp [Instr.sliceBound, asIntOf, Sem.run_bind, h0, this]

theorem bounds_run (isSlice : Bool) {len cap l h m : Nat} {lo hi mx : Option AV} {vl vh vm : Option Value} (hlo : OptRel Z w ρ lo vl) (hhi : OptRel Z w ρ hi vh) (hmx : OptRel Z w ρ mx vm)
    (h1 : match mx with | none => m = cap | some v => asNat v = some m ∧ m ≤ cap ∧ hi.isSome = true) (h2 : match hi with | none => h = len | some v => asNat v = some h ∧ h ≤ m) (h3 : match lo with | none => l = 0 | some v => asNat v = some l ∧ l ≤ h) :
    (Instr.sliceBounds isSlice len cap vl vh vm).run P w = .ok (l, h, m) w := by
  unfold Instr.sliceBounds
  cases hmx with
  | none =>
    obtain rfl : m = cap := h1
    cases hhi with
    | none =>
      obtain rfl : h = len := h2
      cases hlo with
      | none => obtain rfl : l = 0 := h3; simp [Sem.run_bind]
      | some hl => simp [Sem.run_bind, bound_run h3.1 h3.2 hl]
    | some hh =>
      cases hlo with
      | none => obtain rfl : l = 0 := h3; simp [Sem.run_bind, bound_run h2.1 h2.2 hh]
      | some hl => simp [Sem.run_bind, bound_run h2.1 h2.2 hh, bound_run h3.1 h3.2 hl]
  | some hm =>
    cases hhi with
    | none => simp at h1
    | some hh =>
      cases hlo with
      | none => obtain rfl : l = 0 := h3; simp [Sem.run_bind, bound_run h1.1 h1.2.1 hm, bound_run h2.1 h2.2 hh]
      | some hl => simp [Sem.run_bind, bound_run h1.1 h1.2.1 hm, bound_run h2.1 h2.2 hh, bound_run h3.1 h3.2 hl]

theorem sliceAt_slice {t e : TypeId} (hu : P.underlying t = some (.slice e)) (x : Value) (lo hi mx : Option Value) : (Instr.sliceAt t x lo hi mx).run P w = (Instr.slice t x lo hi mx).run P w := by
  simp [Instr.sliceAt, Sem.run_bind, run_underlying hu]

theorem slice_run {t e : TypeId} (hu : P.underlying t = some (.slice e)) {s : Nat} (hs : sizeT P e = some s) (b o len c : Nat) {vl vh vm : Option Value} {l h m : Nat} (hb : (Instr.sliceBounds true len c vl vh vm).run P w = .ok (l, h, m) w) :
    (Instr.sliceAt t (.slice (some ⟨b, o, none⟩) len c) vl vh vm).run P w = .ok (.slice (some ⟨b, if m = l then o else o + l * s, none⟩) (h - l) (m - l)) w := by
  rw [sliceAt_slice hu]
  simp only [Instr.slice, Sem.run_bind, run_underlying hu, Result.andThen_ok, hb, run_sizeOf' hs, Sem.run_pure]
  by_cases hml : m = l
  · simp [hml]
  · simp [hml, add_plain]

theorem bnds_run (isSlice : Bool) {len lim c l h : Nat} {mo : Option Nat} {lo hi mx : Option AV} (hb : bnds len lim lo hi mx = some (l, h, mo)) (hc : lim ≤ c) {vl vh vm : Option Value} (hlo : OptRel Z w ρ lo vl) (hhi : OptRel Z w ρ hi vh) (hmx : OptRel Z w ρ mx vm) :
    (Instr.sliceBounds isSlice len c vl vh vm).run P w = .ok (l, h, mo.getD c) w ∧ l ≤ h ∧ h ≤ lim ∧ (∀ m, mo = some m → h ≤ m ∧ m ≤ lim) := by
  unfold bnds at hb
  split at hb
  · rename_i l' h' e1 e2
    split at hb
    · rename_i hcond
      simp at hb
      obtain ⟨rfl, rfl, rfl⟩ := hb
      refine ⟨bounds_run isSlice hlo hhi hmx rfl ?_ ?_, hcond.1, hcond.2, fun m hm => by cases hm⟩
      · cases hi with
        | none => simp [natOr] at e2; exact e2.symm
        | some v => exact ⟨e2, by simp; omega⟩
      · cases lo with
        | none => simp [natOr] at e1; exact e1.symm
        | some v => exact ⟨e1, hcond.1⟩
    · simp at hb
  · rename_i l' h' v e1 e2
    split at hb
    · rename_i m e3
      split at hb
      · rename_i hcond
        simp at hb
        obtain ⟨rfl, rfl, rfl⟩ := hb
        obtain ⟨c1, c2, c3, c4⟩ := hcond
        refine ⟨bounds_run isSlice hlo hhi hmx ⟨e3, by simp; omega, c1⟩ ?_ ?_, c2, by omega, fun m' hm => by cases hm; exact ⟨c3, c4⟩⟩
        · cases hi with
          | none => simp at c1
          | some v => exact ⟨e2, by simpa using c3⟩
        · cases lo with
          | none => simp [natOr] at e1; exact e1.symm
          | some v => exact ⟨e1, c2⟩
      · simp at hb
    · simp at hb
  · simp at hb

theorem sliceA_run {B : Nat} {H : Heap} (hH : HRel B Z w ρ H) {t : TypeId} {x r : AV} {lo hi mx : Option AV} (h : sliceA P H t x lo hi mx = some r) {vx : Value} (hx : Rel Z w ρ x vx) {vl vh vm : Option Value} (hlo : OptRel Z w ρ lo vl) (hhi : OptRel Z w ρ hi vh) (hmx : OptRel Z w ρ mx vm) :
    ∃ v, (Instr.sliceAt t vx vl vh vm).run P w = .ok v w ∧ Rel Z w ρ r v := by
  unfold sliceA at h
  split at h
  · rename_i e hu
    cases hx
    split at h
    · rename_i s b hs hb
      simp at h; subst h
      obtain ⟨l, hh, mo⟩ := b
      obtain ⟨hrun, h1, h2, h3⟩ := bnds_run (P := P) true hb (Nat.le_refl 0) hlo hhi hmx
      refine ⟨.slice none 0 0, ?_, .nilsl⟩
      rw [sliceAt_slice hu]
      have hm : mo.getD 0 = 0 := by cases mo with | none => rfl | some m => have := h3 m rfl; simp; omega
      have hl : l = 0 := by omega
      have hh0 : hh = 0 := by omega
      subst hl hh0
      simp only [Instr.slice, Sem.run_bind, run_underlying hu, Result.andThen_ok, hrun, run_sizeOf' hs, hm, if_true, Sem.run_pure, Nat.sub_self]
    · simp at h
  · rename_i e id off len sz cap hu
    split at h
    · rename_i hs
      split at h
      · rename_i l hh mo hb
        simp at h; subst h
        cases hx with
        | sl r1 r2 r3 r4 r5 r6 =>
          rename_i b base o c t' n
          have hlim : cap.getD len ≤ c := by
            cases cap with
            | none => exact r3
            | some k => have := r6 k rfl; simp; omega
          obtain ⟨hrun, h1, h2, h3⟩ := bnds_run (P := P) true hb hlim hlo hhi hmx
          refine ⟨_, slice_run hu hs b o len c hrun, ?_⟩
          have hm : hh ≤ mo.getD c ∧ mo.getD c ≤ c := by
            cases mo with
            | none => simp; omega
            | some m => have := h3 m rfl; simp; omega
          generalize hmd : mo.getD c = m at hm
          refine .sl r1 r2 (by omega) (fun hne => ?_) ?_ (fun k hk => ?_)
          · have hml : m ≠ l := by omega
            rw [if_neg hml, r4 (by omega)]
            omega
          · have e1 : l * sz + (m - l) * sz = m * sz := by rw [← Nat.add_mul]; congr 1; omega
            have e2 : m * sz ≤ c * sz := Nat.mul_le_mul_right _ hm.2
            omega
          · cases mo with
            | some m' => simp at hk hmd; omega
            | none =>
              simp at hmd
              cases cap with
              | none => simp at hk
              | some k' => have := r6 k' rfl; simp at hk; omega
      · simp at h
    · simp at h
  · rename_i e cs len cap hu
    split at h
    · rename_i s l hh mo hs hb
      simp at h; subst h
      cases hx with
      | lst vs hz hc hrel r3 r6 =>
        rename_i b o c
        obtain ⟨hrun, h1, h2, h3⟩ := bnds_run (P := P) true hb r3 hlo hhi hmx
        refine ⟨_, slice_run hu hs b o len c hrun, ?_⟩
        have hm : hh ≤ mo.getD c ∧ mo.getD c ≤ c := by
          cases mo with
          | none => simp; omega
          | some m => have := h3 m rfl; simp; omega
        generalize hmd : mo.getD c = m at hm
        refine .lst (fun i => vs (l * s + i)) (fun h => hz (by simp at h; omega)) (fun i hi => ?_) (fun i hi => ?_) (by omega) (fun k hk => ?_)
        · by_cases hml : m = l
          · have : hh - l = 0 := by omega
            simp [this] at hi
          · rw [if_neg hml, Nat.add_assoc]
            exact hc _ (by simp at hi; omega)
        · simp only [List.getElem_take, List.getElem_drop]; exact hrel _ _
        · cases mo with
          | some m' => simp at hk hmd; omega
          | none =>
            simp at hmd
            cases cap with
            | none => simp at hk
            | some k' => have := r6 k' rfl; simp at hk; omega
      | lst0 a h0 =>
        obtain ⟨hrun, h1, h2, h3⟩ := bnds_run (P := P) true hb (Nat.le_refl 0) hlo hhi hmx
        have e1 : hh = 0 := by omega
        have e2 : l = 0 := by omega
        have e3 : mo.getD 0 = 0 := by
          cases mo with
          | none => rfl
          | some m => have := h3 m rfl; simp; omega
        subst e1
        subst e2
        rw [e3] at hrun
        refine ⟨.slice (some a) 0 0, ?_, ?_⟩
        · rw [sliceAt_slice hu]
          simp only [Instr.slice, Sem.run_bind, run_underlying hu, Result.andThen_ok, hrun, run_sizeOf' hs, Sem.run_pure]
          simp
        · have e4 : List.take ((0 - 0) * s) (List.drop (0 * s) ([] : List AV)) = [] := by simp
          rw [e4]
          refine .lst0 a fun k hk => ?_
          cases mo with
          | some m' => have := h3 m' rfl; simp at hk; omega
          | none =>
            cases cap with
            | none => simp at hk
            | some k' => have := h0 k' rfl; simp at hk; omega
    · simp at h
  · rename_i n e id off hu
    split at h
    · rename_i s l hh mo hs hb
      split at h
      · rename_i cs hcs
        split at h
        · rename_i hle
          simp at h; subst h
          cases hx with
          | ptr r1 =>
            rename_i b base
            obtain ⟨_, c, t', hw, hcl, _⟩ := hH.cells id cs b base hcs r1
            obtain ⟨hrun, h1, h2, h3⟩ := bnds_run (P := P) false hb (Nat.le_refl _) hlo hhi hmx
            have hm : hh ≤ mo.getD n ∧ mo.getD n ≤ n := by
              cases mo with
              | none => simp; omega
              | some m => have := h3 m rfl; simp; omega
            generalize mo.getD n = m at hm hrun
            refine ⟨.slice (some ⟨b, if m = l then base + off else base + off + l * s, none⟩) (hh - l) (m - l), ?_, ?_⟩
            · simp only [Instr.sliceAt, Instr.sureAddr, Sem.run_bind, Sem.run_pure, run_underlying hu, Result.andThen_ok, hrun, run_sizeOf' hs]
              by_cases hml : m = l
              · simp [hml]
              · simp [hml, add_plain]
            · refine .sl (t := t') (n := c.size) r1 (by simp [World.shape?, hw]) (by omega) (fun hne => ?_) ?_ (fun k hk => by simp at hk; omega)
              · rw [if_neg (by omega)]; omega
              · have e1 : l * s + (m - l) * s = m * s := by rw [← Nat.add_mul]; congr 1; omega
                have e2 : m * s ≤ n * s := Nat.mul_le_mul_right _ hm.2
                omega
        · simp at h
      · simp at h
    · simp at h
  · rename_i s hu
    split at h
    · rename_i l hh mo hb
      simp at h; subst h
      cases hx
      cases hmx
      obtain ⟨hrun, h1, h2, h3⟩ := bnds_run (P := P) false hb (Nat.le_refl _) hlo hhi .none
      refine ⟨_, ?_, .str _⟩
      simp [Instr.sliceAt, Instr.slice, Sem.run_bind, run_underlying hu, hrun]
    · simp at h
  · simp at h

/-! ### Builtins -/

theorem foldA_run (f : Int → Int → Int) (g : Value → Value → Sem Value) (hg : ∀ (k k' : IntKind) (a b : Int) (w : World), (g (.int k a) (.int k' b)).run P w = .ok (.int k (f a b)) w) (k : IntKind) : ∀ (xs : List AV) (vs : List Value) (a : Int) (r : AV),
    xs.length = vs.length → (∀ i (h : i < xs.length) (h' : i < vs.length), Rel Z w ρ xs[i] vs[i]) → foldA f k a xs = some r → ∃ v, (vs.foldlM g (.int k a)).run P w = .ok v w ∧ Rel Z w ρ r v
  | [], [], a, r, _, _, h => by simp [foldA] at h; subst h; exact ⟨_, rfl, .int _ _⟩
  | x :: xs, v :: vs, a, r, hl, hr, h => by
    have h0 := hr 0 (by simp) (by simp)
    simp only [List.getElem_cons_zero] at h0
    cases x <;> try (simp [foldA] at h; done)
    simp only [foldA] at h
    split at h
    · rename_i hk
      subst hk
      cases h0
      obtain ⟨u, h1, h2⟩ := foldA_run f g hg k xs vs _ r (by simpa using hl) (fun i hi hi' => by have := hr (i + 1) (by simp; omega) (by simp; omega); simpa using this) h
      exact ⟨u, by simp only [List.foldlM_cons, Sem.run_bind, hg, Result.andThen_ok, h1], h2⟩
    · simp at h
  | [], _ :: _, _, _, hl, _, _ => by simp at hl
  | _ :: _, [], _, _, hl, _, _ => by simp at hl

theorem quiet_builtin {b : Builtin} (hb : b = .len ∨ b = .max ∨ b = .min) {ts : Array TypeId} {type : TypeId} {consts : Array Bool} {H H' : Heap} {args : List AV} {vs : Array Value} (hr : RelA Z w ρ args vs) {r : AV} (h : builtinA P b ts.toList H args = some (r, H')) :
    H' = H ∧ ∃ v, (builtin b ts type consts vs).run P w = .ok (.value v) w ∧ Rel Z w ρ r v := by
  obtain ⟨ts⟩ := ts
  obtain ⟨vs⟩ := vs
  simp only at h
  rcases hb with rfl | rfl | rfl
  · unfold builtinA at h
    split at h <;> try (simp at *; done)
    rename_i t _ x _ _
    cases vs with
    | nil => have := hr.1; simp at this
    | cons v vs =>
      have hxv : Rel Z w ρ x v := by have := hr.2 0 (by simp) (by simp); simpa using this
      split at h <;> try (simp at h; done)
      · rename_i hu
        split at h <;> simp at h
        · obtain ⟨rfl, rfl⟩ := h
          cases hxv
          exact ⟨rfl, _, by simp [builtin, Builtin.len_, Sem.run_bind, run_underlying hu, goInt], .int _ _⟩
        all_goals (rename_i hu'; rw [hu] at hu'; simp at hu')
      · rename_i hu
        split at h <;> simp at h
        · rename_i hu'; rw [hu] at hu'; simp at hu'
        all_goals
          obtain ⟨rfl, rfl⟩ := h
          cases hxv <;> exact ⟨rfl, _, by simp [builtin, Builtin.len_, Sem.run_bind, run_underlying hu, goInt], .int _ _⟩
      · rename_i n _ hu
        simp at h
        obtain ⟨rfl, rfl⟩ := h
        exact ⟨rfl, _, by simp [builtin, Builtin.len_, Sem.run_bind, run_underlying hu, goInt], .int _ _⟩
  · unfold builtinA at h
    split at h <;> try (simp at *; done)
    rename_i k a xs _
    cases hf : foldA (fun x y => if y > x then y else x) k a xs with
    | none => simp [hf] at h
    | some u =>
      simp [hf] at h
      obtain ⟨rfl, rfl⟩ := h
      cases vs with
      | nil => have := hr.1; simp at this
      | cons v vs =>
        have hxv : Rel Z w ρ (.int k a) v := by have := hr.2 0 (by simp) (by simp); simpa using this
        cases hxv
        obtain ⟨v, h1, h2⟩ := foldA_run (P := P) (Z := Z) (w := w) (ρ := ρ) _ Builtin.max2 (fun k k' a b w => rfl) k xs vs a u (by have := hr.1; simpa using this)
          (fun i hi hi' => by have := hr.2 (i + 1) (by simp; omega) (by simp; omega); simpa using this) hf
        exact ⟨rfl, v, by simp only [builtin, Builtin.max_, Sem.run_bind, h1, Result.andThen_ok]; rfl, h2⟩
  · unfold builtinA at h
    split at h <;> try (simp at *; done)
    rename_i k a xs _
    cases hf : foldA (fun x y => if y < x then y else x) k a xs with
    | none => simp [hf] at h
    | some u =>
      simp [hf] at h
      obtain ⟨rfl, rfl⟩ := h
      cases vs with
      | nil => have := hr.1; simp at this
      | cons v vs =>
        have hxv : Rel Z w ρ (.int k a) v := by have := hr.2 0 (by simp) (by simp); simpa using this
        cases hxv
        obtain ⟨v, h1, h2⟩ := foldA_run (P := P) (Z := Z) (w := w) (ρ := ρ) _ Builtin.min2 (fun k k' a b w => rfl) k xs vs a u (by have := hr.1; simpa using this)
          (fun i hi hi' => by have := hr.2 (i + 1) (by simp; omega) (by simp; omega); simpa using this) hf
        exact ⟨rfl, v, by simp only [builtin, Builtin.min_, Sem.run_bind, h1, Result.andThen_ok]; rfl, h2⟩

end
end Go.AX

/- AX, part 6: a quiet operation does what AX says. -/
set_option linter.unusedVariables false
set_option linter.unusedSimpArgs false
namespace Go.AX
open Go Go.RowKit

section
variable {Z : Nat → Prop} {w : World} {ρ : Rho} {B : Nat}

theorem quiet_sound {E : Env} {R : Rec} {T : List AV} {H H' : Heap} {o : Oper} {a : Act} {r : AV} (hT : RelA Z w ρ T a.tmps) (hH : HRel B Z w ρ H) (hq : quietOp o.op = true) (h : axOp E R T H o = some (r, H')) :
    H' = H ∧ Quiet E.P Z w ρ (execOp a.eval o) r := by
  obtain ⟨dst, op, type, pos, after, guard⟩ := o
  cases op with
  | move x =>
    obtain ⟨hkk, rfl⟩ := keep_eq h; clear h; have h := hkk; clear hkk
    exact ⟨rfl, _, rfl, ev_rel hT h⟩
  | assign x =>
    obtain ⟨hkk, rfl⟩ := keep_eq h; clear h; have h := hkk; clear hkk
    exact ⟨rfl, _, rfl, ev_rel hT h⟩
  | pick c x y =>
    simp only [axOp] at h
    split at h
    · rename_i hc
      obtain ⟨hkk, rfl⟩ := keep_eq h; clear h; have h := hkk; clear hkk
      have := rel_bool (ev_rel hT hc)
      exact ⟨rfl, _, by simp [execOp, Sem.run_bind, this, asBool], ev_rel hT h⟩
    · rename_i hc
      obtain ⟨hkk, rfl⟩ := keep_eq h; clear h; have h := hkk; clear hkk
      have := rel_bool (ev_rel hT hc)
      exact ⟨rfl, _, by simp [execOp, Sem.run_bind, this, asBool], ev_rel hT h⟩
    · simp at h
  | build t parts =>
    simp only [axOp] at h
    split at h
    · rename_i ps z fs hps hz hu
      split at h
      · rename_i places hpl
        obtain ⟨hkk, rfl⟩ := keep_eq h; clear h; have h := hkk; clear hkk
        cases hf : fillA (fun i => places[i]?) z.cells ps with
        | none => simp [hf] at h
        | some cs =>
          simp [hf] at h
          subst h
          obtain ⟨zv, hzr, hzv⟩ := run_zero' hz w
          obtain ⟨us, hus, hrel⟩ := fill_rel (place' := (places.toArray[·]?)) (fun i x hx => by simpa using hx) (evParts_rel hT hps) (cells_rel (rel_ofValue (Z := Z) (w := w) (ρ := ρ) hzv)) hf
          have hb : E.P.built t ((parts.map fun (i, x) => (i, a.eval x)).toList) = some us := by
            unfold Program.built
            have hi : ∃ it, E.P.info? t = some it ∧ it.zero = some zv := by
              unfold zeroValue typeInfo at hzr
              cases hi : E.P.info? t with
              | none => simp [hi, Sem.run_bind] at hzr
              | some it =>
                cases hz0 : it.zero with
                | none => simp [hi, hz0, Sem.run_bind] at hzr
                | some z0 => simp [hi, hz0, Sem.run_bind] at hzr; exact ⟨it, rfl, by rw [hz0, hzr]⟩
            obtain ⟨it, hi1, hi2⟩ := hi
            simp only [hi1, hu, hi2, hpl]
            simpa using hus
          exact ⟨rfl, Quiet.of (run_build w t _ us hb) (rel_agg.2 hrel)⟩
      · simp at h
    · rename_i ps z n e hps hz hu
      split at h
      · rename_i s hs
        obtain ⟨hkk, rfl⟩ := keep_eq h; clear h; have h := hkk; clear hkk
        cases hf : fillA (fun i => some (i * s, s)) z.cells ps with
        | none => simp [hf] at h
        | some cs =>
          simp [hf] at h
          subst h
          obtain ⟨zv, hzr, hzv⟩ := run_zero' hz w
          obtain ⟨ie, hie, rfl⟩ := info_of_size hs
          obtain ⟨us, hus, hrel⟩ := fill_rel (place' := fun i => some (i * ie.size, ie.size)) (fun i x hx => hx) (evParts_rel hT hps) (cells_rel (rel_ofValue (Z := Z) (w := w) (ρ := ρ) hzv)) hf
          have hb : E.P.built t ((parts.map fun (i, x) => (i, a.eval x)).toList) = some us := by
            unfold Program.built
            have hi : ∃ it, E.P.info? t = some it ∧ it.zero = some zv := by
              unfold zeroValue typeInfo at hzr
              cases hi : E.P.info? t with
              | none => simp [hi, Sem.run_bind] at hzr
              | some it =>
                cases hz0 : it.zero with
                | none => simp [hi, hz0, Sem.run_bind] at hzr
                | some z0 => simp [hi, hz0, Sem.run_bind] at hzr; exact ⟨it, rfl, by rw [hz0, hzr]⟩
            obtain ⟨it, hi1, hi2⟩ := hi
            simp only [hi1, hu, hi2, hie]
            simpa using hus
          exact ⟨rfl, Quiet.of (run_build w t _ us hb) (rel_agg.2 hrel)⟩
      · simp at h
    · simp at h
  | load t x =>
    simp only [axOp] at h
    split at h
    · rename_i p hp
      obtain ⟨hkk, rfl⟩ := keep_eq h; clear h; have h := hkk; clear hkk
      obtain ⟨ad, v, hx, hrun, hrel⟩ := loadA_rel hH (ev_rel hT hp) h
      exact ⟨rfl, Quiet.of (by simp only [Instr.loadAt, hx, Instr.sureAddr, Sem.run_bind, Sem.run_pure, Result.andThen_ok, hrun]) hrel⟩
    · simp at h
  | nilCheck x =>
    simp only [axOp] at h
    split at h
    · rename_i hx
      simp at h
      obtain ⟨rfl, rfl⟩ := h
      have hr := ev_rel hT hx
      refine ⟨rfl, a.eval x, ?_, hr⟩
      simp only [execOp]
      generalize a.eval x = y at hr ⊢
      cases hr
      rfl
    · rename_i hx
      simp at h
      obtain ⟨rfl, rfl⟩ := h
      have hr := ev_rel hT hx
      refine ⟨rfl, a.eval x, ?_, hr⟩
      simp only [execOp]
      generalize a.eval x = y at hr ⊢
      cases hr
      rfl
    · rename_i hx
      simp at h
      obtain ⟨rfl, rfl⟩ := h
      have hr := ev_rel hT hx
      refine ⟨rfl, a.eval x, ?_, hr⟩
      simp only [execOp]
      generalize a.eval x = y at hr ⊢
      cases hr with
      | func hf => cases hf; rfl
    · rename_i hx
      simp at h
      obtain ⟨rfl, rfl⟩ := h
      have hr := ev_rel hT hx
      refine ⟨rfl, a.eval x, ?_, hr⟩
      simp only [execOp]
      generalize a.eval x = y at hr ⊢
      cases hr with
      | func hf => cases hf; rfl
    · rename_i hx
      simp at h
      obtain ⟨rfl, rfl⟩ := h
      have hr := ev_rel hT hx
      refine ⟨rfl, a.eval x, ?_, hr⟩
      simp only [execOp]
      generalize a.eval x = y at hr ⊢
      cases hr
      rfl
    · simp at h
  | binOp op t x y u =>
    simp only [axOp] at h
    split at h
    · rename_i p q hp hq'
      obtain ⟨hkk, rfl⟩ := keep_eq h; clear h; have h := hkk; clear hkk
      obtain ⟨v, h1, h2⟩ := binA_run h (ev_rel hT hp) (ev_rel hT hq')
      exact ⟨rfl, Quiet.of h1 h2⟩
    · simp at h
  | unOp op t x =>
    simp only [axOp] at h
    split at h
    · rename_i p hp
      obtain ⟨hkk, rfl⟩ := keep_eq h; clear h; have h := hkk; clear hkk
      obtain ⟨v, h1, h2⟩ := unA_run (P := E.P) h (ev_rel hT hp)
      exact ⟨rfl, Quiet.of h1 h2⟩
    · simp at h
  | convert s d x =>
    simp only [axOp] at h
    split at h
    · rename_i p hp
      obtain ⟨hkk, rfl⟩ := keep_eq h; clear h; have h := hkk; clear hkk
      obtain ⟨v, h1, h2⟩ := convA_run h (ev_rel hT hp)
      exact ⟨rfl, Quiet.of h1 h2⟩
    · simp at h
  | makeInterface t x =>
    simp only [axOp] at h
    split at h
    · simp at h
    · rename_i v d hne hv hd
      simp at h
      obtain ⟨rfl, rfl⟩ := h
      refine ⟨rfl, Quiet.of (v := .iface t (a.eval x)) ?_ (.iface t (ev_rel hT hv))⟩
      refine run_makeInterface w t _ ?_
      unfold Program.concrete
      rw [hd]
      cases d <;> first | rfl | exact (hne _ rfl).elim
    · simp at h
  | makeFunc fn first captured =>
    simp only [axOp] at h
    split at h
    · rename_i f x y hx hy
      simp at h
      obtain ⟨rfl, rfl⟩ := h
      have h1 := evs_relA hT hx
      have h2 := evs_relA hT hy
      exact ⟨rfl, Quiet.of (v := .func (.func f) (first.map a.eval) (captured.map a.eval)) (by simp [Instr.makeFunc]) (.func (.func f) h1.1 h1.2 h2.1 h2.2)⟩
    · simp at h
  | slice t x lo hi mx =>
    simp only [axOp] at h
    split at h
    · rename_i v p q s hv hp hq' hs
      obtain ⟨hkk, rfl⟩ := keep_eq h; clear h; have h := hkk; clear hkk
      obtain ⟨u, h1, h2⟩ := sliceA_run hH h (ev_rel hT hv) (optEv_rel hT hp) (optEv_rel hT hq') (optEv_rel hT hs)
      exact ⟨rfl, Quiet.of h1 h2⟩
    · simp at h
  | fieldAddr s x f =>
    simp only [axOp] at h
    split at h
    · rename_i p fd hp hfd
      split at h
      · rename_i k hk
        obtain ⟨hkk, rfl⟩ := keep_eq h; clear h; have h := hkk; clear hkk
        obtain ⟨ad, hx, hrel⟩ := addA_rel h (ev_rel hT hp)
        exact ⟨rfl, Quiet.of (by rw [hx]; exact fieldAt_run hfd hk ad) hrel⟩
      · simp at h
    · simp at h
  | field s x f =>
    simp only [axOp] at h
    split at h
    · rename_i cs fd hp hfd
      obtain ⟨hkk, rfl⟩ := keep_eq h; clear h; have h := hkk; clear hkk
      obtain ⟨fs, h1, h2⟩ := fieldA_run hfd
      have hr := ev_rel hT hp
      generalize a.eval x = y at hr
      refine ⟨rfl, ?_⟩
      simp only [execOp]
      have : ∃ vs, a.eval x = .agg vs ∧ RelA Z w ρ cs vs := by
        have hr := ev_rel hT hp
        generalize a.eval x = y at hr
        cases hr with
        | agg g1 g2 => exact ⟨_, rfl, g1, g2⟩
      obtain ⟨vs, hvs, hra⟩ := this
      obtain ⟨v, hv, hrel⟩ := part_rel (P := E.P) hra h
      exact Quiet.of (by simp only [hvs, Instr.field, Sem.run_bind, run_underlying h1, Result.andThen_ok, h2, asAgg, Sem.run_pure, hv]) hrel
    · simp at h
  | indexAddr t x i =>
    simp only [axOp] at h
    split at h
    · rename_i v n hv hn
      obtain ⟨hkk, rfl⟩ := keep_eq h; clear h; have h := hkk; clear hkk
      cases hi : ev T i with
      | none => simp [hi] at hn
      | some u =>
        simp [hi] at hn
        obtain ⟨y, h1, h2⟩ := indexAddrA_run h (ev_rel hT hv) (ev_rel hT hi) hn
        exact ⟨rfl, Quiet.of h1 h2⟩
    · simp at h
  | index t x i =>
    simp only [axOp] at h
    split at h
    · rename_i v n hv hn
      obtain ⟨hkk, rfl⟩ := keep_eq h; clear h; have h := hkk; clear hkk
      cases hi : ev T i with
      | none => simp [hi] at hn
      | some u =>
        simp [hi] at hn
        obtain ⟨y, h1, h2⟩ := indexA_run h (ev_rel hT hv) (ev_rel hT hi) hn
        exact ⟨rfl, Quiet.of h1 h2⟩
    · simp at h
  | typeAssert x xt asserted ok =>
    simp only [axOp] at h
    split at h
    · simp at h
    · rename_i t v d hne hv hd
      have hr := ev_rel hT hv
      generalize hy : a.eval x = y at hr
      cases hr with
      | iface t hvx =>
        rename_i u
        have hcase : ∀ (K : Sem Value) , True := fun _ => trivial
        split at h
        · rename_i ht
          subst ht
          simp at h
          obtain ⟨rfl, rfl⟩ := h
          refine ⟨rfl, Quiet.of (v := if ok then .tuple #[u, .bool true] else u) ?_ ?_⟩
          · rw [hy, Instr.typeAssert]
            simp only [Sem.run_bind, run_underlying hd, Result.andThen_ok]
            cases d <;> first | exact (hne _ rfl).elim | simp
          · cases ok
            · simpa using hvx
            · simp only [if_true]
              refine .tup rfl (fun i hi hi' => ?_)
              simp at hi
              match i, hi with
              | 0, _ => simpa using hvx
              | 1, _ => exact .bool _
        · rename_i ht
          split at h
          · rename_i hok
            split at h
            · rename_i z hz
              simp at h
              obtain ⟨rfl, rfl⟩ := h
              obtain ⟨zv, hzr, hzv⟩ := run_zero' hz w
              refine ⟨rfl, Quiet.of (v := .tuple #[zv, .bool false]) ?_ ?_⟩
              · rw [hy, Instr.typeAssert]
                simp only [Sem.run_bind, run_underlying hd, Result.andThen_ok]
                cases d <;> first | exact (hne _ rfl).elim | simp [ht, hok, Sem.run_bind, hzr]
              · refine .tup rfl (fun i hi hi' => ?_)
                simp at hi
                match i, hi with
                | 0, _ => simpa using rel_ofValue hzv
                | 1, _ => exact .bool _
            · simp at h
          · simp at h
    · rename_i d hne hv hd
      have hr := rel_nilif (ev_rel hT hv)
      split at h
      · rename_i hok
        split at h
        · rename_i z hz
          simp at h
          obtain ⟨rfl, rfl⟩ := h
          obtain ⟨zv, hzr, hzv⟩ := run_zero' hz w
          refine ⟨rfl, Quiet.of (v := .tuple #[zv, .bool false]) ?_ ?_⟩
          · rw [hr, Instr.typeAssert]
            simp only [Sem.run_bind, run_underlying hd, Result.andThen_ok]
            cases d <;> first | exact (hne _ rfl).elim | simp [hok, Sem.run_bind, hzr]
          · refine .tup rfl (fun i hi hi' => ?_)
            simp at hi
            match i, hi with
            | 0, _ => simpa using rel_ofValue hzv
            | 1, _ => exact .bool _
        · simp at h
      · simp at h
    · simp at h
  | extract t i =>
    simp only [axOp] at h
    split at h
    · rename_i vs hv
      obtain ⟨hkk, rfl⟩ := keep_eq h; clear h; have h := hkk; clear hkk
      have hr := ev_rel hT hv
      generalize hy : a.eval t = y at hr
      cases hr with
      | tup g1 g2 =>
        rename_i us
        obtain ⟨hi, rfl⟩ := List.getElem?_eq_some_iff.1 h
        have hi' : i < us.size := g1 ▸ hi
        exact ⟨rfl, Quiet.of (v := us[i]) (by simp [hy, Instr.extract, hi']) (g2 i hi hi')⟩
    · simp at h
  | call c =>
    obtain ⟨callee, args, ats⟩ := c
    simp only [axOp] at h
    cases callee with
    | builtin b =>
      split at h
      · rename_i as has
        have hb : b = .len ∨ b = .max ∨ b = .min := by cases b <;> simp [quietOp] at hq <;> simp
        obtain ⟨h1, v, h2, h3⟩ := quiet_builtin hb (type := type) (consts := args.map fun | .const _ => true | _ => false) (evs_relA hT has) h
        exact ⟨h1, v, by simp only [execOp, resolve, Sem.run_bind, Sem.run_pure, Result.andThen_ok, invoke]; exact h2, h3⟩
      · simp at h
    | value f => simp [quietOp] at hq
    | invoke r m => simp [quietOp] at hq
  | _ => simp [quietOp] at hq

end
end Go.AX

/- AX, part 7: the heap: new blocks, stores, blocks that are given up. -/
set_option linter.unusedVariables false
set_option linter.unusedSimpArgs false
namespace Go.AX
open Go Go.RowKit

section
variable {P : Program} {Z : Nat → Prop} {w : World} {ρ : Rho} {B : Nat} {H : Heap}

/-- Worlds with the same heap. -/
theorem Rel.heap {w w' : World} (hh : w'.heap = w.heap) {v : AV} {x : Value} (h : Rel Z w ρ v x) : Rel Z w' ρ v x :=
  h.mono' (fun _ h => h) (fun b _ => by rw [hh]) (fun b s hs => by unfold World.shape? at hs ⊢; rw [hh]; exact hs) ρ (fun _ _ h => h)

theorem RelA.heap {w w' : World} (hh : w'.heap = w.heap) {l : List AV} {a : Array Value} (h : RelA Z w ρ l a) : RelA Z w' ρ l a := ⟨h.1, fun i hi hi' => (h.2 i hi hi').heap hh⟩

theorem HRel.drew (h : HRel B Z w ρ H) : HRel B Z w.drew ρ H where
  dom := h.dom
  cells := fun id cs b base h1 h2 => by
    obtain ⟨g1, c, t, g2, g3, g4⟩ := h.cells id cs b base h1 h2
    exact ⟨g1, c, t, g2, g3, fun i hi => by obtain ⟨v, k1, k2, k3⟩ := g4 i hi; exact ⟨v, k1, Rel.heap (w := w) (w' := w.drew) rfl k2, k3⟩⟩
  loop := fun id tm ps as bo st pd b base h1 h2 => by
    obtain ⟨g1, g2, fn, tmv, dfr, g3, g4⟩ := h.loop id tm ps as bo st pd b base h1 h2
    exact ⟨g1, g2, fn, tmv, dfr, g3, RelA.heap (w := w) (w' := w.drew) rfl g4⟩
  inj := h.inj
  low := h.low
  zlt := h.zlt
  big := h.big
  zc := h.zc

theorem Ext.drew (n : Nat) : Ext B Z w ρ n Z w.drew ρ :=
  ⟨fun _ h => h, fun _ h => .inl h, fun _ _ => rfl, fun _ _ => rfl, fun _ _ h => h, fun _ _ h => h, (Below.refl _ _).drew, fun _ r h => ⟨r, h⟩⟩

def upd (ρ : Rho) (n : Nat) (x : Nat × Nat) : Rho := fun id => if id = n then some x else ρ id

theorem upd_same (ρ : Rho) (n : Nat) (x : Nat × Nat) : upd ρ n x n = some x := by simp [upd]
theorem upd_lt {ρ : Rho} {n : Nat} {x : Nat × Nat} {id : Nat} (h : id < n) : upd ρ n x id = ρ id := by simp [upd]; omega
theorem upd_inv {ρ : Rho} {n : Nat} {x y : Nat × Nat} {id : Nat} (h : upd ρ n x id = some y) : (id = n ∧ y = x) ∨ (id ≠ n ∧ ρ id = some y) := by
  unfold upd at h
  split at h
  · exact .inl ⟨by assumption, by simpa using h.symm⟩
  · exact .inr ⟨by assumption, h⟩

theorem alloc_old {o : Obj} {b : Nat} (h : b < w.heap.size) : (w.alloc o).heap[b]? = w.heap[b]? := Below.heap_alloc w o b h
theorem alloc_new {o : Obj} : (w.alloc o).heap[w.heap.size]? = some o := World.alloc_heap_new w o
theorem lt_of_some {b : Nat} {o : Obj} (h : w.heap[b]? = some o) : b < w.heap.size := (Array.getElem?_eq_some_iff.1 h).1

theorem shape_alloc {o : Obj} {b : Nat} {s : TypeId × Nat} (h : w.shape? b = some s) : (w.alloc o).shape? b = some s := by
  unfold World.shape? at h ⊢
  split at h
  · rename_i hb; rw [alloc_old (lt_of_some hb), hb]; exact h
  · simp at h

theorem Ext.alloc (hH : HRel B Z w ρ H) (o : Obj) {n : Nat} {ρ' : Rho} (hρ : ∀ id, id < n → ρ' id = ρ id) : Ext B Z w ρ n Z (w.alloc o) ρ' :=
  ⟨fun _ h => h, fun _ h => .inl h, fun b hb => alloc_old (hH.zlt b hb), hρ, fun b s hs => shape_alloc hs, fun r ds hr => by rw [alloc_old (lt_of_some hr)]; exact hr, (Below.refl _ _).alloc hH.big _, fun b r hb => ⟨r, by rw [alloc_old (lt_of_some hb)]; exact hb⟩⟩

/-- A new block. -/
theorem HRel.alloc (hH : HRel B Z w ρ H) {cs : List AV} {c : Array Value} {t : TypeId} (hc : cs.length ≤ c.size) (hr : ∀ i (h : i < cs.length), ∃ v, c[i]? = some v ∧ Rel Z w ρ cs[i] v ∧ oneCell cs[i] = true) :
    Ext B Z w ρ H.length Z (w.alloc (.cells c t)) (upd ρ H.length (w.heap.size, 0)) ∧ HRel B Z (w.alloc (.cells c t)) (upd ρ H.length (w.heap.size, 0)) (H ++ [.cells cs]) := by
  have e : Ext B Z w ρ H.length Z (w.alloc (.cells c t)) (upd ρ H.length (w.heap.size, 0)) := Ext.alloc hH _ (fun id h => upd_lt h)
  have hdom := hH.dom
  refine ⟨e, ?_⟩
  constructor
  · intro id x hx
    rcases upd_inv hx with ⟨rfl, _⟩ | ⟨_, h⟩
    · simp
    · have := hH.dom id x h; simp; omega
  · intro id cs' b base h1 h2
    rcases upd_inv h2 with ⟨rfl, h3⟩ | ⟨hne, h3⟩
    · simp at h3 h1
      obtain ⟨rfl, rfl⟩ := h3
      subst h1
      refine ⟨fun hz => by have := hH.zlt _ hz; omega, c, t, alloc_new, by omega, fun i hi => ?_⟩
      obtain ⟨v, k1, k2, k3⟩ := hr i hi
      exact ⟨v, by simpa using k1, k2.mono e hdom, k3⟩
    · have hlt := hH.dom id _ h3
      rw [List.getElem?_append_left hlt] at h1
      obtain ⟨g1, c', t', g2, g3, g4⟩ := hH.cells id cs' b base h1 h3
      refine ⟨g1, c', t', by rw [alloc_old (lt_of_some g2)]; exact g2, g3, fun i hi => ?_⟩
      obtain ⟨v, k1, k2, k3⟩ := g4 i hi
      exact ⟨v, k1, k2.mono e hdom, k3⟩
  · intro id tm ps as bo st pd b base h1 h2
    rcases upd_inv h2 with ⟨rfl, h3⟩ | ⟨hne, h3⟩
    · simp at h1
    · have hlt := hH.dom id _ h3
      rw [List.getElem?_append_left hlt] at h1
      obtain ⟨g1, g2, fn, tmv, dfr, g3, g4⟩ := hH.loop id tm ps as bo st pd b base h1 h3
      exact ⟨g1, g2, fn, tmv, dfr, by rw [alloc_old (lt_of_some g3)]; exact g3, g4.mono e hdom⟩
  · intro id id' b base base' k k' h1 l1 h2 l2 r1 r2
    rcases upd_inv r1 with ⟨rfl, e1⟩ | ⟨n1, e1⟩ <;> rcases upd_inv r2 with ⟨rfl, e2⟩ | ⟨n2, e2⟩
    · rfl
    · simp at e1
      have := (hH.low _ _ _ e2).2
      omega
    · simp at e2
      have := (hH.low _ _ _ e1).2
      omega
    · rw [List.getElem?_append_left (hH.dom _ _ e1)] at h1
      rw [List.getElem?_append_left (hH.dom _ _ e2)] at h2
      exact hH.inj id id' b base base' k k' h1 l1 h2 l2 e1 e2
  · intro id b base r1
    rcases upd_inv r1 with ⟨rfl, e1⟩ | ⟨n1, e1⟩
    · simp at e1
      obtain ⟨rfl, rfl⟩ := e1
      exact ⟨hH.big, by simp⟩
    · have := hH.low _ _ _ e1
      exact ⟨this.1, by simp; omega⟩
  · intro b hb
    have := hH.zlt b hb
    simp; omega
  · have := hH.big
    simp; omega
  · intro b hb
    obtain ⟨c', t', fr, h⟩ := hH.zc b hb
    exact ⟨c', t', fr, by rw [alloc_old (lt_of_some h)]; exact h⟩

/-- Blocks that are given up. -/
theorem HRel.dead (hH : HRel B Z w ρ H) (id : Nat) : HRel B Z w ρ (H.set id .dead) := by
  have key : ∀ (j : Nat) (k : Blk), (H.set id .dead)[j]? = some k → k ≠ .dead → H[j]? = some k := by
    intro j k h hk
    by_cases hj : id = j
    · subst hj
      by_cases hl : id < H.length
      · rw [List.getElem?_set_self hl] at h
        simp at h
        exact absurd h.symm hk
      · rw [List.getElem?_eq_none (by simp; omega)] at h; simp at h
    · rw [List.getElem?_set_ne hj] at h; exact h
  constructor
  · intro j x hx; have := hH.dom j x hx; simpa using this
  · intro j cs b base h1 h2; exact hH.cells j cs b base (key _ _ h1 (by simp)) h2
  · intro j tm ps as bo st pd b base h1 h2; exact hH.loop j tm ps as bo st pd b base (key _ _ h1 (by simp)) h2
  · intro j j' b base base' k k' h1 l1 h2 l2 r1 r2
    exact hH.inj j j' b base base' k k' (key _ _ h1 (by intro e; subst e; exact l1)) l1 (key _ _ h2 (by intro e; subst e; exact l2)) l2 r1 r2
  · exact hH.low
  · exact hH.zlt
  · exact hH.big
  · exact hH.zc

theorem HRel.kill (hH : HRel B Z w ρ H) : ∀ (ids : List Nat) , HRel B Z w ρ (kill H ids) := by
  intro ids
  induction ids generalizing H with
  | nil => exact hH
  | cons i is ih => exact ih (hH.dead i)

theorem kill_length (ids : List Nat) : ∀ (H : Heap), (kill H ids).length = H.length := by
  induction ids with
  | nil => intro H; rfl
  | cons i is ih => intro H; simp [AX.kill, ih]

theorem shape_setRow {g b : Nat} {c old : Array Value} {t : TypeId} {fr : Nat × Nat} (hg : w.heap[g]? = some (.cells old t fr)) (hs : c.size = old.size) {s : TypeId × Nat} (h : w.shape? b = some s) : (w.setRow g c).shape? b = some s := by
  unfold World.shape? at h ⊢
  by_cases hb : b = g
  · subst hb
    rw [setRow_heap w b old c t fr hg]
    rw [hg] at h
    simpa [hs] using h
  · rw [setRow_other w g b c hb]; exact h

/-- A store into a block of its own. -/
theorem HRel.set (hH : HRel B Z w ρ H) {id b base : Nat} {cs cs' : List AV} (h1 : H[id]? = some (.cells cs)) (h2 : ρ id = some (b, base)) {old c : Array Value} {t : TypeId} (hw : w.heap[b]? = some (.cells old t (0, 0))) (hs : c.size = old.size) (hl : cs'.length = cs.length)
    (hr : ∀ i (h : i < cs'.length), ∃ v, c[base + i]? = some v ∧ Rel Z w ρ cs'[i] v ∧ oneCell cs'[i] = true) :
    Ext B Z w ρ H.length Z (w.setRow b c) ρ ∧ HRel B Z (w.setRow b c) ρ (H.set id (.cells cs')) := by
  obtain ⟨nz, old', t', hw', hle, _⟩ := hH.cells id cs b base h1 h2
  rw [hw] at hw'
  simp at hw'
  obtain ⟨rfl, rfl⟩ := hw'
  have hlow := hH.low _ _ _ h2
  have e : Ext B Z w ρ H.length Z (w.setRow b c) ρ := by
    refine ⟨fun _ h => h, fun _ h => .inl h, fun b' hb' => setRow_other w b b' c (fun e => nz (e ▸ hb')), fun _ _ => rfl, fun b' s hs' => shape_setRow hw hs hs', fun r ds hr' => ?_, ?_, ?_⟩
    · rw [setRow_other w b r c (fun e => by subst e; rw [hw] at hr'; simp at hr')]; exact hr'
    · exact ⟨rfl, rfl, rfl, by simp, fun k hk => setRow_other w b k c (by omega)⟩
    · intro b' r' hb'
      exact ⟨r', by rw [setRow_other w b b' c (fun e => by subst e; rw [hw] at hb'; simp at hb')]; exact hb'⟩
  have hdom := hH.dom
  have hidlt : id < H.length := hH.dom _ _ h2
  refine ⟨e, ?_⟩
  constructor
  · intro j x hx; have := hH.dom j x hx; simpa using this
  · intro j cs2 b' base' g1 g2
    by_cases hj : id = j
    · subst hj
      rw [List.getElem?_set_self hidlt] at g1
      simp at g1
      subst g1
      rw [h2] at g2
      simp at g2
      obtain ⟨rfl, rfl⟩ := g2
      refine ⟨nz, c, t, setRow_heap w b old c t (0, 0) hw, by omega, fun i hi => ?_⟩
      obtain ⟨v, k1, k2, k3⟩ := hr i hi
      exact ⟨v, k1, k2.mono e hdom, k3⟩
    · rw [List.getElem?_set_ne hj] at g1
      obtain ⟨q1, c', t', q2, q3, q4⟩ := hH.cells j cs2 b' base' g1 g2
      have hbb : b' ≠ b := fun eb => hj (hH.inj id j b base base' _ _ h1 trivial g1 trivial h2 (eb ▸ g2))
      refine ⟨q1, c', t', by rw [setRow_other w b b' c hbb]; exact q2, q3, fun i hi => ?_⟩
      obtain ⟨v, k1, k2, k3⟩ := q4 i hi
      exact ⟨v, k1, k2.mono e hdom, k3⟩
  · intro j tm ps as bo st pd b' base' g1 g2
    by_cases hj : id = j
    · subst hj
      rw [List.getElem?_set_self hidlt] at g1
      simp at g1
    · rw [List.getElem?_set_ne hj] at g1
      obtain ⟨q1, q2, fn, tmv, dfr, q3, q4⟩ := hH.loop j tm ps as bo st pd b' base' g1 g2
      have hbb : b' ≠ b := fun eb => hj (hH.inj id j b base base' _ _ h1 trivial g1 trivial h2 (eb ▸ g2))
      exact ⟨q1, q2, fn, tmv, dfr, by rw [setRow_other w b b' c hbb]; exact q3, q4.mono e hdom⟩
  · intro j j' b' base1 base2 k k' g1 l1 g2 l2 r1 r2
    have key : ∀ (j : Nat) (k : Blk), (H.set id (.cells cs'))[j]? = some k → k.live → ∃ k0, H[j]? = some k0 ∧ k0.live := by
      intro j k hk hl
      by_cases hj : id = j
      · subst hj; exact ⟨_, h1, trivial⟩
      · rw [List.getElem?_set_ne hj] at hk; exact ⟨_, hk, hl⟩
    obtain ⟨k1, a1, b1⟩ := key j k g1 l1
    obtain ⟨k2, a2, b2⟩ := key j' k' g2 l2
    exact hH.inj j j' b' base1 base2 k1 k2 a1 b1 a2 b2 r1 r2
  · intro j b' base' r1
    have := hH.low _ _ _ r1
    exact ⟨this.1, by simp; omega⟩
  · intro b' hb'; have := hH.zlt b' hb'; simp; omega
  · have := hH.big; simp; omega
  · intro b' hb'
    obtain ⟨c', t', fr, h⟩ := hH.zc b' hb'
    exact ⟨c', t', fr, by rw [setRow_other w b b' c (fun e => nz (e ▸ hb'))]; exact h⟩

theorem Ext.setRow (hH : HRel B Z w ρ H) {b : Nat} (hlow : B ≤ b) (nz : ¬ Z b) {old c : Array Value} {t : TypeId} (hw : w.heap[b]? = some (.cells old t (0, 0))) (hs : c.size = old.size) {n : Nat} {ρ' : Rho} (hρ : ∀ id, id < n → ρ' id = ρ id) : Ext B Z w ρ n Z (w.setRow b c) ρ' := by
  refine ⟨fun _ h => h, fun _ h => .inl h, fun b' hb' => setRow_other w b b' c (fun e => nz (e ▸ hb')), hρ, fun b' s hs' => shape_setRow hw hs hs', fun r ds hr' => ?_, ?_, ?_⟩
  · rw [setRow_other w b r c (fun e => by subst e; rw [hw] at hr'; simp at hr')]; exact hr'
  · exact ⟨rfl, rfl, rfl, by simp, fun k hk => setRow_other w b k c (by omega)⟩
  · intro b' r' hb'
    exact ⟨r', by rw [setRow_other w b b' c (fun e => by subst e; rw [hw] at hb'; simp at hb')]; exact hb'⟩

/-- A block takes over the memory of one that is given up, from a place of it on; the memory may be written at once. -/
theorem HRel.over (hH : HRel B Z w ρ H) {id b base off : Nat} {cs cs' : List AV} (h1 : H[id]? = some (.cells cs)) (h2 : ρ id = some (b, base)) {old c : Array Value} {t : TypeId} (hw : w.heap[b]? = some (.cells old t (0, 0))) (hs : c.size = old.size) (hle : base + off + cs'.length ≤ c.size)
    (hr : ∀ i (h : i < cs'.length), ∃ v, c[base + off + i]? = some v ∧ Rel Z w ρ cs'[i] v ∧ oneCell cs'[i] = true) :
    Ext B Z w ρ H.length Z (w.setRow b c) (upd ρ H.length (b, base + off)) ∧ HRel B Z (w.setRow b c) (upd ρ H.length (b, base + off)) (H.set id .dead ++ [.cells cs']) := by
  obtain ⟨nz, _⟩ := hH.cells id cs b base h1 h2
  have hlow := hH.low _ _ _ h2
  have e : Ext B Z w ρ H.length Z (w.setRow b c) (upd ρ H.length (b, base + off)) := Ext.setRow hH hlow.1 nz hw hs (fun id h => upd_lt h)
  have hD := hH.dead id
  have hdom := hH.dom
  have hlen : (H.set id .dead).length = H.length := by simp
  have hidlt : id < H.length := hH.dom _ _ h2
  have other : ∀ (j : Nat) (k : Blk) (base1 : Nat), (H.set id .dead)[j]? = some k → k.live → ρ j = some (b, base1) → False := by
    intro j k base1 g l r
    by_cases hj : id = j
    · subst hj
      rw [List.getElem?_set_self hidlt] at g
      simp at g
      subst g
      exact l
    · rw [List.getElem?_set_ne hj] at g
      exact hj (hH.inj id j b base base1 _ _ h1 trivial g l h2 r)
  refine ⟨e, ?_⟩
  constructor
  · intro j x hx
    rcases upd_inv hx with ⟨rfl, _⟩ | ⟨_, h⟩
    · simp
    · have := hH.dom j x h; simp; omega
  · intro j cs2 b' base' g1 g2
    rcases upd_inv g2 with ⟨rfl, h3⟩ | ⟨hne, h3⟩
    · rw [List.getElem?_append_right (by simp)] at g1
      simp at h3 g1
      obtain ⟨rfl, rfl⟩ := h3
      subst g1
      refine ⟨nz, c, t, setRow_heap w b' old c t (0, 0) hw, hle, fun i hi => ?_⟩
      obtain ⟨v, k1, k2, k3⟩ := hr i hi
      exact ⟨v, k1, k2.mono e hdom, k3⟩
    · have hlt := hH.dom j _ h3
      rw [List.getElem?_append_left (by simpa using hlt)] at g1
      obtain ⟨q1, c', t', q2, q3, q4⟩ := hD.cells j cs2 b' base' g1 h3
      have hbb : b' ≠ b := fun eb => other j _ base' g1 trivial (eb ▸ h3)
      refine ⟨q1, c', t', by rw [setRow_other w b b' c hbb]; exact q2, q3, fun i hi => ?_⟩
      obtain ⟨v, k1, k2, k3⟩ := q4 i hi
      exact ⟨v, k1, k2.mono e hdom, k3⟩
  · intro j tm ps as bo st pd b' base' g1 g2
    rcases upd_inv g2 with ⟨rfl, h3⟩ | ⟨hne, h3⟩
    · rw [List.getElem?_append_right (by simp)] at g1; simp at g1
    · have hlt := hH.dom j _ h3
      rw [List.getElem?_append_left (by simpa using hlt)] at g1
      obtain ⟨q1, q2, fn, tmv, dfr, q3, q4⟩ := hD.loop j tm ps as bo st pd b' base' g1 h3
      have hbb : b' ≠ b := fun eb => other j _ base' g1 trivial (eb ▸ h3)
      exact ⟨q1, q2, fn, tmv, dfr, by rw [setRow_other w b b' c hbb]; exact q3, q4.mono e hdom⟩
  · intro j j' b' base1 base2 k k' g1 l1 g2 l2 r1 r2
    rcases upd_inv r1 with ⟨rfl, e1⟩ | ⟨n1, e1⟩ <;> rcases upd_inv r2 with ⟨rfl, e2⟩ | ⟨n2, e2⟩
    · rfl
    · simp at e1
      obtain ⟨rfl, _⟩ := e1
      rw [List.getElem?_append_left (by simpa using hH.dom _ _ e2)] at g2
      exact (other j' k' base2 g2 l2 e2).elim
    · simp at e2
      obtain ⟨rfl, _⟩ := e2
      rw [List.getElem?_append_left (by simpa using hH.dom _ _ e1)] at g1
      exact (other j k base1 g1 l1 e1).elim
    · rw [List.getElem?_append_left (by simpa using hH.dom _ _ e1)] at g1
      rw [List.getElem?_append_left (by simpa using hH.dom _ _ e2)] at g2
      exact hD.inj j j' b' base1 base2 k k' g1 l1 g2 l2 e1 e2
  · intro j b' base' r1
    rcases upd_inv r1 with ⟨rfl, e1⟩ | ⟨n1, e1⟩
    · simp at e1
      obtain ⟨rfl, rfl⟩ := e1
      exact ⟨hlow.1, by simp; omega⟩
    · have := hH.low _ _ _ e1
      exact ⟨this.1, by simp; omega⟩
  · intro b' hb'; have := hH.zlt b' hb'; simp; omega
  · have := hH.big; simp; omega
  · intro b' hb'
    obtain ⟨c', t', fr, h⟩ := hH.zc b' hb'
    exact ⟨c', t', fr, by rw [setRow_other w b b' c (fun e => nz (e ▸ hb'))]; exact h⟩

end
end Go.AX
