/- An abstract machine for loaded programs, and that its operations do what the machine's do: no statement about a program. -/
import Derived.Calls
import Derived.Laws.AppendOwn
import Derived.Tactics
import Derived.Laws.Cells
import Derived.Laws.Entries
import Derived.Laws.Tables
import Derived.Laws.BytesString
import Derived.Lib.Builder
import Derived.Lib.ConvBytes
import Derived.Still
import Derived.Lib.UnsafeStr
set_option linter.unusedSimpArgs false
set_option linter.unusedVariables false
/-
  An abstract machine for loaded programs: its values, its heap, its operations. Plain definitions, no statement.
-/
namespace Go.AM
noncomputable section

/-- A value of the abstract machine. -/
inductive AV where
  | v (x : Value)                                   -- just this value
  | agg (xs : List AV)                              -- a struct or array: its cells
  | tup (xs : List AV)
  | ro (xs : List AV)                               -- a slice that is read: its elements
  | cl (f : Bool) (xs : List AV)                    -- a slice that is read, its capacity is its length; f: a literal's own row
  | ap (t : Nat) (xs : List AV)                     -- a slice that may be appended to: its token, its elements
  | ex (b g es off len : Nat)                       -- a slice in a block that may be written (elements of es cells)
  | rp (x : AV) (j : Nat)                           -- an address: cell j of an element that is read
  | ptr (b g i j : Nat)                             -- an address: cell j of element i of a block that may be written
  | mp (m : Nat)                                    -- a map
  | sd (t : Nat) (xs : List AV)                     -- where the elements of a slice that may be appended to lie
  | fn (f : Fn) (first captured : List AV)
  | iface (t : TypeId) (x : AV)
  deriving Inhabited

abbrev AV.undef : AV := .v Go.undef

def AV.cells : AV → List AV
  | .agg xs => xs
  | x => [x]

def Value.plain : Value → Bool
  | .agg _ => false
  | _ => true

/-- May it be a cell? -/
def AV.flat : AV → Bool
  | .v x => x.oneCell'
  | .agg _ => false
  | .tup _ => false
  | _ => true

structure Blk where
  gen : Nat
  es : Nat                                          -- cells of an element
  xs : List AV
  deriving Inhabited

structure Hp where
  toks : List (Nat × TypeId) := []
  blks : List Blk := []
  mps : List (List (ByteArray × AV)) := []           -- maps of texts
  deriving Inhabited

/-- What is fixed: the program; its tables; what package-level variables hold; which functions run on a heap of their own; how boxes are laid; the library's functions by contract. -/
structure Cfg where
  P : Program
  und : TypeId → Option TypeDesc
  csz : TypeId → Option Nat
  byt : TypeId → Option Nat
  zero : TypeId → Option Value
  fns : FuncId → Option Func
  gl : Nat → Option AV
  own : FuncId → Bool
  roBox : FuncId → Tmp → Bool
  prim : FuncId → Option (List AV → Option AV)
  nb : FuncId → Tmp → Bool := fun _ _ => false       -- which slots hold bytes of a text that are written
  ident : FuncId → Bool := fun _ => false            -- functions that hand back what they are handed
  tyB : TypeId → Bool := fun _ => false              -- types whose boxes know their type
  lies : TypeId → TypeId → Bool := fun _ _ => false  -- at the head of the one lies the other
  ovl : FuncId → Bool := fun _ => false              -- functions that ask whether two rows overlap
  meth : TypeId → String → Option (FuncId × Option TypeId) := fun _ _ => none   -- methods behind interface values of pointers; some: of the value behind the pointer

/-- Beyond the marks of types: the marks of rows that have grown. -/
def growG : Nat := 1000000000000
def nextG (g : Nat) : Nat := if g < growG then growG else (g / 36893488147419103232 + 1) * 36893488147419103232
/-- How many elements its room has. -/
def exCap (g : Nat) : Option Nat := if g / 18446744073709551616 % 2 = 1 then some (g % 18446744073709551616) else none
def roomG (g n : Nat) : Bool := match exCap g with
  | some m => decide (n ≤ m)
  | none => false

mutual
def AV.toV : AV → Option Value
  | .v x => if Value.plain x then some x else none
  | .agg xs => (AV.toVs xs).map fun l => .agg l.toArray
  | .tup xs => (AV.toVs xs).map fun l => .tuple l.toArray
  | .iface t x => x.toV.map (.iface t)
  | _ => none
def AV.toVs : List AV → Option (List Value)
  | [] => some []
  | x :: xs => match x.toV, AV.toVs xs with
    | some y, some ys => some (y :: ys)
    | _, _ => none
end

def ofV : Value → Option AV
  | .agg cs => if cs.toList.all Value.plain then some (.agg (cs.toList.map .v)) else none
  | x => some (.v x)

/-- A slice that is read, no more being known of where it lies. -/
def clB (f : Bool) (xs : List AV) : AV := if f && xs.isEmpty then .ro [] else .cl false xs
mutual
/-- What may be handed to a function that runs on a heap of its own. -/
def AV.bare : AV → Option AV
  | .v x => some (.v x)
  | .agg xs => (AV.bares xs).map .agg
  | .tup xs => (AV.bares xs).map .tup
  | .ro xs => some (.ro xs)
  | .cl f xs => some (clB f xs)
  | .ap _ xs => some (.ro xs)
  | .rp x j => some (.rp x j)
  | .iface t x => x.bare.map (.iface t)
  | .fn f a b => match AV.bares a, AV.bares b with
    | some a, some b => some (.fn f a b)
    | _, _ => none
  | _ => none
def AV.bares : List AV → Option (List AV)
  | [] => some []
  | x :: xs => match x.bare, AV.bares xs with
    | some y, some ys => some (y :: ys)
    | _, _ => none
end

def pureRun {α : Type} (P : Program) : Sem α → Option α
  | .pure a => some a
  | .program k => pureRun P (k P)
  | .mark _ k => pureRun P k
  | _ => none

def bareP : List (Nat × AV) → Option (List (Nat × AV))
  | [] => some []
  | (i, x) :: xs => match x.bare, bareP xs with
    | some y, some ys => some ((i, y) :: ys)
    | _, _ => none

abbrev Env := List AV
def aget (env : Env) (t : Nat) : AV := env.getD t .undef
def aput (env : Env) (d : Option Tmp) (x : AV) : Env := match d with | some d => env.set d x | none => env

section CFG
variable (C : Cfg)

def aval (env : Env) : Operand → Option AV
  | .tmp t => some (aget env t)
  | .const x => ofV x
  | .global g => (C.gl g).map (.rp · 0)
  | .func f => some (.fn (.func f) [] [])

def isAggT (t : TypeId) : Option Bool := match C.und t with
  | some (.struct _) | some (.array _ _) => some true
  | some _ => some false
  | none => none
def zeroA (t : TypeId) : Option AV := (C.zero t).bind ofV
def elemT (t : TypeId) : Option TypeId := match C.und t with | some (.slice e) => some e | _ => none

/-- A part of a row of cells, as a value of a type. -/
def partA (t : TypeId) (cs : List AV) (off : Nat) : Option AV :=
  match isAggT C t with
  | some true => match C.csz t with
    | some n => if off + n ≤ cs.length then some (.agg ((cs.drop off).take n)) else none
    | none => none
  | some false => cs[off]?
  | none => none

/-- Rows of cells cut into elements of n cells. -/
def chunk (agg : Bool) (n : Nat) (cs : List AV) : Nat → Option (List AV)
  | 0 => some []
  | k + 1 =>
    if n ≤ cs.length then
      match (if agg then some (.agg (cs.take n)) else if n = 1 then cs.head? else none), chunk agg n (cs.drop n) k with
      | some x, some xs => some (x :: xs)
      | _, _ => none
    else none

def fillA (place : Nat → Option (Nat × Nat)) (cells : List AV) : List (Nat × AV) → Option (List AV)
  | [] => some cells
  | (i, x) :: rest => match place i with
    | none => none
    | some (off, size) =>
      if x.cells.length = size ∧ off + size ≤ cells.length ∧ x.cells.all AV.flat then fillA place (cells.take off ++ x.cells ++ cells.drop (off + size)) rest else none

def idx (x : AV) : Option Nat := match x with
  | .v (.int _ n) => if 0 ≤ n then some n.toNat else none
  | _ => none

def avals (env : Env) : List Operand → Option (List AV)
  | [] => some []
  | o :: os => match aval C env o, avals env os with
    | some x, some xs => some (x :: xs)
    | _, _ => none
def apairs (env : Env) : List (Nat × Operand) → Option (List (Nat × AV))
  | [] => some []
  | (i, o) :: os => match aval C env o, apairs env os with
    | some x, some xs => some ((i, x) :: xs)
    | _, _ => none

/-- The elements of a slice that is read. -/
def elems : AV → Option (List AV)
  | .ro xs | .cl _ xs | .ap _ xs => some xs
  | .v (.slice none 0 0) => some []
  | _ => none

/-- Are they elements of n cells? (those of one row are alike) -/
def szOk (xs : List AV) (n : Nat) : Bool := match xs with
  | [] => true
  | x :: _ => x.cells.length == n

def bytesA : List AV → Option (List UInt8)
  | [] => some []
  | .v (.int .u8 n) :: xs => (bytesA xs).map (UInt8.ofNat n.toNat :: ·)
  | _ => none
def bytesS : List AV → Option (List UInt8)
  | [] => some []
  | .v (.int .u8 n) :: xs => if 0 ≤ n ∧ n < 256 then (bytesS xs).map (UInt8.ofNat n.toNat :: ·) else none
  | _ => none
def byteAVs (s : ByteArray) : List AV := s.data.toList.map fun (c : UInt8) => AV.v (.int .u8 c.toNat)
def isU8 (e : TypeId) : Bool := match C.und e with | some (.int .u8) => true | _ => false

def someSl : AV → Bool
  | .ro _ | .cl true _ | .cl false (_ :: _) | .ap _ _ | .ex _ _ _ _ _ => true
  | _ => false
def nilSl : AV → Bool
  | .v (.slice none 0 0) => true
  | _ => false
def somePt : AV → Bool
  | .rp _ _ | .ptr _ _ _ _ => true
  | _ => false
def nilPt : AV → Bool
  | .v (.pointer none) => true
  | _ => false
def someIf : AV → Bool
  | .iface _ _ => true
  | _ => false
def nilIf : AV → Bool
  | .v .nilIface => true
  | _ => false
def someFn : AV → Bool
  | .fn _ _ _ => true
  | _ => false
def nilFn : AV → Bool
  | .v .nilFunc => true
  | _ => false
/-- '==' of something that is there with nil. -/
def nilEq (t : TypeId) (a b : AV) : Bool := match C.und t with
  | some (.slice _) => (nilSl a && someSl b) || (someSl a && nilSl b)
  | some (.pointer _) => (nilPt a && somePt b) || (somePt a && nilPt b)
  | some (.interface _) => (nilIf a && someIf b) || (someIf a && nilIf b)
  | some (.func _ _ _) => (nilFn a && someFn b) || (someFn a && nilFn b)
  | _ => false

/-- Two addresses that are one. -/
def samePt (t : TypeId) (a b : AV) : Bool := match C.und t, a, b with
  | some (.pointer e), .ptr b g i j, .ptr b' g' i' j' => (C.csz e).isSome && b == b' && g == g' && i == i' && j == j'
  | _, _, _ => false
def binA (op : BinOp) (t : TypeId) (x y : Operand) (a b : AV) : Option AV :=
  match a.toV, b.toV with
  | some a, some b => (pureRun C.P (do eqGuard op t x y a b; binOp op t a b)).bind ofV
  | _, _ =>
    match op with
    | .eql => if nilEq C t a b then some (.v (.bool false)) else if samePt C t a b then some (.v (.bool true)) else none
    | .neq => if nilEq C t a b then some (.v (.bool true)) else if samePt C t a b then some (.v (.bool false)) else none
    | _ => none

def optIdx : Option AV → Nat → Option Nat
  | none, d => some d
  | some x, _ => idx x

def sliceA (t : TypeId) (x : AV) (lo hi mx : Option AV) : Option AV :=
  match x with
  | .v (.string s) =>
    match C.und t, optIdx lo 0, optIdx hi s.size, mx with
    | some .string, some l, some h, none => if l ≤ h ∧ h ≤ s.size then some (.v (.string (s.extract l h))) else none
    | _, _, _, _ => none
  | .rp (.agg cs) 0 =>                 -- a whole array that is read
    match C.und t, lo, hi, mx with
    | some (.array n e), none, none, none => match isAggT C e, C.csz e with
      | some g, some es => if cs.length = n * es ∧ 0 < es then (chunk g es cs n).map (.cl false) else none
      | _, _ => none
    | _, _, _, _ => none
  | .ex b g es off len =>
    match (elemT C t).bind C.csz, optIdx lo 0, optIdx hi len, mx with
    | some k, some l, some h, none => if l ≤ h ∧ h ≤ len ∧ k = es then some (if l = h ∧ l ≠ 0 then .ro [] else .ex b g es (off + l) (h - l)) else if l = 0 ∧ k = es ∧ roomG g (off + h) = true then some (.ex b g es off h) else none
    | _, _, _, _ => none
  | x =>
    match (elemT C t).bind C.csz, elems x with
    | some es, some xs =>
      match optIdx lo 0, optIdx hi xs.length with
      | some l, some h =>
        if l ≤ h ∧ h ≤ xs.length ∧ 0 < es ∧ szOk xs es then
          match mx with
          | none => if l = 0 ∧ h = xs.length then some x else some (.ro ((xs.drop l).take (h - l)))
          | some m => if idx m = some h ∧ hi.isSome then some (.cl false ((xs.drop l).take (h - l))) else none
        else none
      | _, _ => none
    | _, _ => none

def placesA : List Field → Option (List (Nat × Nat))
  | [] => some []
  | f :: fs => match C.csz f.type, placesA fs with
    | some n, some r => some ((f.offset, n) :: r)
    | _, _ => none
def buildA (t : TypeId) (ps : List (Nat × AV)) : Option AV :=
  match C.und t, zeroA C t with
  | some (.struct fields), some z => match placesA C fields.toList with
    | some pl => (fillA (fun i => pl[i]?) z.cells ps).map .agg
    | none => none
  | some (.array _ e), some z => match C.csz e with
    | some n => (fillA (fun i => some (i * n, n)) z.cells ps).map .agg
    | none => none
  | _, _ => none

def buildSliceA (t : TypeId) (len : Nat) (ps : List (Nat × AV)) : Option AV :=
  match elemT C t with
  | none => none
  | some e => match C.csz e, isAggT C e, zeroA C e with
    | some n, some g, some z =>
      if len * n ≤ 16777216 ∧ z.cells.length = n ∧ 0 < n ∧ z.cells.all AV.flat then
        ((fillA (fun i => some (i * n, n)) ((List.replicate len z.cells).flatten) ps).bind fun cs => chunk g n cs len).map (.cl true)
      else none
    | _, _, _ => none

def convA (s d : TypeId) (x : AV) : Option AV :=
  match C.und s, C.und d, x with
  | some (.slice e), some .string, x => if isU8 C e then ((elems x).bind bytesA).map fun l => .v (.string ⟨l.toArray⟩) else none
  | some .string, some (.slice e), .v (.string b) => if isU8 C e then some (.ro (byteAVs b)) else none
  | some (.slice _), some (.slice e), .cl true xs => if s == d && isU8 C e && !xs.isEmpty then some (.cl true xs) else none
  | some _, some (.slice _), _ => none
  | some _, some _, x => match x.toV with
    | some a => (pureRun C.P (convert s d a)).bind ofV
    | none => none
  | _, _, _ => none

def fieldAddrA (s : TypeId) (x : AV) (f : Nat) : Option AV :=
  match C.und s with
  | some (.struct fields) => match fields[f]? with
    | some f => match C.csz f.type with
      | some (_ + 1) => match x with
        | .rp x j => some (.rp x (j + f.offset))
        | .ptr b g i j => some (.ptr b g i (j + f.offset))
        | _ => none
      | _ => none
    | none => none
  | _ => none

def indexAddrA (t : TypeId) (x ix : AV) : Option AV :=
  match idx ix, C.und t with
  | some i, some (.slice e) => match C.csz e with
    | some (k + 1) => match x with
      | .ex b g es off len => if i < len ∧ es = k + 1 then some (.ptr b g (off + i) 0) else none
      | x => ((elems x).bind (·[i]?)).bind fun z => if z.cells.length = k + 1 then some (.rp z 0) else none
    | _ => none
  | some i, some (.array n e) => match C.csz e with
    | some (k + 1) => if i < n then match x with
      | .rp x j => some (.rp x (j + i * (k + 1)))
      | .ptr b g l j => some (.ptr b g l (j + i * (k + 1)))
      | _ => none else none
    | _ => none
  | _, _ => none

def indexA (t : TypeId) (x ix : AV) : Option AV :=
  match idx ix, C.und t, x with
  | some i, some .string, .v (.string s) => if h : i < s.size then some (.v (.int .u8 s[i].toNat)) else none
  | some i, some (.array n e), .agg cs => match C.csz e with
    | some k => if i < n then partA C e cs (i * k) else none
    | none => none
  | _, _, _ => none

def lenA (ts : Array TypeId) (args : List AV) : Option AV :=
  match args, (ts[0]?).bind C.und with
  | [.v (.string s)], some .string => some (.v (.int .i64 s.size))
  | [.ex _ _ _ _ len], some (.slice _) => some (.v (.int .i64 len))
  | [x], some (.slice _) => (elems x).map fun l => .v (.int .i64 l.length)
  | [_], some (.array n _) => some (.v (.int .i64 n))
  | _, _ => none

/-- How much room a row has. -/
def capA (ts : Array TypeId) (args : List AV) : Option AV := match args, (ts[0]?).bind C.und with
  | [.ex _ g _ off _], some (.slice _) => (exCap g).map fun m => .v (.int .i64 ((m - off : Nat) : Int))
  | _, _ => none
def callPA (call : FuncId → List AV → Option AV) (f : AV) (args : List AV) : Option AV :=
  match f with
  | .fn (.func f) first captured =>
    match AV.bares (first ++ args ++ captured) with
    | some xs => match C.prim f with
      | some p => p xs
      | none => if C.own f then call f xs else none
    | none => if (C.prim f).isNone && C.own f && C.ident f then (match first ++ args ++ captured with
      | [x] => some x
      | _ => none) else none
  | _ => none

/-- Where a slice's elements lie. -/
def sdA : List AV → Option AV
  | [.ap t (x :: xs)] => some (.sd t (x :: xs))
  | _ => none
/-- Bytes of a text that are to be written. -/
def nbOf (fid : FuncId) : Option Tmp → Bool
  | some t => C.nb fid t
  | none => false
/-- Operations that neither look at the heap nor turn it. 'call': a function that runs on a heap of its own. -/
def opP (call : FuncId → List AV → Option AV) (fid : FuncId) (o : Oper) (env : Env) : Option AV :=
  match o.op with
  | .move x | .assign x => aval C env x
  | .pick c a b => match aval C env c, aval C env a, aval C env b with
    | some (.v (.bool t)), some a, some b => some (if t then a else b)
    | _, _, _ => none
  | .alloc e => match o.dst, zeroA C e with
    | some d, some z => if C.roBox fid d && z.cells.all AV.flat then some (.rp z 0) else none
    | _, _ => none
  | .box _ x => match o.dst, (aval C env x).bind AV.bare with
    | some d, some x => if C.roBox fid d && x.cells.all AV.flat then some (.rp x 0) else none
    | _, _ => none
  | .build t parts => (apairs C env parts.toList).bind (buildA C t)
  | .buildSlice t len parts => ((apairs C env parts.toList).bind bareP).bind (buildSliceA C t len)
  | .load t a => match aval C env a with
    | some (.rp x j) => partA C t x.cells j
    | _ => none
  | .nilCheck x => match aval C env x with
    | some (.rp x j) => some (.rp x j)
    | some (.ptr b g i j) => some (.ptr b g i j)
    | some (.fn (.func f) a b) => some (.fn (.func f) a b)
    | some (.iface t x) => some (.iface t x)
    | _ => none
  | .binOp op t x y _ => match aval C env x, aval C env y with
    | some a, some b => binA C op t x y a b
    | _, _ => none
  | .unOp op _ x => match (aval C env x).bind AV.toV with
    | some a => (pureRun C.P (Op.unary op a)).bind ofV
    | none => none
  | .convert s d x => if nbOf C fid o.dst then none else (aval C env x).bind (convA C s d)
  | .makeInterface t x => match aval C env x, C.und t with
    | _, some (.interface _) | _, none | none, _ => none
    | some x, some _ => some (.iface t x)
  | .makeFunc f a b => match avals C env a.toList, avals C env b.toList with
    | some a, some b => some (.fn f a b)
    | _, _ => none
  | .slice t x lo hi mx => match aval C env x, avals C env lo.toList, avals C env hi.toList, avals C env mx.toList with
    | some x, some lo, some hi, some mx => sliceA C t x lo.head? hi.head? mx.head?
    | _, _, _, _ => none
  | .fieldAddr s x f => (aval C env x).bind fun x => fieldAddrA C s x f
  | .field t x f => match aval C env x, C.und t with
    | some (.agg cs), some (.struct fields) => match fields[f]? with
      | some f => partA C f.type cs f.offset
      | none => none
    | _, _ => none
  | .indexAddr t x ix => match aval C env x, aval C env ix with
    | some x, some i => indexAddrA C t x i
    | _, _ => none
  | .index t x ix => match aval C env x, aval C env ix with
    | some x, some i => indexA C t x i
    | _, _ => none
  | .typeAssert x _ asserted ok => match aval C env x, C.und asserted with
    | _, some (.interface _) | _, none => none
    | some (.iface t x), some _ => if t = asserted then some (if ok then .tup [x, .v (.bool true)] else x) else none
    | _, _ => none
  | .extract x i => match aval C env x with
    | some (.tup xs) => xs[i]?
    | _ => none
  | .call c => match avals C env c.args.toList with
    | none => none
    | some args =>
      match c.callee with
      | .value f => (aval C env f).bind fun f => callPA C call f args
      | .builtin .len => lenA C c.argTypes args
      | .builtin .cap => capA C c.argTypes args
      | .builtin .unsafeSliceData => sdA args
      | .builtin .min => match AV.toVs args with
        | some l => (pureRun C.P (Builtin.min_ c.argTypes o.type l.toArray)).bind ofV
        | none => none
      | .builtin .max => match AV.toVs args with
        | some l => (pureRun C.P (Builtin.max_ c.argTypes o.type l.toArray)).bind ofV
        | none => none
      | _ => none
  | _ => none

def blkAt (H : Hp) (b g : Nat) : Option Blk := match H.blks[b]? with
  | some k => if k.gen = g then some k else none
  | none => none

mutual
/-- What is handed back, the heap being given up. -/
def AV.thaw (H : Hp) : Nat → AV → Option AV
  | 0, _ => none
  | n + 1, x => match x with
    | .v x => some (.v x)
    | .agg xs => (AV.thaws H n xs).map .agg
    | .tup xs => (AV.thaws H n xs).map .tup
    | .ro xs => some (.ro xs)
    | .cl f xs => some (clB f xs)
    | .ap _ xs => some (.ro xs)
    | .rp x j => some (.rp x j)
    | .iface t x => (AV.thaw H n x).map (.iface t)
    | .fn f a b => match AV.thaws H n a, AV.thaws H n b with
      | some a, some b => some (.fn f a b)
      | _, _ => none
    | .ex b g es off len => match blkAt H b g with
      | some k => if off + len ≤ k.xs.length ∧ k.es = es then (AV.thaws H n ((k.xs.drop off).take len)).map .ro else none
      | none => none
    | .ptr b g i j => match (blkAt H b g).bind (·.xs[i]?) with
      | some x => (AV.thaw H n x).map (.rp · j)
      | none => none
    | .mp _ => none
    | .sd _ _ => none
def AV.thaws (H : Hp) : Nat → List AV → Option (List AV)
  | 0, _ => none
  | _ + 1, [] => some []
  | n + 1, x :: xs => match AV.thaw H n x, AV.thaws H n xs with
    | some y, some ys => some (y :: ys)
    | _, _ => none
end

/-- The bytes that lie in a block, as a text. -/
def exStr (s d : TypeId) (x : AV) (H : Hp) : Option AV := match x, C.und s, C.und d with
  | .ex b g es off len, some (.slice e), some .string => if isU8 C e then
      (blkAt H b g).bind fun k => if off + len ≤ k.xs.length ∧ k.es = es ∧ es = 1 then (bytesA ((k.xs.drop off).take len)).map fun l => .v (.string ⟨l.toArray⟩) else none
    else none
  | .ptr b (e + 1) 0 0, some (.pointer t), some .unsafePointer => match blkAt H b (e + 1), C.csz t with
    | some k, some (_ + 1) => if C.tyB e && decide (e < 1000000000 ∧ 0 < k.es ∧ 0 < k.xs.length) then some (.ptr b (e + 1) 0 0) else none
    | _, _ => none
  | .ptr b (e + 1) 0 0, some .unsafePointer, some (.pointer u) => match blkAt H b (e + 1), C.csz u with
    | some k, some _ => if C.tyB e && C.lies e u && decide (e < 1000000000 ∧ C.csz e = some k.es ∧ 0 < k.es ∧ k.xs.length = 1) then some (.ptr b (e + 1) 0 0) else none
    | _, _ => none
  | _, _, _ => none
/-- What does not bear a heap's things. -/
def plainA (x : AV) : Option AV := match x.toV with
  | some _ => some x
  | none => none
/-- A literal's own row and one that may be written do not overlap. -/
def ovlA (args : List AV) (H : Hp) : Option AV := match args with
  | [.cl true (_ :: _), .ex b g (_ + 2) _ (_ + 1)] => (blkAt H b g).map fun _ => .v (.bool false)
  | _ => none
/-- A contract's call, what lies on the heap being read. -/
def callRA (call : FuncId → List AV → Option AV) (f : AV) (args : List AV) (H : Hp) : Option AV := match f with
  | .fn (.func f) first captured => if ((C.prim f).isNone && C.own f && C.ovl f) = true then ovlA (first ++ args ++ captured) H else match AV.bares (first ++ args ++ captured) with
    | some _ => none
    | none => (AV.thaws H 1000 (first ++ args ++ captured)).bind fun xs => match C.prim f with
      | some p => (p xs).bind plainA
      | none => if C.own f then (call f xs).bind plainA else none
  | _ => none
/-- What a map has for a text. -/
def lookM (b : ByteArray) : List (ByteArray × AV) → Option AV
  | [] => none
  | p :: r => if b == p.1 then some p.2 else lookM b r
/-- .. and a map with it. -/
def putM (b : ByteArray) (x : AV) : List (ByteArray × AV) → List (ByteArray × AV)
  | [] => [(b, x)]
  | p :: r => if b == p.1 then (b, x) :: r else p :: putM b x r
def lookA (t : TypeId) (m k : AV) (c : Bool) (H : Hp) : Option AV := match m, k, C.und t with
  | .mp m, .v (.string b), some (.map kt et) => (match C.und kt, H.mps[m]? with
    | some .string, some es => (match lookM b es with
      | some y => some (if c then .tup [y, .v (.bool true)] else y)
      | none => (zeroA C et).map fun z => if c then .tup [z, .v (.bool false)] else z)
    | _, _ => none)
  | _, _, _ => none
/-- Operations that look at the heap. -/
def opR (call : FuncId → List AV → Option AV) (o : Oper) (env : Env) (H : Hp) : Option AV :=
  match o.op with
  | .load t a => match aval C env a with
    | some (.ptr b g i j) => ((blkAt H b g).bind (·.xs[i]?)).bind fun x => partA C t x.cells j
    | _ => none
  | .convert s d x => (aval C env x).bind fun x => exStr C s d x H
  | .lookup t m k c => (aval C env m).bind fun m => (aval C env k).bind fun k => lookA C t m k c H
  | .call c => match c.callee with
    | .value f => (avals C env c.args.toList).bind fun args => (aval C env f).bind fun f => callRA C call f args H
    | _ => none
  | _ => none

def setCells (x : AV) (j : Nat) (ys : List AV) : Option AV :=
  match x with
  | .agg cs => if j + ys.length ≤ cs.length then some (.agg (cs.take j ++ ys ++ cs.drop (j + ys.length))) else none
  | _ => match j, ys with
    | 0, [y] => some y
    | _, _ => none

/-- How much a slice may take. -/
def roomOk (e : TypeId) (n : Nat) : Bool := match C.byt e with
  | some k => n ≤ 9223372036854775807 && n * k ≤ 140737488355328
  | none => false

/-- The elements that 'append' takes. -/
def srcA (e : TypeId) (x : AV) : Option (List AV) := match x with
  | .v (.string b) => if isU8 C e then some (byteAVs b) else none
  | x => elems x
def appendA (e : TypeId) (s x : AV) (H : Hp) : Option (AV × Hp) :=
  match srcA C e x, C.csz e with
  | some [], some (_ + 1) => (match s with
    | .ap t xs => some (.ap t xs, H)
    | .v (.slice none 0 0) => some (s, H)
    | .cl f xs => some (.cl f xs, H)
    | .ro xs => some (.ro xs, H)
    | _ => none)
  | some (y :: ys), some (k + 1) => if y.cells.length ≠ k + 1 then none else (match s with
    | .ap t xs => if H.toks[t]? = some (xs.length, e) ∧ szOk xs (k + 1) ∧ roomOk C e (xs.length + (y :: ys).length) then some (.ap t (xs ++ (y :: ys)), { H with toks := H.toks.set t (xs.length + (y :: ys).length, e) }) else none
    | .v (.slice none 0 0) => if roomOk C e (y :: ys).length then some (.ap H.toks.length (y :: ys), { H with toks := H.toks ++ [((y :: ys).length, e)] }) else none
    | .cl _ xs => if szOk xs (k + 1) ∧ roomOk C e (xs.length + (y :: ys).length) then some (.ap H.toks.length (xs ++ (y :: ys)), { H with toks := H.toks ++ [(xs.length + (y :: ys).length, e)] }) else none
    | _ => none)
  | _, _ => none

/-- What is appended to nothing makes a row of its own, which may be written; such a row may grow: whatever was known of it by its old mark is forgotten. -/
def appendX (e : TypeId) (s x : AV) (H : Hp) : Option (AV × Hp) :=
  match elems x, C.csz e with
  | some [], some (_ + 1) => (match s with
    | .v (.slice none 0 0) => some (s, H)
    | .cl f [] => some (.cl f [], H)
    | .ex b g es off n => some (.ex b g es off n, H)
    | _ => none)
  | some (y :: ys), some (k + 1) => if y.cells.length = k + 1 ∧ roomOk C e (y :: ys).length then (match s with
    | .v (.slice none 0 0) | .cl _ [] => some (.ex H.blks.length 0 (k + 1) 0 (y :: ys).length, { H with blks := H.blks ++ [⟨0, k + 1, y :: ys⟩] })
    | .ex b g es 0 n => (match blkAt H b g with
      | some bl => if es = k + 1 ∧ bl.es = k + 1 ∧ bl.xs.length = n ∧ roomOk C e (n + (y :: ys).length) then some (.ex b (nextG g) (k + 1) 0 (n + (y :: ys).length), { H with blks := H.blks.set b ⟨nextG g, k + 1, bl.xs ++ y :: ys⟩ })
        else if es = k + 1 ∧ bl.es = k + 1 ∧ n < bl.xs.length ∧ roomOk C e (n + (y :: ys).length) then some (.ex b (nextG g) (k + 1) 0 (n + (y :: ys).length), { H with blks := H.blks.set b ⟨nextG g, k + 1, bl.xs.take n ++ y :: ys⟩ }) else none
      | none => none)
    | _ => none) else none
  | _, _ => none
/-- 'append' of so many zero values to a row that has not so much room. -/
def appMk (e : TypeId) (s x : AV) (H : Hp) : Option (AV × Hp) := match s, x, zeroA C e, C.csz e with
  | .ex b g es 0 n, .v (.int .i64 k), some z, some (j + 1) => (match blkAt H b g, exCap g with
    | some bl, some m => if es = j + 1 ∧ bl.es = es ∧ n ≤ bl.xs.length ∧ 0 ≤ k ∧ m < n + k.toNat ∧ z.cells.length = es ∧ z.cells.all AV.flat ∧ roomOk C e (n + k.toNat) then
        some (.ex H.blks.length 0 es 0 (n + k.toNat), { H with blks := H.blks ++ [⟨0, es, bl.xs.take n ++ List.replicate k.toNat z⟩] }) else none
    | _, _ => none)
  | _, _, _, _ => none
/-- The first elements of a slice, n at most. -/
def segA (es : Nat) (y : AV) (n : Nat) (H : Hp) : Option (List AV) := match y with
  | .ex b g es' off len => (blkAt H b g).bind fun k => if off + min n len ≤ k.xs.length ∧ k.es = es' ∧ es' = es then some ((k.xs.drop off).take (min n len)) else none
  | y => (elems y).bind fun xs => if szOk xs es then some (xs.take n) else none
/-- 'copy' to a row that may be written. -/
def copyA (ts : Array TypeId) (args : List AV) (H : Hp) : Option (AV × Hp) := match args, (ts[0]?).bind (elemT C) with
  | [.ex b g es off len, y], some e => (match blkAt H b g, segA es y len H with
    | some k, some ys => if off ≤ k.xs.length ∧ k.es = es ∧ C.csz e = some es then some (.v (.int .i64 (ys.length : Int)), { H with blks := H.blks.set b { k with xs := k.xs.take off ++ ys ++ k.xs.drop (off + ys.length) } }) else none
    | _, _ => none)
  | _, _ => none
/-- The mark of a block that knows its type. -/
def genOf (e : TypeId) : Nat := if C.tyB e then e + 1 else 0
/-- No type: a row that may not be written any more. -/
def deadT : TypeId := 1000000000
/-- All bytes of a row, as a text: the row is frozen. -/
def unsafeStrA (ts : Array TypeId) (t : Nat) (xs : List AV) (n : Int) (H : Hp) : Option (AV × Hp) :=
  match H.toks[t]?, bytesS xs, (ts[0]?).bind C.und with
  | some (e, tid), some l, some (.pointer u) => if ts.size = 2 ∧ e = xs.length ∧ n = (xs.length : Int) ∧ xs ≠ [] ∧ tid = u ∧ isU8 C u = true ∧ C.csz u = some 1 ∧ C.csz deadT = none ∧ xs.length ≤ 9223372036854775807 then
      some (.v (.string ⟨l.toArray⟩), { H with toks := H.toks.set t (e, deadT) }) else none
  | _, _, _ => none
def usA (ts : Array TypeId) (args : List AV) (H : Hp) : Option (AV × Hp) := match args with
  | [.sd t xs, .v (.int .i64 n)] => unsafeStrA C ts t xs n H
  | _ => none
/-- Elements that are cleared. -/
def clearA (ts : Array TypeId) (args : List AV) (H : Hp) : Option (AV × Hp) := match args, ts[0]? with
  | [y], some t => (match y, elemT C t with
    | .ex b g es off len, some e => (match blkAt H b g, zeroA C e, C.csz e with
      | some k, some z, some _ => if off + len ≤ k.xs.length ∧ k.es = es ∧ z.cells.length = es ∧ z.cells.all AV.flat then
          some (.tup [], { H with blks := H.blks.set b { k with xs := k.xs.take off ++ List.replicate len z ++ k.xs.drop (off + len) } }) else none
      | _, _, _ => none)
    | .ro [], some _ => some (.tup [], H)
    | _, _ => none)
  | _, _ => none
def mapUpdA (t : TypeId) (m k x : AV) (H : Hp) : Option (AV × Hp) := match m, k, C.und t with
  | .mp m, .v (.string b), some (.map kt _) => (match C.und kt, H.mps[m]? with
    | some .string, some es => some (.undef, { H with mps := H.mps.set m (putM b x es) })
    | _, _ => none)
  | _, _, _ => none
/-- Operations that turn the heap. -/
def opW (call : FuncId → List AV → Hp → Option (AV × Hp)) (fid : FuncId) (o : Oper) (env : Env) (H : Hp) : Option (AV × Hp) :=
  match o.op with
  | .alloc e => (zeroA C e).bind fun z => if z.cells.all AV.flat then some (.ptr H.blks.length (genOf C e) 0 0, { H with blks := H.blks ++ [⟨genOf C e, z.cells.length, [z]⟩] }) else none
  | .box e x => (aval C env x).bind fun x => if x.cells.all AV.flat then some (.ptr H.blks.length (genOf C e) 0 0, { H with blks := H.blks ++ [⟨genOf C e, x.cells.length, [x]⟩] }) else none
  | .store t a x => match aval C env a, aval C env x with
    | some (.ptr b g i j), some x => match blkAt H b g with
      | some k => match k.xs[i]? with
        | some y => if some x.cells.length = C.csz t ∧ x.cells.all AV.flat then (setCells y j x.cells).map fun y => (.undef, { H with blks := H.blks.set b { k with xs := k.xs.set i y } }) else none
        | none => none
      | none => none
    | _, _ => none
  | .convert s d x => match aval C env x, C.und s, C.und d with
    | some (.v (.string b)), some .string, some (.slice e) => if isU8 C e then some (.ex H.blks.length 0 1 0 b.size, { H with blks := H.blks ++ [⟨0, 1, byteAVs b⟩] }) else none
    | _, _, _ => none
  | .makeSlice t l c => match elemT C t, (aval C env l).bind idx, (aval C env c).bind idx with
    | some e, some l, some c => match zeroA C e, C.csz e with
      | some z, some n => if l = c ∧ roomOk C e c ∧ z.cells.length = n ∧ 0 < n ∧ z.cells.all AV.flat then some (.ex H.blks.length 0 n 0 l, { H with blks := H.blks ++ [⟨0, n, List.replicate l z⟩] }) else none
      | _, _ => none
    | _, _, _ => none
  | .makeMap _ none => some (.mp H.mps.length, { H with mps := H.mps ++ [[]] })
  | .mapUpdate t m k x => (aval C env m).bind fun m => (aval C env k).bind fun k => (aval C env x).bind fun x => mapUpdA C t m k x H
  | .call c => match avals C env c.args.toList with
    | none => none
    | some args =>
      match c.callee with
      | .value f => match aval C env f with
        | some (.fn (.func f) first captured) => if (C.prim f).isSome || C.own f then none else call f (first ++ args ++ captured) H
        | _ => none
      | .invoke r name => match aval C env r with
        | some (.iface t x) => (match C.meth t name with
          | some (f, none) => if (C.prim f).isSome || C.own f then none else call f (x :: args) H
          | some (f, some e) => if (C.prim f).isSome || C.own f then none else (match x with
            | .ptr b g i j => (((blkAt H b g).bind (·.xs[i]?)).bind fun y => partA C e y.cells j).bind fun y => call f (y :: args) H
            | _ => none)
          | none => none)
        | _ => none
      | .builtin .append => match args, (c.argTypes[0]?).bind (elemT C), (c.argTypes[1]?).bind C.und with
        | [s, x], some e, some (.slice _) | [s, x], some e, some .string => match zeroA C e, C.csz e with
          | some z, some n => if z.cells.length = n then (if nbOf C fid o.dst then appendX C e s x H else appendA C e s x H) else none
          | _, _ => none
        | [s, x], some e, some (.int .i64) => if nbOf C fid o.dst then appMk C e s x H else none
        | _, _, _ => none
      | .builtin .unsafeString => usA C c.argTypes args H
      | .builtin .clear => clearA C c.argTypes args H
      | .builtin .copy => copyA C c.argTypes args H
      | _ => none
  | _ => none

/-- A function that runs on a heap of its own. -/
def ownCall (call : FuncId → List AV → Hp → Option (AV × Hp)) (f : FuncId) (xs : List AV) : Option AV := match call f xs {} with
  | some (r, H) => r.thaw H 1000
  | none => none

/-- What an operation that turns the heap turns: 3: what may be appended to, alone. -/
def kindW (fid : FuncId) (o : Oper) : Nat := match o.op with
  | .call c => (match c.callee with
    | .builtin .append => if nbOf C fid o.dst then 2 else 3
    | _ => 2)
  | .alloc _ => 4
  | _ => 2
/-- One operation: 0: it looks at nothing; 1: it looks at the heap's blocks; 2: it turns it; 3: it turns what may be appended to; 4: it lays one more block. -/
def opA (call : FuncId → List AV → Hp → Option (AV × Hp)) (fid : FuncId) (o : Oper) (env : Env) (H : Hp) : Option (AV × Hp × Nat) :=
  match opP C (ownCall call) fid o env with
  | some x => some (x, H, 0)
  | none => match opR C (ownCall call) o env H with
    | some x => some (x, H, 1)
    | none => match opW C call fid o env H with
      | some (x, H) => some (x, H, kindW C fid o)
      | none => none

def yieldA (ops : Array Oper) (env : Env) (j : Nat) : Option Bool :=
  match (ops[j]?).bind (·.dst) with
  | some d => match aget env d with | .v (.bool b) => some b | _ => none
  | none => none

def wantedA (ops : Array Oper) (o : Oper) (env : Env) : Bool :=
  match o.guard with
  | none => true
  | some (j, want) => yieldA ops env j == some want

def opsA (call : FuncId → List AV → Hp → Option (AV × Hp)) (fid : FuncId) (ops : Array Oper) : List Oper → Env → Hp → List Nat → Option (Env × Hp × List Nat)
  | [], env, H, ks => some (env, H, ks)
  | o :: rest, env, H, ks =>
    if wantedA ops o env then
      match opA C call fid o env H with
      | some (x, H', k) => opsA call fid ops rest (aput env o.dst x) H' (ks ++ [k])
      | none => none
    else opsA call fid ops rest (aput env o.dst .undef) H (ks ++ [0])

/-- May two operations not change places? -/
def clash (a b : Nat) : Bool := !(a == 0 || b == 0 || (a == 1 && b == 1) || (a == 1 && b == 3) || (a == 3 && b == 1) || (a == 1 && b == 4))
/-- Whatever turns the heap is ordered among what looks at it. -/
def ordered (ops : Array Oper) (ks : List Nat) : Bool :=
  (List.range ks.length).all fun j => ks.getD j 0 == 0 || (List.range j).all fun i => !clash (ks.getD i 0) (ks.getD j 0) || ((Region.before ops).getD j 0).testBit i

inductive Xit where
  | normal | ret | exit (id : Nat)
  deriving DecidableEq

def exec (fid : FuncId) (call : FuncId → List AV → Hp → Option (AV × Hp)) : Nat → Code → Env → Hp → Option (Xit × Env × Hp)
  | 0, _, _, _ => none
  | n + 1, c, env, H =>
    match c with
    | .skip => some (.normal, env, H)
    | .region _ ops draw => match opsA C call fid ops ops.toList env H [] with
      | some (env, H, ks) => if !draw || ordered ops ks then some (.normal, env, H) else none
      | none => none
    | .seq a b => match exec fid call n a env H with
      | some (.normal, env, H) => exec fid call n b env H
      | r => r
    | .cond x a b => match aval C env x with
      | some (.v (.bool t)) => exec fid call n (if t then a else b) env H
      | _ => none
    | .block id b => match exec fid call n b env H with
      | some (.exit i, env, H) => some (if i = id then .normal else .exit i, env, H)
      | r => r
    | .loop b => match exec fid call n b env H with
      | some (.normal, env, H) => exec fid call n (.loop b) env H
      | r => r
    | .exit i => some (.exit i, env, H)
    | .ret => some (.ret, env, H)
    | _ => none

def resA1 (env : Env) (H : Hp) : ResultVar → Option AV
  | .tmp t => some (aget env t)
  | .cell a t => match aget env a with
    | .rp x j => partA C t x.cells j
    | .ptr b g i j => ((blkAt H b g).bind (·.xs[i]?)).bind fun x => partA C t x.cells j
    | _ => none
def resA (env : Env) (H : Hp) : List ResultVar → Option (List AV)
  | [] => some []
  | r :: rs => match resA1 C env H r, resA env H rs with
    | some x, some xs => some (x :: xs)
    | _, _ => none

/-- One result, or several. -/
def resVal : List AV → AV
  | [x] => x
  | xs => .tup xs

/-- A call, at most n deep. -/
def callA : Nat → FuncId → List AV → Hp → Option (AV × Hp)
  | 0, _, _, _ => none
  | n + 1, f, args, H =>
    match C.fns f with
    | none => none
    | some fn => match fn.body with
      | none => none
      | some body =>
        match exec C f (callA n) n body (args ++ List.replicate (fn.ntmps - args.length) .undef) H with
        | some (.normal, env, H) | some (.ret, env, H) =>
          match resA C env H fn.results.toList with
          | some xs => some (resVal xs, H)
          | none => none
        | _ => none
end CFG
end
end Go.AM

namespace Go.AM
structure Gh where
  base : Nat
  im : Nat → Nat → Option Value
  lit : Nat → Prop
  tok : Nat → Nat → Option Value
  blk : Nat → Nat → Option (Nat × Nat × Nat × Nat)
  mp : Nat → Option Nat

/-- These cells are laid for good. -/
def ImAt (G : Gh) (b o : Nat) (vs : List Value) : Prop := ∀ j v, vs[j]? = some v → G.im b (o + j) = some v ∧ v.oneCell' = true


mutual
/-- Nothing of a heap within. -/
def Bare : AV → Prop
  | .v _ => True
  | .agg xs => Bares xs
  | .tup xs => Bares xs
  | .ro xs => Bares xs
  | .cl _ xs => Bares xs
  | .ap _ _ => False
  | .ex _ _ _ _ _ => False
  | .rp x _ => Bare x
  | .ptr _ _ _ _ => False
  | .mp _ => False
  | .sd _ _ => False
  | .fn _ a b => Bares a ∧ Bares b
  | .iface _ x => Bare x
def Bares : List AV → Prop
  | [] => True
  | x :: xs => Bare x ∧ Bares xs
end
mutual
def VRel (G : Gh) : AV → Value → Prop
  | .v x, y => y = x ∧ Value.plain x = true
  | .agg xs, y => ∃ ys, y = .agg ys ∧ VRels G xs ys.toList
  | .tup xs, y => ∃ ys, y = .tuple ys ∧ VRels G xs ys.toList
  | .ro xs, y => Bares xs ∧ ∃ a c, y = .slice a xs.length c ∧ xs.length ≤ c ∧ ((xs = [] ∧ a.isSome = true) ∨ ∃ b o es, a = some ⟨b, o, none⟩ ∧ 0 < es ∧ Elems G es b o xs)
  | .cl f xs, y => Bares xs ∧ ∃ a, y = .slice a xs.length xs.length ∧ (f = true → ∃ b, a = some ⟨b, 0, none⟩ ∧ G.lit b) ∧ (xs = [] ∨ ∃ b o es, a = some ⟨b, o, none⟩ ∧ 0 < es ∧ Elems G es b o xs)
  | .ap t xs, y => Bares xs ∧ G.tok t xs.length = some y ∧ ∃ a c, y = .slice a xs.length c ∧ xs.length ≤ c ∧ ((xs = [] ∧ a.isSome = true) ∨ ∃ b es, a = some ⟨b, 0, none⟩ ∧ 0 < es ∧ Elems G es b 0 xs)
  | .ex b g es off len, y => ∃ B o sz c, G.blk b g = some (B, o, sz, es) ∧ 0 < es ∧ y = .slice (some ⟨B, o + off * es, none⟩) len c ∧ len ≤ c ∧ o + (off + c) * es ≤ sz ∧ (1 < es → off + c ≤ 9223372036854775807) ∧ ∀ m, exCap g = some m → off + c = m
  | .rp x j, y => Bare x ∧ ∃ b o z, y = .pointer (some ⟨b, o + j, none⟩) ∧ VRel G x z ∧ ImAt G b o z.cells.toList
  | .ptr b g i j, y => ∃ B o sz es, G.blk b g = some (B, o, sz, es) ∧ y = .pointer (some ⟨B, o + i * es + j, none⟩)
  | .mp m, y => ∃ R, G.mp m = some R ∧ y = .map (some R)
  | .sd t xs, y => Bares xs ∧ ∃ b c es, G.tok t xs.length = some (.slice (some ⟨b, 0, none⟩) xs.length c) ∧ y = .pointer (some ⟨b, 0, none⟩) ∧ 0 < es ∧ Elems G es b 0 xs
  | .fn f a b, y => ∃ a' b', y = .func f a' b' ∧ VRels G a a'.toList ∧ VRels G b b'.toList
  | .iface t x, y => ∃ z, y = .iface t z ∧ VRel G x z
def VRels (G : Gh) : List AV → List Value → Prop
  | [], ys => ys = []
  | x :: xs, ys => ∃ z zs, ys = z :: zs ∧ VRel G x z ∧ VRels G xs zs
def Elems (G : Gh) (es b : Nat) : Nat → List AV → Prop
  | _, [] => True
  | o, x :: xs => (∃ z, VRel G x z ∧ z.cells.size = es ∧ ImAt G b o z.cells.toList) ∧ Elems G es b (o + es) xs
end


structure Gle (G G' : Gh) : Prop where
  base : G'.base = G.base
  im : ∀ b o v, G.im b o = some v → G'.im b o = some v
  lit : ∀ b, G.lit b → G'.lit b
  tok : ∀ t e v, G.tok t e = some v → G'.tok t e = some v
  blk : ∀ b g v, G.blk b g = some v → G'.blk b g = some v
  mp : ∀ m R, G.mp m = some R → G'.mp m = some R
theorem Gle.refl (G : Gh) : Gle G G := ⟨rfl, fun _ _ _ h => h, fun _ h => h, fun _ _ _ h => h, fun _ _ _ h => h, fun _ _ h => h⟩
theorem Gle.trans {G G' G'' : Gh} (h : Gle G G') (k : Gle G' G'') : Gle G G'' :=
  ⟨k.base.trans h.base, fun _ _ _ x => k.im _ _ _ (h.im _ _ _ x), fun _ x => k.lit _ (h.lit _ x), fun _ _ _ x => k.tok _ _ _ (h.tok _ _ _ x), fun _ _ _ x => k.blk _ _ _ (h.blk _ _ _ x), fun _ _ x => k.mp _ _ (h.mp _ _ x)⟩
theorem ImAt.mono {G G' : Gh} (h : Gle G G') {b o : Nat} {vs : List Value} (k : ImAt G b o vs) : ImAt G' b o vs := fun j v hj => ⟨h.im _ _ _ (k j v hj).1, (k j v hj).2⟩

mutual
theorem VRel.mono {G G' : Gh} (h : Gle G G') : ∀ (x : AV) (y : Value), VRel G x y → VRel G' x y
  | .v _, _, hh => hh
  | .agg xs, _, ⟨ys, e, r⟩ => ⟨ys, e, VRels.mono h xs _ r⟩
  | .tup xs, _, ⟨ys, e, r⟩ => ⟨ys, e, VRels.mono h xs _ r⟩
  | .ro xs, _, ⟨hb, a, c, e, l, r⟩ => ⟨hb, a, c, e, l, r.imp id fun ⟨b, o, es, ha, hs, hE⟩ => ⟨b, o, es, ha, hs, Elems.mono h es b xs o hE⟩⟩
  | .cl _ xs, _, ⟨hb, a, e, l, r⟩ => ⟨hb, a, e, fun hf => let ⟨b, ha, hl⟩ := l hf; ⟨b, ha, h.lit _ hl⟩, r.imp id fun ⟨b, o, es, ha, hs, hE⟩ => ⟨b, o, es, ha, hs, Elems.mono h es b xs o hE⟩⟩
  | .ap _ xs, _, ⟨hb, t, a, c, e, l, r⟩ => ⟨hb, h.tok _ _ _ t, a, c, e, l, r.imp id fun ⟨b, es, ha, hs, hE⟩ => ⟨b, es, ha, hs, Elems.mono h es b xs 0 hE⟩⟩
  | .ex _ _ _ _ _, _, ⟨B, o, sz, c, hb, hs, e, l⟩ => ⟨B, o, sz, c, h.blk _ _ _ hb, hs, e, l⟩
  | .rp x _, _, ⟨hb, b, o, z, e, r, i⟩ => ⟨hb, b, o, z, e, VRel.mono h x z r, i.mono h⟩
  | .ptr _ _ _ _, _, ⟨B, o, sz, es, hb, e⟩ => ⟨B, o, sz, es, h.blk _ _ _ hb, e⟩
  | .mp _, _, ⟨R, h1, e⟩ => ⟨R, h.mp _ _ h1, e⟩
  | .sd _ xs, _, ⟨hb, b, c, es, ht, e, h0, hE⟩ => ⟨hb, b, c, es, h.tok _ _ _ ht, e, h0, Elems.mono h es b xs 0 hE⟩
  | .fn _ a b, _, ⟨a', b', e, ra, rb⟩ => ⟨a', b', e, VRels.mono h a _ ra, VRels.mono h b _ rb⟩
  | .iface _ x, _, ⟨z, e, r⟩ => ⟨z, e, VRel.mono h x z r⟩
theorem VRels.mono {G G' : Gh} (h : Gle G G') : ∀ (xs : List AV) (ys : List Value), VRels G xs ys → VRels G' xs ys
  | [], _, hh => hh
  | x :: xs, _, ⟨z, zs, e, r, rs⟩ => ⟨z, zs, e, VRel.mono h x z r, VRels.mono h xs zs rs⟩
theorem Elems.mono {G G' : Gh} (h : Gle G G') (es b : Nat) : ∀ (xs : List AV) (o : Nat), Elems G es b o xs → Elems G' es b o xs
  | [], _, _ => trivial
  | x :: xs, o, ⟨⟨z, r, k, i⟩, rest⟩ => ⟨⟨z, VRel.mono h x z r, k, i.mono h⟩, Elems.mono h es b xs (o + es) rest⟩
end

variable {G : Gh}
theorem VRels.length : ∀ {xs : List AV} {ys : List Value}, VRels G xs ys → ys.length = xs.length
  | [], _, rfl => rfl
  | _ :: _, _, ⟨_, _, rfl, _, rs⟩ => by simp [VRels.length rs]
theorem VRels.get : ∀ {xs : List AV} {ys : List Value}, VRels G xs ys → ∀ {i : Nat} {x : AV}, xs[i]? = some x → ∃ y, ys[i]? = some y ∧ VRel G x y
  | [], _, _, _, _, h => by simp at h
  | _ :: _, _, ⟨z, _, rfl, r, _⟩, 0, _, h => by simp at h; subst h; exact ⟨z, by simp, r⟩
  | _ :: _, _, ⟨_, _, rfl, _, rs⟩, i + 1, _, h => by
    obtain ⟨y, hy, r⟩ := VRels.get rs (i := i) (by simpa using h)
    exact ⟨y, by simpa using hy, r⟩
theorem VRels.append : ∀ {xs : List AV} {ys : List Value} {xs' : List AV} {ys' : List Value}, VRels G xs ys → VRels G xs' ys' → VRels G (xs ++ xs') (ys ++ ys')
  | [], _, _, _, rfl, h => h
  | _ :: _, _, _, _, ⟨z, zs, rfl, r, rs⟩, h => ⟨z, zs ++ _, rfl, r, VRels.append rs h⟩
theorem VRels.take : ∀ (n : Nat) {xs : List AV} {ys : List Value}, VRels G xs ys → VRels G (xs.take n) (ys.take n)
  | 0, _, _, _ => by simp [VRels]
  | _ + 1, [], _, rfl => by simp [VRels]
  | n + 1, _ :: _, _, ⟨z, zs, rfl, r, rs⟩ => ⟨z, zs.take n, rfl, r, VRels.take n rs⟩
theorem VRels.drop : ∀ (n : Nat) {xs : List AV} {ys : List Value}, VRels G xs ys → VRels G (xs.drop n) (ys.drop n)
  | 0, _, _, h => h
  | _ + 1, [], _, rfl => by simp [VRels]
  | n + 1, _ :: _, _, ⟨_, zs, rfl, _, rs⟩ => VRels.drop n (ys := zs) rs
theorem VRels.set : ∀ {xs : List AV} {ys : List Value}, VRels G xs ys → ∀ (i : Nat) {x : AV} {y : Value}, VRel G x y → VRels G (xs.set i x) (ys.set i y)
  | [], _, rfl, _, _, _, _ => by simp [VRels]
  | _ :: _, _, ⟨_, zs, rfl, _, rs⟩, 0, _, y, h => ⟨y, zs, rfl, h, rs⟩
  | _ :: _, _, ⟨z, zs, rfl, r, rs⟩, i + 1, _, y, h => ⟨z, zs.set i y, rfl, r, VRels.set rs i h⟩
theorem VRels.replicate {x : AV} {y : Value} (h : VRel G x y) : ∀ n, VRels G (List.replicate n x) (List.replicate n y)
  | 0 => by simp [VRels]
  | n + 1 => ⟨y, List.replicate n y, by simp [List.replicate_succ], h, VRels.replicate h n⟩
theorem VRels.one {x : AV} {y : Value} (h : VRel G x y) : VRels G [x] [y] := ⟨y, [], rfl, h, rfl⟩

theorem plain_of_not_agg {x : Value} (h : Value.plain x = true) : x.cells = #[x] := by
  cases x <;> first | rfl | simp [Value.plain] at h

/-- A value's cells. -/
theorem VRel.cells : ∀ {x : AV} {y : Value}, VRel G x y → VRels G x.cells y.cells.toList
  | .v x, _, ⟨rfl, hp⟩ => by rw [plain_of_not_agg hp]; exact VRels.one ⟨rfl, hp⟩
  | .agg _, _, ⟨_, rfl, r⟩ => r
  | .tup xs, _, ⟨ys, rfl, r⟩ => VRels.one ⟨ys, rfl, r⟩
  | .ro xs, _, ⟨hb, a, c, rfl, r⟩ => VRels.one ⟨hb, a, c, rfl, r⟩
  | .cl _ xs, _, ⟨hb, a, rfl, r⟩ => VRels.one ⟨hb, a, rfl, r⟩
  | .ap t xs, y, h => by
    have h' := h
    obtain ⟨_, ht, a, c, e, r⟩ := h
    subst e
    exact VRels.one h'
  | .ex _ _ _ _ _, _, ⟨B, o, sz, c, hb, hs, rfl, l⟩ => VRels.one ⟨B, o, sz, c, hb, hs, rfl, l⟩
  | .rp x _, _, ⟨hb, b, o, z, rfl, r, i⟩ => VRels.one ⟨hb, b, o, z, rfl, r, i⟩
  | .ptr _ _ _ _, _, ⟨B, o, sz, es, hb, rfl⟩ => VRels.one ⟨B, o, sz, es, hb, rfl⟩
  | .mp _, _, ⟨R, h1, rfl⟩ => VRels.one ⟨R, h1, rfl⟩
  | .sd _ xs, _, ⟨hb, b, c, es, ht, e, h0, hE⟩ => by subst e; exact VRels.one ⟨hb, b, c, es, ht, rfl, h0, hE⟩
  | .fn _ a b, _, ⟨a', b', rfl, ra, rb⟩ => VRels.one ⟨a', b', rfl, ra, rb⟩
  | .iface _ x, _, ⟨z, rfl, r⟩ => VRels.one ⟨z, rfl, r⟩
theorem VRel.flat : ∀ {x : AV} {y : Value}, VRel G x y → x.flat = true → y.oneCell' = true
  | .v x, _, ⟨rfl, _⟩, h => h
  | .ro xs, _, ⟨_, a, c, rfl, r⟩, _ => rfl
  | .cl _ xs, _, ⟨_, a, rfl, r⟩, _ => rfl
  | .ap _ xs, _, h, _ => by
    obtain ⟨_, ht, a, c, e, r⟩ := h
    subst e
    rfl
  | .ex _ _ _ _ _, _, ⟨B, o, sz, c, hb, hs, rfl, l⟩, _ => rfl
  | .rp x _, _, ⟨_, b, o, z, rfl, r, i⟩, _ => rfl
  | .ptr _ _ _ _, _, ⟨B, o, sz, es, hb, rfl⟩, _ => rfl
  | .mp _, _, ⟨R, h1, rfl⟩, _ => rfl
  | .sd _ xs, _, ⟨hb, b, c, es, ht, e, h0, hE⟩, _ => by subst e; rfl
  | .fn _ a b, _, ⟨a', b', rfl, ra, rb⟩, _ => rfl
  | .iface _ x, _, ⟨z, rfl, r⟩, _ => rfl
theorem VRels.flat : ∀ {xs : List AV} {ys : List Value}, VRels G xs ys → xs.all AV.flat = true → ∀ y ∈ ys, y.oneCell' = true
  | [], _, rfl, _, _, h => by simp at h
  | x :: xs, _, ⟨z, zs, rfl, r, rs⟩, h, y, hy => by
    simp only [List.all_cons, Bool.and_eq_true] at h
    rcases List.mem_cons.1 hy with rfl | hy
    · exact r.flat h.1
    · exact VRels.flat rs h.2 y hy

mutual
theorem toV_rel : ∀ (x : AV) (y : Value), x.toV = some y → VRel G x y
  | .v x, y, h => by
    simp only [AV.toV] at h
    split at h
    · rename_i hp; injection h with h; exact ⟨h.symm, hp⟩
    · cases h
  | .agg xs, y, h => by
    simp only [AV.toV, Option.map_eq_some_iff] at h
    obtain ⟨l, hl, rfl⟩ := h
    exact ⟨_, rfl, toVs_rel xs l hl⟩
  | .tup xs, y, h => by
    simp only [AV.toV, Option.map_eq_some_iff] at h
    obtain ⟨l, hl, rfl⟩ := h
    exact ⟨_, rfl, toVs_rel xs l hl⟩
  | .iface t x, y, h => by
    simp only [AV.toV, Option.map_eq_some_iff] at h
    obtain ⟨z, hz, rfl⟩ := h
    exact ⟨z, rfl, toV_rel x z hz⟩
  | .ro _, _, h => by simp [AV.toV] at h
  | .cl _ _, _, h => by simp [AV.toV] at h
  | .ap _ _, _, h => by simp [AV.toV] at h
  | .ex _ _ _ _ _, _, h => by simp [AV.toV] at h
  | .rp _ _, _, h => by simp [AV.toV] at h
  | .ptr _ _ _ _, _, h => by simp [AV.toV] at h
  | .mp _, _, h => by simp [AV.toV] at h
  | .sd _ _, _, h => by simp [AV.toV] at h
  | .fn _ _ _, _, h => by simp [AV.toV] at h
theorem toVs_rel : ∀ (xs : List AV) (ys : List Value), AV.toVs xs = some ys → VRels G xs ys
  | [], ys, h => by simp only [AV.toVs, Option.some.injEq] at h; exact h.symm
  | x :: xs, ys, h => by
    simp only [AV.toVs] at h
    split at h
    · rename_i y' ys' h1 h2; injection h with h; subst h; exact ⟨y', ys', rfl, toV_rel x y' h1, toVs_rel xs ys' h2⟩
    · cases h
end
mutual
theorem toV_eq : ∀ (x : AV) (y z : Value), x.toV = some y → VRel G x z → z = y
  | .v x, y, z, h, ⟨e, _⟩ => by
    simp only [AV.toV] at h
    split at h
    · injection h with h; exact e.trans h
    · rename_i hp hn; exact absurd hp hn
  | .agg xs, y, z, h, ⟨ys, e, r⟩ => by
    simp only [AV.toV, Option.map_eq_some_iff] at h
    obtain ⟨l, hl, rfl⟩ := h
    have := toVs_eq xs l _ hl r
    subst e; subst this; rfl
  | .tup xs, y, z, h, ⟨ys, e, r⟩ => by
    simp only [AV.toV, Option.map_eq_some_iff] at h
    obtain ⟨l, hl, rfl⟩ := h
    have := toVs_eq xs l _ hl r
    subst e; subst this; rfl
  | .iface t x, y, z, h, ⟨w, e, r⟩ => by
    simp only [AV.toV, Option.map_eq_some_iff] at h
    obtain ⟨u, hu, rfl⟩ := h
    subst e; rw [toV_eq x u w hu r]
  | .ro _, _, _, h, _ => by simp [AV.toV] at h
  | .cl _ _, _, _, h, _ => by simp [AV.toV] at h
  | .ap _ _, _, _, h, _ => by simp [AV.toV] at h
  | .ex _ _ _ _ _, _, _, h, _ => by simp [AV.toV] at h
  | .rp _ _, _, _, h, _ => by simp [AV.toV] at h
  | .ptr _ _ _ _, _, _, h, _ => by simp [AV.toV] at h
  | .mp _, _, _, h, _ => by simp [AV.toV] at h
  | .sd _ _, _, _, h, _ => by simp [AV.toV] at h
  | .fn _ _ _, _, _, h, _ => by simp [AV.toV] at h
theorem toVs_eq : ∀ (xs : List AV) (ys zs : List Value), AV.toVs xs = some ys → VRels G xs zs → zs = ys
  | [], ys, zs, h, e => by simp only [AV.toVs, Option.some.injEq] at h; exact Eq.trans e h
  | x :: xs, ys, zs, h, ⟨z, zs', e, r, rs⟩ => by
    simp only [AV.toVs] at h
    split at h
    · rename_i y' ys' h1 h2; injection h with h; subst h; subst e; rw [toV_eq x y' z h1 r, toVs_eq xs ys' zs' h2 rs]
    · cases h
end
theorem plains_rel : ∀ (xs : List Value), xs.all Value.plain = true → VRels G (xs.map .v) xs
  | [], _ => rfl
  | x :: xs, h => by
    simp only [List.all_cons, Bool.and_eq_true] at h
    exact ⟨x, xs, rfl, ⟨rfl, h.1⟩, plains_rel xs h.2⟩
theorem ofV_rel {y : Value} {x : AV} (h : ofV y = some x) : VRel G x y := by
  unfold ofV at h
  split at h
  · rename_i cs
    split at h
    · rename_i hp; injection h with h; subst h; exact ⟨cs, rfl, plains_rel _ hp⟩
    · cases h
  · injection h with h; subst h
    refine ⟨rfl, ?_⟩
    rename_i hn
    cases y <;> first | rfl | exact absurd rfl (hn _)

theorem Elems.get (es b : Nat) : ∀ {xs : List AV} {o : Nat}, Elems G es b o xs → ∀ {i : Nat} {x : AV}, xs[i]? = some x → ∃ z, VRel G x z ∧ z.cells.size = es ∧ ImAt G b (o + i * es) z.cells.toList
  | [], _, _, _, _, h => by simp at h
  | _ :: _, o, ⟨hz, _⟩, 0, _, h => by simp at h; subst h; simpa using hz
  | _ :: _, o, ⟨_, rest⟩, i + 1, _, h => by
    obtain ⟨z, r, k, im⟩ := Elems.get es b rest (i := i) (by simpa using h)
    exact ⟨z, r, k, by have e : o + (i + 1) * es = o + es + i * es := by rw [Nat.succ_mul]; omega
                       rw [e]; exact im⟩
theorem Elems.append (es b : Nat) : ∀ {xs ys : List AV} {o : Nat}, Elems G es b o xs → Elems G es b (o + xs.length * es) ys → Elems G es b o (xs ++ ys)
  | [], _, o, _, h => by simpa using h
  | x :: xs, _, o, ⟨hz, rest⟩, h => ⟨hz, Elems.append es b rest (by have e : o + (x :: xs).length * es = o + es + xs.length * es := by simp [Nat.succ_mul]; omega
                                                                    rw [← e]; exact h)⟩
theorem Elems.take (es b : Nat) : ∀ (n : Nat) {xs : List AV} {o : Nat}, Elems G es b o xs → Elems G es b o (xs.take n)
  | 0, _, _, _ => by simp [Elems]
  | _ + 1, [], _, _ => by simp [Elems]
  | n + 1, _ :: _, _, ⟨hz, rest⟩ => ⟨hz, Elems.take es b n rest⟩
theorem Elems.drop (es b : Nat) : ∀ (n : Nat) {xs : List AV} {o : Nat}, Elems G es b o xs → Elems G es b (o + n * es) (xs.drop n)
  | 0, _, _, h => by simpa using h
  | _ + 1, [], _, _ => by simp [Elems]
  | n + 1, _ :: xs, o, ⟨_, rest⟩ => by
    have := Elems.drop es b n rest
    have e : o + (n + 1) * es = o + es + n * es := by rw [Nat.succ_mul]; omega
    rw [e]; exact this

mutual
theorem toV_bare : ∀ (x : AV) (y : Value), x.toV = some y → Bare x
  | .v _, _, _ => trivial
  | .agg xs, y, h => by
    simp only [AV.toV, Option.map_eq_some_iff] at h
    obtain ⟨l, hl, rfl⟩ := h
    exact toVs_bare xs l hl
  | .tup xs, y, h => by
    simp only [AV.toV, Option.map_eq_some_iff] at h
    obtain ⟨l, hl, rfl⟩ := h
    exact toVs_bare xs l hl
  | .iface t x, y, h => by
    simp only [AV.toV, Option.map_eq_some_iff] at h
    obtain ⟨z, hz, rfl⟩ := h
    exact toV_bare x z hz
  | .ro _, _, h => by simp [AV.toV] at h
  | .cl _ _, _, h => by simp [AV.toV] at h
  | .ap _ _, _, h => by simp [AV.toV] at h
  | .ex _ _ _ _ _, _, h => by simp [AV.toV] at h
  | .rp _ _, _, h => by simp [AV.toV] at h
  | .ptr _ _ _ _, _, h => by simp [AV.toV] at h
  | .mp _, _, h => by simp [AV.toV] at h
  | .sd _ _, _, h => by simp [AV.toV] at h
  | .fn _ _ _, _, h => by simp [AV.toV] at h
theorem toVs_bare : ∀ (xs : List AV) (ys : List Value), AV.toVs xs = some ys → Bares xs
  | [], _, _ => trivial
  | x :: xs, ys, h => by
    simp only [AV.toVs] at h
    split at h
    · rename_i y' ys' h1 h2; exact ⟨toV_bare x y' h1, toVs_bare xs ys' h2⟩
    · cases h
end
theorem Bares.get : ∀ {xs : List AV}, Bares xs → ∀ {i : Nat} {x : AV}, xs[i]? = some x → Bare x
  | [], _, _, _, h => by simp at h
  | _ :: _, ⟨hx, _⟩, 0, _, h => by simp at h; subst h; exact hx
  | _ :: _, ⟨_, rest⟩, i + 1, _, h => Bares.get rest (i := i) (by simpa using h)
theorem Bares.of : ∀ {xs : List AV}, (∀ x ∈ xs, Bare x) → Bares xs
  | [], _ => trivial
  | x :: _, h => ⟨h x (by simp), Bares.of fun y hy => h y (by simp [hy])⟩
theorem Bares.mem : ∀ {xs : List AV}, Bares xs → ∀ x ∈ xs, Bare x
  | _ :: _, ⟨hx, rest⟩, y, hy => by
    rcases List.mem_cons.1 hy with rfl | hy
    · exact hx
    · exact Bares.mem rest y hy
theorem Bares.append {xs ys : List AV} (h : Bares xs) (k : Bares ys) : Bares (xs ++ ys) := Bares.of fun x hx => by
  rcases List.mem_append.1 hx with hx | hx
  · exact h.mem x hx
  · exact k.mem x hx
theorem Bares.take {xs : List AV} (h : Bares xs) (n : Nat) : Bares (xs.take n) := Bares.of fun x hx => h.mem x (List.mem_of_mem_take hx)
theorem Bares.drop {xs : List AV} (h : Bares xs) (n : Nat) : Bares (xs.drop n) := Bares.of fun x hx => h.mem x (List.mem_of_mem_drop hx)
theorem Bare.cells : ∀ {x : AV}, Bare x → Bares x.cells
  | .v _, _ => ⟨trivial, trivial⟩
  | .agg _, h => h
  | .tup _, h => ⟨h, trivial⟩
  | .ro _, h => ⟨h, trivial⟩
  | .cl _ _, h => ⟨h, trivial⟩
  | .rp _ _, h => ⟨h, trivial⟩
  | .fn _ _ _, h => ⟨h, trivial⟩
  | .iface _ _, h => ⟨h, trivial⟩
  | .ap _ _, h => h.elim
  | .ex _ _ _ _ _, h => h.elim
  | .ptr _ _ _ _, h => h.elim
  | .mp _, h => h.elim
  | .sd _ _, h => h.elim

/-- The same, no heap being known. -/
def Gh.bare (G : Gh) : Gh := { G with tok := fun _ _ => none, blk := fun _ _ => none, mp := fun _ => none }
theorem ImAt.bare {G : Gh} {b o : Nat} {vs : List Value} (h : ImAt G b o vs) : ImAt G.bare b o vs := h
mutual
theorem Bare.rel {G : Gh} : ∀ (x : AV) (y : Value), Bare x → VRel G x y → VRel G.bare x y
  | .v _, _, _, hh => hh
  | .agg xs, _, hb, ⟨ys, e, r⟩ => ⟨ys, e, Bares.rel xs _ hb r⟩
  | .tup xs, _, hb, ⟨ys, e, r⟩ => ⟨ys, e, Bares.rel xs _ hb r⟩
  | .ro xs, _, hb, ⟨_, a, c, e, l, r⟩ => ⟨hb, a, c, e, l, r.imp id fun ⟨b, o, es, ha, hs, hE⟩ => ⟨b, o, es, ha, hs, Bares.elems es b xs o hb hE⟩⟩
  | .cl _ xs, _, hb, ⟨_, a, e, l, r⟩ => ⟨hb, a, e, l, r.imp id fun ⟨b, o, es, ha, hs, hE⟩ => ⟨b, o, es, ha, hs, Bares.elems es b xs o hb hE⟩⟩
  | .ap _ _, _, hb, _ => hb.elim
  | .ex _ _ _ _ _, _, hb, _ => hb.elim
  | .rp x _, _, hb, ⟨_, b, o, z, e, r, i⟩ => ⟨hb, b, o, z, e, Bare.rel x z hb r, i⟩
  | .ptr _ _ _ _, _, hb, _ => hb.elim
  | .mp _, _, hb, _ => hb.elim
  | .sd _ _, _, hb, _ => hb.elim
  | .fn _ a b, _, hb, ⟨a', b', e, ra, rb⟩ => ⟨a', b', e, Bares.rel a _ hb.1 ra, Bares.rel b _ hb.2 rb⟩
  | .iface _ x, _, hb, ⟨z, e, r⟩ => ⟨z, e, Bare.rel x z hb r⟩
theorem Bares.rel {G : Gh} : ∀ (xs : List AV) (ys : List Value), Bares xs → VRels G xs ys → VRels G.bare xs ys
  | [], _, _, hh => hh
  | x :: xs, _, hb, ⟨z, zs, e, r, rs⟩ => ⟨z, zs, e, Bare.rel x z hb.1 r, Bares.rel xs zs hb.2 rs⟩
theorem Bares.elems {G : Gh} (es b : Nat) : ∀ (xs : List AV) (o : Nat), Bares xs → Elems G es b o xs → Elems G.bare es b o xs
  | [], _, _, _ => trivial
  | x :: xs, o, hb, ⟨⟨z, r, k, i⟩, rest⟩ => ⟨⟨z, Bare.rel x z hb.1 r, k, i⟩, Bares.elems es b xs (o + es) hb.2 rest⟩
end
mutual
theorem bare_bare {G : Gh} : ∀ (x x' : AV) (y : Value), x.bare = some x' → VRel G x y → Bare x' ∧ VRel G x' y
  | .v _, x', y, h, r => by simp only [AV.bare, Option.some.injEq] at h; subst h; exact ⟨trivial, r⟩
  | .agg xs, x', y, h, ⟨ys, e, r⟩ => by
    simp only [AV.bare, Option.map_eq_some_iff] at h
    obtain ⟨l, hl, rfl⟩ := h
    obtain ⟨h1, h2⟩ := bares_bare xs l _ hl r
    exact ⟨h1, ys, e, h2⟩
  | .tup xs, x', y, h, ⟨ys, e, r⟩ => by
    simp only [AV.bare, Option.map_eq_some_iff] at h
    obtain ⟨l, hl, rfl⟩ := h
    obtain ⟨h1, h2⟩ := bares_bare xs l _ hl r
    exact ⟨h1, ys, e, h2⟩
  | .ro _, x', y, h, r => by simp only [AV.bare, Option.some.injEq] at h; subst h; exact ⟨r.1, r⟩
  | .cl f xs, x', y, h, r => by
    simp only [AV.bare, Option.some.injEq] at h; subst h
    obtain ⟨hb, a, e, hl, hE⟩ := r
    cases f with
    | false => exact ⟨hb, hb, a, e, (fun h => by cases h), hE⟩
    | true =>
      cases xs with
      | cons x xs => exact ⟨hb, hb, a, e, (fun h => by cases h), hE⟩
      | nil =>
        obtain ⟨b, ha, _⟩ := hl rfl
        exact ⟨trivial, trivial, a, 0, e, Nat.le_refl _, .inl ⟨rfl, by rw [ha]; rfl⟩⟩
  | .ap _ xs, x', y, h, r => by
    simp only [AV.bare, Option.some.injEq] at h; subst h
    obtain ⟨hb, _, a, c, e, l, hE⟩ := r
    exact ⟨hb, hb, a, c, e, l, hE.imp id fun ⟨b, es, ha, hs, hE⟩ => ⟨b, 0, es, ha, hs, hE⟩⟩
  | .rp _ _, x', y, h, r => by simp only [AV.bare, Option.some.injEq] at h; subst h; exact ⟨r.1, r⟩
  | .iface t x, x', y, h, ⟨z, e, r⟩ => by
    simp only [AV.bare, Option.map_eq_some_iff] at h
    obtain ⟨l, hl, rfl⟩ := h
    obtain ⟨h1, h2⟩ := bare_bare x l z hl r
    exact ⟨h1, z, e, h2⟩
  | .fn f a b, x', y, h, ⟨a', b', e, ra, rb⟩ => by
    simp only [AV.bare] at h
    split at h
    · rename_i l m h1 h2
      injection h with h; subst h
      obtain ⟨p1, p2⟩ := bares_bare a l _ h1 ra
      obtain ⟨q1, q2⟩ := bares_bare b m _ h2 rb
      exact ⟨⟨p1, q1⟩, a', b', e, p2, q2⟩
    · cases h
  | .ex _ _ _ _ _, _, _, h, _ => by simp [AV.bare] at h
  | .ptr _ _ _ _, _, _, h, _ => by simp [AV.bare] at h
  | .mp _, _, _, h, _ => by simp [AV.bare] at h
  | .sd _ _, _, _, h, _ => by simp [AV.bare] at h
theorem bares_bare {G : Gh} : ∀ (xs xs' : List AV) (ys : List Value), AV.bares xs = some xs' → VRels G xs ys → Bares xs' ∧ VRels G xs' ys
  | [], xs', ys, h, r => by simp only [AV.bares, Option.some.injEq] at h; subst h; exact ⟨trivial, r⟩
  | x :: xs, xs', ys, h, ⟨z, zs, e, r, rs⟩ => by
    simp only [AV.bares] at h
    split at h
    · rename_i y' ys' h1 h2
      injection h with h; subst h
      obtain ⟨p1, p2⟩ := bare_bare x y' z h1 r
      obtain ⟨q1, q2⟩ := bares_bare xs ys' zs h2 rs
      exact ⟨⟨p1, q1⟩, z, zs, e, p2, q2⟩
    · cases h
end
end Go.AM

namespace Go.AM

/-- Whose row a block is: a token's, a block's. -/
inductive Owner where
  | tok (t : Nat)
  | blk (b : Nat)
  | mp (m : Nat)

structure Gs where
  g : Gh
  own : Nat → Option Owner

variable (C : Cfg)

def TokOk (G : Gs) (W : World) (t e : Nat) (tid : TypeId) : Prop :=
  ∃ y size vals, G.g.tok t e = some y ∧ 0 < size ∧ C.csz tid = some size ∧ W.ownsRow G.g.base tid size y e vals ∧
    ∀ B, y.ownBlock = some B → G.own B = some (.tok t) ∧ ∀ o v, G.g.im B o = some v → o < e * size

/-- The elements of a row that may be written. -/
def RowIs (G : Gh) (cells : Array Value) (o es : Nat) (xs : List AV) : Prop :=
  ∀ i x, xs[i]? = some x → ∃ z, VRel G x z ∧ z.cells.size = es ∧ ∀ j v, z.cells[j]? = some v → cells[o + i * es + j]? = some v ∧ v.oneCell' = true

/-- Nothing of so many cells is frozen. -/
def frOk (n : Nat) (fr : Nat × Nat) : Prop := fr = (0, 0) ∨ n ≤ fr.1
/-- .. and of wider elements nothing at all. -/
def frE (es n : Nat) (fr : Nat × Nat) : Prop := fr = (0, 0) ∨ (es ≤ 1 ∧ n ≤ fr.1)
theorem frE.ok {es n : Nat} {fr : Nat × Nat} (h : frE es n fr) : frOk n fr := h.imp id fun x => x.2
def BlkOk (G : Gs) (W : World) (b : Nat) (k : Blk) : Prop :=
  ∃ B o cells, ∃ tid : TypeId × Nat × Nat, G.g.blk b k.gen = some (B, o, cells.size, k.es) ∧ (W.heap[B]? = some (.cells cells tid.1 tid.2) ∧ frE k.es cells.size tid.2 ∧ (k.gen = 0 ∨ (k.gen = tid.1 + 1 ∧ o = 0 ∧ cells.size = k.es) ∨ growG ≤ k.gen) ∧ ∀ g', growG ≤ g' → k.gen < g' → G.g.blk b g' = none) ∧
    G.own B = some (.blk b) ∧ (∀ o, G.g.im B o = none) ∧ o + k.xs.length * k.es ≤ cells.size ∧ RowIs G.g cells o k.es k.xs

/-- The entries of a map of texts. -/
def MRel (G : Gh) : List (ByteArray × AV) → List MapEntry → Prop
  | [], l => l = []
  | p :: ps, l => ∃ e r, l = e :: r ∧ e.key = .string p.1 ∧ VRel G p.2 e.val ∧ MRel G ps r
theorem MRel.mono {G G' : Gh} (h : Gle G G') : ∀ {es : List (ByteArray × AV)} {l : List MapEntry}, MRel G es l → MRel G' es l
  | [], _, hh => hh
  | _ :: _, _, ⟨e, r, h1, h2, h3, h4⟩ => ⟨e, r, h1, h2, VRel.mono h _ _ h3, MRel.mono h h4⟩
/-- A map of texts. -/
def MapOk (G : Gs) (W : World) (m : Nat) (es : List (ByteArray × AV)) : Prop :=
  ∃ R entries clock, G.g.mp m = some R ∧ W.heap[R]? = some (.map entries clock) ∧ G.own R = some (.mp m) ∧ MRel G.g es entries.toList
theorem MapOk.move {G G' : Gs} {W W' : World} {m : Nat} {es : List (ByteArray × AV)} (h : MapOk G W m es) (hg : Gle G.g G'.g) (hw : ∀ R, G.own R = some (.mp m) → R < W.heap.size → W'.heap[R]? = W.heap[R]?) (ho : ∀ R, G.own R = some (.mp m) → R < W.heap.size → G'.own R = some (.mp m)) : MapOk G' W' m es := by
  obtain ⟨R, en, cl, h1, h2, h3, h4⟩ := h
  have hR := (Array.getElem?_eq_some_iff.1 h2).1
  exact ⟨R, en, cl, hg.mp _ _ h1, (hw R h3 hR).trans h2, ho R h3 hR, h4.mono hg⟩

/-- What package-level variables hold. -/
def GlOk (G : Gh) : Prop := ∀ g x, C.gl g = some x → ∃ z, x.toV = some z ∧ ImAt G g 0 z.cells.toList

structure Sim (G : Gs) (H : Hp) (W : World) : Prop where
  base : G.g.base ≤ W.heap.size
  im : ∀ b o v, G.g.im b o = some v → W.cell? ⟨b, o, none⟩ = some v
  lit : ∀ b, G.g.lit b → G.g.base ≤ b ∧ b < W.heap.size ∧ G.own b = none
  own : ∀ b w, G.own b = some w → G.g.base ≤ b ∧ b < W.heap.size
  tok : ∀ t e tid, H.toks[t]? = some (e, tid) → (C.csz tid).isSome = true → TokOk C G W t e tid
  tokN : ∀ t e, (∀ e0 tid, H.toks[t]? = some (e0, tid) → e0 < e) → G.g.tok t e = none
  blk : ∀ b k, H.blks[b]? = some k → BlkOk G W b k
  blkN : ∀ b g, H.blks.length ≤ b → G.g.blk b g = none
  gl : GlOk C G.g
  mp : ∀ m es, H.mps[m]? = some es → MapOk G W m es
  mpN : ∀ m, H.mps.length ≤ m → G.g.mp m = none

/-- From one state to a later one. -/
structure Adv (G : Gs) (W : World) (G' : Gs) (W' : World) : Prop where
  gle : Gle G.g G'.g
  os : W'.os = W.os
  tape : W'.tape = W.tape
  output : W'.output = W.output
  size : W.heap.size ≤ W'.heap.size
  frame : ∀ B, B < W.heap.size → G.own B = none → ¬ G.g.lit B → W'.heap[B]? = W.heap[B]?
  ownK : ∀ B, B < W.heap.size → G.own B = none → G'.own B = none
  litK : ∀ B, B < W.heap.size → G'.g.lit B → G.g.lit B
  imK : ∀ B, B < W.heap.size → G.own B = none → ∀ o v, G'.g.im B o = some v → G.g.im B o = some v

theorem Adv.refl (G : Gs) (W : World) : Adv G W G W :=
  ⟨Gle.refl _, rfl, rfl, rfl, Nat.le_refl _, fun _ _ _ _ => rfl, fun _ _ h => h, fun _ _ h => h, fun _ _ _ _ _ h => h⟩
theorem Adv.trans {G G' G'' : Gs} {W W' W'' : World} (h : Adv G W G' W') (k : Adv G' W' G'' W'') : Adv G W G'' W'' where
  gle := h.gle.trans k.gle
  os := k.os.trans h.os
  tape := k.tape.trans h.tape
  output := k.output.trans h.output
  size := Nat.le_trans h.size k.size
  frame B hB ho hl := (k.frame B (Nat.lt_of_lt_of_le hB h.size) (h.ownK B hB ho) (fun x => hl (h.litK B hB x))).trans (h.frame B hB ho hl)
  ownK B hB ho := k.ownK B (Nat.lt_of_lt_of_le hB h.size) (h.ownK B hB ho)
  litK B hB x := h.litK B hB (k.litK B (Nat.lt_of_lt_of_le hB h.size) x)
  imK B hB ho o v x := h.imK B hB ho o v (k.imK B (Nat.lt_of_lt_of_le hB h.size) (h.ownK B hB ho) o v x)

/-- A draw turns nothing. -/
theorem Sim.drew {G : Gs} {H : Hp} {W : World} (h : Sim C G H W) : Sim C G H W.drew :=
  ⟨h.base, fun b o v x => h.im b o v x, h.lit, h.own, fun t e tid x hs => by
    obtain ⟨y, size, vals, h1, h2, h3, h4⟩ := h.tok t e tid x hs
    exact ⟨y, size, vals, h1, h2, h3, h4⟩, h.tokN, fun b k x => by
    obtain ⟨B, o, cells, tid, h1, h2, h3⟩ := h.blk b k x
    exact ⟨B, o, cells, tid, h1, h2, h3⟩, h.blkN, h.gl, fun m es x => (h.mp m es x).move (Gle.refl _) (fun _ _ _ => rfl) (fun _ x _ => x), h.mpN⟩
theorem Adv.drew (G : Gs) (W : World) : Adv G W G W.drew :=
  ⟨Gle.refl _, rfl, rfl, rfl, Nat.le_refl _, fun _ _ _ _ => rfl, fun _ _ h => h, fun _ _ h => h, fun _ _ _ _ _ h => h⟩

/-! ### The frame's slots -/
/-- The slots of the machine's frame hold what the abstract slots say. -/
def ERel (G : Gh) (env : Env) (tmps : Array Value) : Prop := VRels G env tmps.toList

theorem ERel.mono {G G' : Gh} (h : Gle G G') {env : Env} {tmps : Array Value} (k : ERel G env tmps) : ERel G' env tmps := VRels.mono h _ _ k
theorem VRel.undef (G : Gh) : VRel G .undef Go.undef := ⟨rfl, rfl⟩
theorem ERel.get {G : Gh} {env : Env} {tmps : Array Value} (h : ERel G env tmps) (t : Nat) : VRel G (aget env t) (tmps.getD t Go.undef) := by
  unfold aget
  rw [List.getD_eq_getElem?_getD]
  have hl : tmps.size = env.length := by have := VRels.length h; simpa using this
  cases hx : env[t]? with
  | none =>
    have : tmps.size ≤ t := by rw [hl]; exact List.getElem?_eq_none_iff.1 hx
    rw [Array.getD_eq_getD_getElem?, Array.getElem?_eq_none this]
    exact VRel.undef G
  | some x =>
    obtain ⟨y, hy, r⟩ := VRels.get h hx
    rw [Array.getElem?_toList] at hy
    rw [Array.getD_eq_getD_getElem?, hy]
    exact r
theorem ERel.put {G : Gh} {env : Env} {a : Act} (h : ERel G env a.tmps) (d : Option Tmp) {x : AV} {y : Value} (r : VRel G x y) : ERel G (aput env d x) (a.put d y).tmps := by
  cases d with
  | none => exact h
  | some d =>
    simp only [ERel, aput, Act.put, Array.toList_setIfInBounds]
    exact VRels.set h d r

theorem Sim.aval {C : Cfg} {G : Gs} {H : Hp} {W : World} (h : Sim C G H W) {env : Env} {a : Act} (he : ERel G.g env a.tmps) {o : Operand} {x : AV} (hx : aval C env o = some x) : VRel G.g x (a.eval o) := by
  cases o with
  | tmp t => simp only [AM.aval, Option.some.injEq] at hx; subst hx; exact he.get t
  | const v => exact ofV_rel hx
  | global g =>
    simp only [AM.aval, Option.map_eq_some_iff] at hx
    obtain ⟨y, hy, rfl⟩ := hx
    obtain ⟨z, hz, hi⟩ := h.gl g y hy
    exact ⟨toV_bare y z hz, g, 0, z, rfl, toV_rel y z hz, hi⟩
  | func f => simp only [AM.aval, Option.some.injEq] at hx; subst hx; exact ⟨#[], #[], rfl, rfl, rfl⟩
theorem Sim.avals {C : Cfg} {G : Gs} {H : Hp} {W : World} (h : Sim C G H W) {env : Env} {a : Act} (he : ERel G.g env a.tmps) : ∀ {os : List Operand} {xs : List AV}, avals C env os = some xs → VRels G.g xs (os.map a.eval)
  | [], _, hx => by simp only [AM.avals, Option.some.injEq] at hx; subst hx; rfl
  | o :: os, _, hx => by
    simp only [AM.avals] at hx
    split at hx
    · rename_i x xs h1 h2
      injection hx with hx
      subst hx
      exact ⟨a.eval o, os.map a.eval, rfl, h.aval he h1, Sim.avals h he h2⟩
    · cases hx
end Go.AM

namespace Go.AM

/-- A pointer type's method, as its table has it; some e: of the value behind the pointer, of type e. -/
def MethOk (P : Program) (t : TypeId) (name : String) (f : FuncId) (v : Option TypeId) : Prop :=
  ∃ i m e, P.info? t = some i ∧ i.methods.find? (·.name == name) = some m ∧ m.path.toList = [] ∧ P.underlying t = some (.pointer e) ∧ m.func = some (f, v.isNone) ∧ ∀ e', v = some e' → e' = e
structure Cfg.Tables (C : Cfg) : Prop where
  und : ∀ t d, C.und t = some d → C.P.underlying t = some d
  csz : ∀ t n, C.csz t = some n → ∃ i, C.P.info? t = some i ∧ i.size = n
  byt : ∀ t n, C.byt t = some n → ∃ i, C.P.info? t = some i ∧ i.bytes = n
  zero : ∀ t z, C.zero t = some z → ∃ i, C.P.info? t = some i ∧ i.zero = some z
  fns : ∀ f fn, C.fns f = some fn → C.P.funcs[f]? = some fn ∧ (fn.name == "runtime.NumGoroutine") = false
  meth : ∀ t name f v, C.meth t name = some (f, v) → MethOk C.P t name f v

/-- An operation goes through: whatever follows it. -/
def OpOk (P : Program) (o : Oper) (a : Act) (W : World) (R : Value → World → Prop) : Prop :=
  ∀ K Q, (∀ y W', R y W' → K (a.put o.dst y) W') → o.wp P a W K Q
theorem OpOk.value {P : Program} {o : Oper} {a : Act} {W W' : World} {R : Value → World → Prop} {y : Value} (h : (execOp a.eval o).run P W = .ok (.value y) W') (hR : R y W') : OpOk P o a W R := by
  intro K Q hK
  unfold Oper.wp
  rw [h]
  exact hK _ _ hR
theorem OpOk.skip {P : Program} {o : Oper} {a : Act} {W W' : World} {R : Value → World → Prop} (h : (execOp a.eval o).run P W = .ok .skip W') (hR : R Go.undef W') : OpOk P o a W R := by
  intro K Q hK
  unfold Oper.wp
  rw [h]
  exact hK _ _ hR
theorem OpOk.enter {P : Program} {o : Oper} {a : Act} {W : World} {R : Value → World → Prop} {f : FuncId} {args : Array Value} (h : (execOp a.eval o).run P W = .ok (.enter f args) W)
    (hR : Calls P f args W fun e W' => ∃ y, e = .returned y ∧ R y W') : OpOk P o a W R := by
  intro K Q hK
  unfold Oper.wp
  rw [h]
  refine hR.mono fun e W' ⟨y, he, hr⟩ => ?_
  subst he
  exact hK _ _ hr
theorem OpOk.mono {P : Program} {o : Oper} {a : Act} {W : World} {R R' : Value → World → Prop} (h : OpOk P o a W R) (k : ∀ y W', R y W' → R' y W') : OpOk P o a W R' :=
  fun K Q hK => h K Q fun y W' hr => hK y W' (k y W' hr)

/-- What stands behind an operation: a value that is what the abstract machine says, in a state that has gone on. -/
def Post (C : Cfg) (G : Gs) (W : World) (x : AV) (H : Hp) (y : Value) (W' : World) : Prop := ∃ G' : Gs, VRel G'.g x y ∧ Sim C G' H W' ∧ Adv G W G' W'
theorem Post.here {C : Cfg} {G : Gs} {W : World} {x : AV} {H : Hp} {y : Value} (h : Sim C G H W) (r : VRel G.g x y) : Post C G W x H y W := ⟨G, r, h, Adv.refl G W⟩

theorem run_pureRun {α : Type} (P : Program) : ∀ (s : Sem α) (x : α), pureRun P s = some x → ∀ W, s.run P W = .ok x W
  | .pure _, _, h, W => by simp only [pureRun, Option.some.injEq] at h; subst h; rfl
  | .program k, x, h, W => run_pureRun P (k P) x h W
  | .mark _ k, x, h, W => run_pureRun P k x h W
  | .load _ _ _, _, h, _ => by simp [pureRun] at h
  | .store _ _ _ _, _, h, _ => by simp [pureRun] at h
  | .new _ _, _, h, _ => by simp [pureRun] at h
  | .shape _ _, _, h, _ => by simp [pureRun] at h
  | .freeze _ _ _, _, h, _ => by simp [pureRun] at h
  | .frozen _ _, _, h, _ => by simp [pureRun] at h
  | .getObj _ _, _, h, _ => by simp [pureRun] at h
  | .setObj _ _ _, _, h, _ => by simp [pureRun] at h
  | .choose _ _, _, h, _ => by simp [pureRun] at h
  | .sys _ _, _, h, _ => by simp [pureRun] at h
  | .halt _, _, h, _ => by simp [pureRun] at h

section
variable {C : Cfg} (T : C.Tables)
include T
theorem run_csz {t : TypeId} {n : Nat} (h : C.csz t = some n) (W : World) : (sizeOf t).run C.P W = .ok n W := by
  obtain ⟨i, hi, rfl⟩ := T.csz t n h
  simp [sizeOf, typeInfo, hi]
theorem run_isAggT {t : TypeId} {g : Bool} (h : isAggT C t = some g) (W : World) : (isAgg t).run C.P W = .ok g W := by
  unfold isAggT at h
  unfold isAgg
  rw [Sem.run_bind]
  split at h
  · rename_i fs hu; injection h with h; subst h; rw [run_underlying (T.und _ _ hu)]; rfl
  · rename_i n e hu; injection h with h; subst h; rw [run_underlying (T.und _ _ hu)]; rfl
  · rename_i d h1 h2 hu
    injection h with h; subst h; rw [run_underlying (T.und _ _ hu)]
    cases d <;> first | rfl | exact (h1 _ rfl).elim | exact (h2 _ _ rfl).elim
  · cases h
theorem run_zeroA {t : TypeId} {z : Value} (h : C.zero t = some z) (W : World) : (zeroValue t).run C.P W = .ok z W := by
  obtain ⟨i, hi, hz⟩ := T.zero t z h
  simp [zeroValue, typeInfo, hi, hz]

/-- A part of a row of cells. -/
theorem run_partA {G : Gh} {t : TypeId} {cs : List AV} {off : Nat} {x : AV} (h : partA C t cs off = some x) {vs : Array Value} (r : VRels G cs vs.toList) (W : World) :
    ∃ y, (part t vs off).run C.P W = .ok y W ∧ VRel G x y := by
  unfold partA at h
  unfold part
  rw [Sem.run_bind]
  split at h
  · rename_i hg
    rw [run_isAggT T hg]
    split at h
    · rename_i n hn
      split at h
      · injection h with h
        subst h
        refine ⟨.agg (vs.extract off (off + n)), by simp [run_csz T hn], _, rfl, ?_⟩
        have := VRels.take n (VRels.drop off r)
        simpa [Array.toList_extract, List.extract_eq_take_drop] using this
      · cases h
    · cases h
  · rename_i hg
    rw [run_isAggT T hg]
    obtain ⟨y, hy, ry⟩ := VRels.get r h
    rw [Array.getElem?_toList] at hy
    exact ⟨y, by simp [hy], ry⟩
  · cases h

/-- A variable is read whose cells are known. -/
theorem run_loadA {G : Gh} {t : TypeId} {cs : List AV} {off : Nat} {x : AV} (h : partA C t cs off = some x) {vs : List Value} (r : VRels G cs vs) {W : World} {b o : Nat}
    (hc : ∀ j v, vs[j]? = some v → W.cell? ⟨b, o + j, none⟩ = some v) :
    ∃ y, (loadVar t ⟨b, o + off, none⟩).run C.P W = .ok y W ∧ VRel G x y := by
  unfold partA at h
  unfold loadVar
  rw [Sem.run_bind]
  split at h
  · rename_i hg
    rw [run_isAggT T hg]
    split at h
    · rename_i n hn
      split at h
      · rename_i hle
        injection h with h
        subst h
        have hr := VRels.take n (VRels.drop off r)
        have hl : ((vs.drop off).take n).length = n := by
          have := VRels.length r
          simp [List.length_take, List.length_drop]
          omega
        have hlc := run_loadCells_list (P := C.P) (w := W) (⟨b, o + off, none⟩ : Addr) ((vs.drop off).take n) (fun j v hj => by
          rw [Addr.add_lit]
          rw [List.getElem?_take] at hj
          split at hj
          · rw [List.getElem?_drop] at hj
            have := hc _ _ hj
            rwa [← Nat.add_assoc] at this
          · cases hj)
        rw [hl] at hlc
        refine ⟨.agg ((vs.drop off).take n).toArray, ?_, _, rfl, by simpa using hr⟩
        simp [run_csz T hn, hlc]
      · cases h
    · cases h
  · rename_i hg
    rw [run_isAggT T hg]
    obtain ⟨y, hy, ry⟩ := VRels.get r h
    refine ⟨y, ?_, ry⟩
    have := hc _ _ hy
    simp [this]
  · cases h

/-! ### A row of cells filled -/
omit T in
theorem foldl_set_at (cs : List Value) : ∀ (off k : Nat) (acc : Array Value), off + k + cs.length ≤ acc.size →
    ((cs.zipIdx k).foldl (fun (acc : Array Value) (p : Value × Nat) => acc.setIfInBounds (off + p.2) p.1) acc).size = acc.size ∧
    ∀ i, ((cs.zipIdx k).foldl (fun (acc : Array Value) (p : Value × Nat) => acc.setIfInBounds (off + p.2) p.1) acc)[i]? = if off + k ≤ i ∧ i < off + k + cs.length then cs[i - (off + k)]? else acc[i]? := by
  induction cs with
  | nil => intro off k acc h; refine ⟨by simp, fun i => ?_⟩; rw [if_neg (by simp <;> omega)]; rfl
  | cons c cs ih =>
    intro off k acc h
    simp only [List.length_cons] at h
    simp only [List.zipIdx_cons, List.foldl_cons]
    obtain ⟨h1, h2⟩ := ih off (k + 1) (acc.setIfInBounds (off + k) c) (by simp; omega)
    refine ⟨by rw [h1]; simp, fun i => ?_⟩
    rw [h2 i]
    simp only [List.length_cons]
    by_cases e : i = off + k
    · subst e
      rw [if_neg (by omega), if_pos (by omega)]
      simp [show off + k < acc.size by omega]
    · by_cases e2 : off + k < i ∧ i < off + k + (cs.length + 1)
      · rw [if_pos (by omega), if_pos (by omega)]
        obtain ⟨m, hm⟩ : ∃ m, i - (off + k) = m + 1 := ⟨i - (off + k) - 1, by omega⟩
        rw [hm, List.getElem?_cons_succ]
        congr 1
        omega
      · rw [if_neg (by omega), if_neg (by omega), Array.getElem?_setIfInBounds_ne (fun x => e x.symm)]
omit T in
theorem foldl_set_list (cs : List Value) (off : Nat) (acc : Array Value) (h : off + cs.length ≤ acc.size) :
    (cs.zipIdx.foldl (fun (acc : Array Value) (p : Value × Nat) => acc.setIfInBounds (off + p.2) p.1) acc).toList = acc.toList.take off ++ cs ++ acc.toList.drop (off + cs.length) := by
  obtain ⟨h1, h2⟩ := foldl_set_at cs off 0 acc (by omega)
  apply List.ext_getElem?
  intro i
  rw [Array.getElem?_toList, h2 i]
  simp only [Nat.add_zero]
  have hl : acc.toList.length = acc.size := by simp
  by_cases a : i < off
  · rw [if_neg (by omega), List.append_assoc, List.getElem?_append_left (by rw [List.length_take]; omega), List.getElem?_take, if_pos a]; simp
  · by_cases b : i < off + cs.length
    · rw [if_pos (by omega), List.append_assoc, List.getElem?_append_right (by rw [List.length_take]; omega), List.getElem?_append_left (by rw [List.length_take]; omega), List.length_take]
      congr 1
      omega
    · rw [if_neg (by omega), List.getElem?_append_right (by rw [List.length_append, List.length_take]; omega), List.getElem?_drop, List.length_append, List.length_take, ← Array.getElem?_toList]
      congr 1
      omega

omit T in
/-- Cells filled with parts. -/
theorem fill_rel {G : Gh} {place : Nat → Option (Nat × Nat)} : ∀ {ps : List (Nat × AV)} {qs : List (Nat × Value)} {cells out : List AV} {vs : Array Value}, VRels G cells vs.toList →
    fillA place cells ps = some out → ps.map (·.1) = qs.map (·.1) → VRels G (ps.map (·.2)) (qs.map (·.2)) → ∃ ws, Instr.fill place vs qs = some ws ∧ VRels G out ws.toList
  | [], [], _, _, vs, r, h, _, _ => by simp only [fillA, Option.some.injEq] at h; subst h; exact ⟨vs, rfl, r⟩
  | [], _ :: _, _, _, _, _, _, h, _ => by simp at h
  | _ :: _, [], _, _, _, _, _, h, _ => by simp at h
  | (i, x) :: ps, (j, y) :: qs, cells, out, vs, r, h, hi, hr => by
    simp only [List.map_cons, List.cons.injEq] at hi
    obtain ⟨rfl, hi⟩ := hi
    obtain ⟨z, zs, e, rx, rs⟩ := hr
    simp only [List.map_cons, List.cons.injEq] at e
    obtain ⟨rfl, rfl⟩ := e
    simp only [fillA] at h
    simp only [Instr.fill]
    split at h
    · cases h
    · rename_i off size hp
      rw [hp]
      split at h
      · rename_i hc
        obtain ⟨h1, h2, h3⟩ := hc
        have hcl : y.cells.size = x.cells.length := by have := VRels.length rx.cells; simpa using this
        have hvl : vs.size = cells.length := by have := VRels.length r; simpa using this
        simp only []
        rw [if_neg (by simp; omega)]
        refine fill_rel ?_ h hi rs
        have hz : y.cells.zipIdx.foldl (fun cs x => cs.setIfInBounds (off + x.2) x.1) vs = (y.cells.toList.zipIdx.foldl (fun (acc : Array Value) (p : Value × Nat) => acc.setIfInBounds (off + p.2) p.1) vs) := by
          rw [← Array.foldl_toList, Array.toList_zipIdx]
        rw [hz, foldl_set_list _ _ _ (by simp; omega)]
        have e2 : off + y.cells.toList.length = off + size := by simp; omega
        rw [e2]
        exact VRels.append (VRels.append (VRels.take off r) rx.cells) (VRels.drop (off + size) r)
      · cases h

/-! ### A new row that is laid for good -/
def Gs.lay (G : Gs) (n : Nat) (vals : Array Value) (l : Bool) : Gs :=
  { G with g := { G.g with im := fun b o => if b = n then vals[o]? else G.g.im b o, lit := fun b => G.g.lit b ∨ (l = true ∧ b = n) } }
omit T in
theorem Sim.lay {G : Gs} {H : Hp} {W : World} (h : Sim C G H W) (vals : Array Value) (tid : TypeId) (l : Bool) (h1 : ∀ v ∈ vals.toList, v.oneCell' = true) :
    Sim C (G.lay W.heap.size vals l) H (W.alloc (.cells vals tid)) ∧ Adv G W (G.lay W.heap.size vals l) (W.alloc (.cells vals tid)) ∧ ImAt (G.lay W.heap.size vals l).g W.heap.size 0 vals.toList := by
  have him : ∀ b o v, G.g.im b o = some v → b < W.heap.size := fun b o v x => World.block_lt_of_cell? W _ (h.im b o v x)
  have hgl : Gle G.g (G.lay W.heap.size vals l).g := ⟨rfl, fun b o v x => by
      have := him b o v x
      simp only [Gs.lay]
      rw [if_neg (by omega)]
      exact x, fun _ x => .inl x, fun _ _ _ x => x, fun _ _ _ x => x, fun _ _ x => x⟩
  have hat : ImAt (G.lay W.heap.size vals l).g W.heap.size 0 vals.toList := fun j v hj => by
    simp only [Gs.lay]
    rw [if_pos trivial, Nat.zero_add]
    rw [Array.getElem?_toList] at hj
    exact ⟨hj, h1 v (Array.mem_toList_iff.2 (Array.mem_of_getElem? hj))⟩
  refine ⟨⟨?_, ?_, ?_, ?_, ?_, h.tokN, ?_, h.blkN, ?_, fun m es x => (h.mp m es x).move hgl (fun R _ hR => heap_alloc_old W _ R hR) (fun _ x _ => x), h.mpN⟩, ⟨hgl, rfl, rfl, rfl, by simp, ?_, fun _ _ x => x, ?_, ?_⟩, hat⟩
  · have := h.base; simp [Gs.lay]; omega
  · intro b o v x
    simp only [Gs.lay] at x
    split at x
    · rename_i e; subst e; rw [World.cell?_alloc_new]; exact x
    · rw [World.cell?_alloc_lt W (h := him b o v x)]; exact h.im b o v x
  · rintro b (x | ⟨_, rfl⟩)
    · obtain ⟨h1, h2, h3⟩ := h.lit b x
      exact ⟨h1, by simp; omega, h3⟩
    · refine ⟨h.base, by simp, ?_⟩
      cases ho : G.own W.heap.size with
      | none => exact ho
      | some w => have := h.own _ _ ho; omega
  · intro b w x
    obtain ⟨h1, h2⟩ := h.own b w x
    exact ⟨h1, by simp; omega⟩
  · intro t e tid' x hs
    obtain ⟨y, size, vs, h1, h2, h0, h3, h4⟩ := h.tok t e tid' x hs
    refine ⟨y, size, vs, h1, h2, h0, h3.alloc _, fun B hB => ⟨(h4 B hB).1, fun o v x => ?_⟩⟩
    have := (h3.lt B hB).2
    simp only [Gs.lay] at x
    rw [if_neg (by omega)] at x
    exact (h4 B hB).2 o v x
  · intro b k x
    obtain ⟨B, o, cells, tid', h1, h2, h3, h4, h5, h6⟩ := h.blk b k x
    have hB := (Array.getElem?_eq_some_iff.1 h2.1).1
    refine ⟨B, o, cells, tid', h1, ⟨(heap_alloc_old W _ B hB).trans h2.1, h2.2⟩, h3, fun o => ?_, h5, fun i x hx => ?_⟩
    · simp only [Gs.lay]
      rw [if_neg (by omega)]
      exact h4 o
    · obtain ⟨z, r, hz⟩ := h6 i x hx
      exact ⟨z, r.mono hgl, hz⟩
  · intro g x hx
    obtain ⟨z, hz, hi⟩ := h.gl g x hx
    exact ⟨z, hz, hi.mono hgl⟩
  · intro B hB _ _
    exact heap_alloc_old W _ B hB
  · rintro B hB (x | ⟨_, rfl⟩)
    · exact x
    · omega
  · intro B hB _ o v x
    simp only [Gs.lay] at x
    rw [if_neg (by omega)] at x
    exact x
omit T in
theorem lay_lit {G : Gs} {n : Nat} {vals : Array Value} : (G.lay n vals true).g.lit n := .inr ⟨rfl, rfl⟩
end
end Go.AM

namespace Go.AM
section
variable {C : Cfg}

theorem runV {P : Program} {s : Sem Value} {W W' : World} {y : Value} (h : s.run P W = .ok y W') : ((do pure (.value (← s)) : Sem Next)).run P W = .ok (.value y) W' := by
  rw [Sem.run_bind, h]; rfl
theorem runU {P : Program} {s : Sem Unit} {W W' : World} (h : s.run P W = .ok () W') : ((do s; pure .skip : Sem Next)).run P W = .ok .skip W' := by
  rw [Sem.run_bind, h]; rfl

theorem plains_bare : ∀ (xs : List Value), Bares (xs.map .v)
  | [] => trivial
  | _ :: xs => ⟨trivial, plains_bare xs⟩
theorem ofV_bare {y : Value} {x : AV} (h : ofV y = some x) : Bare x := by
  unfold ofV at h
  split at h
  · split at h
    · injection h with h; subst h; exact plains_bare _
    · cases h
  · injection h with h; subst h; trivial

theorem apairs_rel {G : Gs} {H : Hp} {W : World} (S : Sim C G H W) {env : Env} {a : Act} (E : ERel G.g env a.tmps) : ∀ {ps : List (Nat × Operand)} {xs : List (Nat × AV)}, apairs C env ps = some xs →
    xs.map (·.1) = (ps.map fun p => (p.1, a.eval p.2)).map (·.1) ∧ VRels G.g (xs.map (·.2)) ((ps.map fun p => (p.1, a.eval p.2)).map (·.2))
  | [], _, h => by simp only [apairs, Option.some.injEq] at h; subst h; exact ⟨rfl, rfl⟩
  | (i, p) :: ps, _, h => by
    simp only [apairs] at h
    split at h
    · rename_i x xs h1 h2
      injection h with h; subst h
      obtain ⟨k1, k2⟩ := apairs_rel S E h2
      exact ⟨by simp [k1], a.eval p, _, rfl, S.aval E h1, k2⟩
    · cases h
theorem bareP_rel {G : Gh} : ∀ {xs xs' : List (Nat × AV)} {ys : List Value}, bareP xs = some xs' → VRels G (xs.map (·.2)) ys → xs'.map (·.1) = xs.map (·.1) ∧ Bares (xs'.map (·.2)) ∧ VRels G (xs'.map (·.2)) ys
  | [], _, _, h, r => by simp only [bareP, Option.some.injEq] at h; subst h; exact ⟨rfl, trivial, r⟩
  | (i, x) :: xs, _, _, h, ⟨z, zs, e, r, rs⟩ => by
    simp only [bareP] at h
    split at h
    · rename_i y ys h1 h2
      injection h with h; subst h
      obtain ⟨b1, b2⟩ := bare_bare x y z h1 r
      obtain ⟨k1, k2, k3⟩ := bareP_rel h2 rs
      exact ⟨by simp [k1], ⟨b1, k2⟩, z, zs, e, b2, k3⟩
    · cases h

/-- A value that is read lies in a row of its own. -/
theorem lay_rp {G : Gs} {H : Hp} {W : World} (S : Sim C G H W) {x : AV} {z : Value} (hb : Bare x) (r : VRel G.g x z) (hf : x.cells.all AV.flat = true) (tid : TypeId) :
    Post C G W (.rp x 0) H (.pointer (some ⟨W.heap.size, 0, none⟩)) (W.alloc (.cells z.cells tid)) := by
  obtain ⟨h1, h2, h3⟩ := S.lay z.cells tid false (VRels.flat r.cells hf)
  exact ⟨_, ⟨hb, W.heap.size, 0, z, rfl, r.mono h2.gle, h3⟩, h1, h2⟩

variable (T : C.Tables)
include T

omit T in
theorem zeroA_rel {t : TypeId} {x : AV} (h : zeroA C t = some x) : ∃ z, C.zero t = some z ∧ (∀ G, VRel G x z) ∧ Bare x := by
  simp only [zeroA, Option.bind_eq_some_iff] at h
  obtain ⟨z, hz, hx⟩ := h
  exact ⟨z, hz, fun G => ofV_rel hx, ofV_bare hx⟩

theorem op_alloc {o : Oper} {a : Act} {e : TypeId} (ho : o.op = .alloc e) {G : Gs} {H : Hp} {W : World} (S : Sim C G H W) {z : AV} (hz : zeroA C e = some z) (hf : z.cells.all AV.flat = true) :
    OpOk C.P o a W (Post C G W (.rp z 0) H) := by
  obtain ⟨y, hy, r, hb⟩ := zeroA_rel hz
  refine OpOk.value (y := .pointer (some ⟨W.heap.size, 0, none⟩)) (W' := W.alloc (.cells y.cells e)) ?_ (lay_rp S hb (r _) hf e)
  simp only [execOp, ho]
  refine runV ?_
  simp [Instr.alloc, run_zeroA T hy, newVar, newRow]

omit T in
theorem op_box {o : Oper} {a : Act} {e : TypeId} {p : Operand} (ho : o.op = .box e p) {G : Gs} {H : Hp} {W : World} (S : Sim C G H W) {x x' : AV} (r : VRel G.g x (a.eval p)) (hb : x.bare = some x') (hf : x'.cells.all AV.flat = true) :
    OpOk C.P o a W (Post C G W (.rp x' 0) H) := by
  obtain ⟨b1, b2⟩ := bare_bare x x' _ hb r
  refine OpOk.value (y := .pointer (some ⟨W.heap.size, 0, none⟩)) (W' := W.alloc (.cells (a.eval p).cells e)) ?_ (lay_rp S b1 b2 hf e)
  simp only [execOp, ho]
  refine runV ?_
  simp [Instr.box, newVar, newRow]

theorem places_run : ∀ {fs : List Field} {pl : List (Nat × Nat)}, placesA C fs = some pl → fs.mapM (fun f => (C.P.info? f.type).map fun i => (f.offset, i.size)) = some pl
  | [], _, h => by simp only [placesA, Option.some.injEq] at h; subst h; rfl
  | f :: fs, _, h => by
    simp only [placesA] at h
    split at h
    · rename_i n r h1 h2
      injection h with h; subst h
      obtain ⟨i, hi, hn⟩ := T.csz _ _ h1
      simp [List.mapM_cons, hi, hn, places_run h2]
    · cases h

theorem op_build {o : Oper} {a : Act} {t : TypeId} {parts : Array (Nat × Operand)} (ho : o.op = .build t parts) {G : Gs} {H : Hp} {W : World} (S : Sim C G H W) {env : Env} (E : ERel G.g env a.tmps) {ps : List (Nat × AV)} {x : AV}
    (hp : apairs C env parts.toList = some ps) (h : buildA C t ps = some x) : OpOk C.P o a W (Post C G W x H) := by
  obtain ⟨k1, k2⟩ := apairs_rel S E hp
  have hq : (parts.map fun (i, x) => (i, a.eval x)).toList = parts.toList.map fun p => (p.1, a.eval p.2) := by simp
  have main : ∀ cells, C.P.built t (parts.map fun (i, x) => (i, a.eval x)).toList = some cells → VRel G.g x (.agg cells) → OpOk C.P o a W (Post C G W x H) := by
    intro cells hc r
    refine OpOk.value (y := .agg cells) (W' := W) ?_ (Post.here S r)
    simp only [execOp, ho]
    exact runV (run_build W t _ cells hc)
  unfold buildA at h
  split at h
  · rename_i fields z hu hz
    obtain ⟨y, hy, r, hb⟩ := zeroA_rel hz
    obtain ⟨i, hi, hiz⟩ := T.zero t y hy
    split at h
    · rename_i pl hpl
      simp only [Option.map_eq_some_iff] at h
      obtain ⟨out, hout, rfl⟩ := h
      obtain ⟨ws, hw, rw'⟩ := fill_rel (vs := y.cells) (r G.g).cells hout k1 k2
      refine main ws ?_ ⟨ws, rfl, rw'⟩
      rw [hq]
      simp only [Program.built, hi, T.und _ _ hu, hiz, places_run T hpl]
      rw [← hw]
      congr 1
      funext j
      simp
    · cases h
  · rename_i n e z hu hz
    obtain ⟨y, hy, r, hb⟩ := zeroA_rel hz
    obtain ⟨i, hi, hiz⟩ := T.zero t y hy
    split at h
    · rename_i k hk
      obtain ⟨ie, hie, hik⟩ := T.csz _ _ hk
      simp only [Option.map_eq_some_iff] at h
      obtain ⟨out, hout, rfl⟩ := h
      obtain ⟨ws, hw, rw'⟩ := fill_rel (vs := y.cells) (r G.g).cells hout k1 k2
      refine main ws ?_ ⟨ws, rfl, rw'⟩
      rw [hq]
      simp only [Program.built, hi, T.und _ _ hu, hiz, hie, hik, hw]
    · cases h
  · cases h

omit T in
/-- Cells cut into elements. -/
theorem chunk_elems {G : Gh} {g : Bool} {n : Nat} {b : Nat} : ∀ {k : Nat} {cs : List AV} {xs : List AV} {vs : List Value} {o : Nat}, chunk g n cs k = some xs → VRels G cs vs → Bares cs →
    ImAt G b o vs → cs.length = k * n → xs.length = k ∧ Bares xs ∧ Elems G n b o xs
  | 0, cs, xs, vs, o, h, _, _, _, _ => by simp only [chunk, Option.some.injEq] at h; subst h; exact ⟨rfl, trivial, trivial⟩
  | k + 1, cs, xs, vs, o, h, r, hb, hi, hl => by
    simp only [chunk] at h
    split at h
    · rename_i hn
      split at h
      · rename_i x xs' hx hxs
        injection h with h; subst h
        have hvl := VRels.length r
        have hi' : ImAt G b (o + n) (vs.drop n) := fun j v hj => by
          rw [List.getElem?_drop] at hj
          have := hi _ _ hj
          rwa [← Nat.add_assoc] at this
        obtain ⟨k1, k2, k3⟩ := chunk_elems hxs (VRels.drop n r) (hb.drop n) hi' (by rw [List.length_drop, hl, Nat.succ_mul]; omega)
        have hz : Bare x ∧ ∃ z, VRel G x z ∧ z.cells.size = n ∧ ImAt G b o z.cells.toList := by
          split at hx
          · injection hx with hx; subst hx
            refine ⟨hb.take n, .agg (vs.take n).toArray, ⟨_, rfl, by simpa using VRels.take n r⟩, by simp [Value.cells]; omega, fun j v hj => ?_⟩
            simp only [Value.cells, List.getElem?_take] at hj
            split at hj
            · exact hi _ _ hj
            · cases hj
          · split at hx
            · rename_i h1; subst h1
              cases cs with
              | nil => simp at hx
              | cons c cs =>
                simp only [List.head?_cons, Option.some.injEq] at hx
                subst hx
                obtain ⟨z, zs, rfl, rz, _⟩ := r
                have hc : z.oneCell' = true := (hi 0 z rfl).2
                have hzc : z.cells = #[z] := by have := hc; cases z <;> first | rfl | simp [Value.oneCell'] at this
                exact ⟨hb.1, z, rz, by rw [hzc]; rfl, by rw [hzc]; exact fun j v hj => hi j v (by
                  cases j with
                  | zero => simpa using hj
                  | succ j => simp at hj)⟩
            · cases hx
        exact ⟨by simp [k1], ⟨hz.1, k2⟩, hz.2, k3⟩
      · cases h
    · cases h

omit T in
theorem VRels.flatten {G : Gh} {z : List AV} {v : List Value} (r : VRels G z v) : ∀ n, VRels G (List.replicate n z).flatten (List.replicate n v).flatten
  | 0 => by simp [VRels]
  | n + 1 => by simp only [List.replicate_succ, List.flatten_cons]; exact VRels.append r (VRels.flatten r n)
omit T in
theorem zeros_array (z : Array Value) (len : Nat) (_h : 0 < z.size) : (Array.range (len * z.size)).map (z[· % z.size]!) = ((List.replicate len z.toList).flatten).toArray := by
  apply Array.ext'
  simp only [Array.toList_map, Array.toList_range]
  induction len with
  | zero => simp
  | succ n ih =>
    rw [Nat.succ_mul, List.range_add, List.map_append, ih, List.replicate_succ']
    simp only [List.flatten_append, List.flatten_cons, List.flatten_nil, List.append_nil]
    congr 1
    apply List.ext_getElem?
    intro i
    simp only [List.map_map, List.getElem?_map]
    by_cases hi : i < z.size
    · simp [hi, Nat.mul_add_mod_self_right, Nat.mod_eq_of_lt hi]
    · simp [hi]

omit T in
theorem fillA_flat {place : Nat → Option (Nat × Nat)} : ∀ {ps : List (Nat × AV)} {cells out : List AV}, fillA place cells ps = some out → cells.all AV.flat = true → out.all AV.flat = true
  | [], _, _, h, hf => by simp only [fillA, Option.some.injEq] at h; subst h; exact hf
  | (i, x) :: ps, cells, out, h, hf => by
    simp only [fillA] at h
    split at h
    · cases h
    · split at h
      · rename_i off size _ hc
        refine fillA_flat h ?_
        rw [List.all_eq_true] at hf ⊢
        intro u hu
        simp only [List.append_assoc, List.mem_append] at hu
        rcases hu with hu | hu | hu
        · exact hf u (List.mem_of_mem_take hu)
        · exact List.all_eq_true.1 hc.2.2 u hu
        · exact hf u (List.mem_of_mem_drop hu)
      · cases h
omit T in
theorem fillA_bare {place : Nat → Option (Nat × Nat)} : ∀ {ps : List (Nat × AV)} {cells out : List AV}, fillA place cells ps = some out → Bares cells → Bares (ps.map (·.2)) → Bares out
  | [], _, _, h, hf, _ => by simp only [fillA, Option.some.injEq] at h; subst h; exact hf
  | (i, x) :: ps, cells, out, h, hf, hb => by
    simp only [fillA] at h
    split at h
    · cases h
    · split at h
      · exact fillA_bare h (((hf.take _).append hb.1.cells).append (hf.drop _)) hb.2
      · cases h
omit T in
theorem fillA_length {place : Nat → Option (Nat × Nat)} : ∀ {ps : List (Nat × AV)} {cells out : List AV}, fillA place cells ps = some out → out.length = cells.length
  | [], _, _, h => by simp only [fillA, Option.some.injEq] at h; subst h; rfl
  | (i, x) :: ps, cells, out, h => by
    simp only [fillA] at h
    split at h
    · cases h
    · split at h
      · rename_i off size _ hc
        rw [fillA_length h]
        simp only [List.length_append, List.length_take, List.length_drop]
        omega
      · cases h

theorem op_buildSlice {o : Oper} {a : Act} {t : TypeId} {len : Nat} {parts : Array (Nat × Operand)} (ho : o.op = .buildSlice t len parts) {G : Gs} {H : Hp} {W : World} (S : Sim C G H W) {env : Env} (E : ERel G.g env a.tmps)
    {ps ps' : List (Nat × AV)} {x : AV} (hp : apairs C env parts.toList = some ps) (hps : bareP ps = some ps') (h : buildSliceA C t len ps' = some x) : OpOk C.P o a W (Post C G W x H) := by
  obtain ⟨k1, k2⟩ := apairs_rel S E hp
  obtain ⟨b1, b2, b3⟩ := bareP_rel hps k2
  have hq : (parts.map fun (i, x) => (i, a.eval x)).toList = parts.toList.map fun p => (p.1, a.eval p.2) := by simp
  unfold buildSliceA at h
  split at h
  · cases h
  rename_i e he
  have hu : C.P.underlying t = some (.slice e) := by
    unfold elemT at he
    split at he
    · rename_i e' hu; injection he with he; subst he; exact T.und _ _ hu
    · cases he
  split at h
  · rename_i n g z hn hg hz
    split at h
    · rename_i hc
      obtain ⟨c1, c2, c3, c4⟩ := hc
      simp only [Option.map_eq_some_iff, Option.bind_eq_some_iff] at h
      obtain ⟨xs, ⟨cs, hcs, hch⟩, rfl⟩ := h
      obtain ⟨y, hy, r, hb⟩ := zeroA_rel hz
      obtain ⟨ie, hie, hin⟩ := T.csz _ _ hn
      obtain ⟨ie', hie', hiz⟩ := T.zero _ _ hy
      have e1 : ie' = ie := by rw [hie] at hie'; injection hie' with h; exact h.symm
      subst e1
      have hys : y.cells.size = n := by have := VRels.length (r G.g).cells; simp at this; omega
      have hflat := VRels.flatten (r G.g).cells len
      obtain ⟨ws, hw, rw'⟩ := fill_rel (vs := ((List.replicate len y.cells.toList).flatten).toArray) (by simpa using hflat) hcs (b1.trans k1) b3
      have hrun : (Instr.buildSlice t len (parts.map fun (i, x) => (i, a.eval x))).run C.P W = .ok (.slice (some ⟨W.heap.size, 0, none⟩) len len) (W.alloc (.cells ws e)) := by
        by_cases hlen : len = 0
        · subst hlen
          simp only [List.replicate_zero, List.flatten_nil] at hw
          have hw' : Instr.fill (fun i => some (i * n, n)) #[] (parts.map fun (i, x) => (i, a.eval x)).toList = some ws := by rw [hq]; exact hw
          have e0 : ∀ f : Nat → Value, (Array.range (0 * n)).map f = #[] := fun f => by simp
          have e1 : (0 * n = 0) = True := by simp
          have e2 : (0 * n > 2 ^ 24) = False := by simp
          simp only [Instr.buildSlice, run_underlying hu, run_csz T hn, Sem.run_bind, Result.andThen_ok, e0, e1, e2, if_true, if_false, Sem.run_pure, hw', newRow]
          rfl
        · have hpos : ¬ len * n = 0 := by
            intro hh
            rcases Nat.mul_eq_zero.1 hh with h | h <;> omega
          have hw' : Instr.fill (fun i => some (i * n, n)) ((Array.range (len * n)).map (y.cells[· % y.cells.size]!)) (parts.map fun (i, x) => (i, a.eval x)).toList = some ws := by
            rw [hq, ← hys, zeros_array y.cells len (by omega)]
            rw [hys]
            exact hw
          have hsm : ¬ len * n > 2 ^ 24 := by simp; omega
          simp only [Instr.buildSlice, run_underlying hu, run_csz T hn, Sem.run_bind, Result.andThen_ok, hsm, hpos, if_false, run_zeroA T hy, Sem.run_pure, hw', newRow]
          rfl
      have hflatAll : cs.all AV.flat = true := fillA_flat hcs (by
        rw [List.all_eq_true] at c4 ⊢
        intro u hu'
        simp only [List.mem_flatten, List.mem_replicate] at hu'
        obtain ⟨l, ⟨_, rfl⟩, hu'⟩ := hu'
        exact c4 u hu')
      have hbare : Bares cs := fillA_bare hcs (Bares.of fun u hu' => by
        simp only [List.mem_flatten, List.mem_replicate] at hu'
        obtain ⟨l, ⟨_, rfl⟩, hu'⟩ := hu'
        exact hb.cells.mem u hu') b2
      obtain ⟨s1, s2, s3⟩ := S.lay ws e true (VRels.flat rw' hflatAll)
      have hlen : cs.length = len * n := by
        have := fillA_length hcs
        rw [this, List.length_flatten, List.map_replicate, List.sum_replicate_nat, c2]
      obtain ⟨q1, q2, q3⟩ := chunk_elems (b := W.heap.size) (o := 0) hch (VRels.mono s2.gle _ _ rw') hbare s3 hlen
      refine OpOk.value (y := .slice (some ⟨W.heap.size, 0, none⟩) len len) (W' := W.alloc (.cells ws e)) ?_ ⟨_, ⟨q2, some ⟨W.heap.size, 0, none⟩, by rw [q1], fun _ => ⟨W.heap.size, rfl, lay_lit⟩, .inr ⟨W.heap.size, 0, n, rfl, c3, q3⟩⟩, s1, s2⟩
      simp only [execOp, ho]
      exact runV hrun
    · cases h
  · cases h
end
end Go.AM

namespace Go.AM
section
variable {C : Cfg} {G : Gs} {H : Hp} {W : World} {o : Oper} {a : Act} {env : Env} {x : AV}

theorem op_move {p : Operand} (ho : o.op = .move p ∨ o.op = .assign p) (S : Sim C G H W) (E : ERel G.g env a.tmps) (h : aval C env p = some x) : OpOk C.P o a W (Post C G W x H) := by
  refine OpOk.value (y := a.eval p) (W' := W) ?_ (Post.here S (S.aval E h))
  rcases ho with ho | ho <;> simp only [execOp, ho] <;> rfl

theorem op_pick {c p q : Operand} (ho : o.op = .pick c p q) (S : Sim C G H W) (E : ERel G.g env a.tmps) {t : Bool} {u v : AV} (hc : aval C env c = some (.v (.bool t))) (h1 : aval C env p = some u) (h2 : aval C env q = some v) :
    OpOk C.P o a W (Post C G W (if t then u else v) H) := by
  have hb : a.eval c = .bool t := (S.aval E hc).1
  refine OpOk.value (y := if t then a.eval p else a.eval q) (W' := W) ?_ (Post.here S ?_)
  · simp only [execOp, ho, hb]
    cases t <;> rfl
  · cases t
    · exact S.aval E h2
    · exact S.aval E h1

theorem op_nilCheck {p : Operand} (ho : o.op = .nilCheck p) (S : Sim C G H W) (r : VRel G.g x (a.eval p)) (h : match a.eval p with | .pointer (some _) => True | .func (.func _) _ _ => True | .iface _ _ => True | _ => False) :
    OpOk C.P o a W (Post C G W x H) := by
  refine OpOk.value (y := a.eval p) (W' := W) ?_ (Post.here S r)
  simp only [execOp, ho]
  split at h <;> rename_i hv <;> simp_all

theorem op_makeFunc {f : Fn} {p q : Array Operand} (ho : o.op = .makeFunc f p q) (S : Sim C G H W) (E : ERel G.g env a.tmps) {u v : List AV} (h1 : avals C env p.toList = some u) (h2 : avals C env q.toList = some v) :
    OpOk C.P o a W (Post C G W (.fn f u v) H) := by
  refine OpOk.value (y := .func f (p.map a.eval) (q.map a.eval)) (W' := W) ?_ (Post.here S ⟨_, _, rfl, by simpa using S.avals E h1, by simpa using S.avals E h2⟩)
  simp only [execOp, ho, Instr.makeFunc]
  rfl

theorem op_extract {p : Operand} {i : Nat} (ho : o.op = .extract p i) (S : Sim C G H W) (E : ERel G.g env a.tmps) {xs : List AV} (h : aval C env p = some (.tup xs)) (hi : xs[i]? = some x) : OpOk C.P o a W (Post C G W x H) := by
  obtain ⟨ys, he, r⟩ := S.aval E h
  obtain ⟨y, hy, ry⟩ := VRels.get r hi
  rw [Array.getElem?_toList] at hy
  refine OpOk.value (y := y) (W' := W) ?_ (Post.here S ry)
  simp only [execOp, ho]
  exact runV (by simp [Instr.extract, he, hy])

variable (T : C.Tables)
include T

theorem op_load_rp {t : TypeId} {p : Operand} (ho : o.op = .load t p) (S : Sim C G H W) (E : ERel G.g env a.tmps) {z : AV} {j : Nat} (h : aval C env p = some (.rp z j)) (hx : partA C t z.cells j = some x) : OpOk C.P o a W (Post C G W x H) := by
  obtain ⟨_, b, o', w, he, r, hi⟩ := S.aval E h
  obtain ⟨y, hy, ry⟩ := run_loadA T hx r.cells (W := W) (b := b) (o := o') (fun j v hj => S.im _ _ _ (hi j v hj).1)
  refine OpOk.value (y := y) (W' := W) ?_ (Post.here S ry)
  simp only [execOp, ho]
  exact runV (by simp [Instr.loadAt, he, Instr.sureAddr, hy])

omit T in
theorem op_pureRun {s : Sem Value} (ho : execOp a.eval o = (do pure (.value (← s)))) (S : Sim C G H W) {y : Value} (h : pureRun C.P s = some y) (r : VRel G.g x y) : OpOk C.P o a W (Post C G W x H) := by
  refine OpOk.value (y := y) (W' := W) ?_ (Post.here S r)
  rw [ho]
  exact runV (run_pureRun _ _ _ h W)


omit T in
theorem someSl_val {u : AV} {y : Value} (h : someSl u = true) (r : VRel G.g u y) : ∃ b n c, y = .slice (some b) n c := by
  unfold someSl at h
  split at h
  · obtain ⟨_, a, c, e, _, ⟨_, ha⟩ | ⟨b, o, es, ha, _⟩⟩ := r
    · obtain ⟨b, rfl⟩ := Option.isSome_iff_exists.1 ha
      exact ⟨_, _, _, e⟩
    · exact ⟨_, _, _, by rw [e, ha]⟩
  · obtain ⟨_, a, e, hf, _⟩ := r
    obtain ⟨b, ha, _⟩ := hf rfl
    exact ⟨_, _, _, by rw [e, ha]⟩
  · obtain ⟨_, a, e, _, hE | ⟨b, o, es, ha, _⟩⟩ := r
    · cases hE
    · exact ⟨_, _, _, by rw [e, ha]⟩
  · obtain ⟨_, _, a, c, e, _, ⟨_, ha⟩ | ⟨b, es, ha, _⟩⟩ := r
    · obtain ⟨b, rfl⟩ := Option.isSome_iff_exists.1 ha
      exact ⟨_, _, _, e⟩
    · exact ⟨_, _, _, by rw [e, ha]⟩
  · obtain ⟨B, o, sz, c, _, _, e, _⟩ := r
    exact ⟨_, _, _, e⟩
  · cases h
omit T in
theorem nilSl_val {u : AV} {y : Value} (h : nilSl u = true) (r : VRel G.g u y) : y = .slice none 0 0 := by
  unfold nilSl at h
  split at h
  · exact r.1
  · cases h
omit T in
theorem somePt_val {u : AV} {y : Value} (h : somePt u = true) (r : VRel G.g u y) : ∃ b, y = .pointer (some b) := by
  unfold somePt at h
  split at h
  · obtain ⟨_, b, o, z, e, _⟩ := r; exact ⟨_, e⟩
  · obtain ⟨B, o, sz, es, _, e⟩ := r; exact ⟨_, e⟩
  · cases h
omit T in
theorem nilPt_val {u : AV} {y : Value} (h : nilPt u = true) (r : VRel G.g u y) : y = .pointer none := by
  unfold nilPt at h
  split at h
  · exact r.1
  · cases h
omit T in
theorem someIf_val {u : AV} {y : Value} (h : someIf u = true) (r : VRel G.g u y) : ∃ t z, y = .iface t z := by
  unfold someIf at h
  split at h
  · obtain ⟨z, e, _⟩ := r; exact ⟨_, _, e⟩
  · cases h
omit T in
theorem nilIf_val {u : AV} {y : Value} (h : nilIf u = true) (r : VRel G.g u y) : y = .nilIface := by
  unfold nilIf at h
  split at h
  · exact r.1
  · cases h
omit T in
theorem someFn_val {u : AV} {y : Value} (h : someFn u = true) (r : VRel G.g u y) : ∃ f p q, y = .func f p q := by
  unfold someFn at h
  split at h
  · obtain ⟨p, q, e, _⟩ := r; exact ⟨_, _, _, e⟩
  · cases h
omit T in
theorem nilFn_val {u : AV} {y : Value} (h : nilFn u = true) (r : VRel G.g u y) : y = .nilFunc := by
  unfold nilFn at h
  split at h
  · exact r.1
  · cases h

omit T in
theorem equal_succ (t : TypeId) (y z : Value) : Op.equal t y z = Op.equalIn (9999 + 1) t y z := rfl

theorem run_equal_nil {t : TypeId} {u v : AV} {y z : Value} (hu : nilEq C t u v = true) (ru : VRel G.g u y) (rv : VRel G.g v z) (p q : Operand) :
    ((do eqGuard .eql t p q y z; binOp .eql t y z : Sem Value)).run C.P W = .ok (.bool false) W ∧ ((do eqGuard .neq t p q y z; binOp .neq t y z : Sem Value)).run C.P W = .ok (.bool true) W := by
  unfold nilEq at hu
  split at hu
  · rename_i e hd
    have hr := run_underlying (T.und _ _ hd) W
    simp only [Bool.or_eq_true, Bool.and_eq_true] at hu
    rcases hu with ⟨h1, h2⟩ | ⟨h1, h2⟩
    · obtain rfl := nilSl_val h1 ru
      obtain ⟨b, n, c, rfl⟩ := someSl_val h2 rv
      have hq : ∀ k, (Op.equalIn (k + 1) t (.slice none 0 0) (.slice (some b) n c)).run C.P W = .ok false W := fun k => by simp [Op.equalIn, hr]
      constructor <;> simp [eqGuard, binOp, equal_succ, hq]
    · obtain rfl := nilSl_val h2 rv
      obtain ⟨b, n, c, rfl⟩ := someSl_val h1 ru
      have hq : ∀ k, (Op.equalIn (k + 1) t (.slice (some b) n c) (.slice none 0 0)).run C.P W = .ok false W := fun k => by simp [Op.equalIn, hr]
      constructor <;> simp [eqGuard, binOp, equal_succ, hq]
  · rename_i e hd
    have hr := run_underlying (T.und _ _ hd) W
    simp only [Bool.or_eq_true, Bool.and_eq_true] at hu
    rcases hu with ⟨h1, h2⟩ | ⟨h1, h2⟩
    · obtain rfl := nilPt_val h1 ru
      obtain ⟨b, rfl⟩ := somePt_val h2 rv
      have hq : ∀ k, (Op.equalIn (k + 1) t (.pointer none) (.pointer (some b))).run C.P W = .ok false W := fun k => by simp [Op.equalIn, hr]
      constructor <;> simp [eqGuard, binOp, equal_succ, hq]
    · obtain rfl := nilPt_val h2 rv
      obtain ⟨b, rfl⟩ := somePt_val h1 ru
      have hq : ∀ k, (Op.equalIn (k + 1) t (.pointer (some b)) (.pointer none)).run C.P W = .ok false W := fun k => by simp [Op.equalIn, hr]
      constructor <;> simp [eqGuard, binOp, equal_succ, hq]
  · rename_i e hd
    have hr := run_underlying (T.und _ _ hd) W
    simp only [Bool.or_eq_true, Bool.and_eq_true] at hu
    rcases hu with ⟨h1, h2⟩ | ⟨h1, h2⟩
    · obtain rfl := nilIf_val h1 ru
      obtain ⟨b, c, rfl⟩ := someIf_val h2 rv
      have hq : ∀ k, (Op.equalIn (k + 1) t .nilIface (.iface b c)).run C.P W = .ok false W := fun k => by simp [Op.equalIn, hr]
      constructor <;> simp [eqGuard, binOp, equal_succ, hq]
    · obtain rfl := nilIf_val h2 rv
      obtain ⟨b, c, rfl⟩ := someIf_val h1 ru
      have hq : ∀ k, (Op.equalIn (k + 1) t (.iface b c) .nilIface).run C.P W = .ok false W := fun k => by simp [Op.equalIn, hr]
      constructor <;> simp [eqGuard, binOp, equal_succ, hq]
  · rename_i e1 e2 e3 hd
    have hr := run_underlying (T.und _ _ hd) W
    simp only [Bool.or_eq_true, Bool.and_eq_true] at hu
    rcases hu with ⟨h1, h2⟩ | ⟨h1, h2⟩
    · obtain rfl := nilFn_val h1 ru
      obtain ⟨b, c, d, rfl⟩ := someFn_val h2 rv
      have hq : ∀ k, (Op.equalIn (k + 1) t .nilFunc (.func b c d)).run C.P W = .ok false W := fun k => by simp [Op.equalIn, hr]
      constructor <;> simp [eqGuard, binOp, equal_succ, hq]
    · obtain rfl := nilFn_val h2 rv
      obtain ⟨b, c, d, rfl⟩ := someFn_val h1 ru
      have hq : ∀ k, (Op.equalIn (k + 1) t (.func b c d) .nilFunc).run C.P W = .ok false W := fun k => by simp [Op.equalIn, hr]
      constructor <;> simp [eqGuard, binOp, equal_succ, hq]
  · cases hu

theorem samePt_val {t : TypeId} {u v : AV} {y z : Value} (h : samePt C t u v = true) (ru : VRel G.g u y) (rv : VRel G.g v z) : ∃ a te, y = .pointer (some a) ∧ z = .pointer (some a) ∧ C.P.underlying t = some (.pointer te) ∧ ∃ j, C.P.info? te = some j := by
  unfold samePt at h
  split at h
  · rename_i e b g i j b' g' i' j' hu
    simp only [Bool.and_eq_true, beq_iff_eq] at h
    obtain ⟨⟨⟨⟨h0, rfl⟩, rfl⟩, rfl⟩, rfl⟩ := h
    obtain ⟨B, o, sz, es, hb, rfl⟩ := ru
    obtain ⟨B', o', sz', es', hb', rfl⟩ := rv
    rw [hb] at hb'
    injection hb' with hb'
    injection hb' with e1 hb'
    injection hb' with e2 hb'
    injection hb' with e3 e4
    subst e1; subst e2; subst e4
    obtain ⟨n, hn⟩ := Option.isSome_iff_exists.1 h0
    obtain ⟨j', hj, _⟩ := T.csz _ _ hn
    exact ⟨_, e, rfl, rfl, T.und _ _ hu, j', hj⟩
  · cases h

theorem op_bin {op : BinOp} {t t' : TypeId} {p q : Operand} (ho : o.op = .binOp op t p q t') (S : Sim C G H W) (E : ERel G.g env a.tmps) {u v : AV} (h1 : aval C env p = some u) (h2 : aval C env q = some v) (h : binA C op t p q u v = some x) :
    OpOk C.P o a W (Post C G W x H) := by
  have r1 := S.aval E h1
  have r2 := S.aval E h2
  unfold binA at h
  split at h
  · rename_i y z hy hz
    rw [← toV_eq _ _ _ hy r1, ← toV_eq _ _ _ hz r2] at h
    simp only [Option.bind_eq_some_iff] at h
    obtain ⟨w, hw, hx⟩ := h
    exact op_pureRun (by simp only [execOp, ho]) S hw (ofV_rel hx)
  · split at h
    · split at h
      · rename_i hn
        injection h with h; subst h
        refine OpOk.value (y := .bool false) (W' := W) ?_ (Post.here S ⟨rfl, rfl⟩)
        simp only [execOp, ho]
        exact runV (run_equal_nil T hn r1 r2 p q).1
      · split at h
        · rename_i hn
          injection h with h; subst h
          obtain ⟨ad, te, e1, e2, hu, j, hj⟩ := samePt_val T hn r1 r2
          refine OpOk.value (y := .bool true) (W' := W) ?_ (Post.here S ⟨rfl, rfl⟩)
          simp only [execOp, ho, e1, e2]
          refine runV ?_
          have := run_eql_ptr_same W ad hu hj
          simp only [Sem.run_bind, eqGuard, this]
          first | rfl | simp [this]
        · cases h
    · split at h
      · rename_i hn
        injection h with h; subst h
        refine OpOk.value (y := .bool true) (W' := W) ?_ (Post.here S ⟨rfl, rfl⟩)
        simp only [execOp, ho]
        exact runV (run_equal_nil T hn r1 r2 p q).2
      · split at h
        · rename_i hn
          injection h with h; subst h
          obtain ⟨ad, te, e1, e2, hu, j, hj⟩ := samePt_val T hn r1 r2
          refine OpOk.value (y := .bool false) (W' := W) ?_ (Post.here S ⟨rfl, rfl⟩)
          simp only [execOp, ho, e1, e2]
          refine runV ?_
          have := Lib.run_neq_ptr_same W ad hu hj
          simp only [Sem.run_bind, eqGuard, this]
          first | rfl | simp [this]
        · cases h
    · cases h
end
end Go.AM

namespace Go.AM
section
variable {C : Cfg} {G : Gs} {H : Hp} {W : World} {o : Oper} {a : Act} {env : Env} {x : AV}

theorem cell_freeze (W : World) (a : Addr) (n : Nat) (p : Addr) : (W.freeze a n).cell? p = W.cell? p := by
  unfold World.freeze
  split
  · rfl
  · simp only [World.cell?, Array.getElem?_modify]
    by_cases h : a.block = p.block
    · rw [if_pos h]
      cases hh : W.heap[p.block]? with
      | none => simp
      | some o => cases o <;> simp
    · rw [if_neg h]
theorem size_freeze (W : World) (a : Addr) (n : Nat) : (W.freeze a n).heap.size = W.heap.size := by
  unfold World.freeze
  split
  · rfl
  · simp
theorem heap_freeze (W : World) (a : Addr) (n : Nat) (B : Nat) (h : B ≠ a.block) : (W.freeze a n).heap[B]? = W.heap[B]? := by
  unfold World.freeze
  split
  · rfl
  · simp only [Array.getElem?_modify]
    rw [if_neg (fun e => h e.symm)]
theorem freeze_os (W : World) (a : Addr) (n : Nat) : (W.freeze a n).os = W.os ∧ (W.freeze a n).tape = W.tape ∧ (W.freeze a n).output = W.output := by
  unfold World.freeze
  split <;> exact ⟨rfl, rfl, rfl⟩

theorem ownsRow_of_heap {W W' : World} {base : Nat} {e : TypeId} {size : Nat} {y : Value} {n : Nat} {vals : List Value} (h : W.ownsRow base e size y n vals) (hk : ∀ B, y.ownBlock = some B → W'.heap[B]? = W.heap[B]?) : W'.ownsRow base e size y n vals := by
  refine ⟨h.1, ?_⟩
  rcases h.2 with hn | ⟨g, cap, cur, rfl, hb, hg, rest⟩
  · exact .inl hn
  · exact .inr ⟨g, cap, cur, rfl, hb, (hk g rfl).trans hg, rest⟩

/-- A mark on a row that nobody owns. -/
theorem Sim.freeze (S : Sim C G H W) (p : Addr) (n : Nat) (ho : G.own p.block = none) : Sim C G H (W.freeze p n) where
  base := by rw [size_freeze]; exact S.base
  im b o v x := by rw [cell_freeze]; exact S.im b o v x
  lit b x := by rw [size_freeze]; exact S.lit b x
  own b w x := by rw [size_freeze]; exact S.own b w x
  tok t e tid x hs := by
    obtain ⟨y, size, vals, h1, h2, h0, h3, h4⟩ := S.tok t e tid x hs
    refine ⟨y, size, vals, h1, h2, h0, ownsRow_of_heap h3 fun B hB => heap_freeze _ _ _ _ ?_, h4⟩
    rintro rfl
    rw [(h4 _ hB).1] at ho
    cases ho
  tokN := S.tokN
  blk b k x := by
    obtain ⟨B, o, cells, tid, h1, h2, h3, h4⟩ := S.blk b k x
    refine ⟨B, o, cells, tid, h1, ⟨(heap_freeze _ _ _ _ ?_).trans h2.1, h2.2⟩, h3, h4⟩
    rintro rfl
    rw [h3] at ho
    cases ho
  blkN := S.blkN
  gl := S.gl
  mp m es x := (S.mp m es x).move (Gle.refl _) (fun R hR _ => heap_freeze _ _ _ _ (by
    rintro rfl
    rw [ho] at hR
    cases hR)) (fun _ x _ => x)
  mpN := S.mpN
theorem Adv.freeze {G' : Gs} {W' : World} (h : Adv G W G' W') (p : Addr) (n : Nat) (hp : W.heap.size ≤ p.block ∨ G.g.lit p.block) : Adv G W G' (W'.freeze p n) where
  gle := h.gle
  os := (freeze_os W' p n).1.trans h.os
  tape := (freeze_os W' p n).2.1.trans h.tape
  output := (freeze_os W' p n).2.2.trans h.output
  size := by rw [size_freeze]; exact h.size
  frame B hB ho hl := by
    rw [heap_freeze]
    · exact h.frame B hB ho hl
    · rintro rfl
      rcases hp with hp | hp
      · omega
      · exact hl hp
  ownK := h.ownK
  litK := h.litK
  imK := h.imK

theorem run_markStringish {P : Program} (p : Addr) {cs : Array Value} {t : TypeId} {fr : Nat × Nat} (h : W.heap[p.block]? = some (.cells cs t fr)) : (markStringish p).run P W = .ok () (W.freeze ⟨p.block, cs.size, none⟩ 1) := by
  simp [markStringish, World.shape?, h]

theorem bytesA_ints : ∀ {xs : List AV} {l : List UInt8}, bytesA xs = some l → ∃ ns : List Int, xs = ns.map (fun n => .v (.int .u8 n)) ∧ l = ns.map fun n => UInt8.ofNat n.toNat
  | [], l, h => by simp only [bytesA, Option.some.injEq] at h; subst h; exact ⟨[], rfl, rfl⟩
  | x :: xs, l, h => by
    unfold bytesA at h
    split at h
    · rename_i he; cases he
    · rename_i n xs' he
      injection he with e1 e2
      subst e1; subst e2
      simp only [Option.map_eq_some_iff] at h
      obtain ⟨l', hl, rfl⟩ := h
      obtain ⟨ns, h1, h2⟩ := bytesA_ints hl
      exact ⟨n :: ns, by simp [h1], by simp [h2]⟩
    · cases h
theorem foldl_push : ∀ (ns : List Int) (s : ByteArray), ns.foldl (fun r n => r.push (UInt8.ofNat n.toNat)) s = ⟨s.data ++ (ns.map fun n => UInt8.ofNat n.toNat).toArray⟩
  | [], s => by simp
  | n :: ns, s => by
    rw [List.foldl_cons, foldl_push ns]
    congr 1
    apply Array.ext'
    simp [ByteArray.push]

/-- The elements of a slice that is read. -/
theorem elems_val {y : Value} {xs : List AV} (h : elems x = some xs) (r : VRel G.g x y) : Bares xs ∧ ∃ a c, y = .slice a xs.length c ∧ xs.length ≤ c ∧ (xs = [] ∨ ∃ b o es, a = some ⟨b, o, none⟩ ∧ 0 < es ∧ Elems G.g es b o xs) := by
  unfold elems at h
  split at h
  · injection h with h; subst h
    obtain ⟨hb, a, c, e, l, hE⟩ := r
    exact ⟨hb, a, c, e, l, hE.imp And.left id⟩
  · injection h with h; subst h
    obtain ⟨hb, a, e, _, hE⟩ := r
    exact ⟨hb, a, _, e, Nat.le_refl _, hE⟩
  · injection h with h; subst h
    obtain ⟨hb, _, a, c, e, l, hE⟩ := r
    exact ⟨hb, a, c, e, l, hE.imp And.left fun ⟨b, es, h1, h2, h3⟩ => ⟨b, 0, es, h1, h2, h3⟩⟩
  · injection h with h; subst h
    exact ⟨trivial, none, 0, r.1, Nat.le_refl _, .inl rfl⟩
  · cases h

/-- Elements of one cell each: what the cells hold. -/
theorem Elems.ones {G : Gh} {es b : Nat} : ∀ {vs : List Value} {o : Nat}, Elems G es b o (vs.map .v) → (∀ v ∈ vs, v.oneCell' = true) → (vs = [] ∨ es = 1) ∧ ∀ j v, vs[j]? = some v → G.im b (o + j) = some v
  | [], _, _, _ => ⟨.inl rfl, fun j v h => by simp at h⟩
  | u :: vs, o, ⟨⟨z, ⟨hz, hp⟩, hs, hi⟩, rest⟩, h1 => by
    subst hz
    have hc : z.cells = #[z] := plain_of_not_agg hp
    rw [hc] at hs hi
    have es1 : es = 1 := by simpa using hs.symm
    subst es1
    obtain ⟨_, k⟩ := Elems.ones rest (fun v hv => h1 v (List.mem_cons_of_mem _ hv))
    refine ⟨.inr rfl, fun j v hj => ?_⟩
    cases j with
    | zero => simp at hj; subst hj; exact (hi 0 _ (by simp)).1
    | succ j =>
      have := k j v (by simpa using hj)
      rwa [show o + (j + 1) = o + 1 + j by omega]

theorem Elems.of_ones {G : Gh} {b : Nat} : ∀ {vs : List Value} {o : Nat}, (∀ v ∈ vs, v.oneCell' = true) → (∀ j v, vs[j]? = some v → G.im b (o + j) = some v) → Elems G 1 b o (vs.map .v)
  | [], _, _, _ => trivial
  | u :: vs, o, h1, h => by
    have hu := h1 u (by simp)
    have hc : u.cells = #[u] := by cases u <;> first | rfl | simp [Value.oneCell'] at hu
    refine ⟨⟨u, ⟨rfl, by cases u <;> first | rfl | simp [Value.oneCell'] at hu⟩, by rw [hc]; rfl, ?_⟩, Elems.of_ones (fun v hv => h1 v (List.mem_cons_of_mem _ hv)) fun j v hj => ?_⟩
    · rw [hc]
      intro j v hj
      cases j with
      | zero => simp at hj; subst hj; exact ⟨h 0 _ rfl, hu⟩
      | succ j => simp at hj
    · rw [show o + 1 + j = o + (j + 1) by omega]
      exact h (j + 1) v (by simpa using hj)
theorem byteAVs_bare (b : ByteArray) : Bares (byteAVs b) := Bares.of fun x hx => by
  simp only [byteAVs, List.mem_map] at hx
  obtain ⟨c, _, rfl⟩ := hx
  trivial

variable (T : C.Tables)
include T
theorem isU8_und {e : TypeId} (h : isU8 C e = true) : C.P.underlying e = some (.int .u8) := by
  unfold isU8 at h
  split at h
  · rename_i hd; exact T.und _ _ hd
  · cases h

omit T in
theorem run_bytes_of {src dst e : TypeId} (hs : C.P.underlying src = some (.slice e)) (he : C.P.underlying e = some (.int .u8)) (hd : C.P.underlying dst = some .string) (S : Sim C G H W) {u : AV} {y : Value} (r : VRel G.g u y)
    {xs : List AV} (hx : elems u = some xs) {l : List UInt8} (hl : bytesA xs = some l) : (convert src dst y).run C.P W = .ok (.string ⟨l.toArray⟩) W := by
  obtain ⟨_, a, c, rfl, _, hE⟩ := elems_val hx r
  obtain ⟨ns, rfl, rfl⟩ := bytesA_ints hl
  rw [run_convert_bytes_string W src dst e a _ c hs he hd]
  rcases hE with hE | ⟨b, o, es, rfl, hes, hE⟩
  · have : ns = [] := by simpa using hE
    subst this
    cases a with
    | none => rfl
    | some a => simp [Conv.bytesToString, loadCells, loadCellsFrom]; rfl
  · have hm : (ns.map fun n => AV.v (.int .u8 n)) = (ns.map (Value.int .u8)).map .v := by simp
    rw [hm] at hE
    obtain ⟨_, hk⟩ := Elems.ones hE (by simp [Value.oneCell'])
    have hlc := run_loadCells_list (P := C.P) (w := W) (⟨b, o, none⟩ : Addr) (ns.map (Value.int .u8)) (fun j v hj => by
      rw [Addr.add_lit]; exact S.im _ _ _ (hk j v hj))
    rw [List.length_map] at hlc ⊢
    rw [run_bytesToString W _ _ c ns hlc, foldl_push]
    congr 2
    simp [ByteArray.empty, ByteArray.emptyWithCapacity]
    rfl

omit T in
theorem op_unOp {op : UnOp} {t : TypeId} {p : Operand} (ho : o.op = .unOp op t p) (S : Sim C G H W) (E : ERel G.g env a.tmps) {u : AV} (h1 : aval C env p = some u) {y : Value} (hy : u.toV = some y) {z : Value} (hz : pureRun C.P (Op.unary op y) = some z) (hx : ofV z = some x) :
    OpOk C.P o a W (Post C G W x H) := by
  rw [← toV_eq _ _ _ hy (S.aval E h1)] at hz
  exact op_pureRun (by simp only [execOp, ho]) S hz (ofV_rel hx)

omit T in
theorem byteAVs_rel (s : ByteArray) : byteAVs s = (s.data.toList.map fun (c : UInt8) => Value.int .u8 c.toNat).map .v := by simp [byteAVs]

theorem op_convert {s d : TypeId} {p : Operand} (ho : o.op = .convert s d p) (S : Sim C G H W) (E : ERel G.g env a.tmps) {u : AV} (h1 : aval C env p = some u) (h : convA C s d u = some x) : OpOk C.P o a W (Post C G W x H) := by
  have r := S.aval E h1
  unfold convA at h
  split at h
  · rename_i e hs hd
    split at h
    · rename_i he
      simp only [Option.map_eq_some_iff, Option.bind_eq_some_iff] at h
      obtain ⟨l, ⟨xs, hx, hl⟩, rfl⟩ := h
      refine OpOk.value (y := .string ⟨l.toArray⟩) (W' := W) ?_ (Post.here S ⟨rfl, rfl⟩)
      simp only [execOp, ho]
      exact runV (run_bytes_of (T.und _ _ hs) (isU8_und T he) (T.und _ _ hd) S r hx hl)
    · cases h
  · rename_i e b hs hd
    split at h
    · rename_i he
      injection h with h; subst h
      have hv : a.eval p = .string b := r.1
      have hal : ∀ v ∈ (Lib.bytesCells W e b).toList, v.oneCell' = true := by
        intro v hv
        simp only [Lib.bytesCells, Array.toList_append, List.mem_append] at hv
        rcases hv with hv | hv
        · simp at hv; obtain ⟨c, _, rfl⟩ := hv; rfl
        · simp at hv; rw [hv.2]; rfl
      obtain ⟨s1, s2, s3⟩ := S.drew.lay (Lib.bytesCells W e b) e false hal
      have hno : (G.lay W.drew.heap.size (Lib.bytesCells W e b) false).own W.heap.size = none := by
        cases hh : G.own W.heap.size with
        | none => exact hh
        | some w => have := S.own _ _ hh; omega
      have hge := grownCap_ge W b.size 0 e
      have hel : Elems (G.lay W.drew.heap.size (Lib.bytesCells W e b) false).g 1 W.heap.size 0 (byteAVs b) := by
        rw [byteAVs_rel]
        refine Elems.of_ones (fun v hv => ?_) fun j v hj => ?_
        · simp at hv; obtain ⟨c, _, rfl⟩ := hv; rfl
        · have hj' := s3 j v (by
            simp only [Lib.bytesCells, Array.toList_append]
            rw [List.getElem?_append_left (by simpa using (List.getElem?_eq_some_iff.1 hj).1)]
            simpa using hj)
          exact hj'.1
      have hlen : (byteAVs b).length = b.size := by simp [byteAVs]
      refine OpOk.value (y := .slice (some ⟨W.heap.size, 0, none⟩) b.size (grownCap W b.size 0 e)) (W' := Lib.bytesWorld W e b) ?_
        ⟨_, ⟨byteAVs_bare b, _, _, by rw [hlen], by rw [hlen]; exact hge, .inr ⟨W.heap.size, 0, 1, rfl, by omega, hel⟩⟩, s1.freeze ⟨W.heap.size, _, none⟩ 1 hno, ((Adv.drew G W).trans s2).freeze ⟨W.heap.size, _, none⟩ 1 (.inl (Nat.le_refl _))⟩
      simp only [execOp, ho]
      refine runV ?_
      rw [hv]
      exact Lib.run_convert_string_bytes W s d e b (T.und _ _ hs) (T.und _ _ hd) (isU8_und T he)
    · cases h
  · rename_i e' e xs hs hd
    split at h
    · rename_i hc
      injection h with h; subst h
      simp only [Bool.and_eq_true, beq_iff_eq, Bool.not_eq_true', List.isEmpty_eq_false_iff] at hc
      obtain ⟨⟨h1', h2⟩, h3⟩ := hc
      subst h1'
      have r' := r
      obtain ⟨hb, a', he, hl, hE⟩ := r
      obtain ⟨b, rfl, hlit⟩ := hl rfl
      rcases hE with hE | ⟨b2, o2, es, ha, hes, hE⟩
      · exact absurd hE h3
      injection ha with ha
      injection ha with ha1 ha2
      subst ha1; subst ha2
      obtain ⟨x0, xs, rfl⟩ := List.exists_cons_of_ne_nil h3
      have hcell : ∃ v, W.cell? ⟨b, 0, none⟩ = some v := by
        obtain ⟨⟨z, _, hz, hi⟩, _⟩ := hE
        have : 0 < z.cells.toList.length := by simp; omega
        exact ⟨_, S.im _ _ _ (hi 0 _ (List.getElem?_eq_getElem this)).1⟩
      obtain ⟨v, hcell⟩ := hcell
      have hrow : ∃ cs t fr, W.heap[b]? = some (.cells cs t fr) := by
        simp only [World.cell?] at hcell
        split at hcell
        · rename_i cs t fr hh; exact ⟨cs, t, fr, hh⟩
        · cases hcell
      obtain ⟨cs, t, fr, hrow⟩ := hrow
      refine OpOk.value (y := a.eval p) (W' := W.freeze ⟨b, cs.size, none⟩ 1) ?_ ⟨G, r', S.freeze _ _ (S.lit b hlit).2.2, (Adv.refl G W).freeze _ _ (.inr hlit)⟩
      simp only [execOp, ho]
      refine runV ?_
      rw [he]
      have hee : e = e' := by rw [hs] at hd; injection hd with hd; injection hd with hd; exact hd.symm
      subst hee
      simp [convert, run_underlying (T.und _ _ hs), run_underlying (isU8_und T h2), run_markStringish (p := ⟨b, 0, none⟩) hrow]
    · cases h
  · cases h
  · split at h
    · rename_i y hy
      rw [← toV_eq _ _ _ hy r] at h
      simp only [Option.bind_eq_some_iff] at h
      obtain ⟨w, hw, hx⟩ := h
      exact op_pureRun (by simp only [execOp, ho]) S hw (ofV_rel hx)
    · cases h
  · cases h
end
end Go.AM

namespace Go.AM
section
variable {C : Cfg} {G : Gs} {H : Hp} {W : World} {o : Oper} {a : Act} {env : Env} {x : AV}

theorem idx_val {u : AV} {y : Value} {n : Nat} (h : idx u = some n) (r : VRel G.g u y) : ∃ k, y = .int k (n : Int) := by
  unfold idx at h
  split at h
  · rename_i k m
    split at h
    · rename_i h0
      injection h with h
      refine ⟨k, ?_⟩
      rw [r.1]
      congr 1
      omega
    · cases h
  · cases h

variable (T : C.Tables)
include T

theorem op_makeInterface {t : TypeId} {p : Operand} (ho : o.op = .makeInterface t p) (S : Sim C G H W) (E : ERel G.g env a.tmps) {u : AV} (h1 : aval C env p = some u) {d : TypeDesc} (hd : C.und t = some d) (hn : ∀ ms, d ≠ .interface ms) :
    OpOk C.P o a W (Post C G W (.iface t u) H) := by
  refine OpOk.value (y := .iface t (a.eval p)) (W' := W) ?_ (Post.here S ⟨_, rfl, S.aval E h1⟩)
  simp only [execOp, ho]
  refine runV ?_
  simp only [Instr.makeInterface, Sem.run_bind, run_underlying (T.und _ _ hd), Result.andThen_ok]
  cases d <;> first | rfl | exact absurd rfl (hn _)

theorem op_typeAssert {t t' : TypeId} {p : Operand} {ok : Bool} (ho : o.op = .typeAssert p t' t ok) (S : Sim C G H W) (E : ERel G.g env a.tmps) {u : AV} (h1 : aval C env p = some (.iface t u)) {d : TypeDesc} (hd : C.und t = some d) (hn : ∀ ms, d ≠ .interface ms) :
    OpOk C.P o a W (Post C G W (if ok then .tup [u, .v (.bool true)] else u) H) := by
  obtain ⟨z, he, r⟩ := S.aval E h1
  refine OpOk.value (y := if ok then .tuple #[z, .bool true] else z) (W' := W) ?_ (Post.here S ?_)
  · simp only [execOp, ho]
    refine runV ?_
    rw [he]
    simp only [Instr.typeAssert, Sem.run_bind, run_underlying (T.und _ _ hd), Result.andThen_ok]
    cases d <;> first | (simp; done) | exact absurd rfl (hn _)
  · cases ok
    · exact r
    · exact ⟨_, rfl, z, [.bool true], rfl, r, VRels.one ⟨rfl, rfl⟩⟩

theorem op_field {t : TypeId} {p : Operand} {f : Nat} (ho : o.op = .field t p f) (S : Sim C G H W) (E : ERel G.g env a.tmps) {cs : List AV} (h1 : aval C env p = some (.agg cs)) {fields : Array Field} (hd : C.und t = some (.struct fields)) {fd : Field} (hf : fields[f]? = some fd)
    (hx : partA C fd.type cs fd.offset = some x) : OpOk C.P o a W (Post C G W x H) := by
  obtain ⟨ys, he, r⟩ := S.aval E h1
  obtain ⟨y, hy, ry⟩ := run_partA T hx r W
  refine OpOk.value (y := y) (W' := W) ?_ (Post.here S ry)
  simp only [execOp, ho]
  exact runV (by simp [Instr.field, run_underlying (T.und _ _ hd), hf, he, asAgg, hy])

theorem op_fieldAddr {t : TypeId} {p : Operand} {f : Nat} (ho : o.op = .fieldAddr t p f) (S : Sim C G H W) (E : ERel G.g env a.tmps) {u : AV} (h1 : aval C env p = some u) (h : fieldAddrA C t u f = some x) : OpOk C.P o a W (Post C G W x H) := by
  have r := S.aval E h1
  unfold fieldAddrA at h
  split at h
  · rename_i fields hd
    split at h
    · rename_i fd hf
      split at h
      · rename_i k hk
        have hsz := run_csz T hk W
        have main : ∀ b q, a.eval p = .pointer (some ⟨b, q, none⟩) → VRel G.g x (.pointer (some ⟨b, q + fd.offset, none⟩)) → OpOk C.P o a W (Post C G W x H) := by
          intro b q he rx
          refine OpOk.value (y := .pointer (some ⟨b, q + fd.offset, none⟩)) (W' := W) ?_ (Post.here S rx)
          simp only [execOp, ho]
          exact runV (by simp [Instr.fieldAt, run_underlying (T.und _ _ hd), hf, he, Instr.sureAddr, fieldPlace, hsz, Addr.add_lit])
        split at h
        · rename_i z j
          injection h with h; subst h
          obtain ⟨hb, b, q, w, he, rz, hi⟩ := r
          exact main b (q + j) he ⟨hb, b, q, w, by rw [Nat.add_assoc], rz, hi⟩
        · rename_i b g i j
          injection h with h; subst h
          obtain ⟨B, q, sz, es, hb, he⟩ := r
          exact main B _ he ⟨B, q, sz, es, hb, by rw [Nat.add_assoc]⟩
        · cases h
      · cases h
    · cases h
  · cases h

theorem op_indexAddr {t : TypeId} {p q : Operand} (ho : o.op = .indexAddr t p q) (S : Sim C G H W) (E : ERel G.g env a.tmps) {u v : AV} (h1 : aval C env p = some u) (h2 : aval C env q = some v) (h : indexAddrA C t u v = some x) : OpOk C.P o a W (Post C G W x H) := by
  have r := S.aval E h1
  unfold indexAddrA at h
  split at h
  · rename_i i e hi hd
    obtain ⟨k, hk⟩ := idx_val hi (S.aval E h2)
    split at h
    · rename_i sz hsz
      have hs := run_csz T hsz W
      have main : ∀ b w n c, a.eval p = .slice (some ⟨b, w, none⟩) n c → i < n → VRel G.g x (.pointer (some ⟨b, w + i * (sz + 1), none⟩)) → OpOk C.P o a W (Post C G W x H) := by
        intro b w n c he hlt rx
        refine OpOk.value (y := .pointer (some ⟨b, w + i * (sz + 1), none⟩)) (W' := W) ?_ (Post.here S rx)
        simp only [execOp, ho]
        exact runV (by simp [Instr.indexAt, hk, asIntOf, run_underlying (T.und _ _ hd), he, hs, hlt, Addr.add_lit])
      split at h
      · rename_i b g es off len
        split at h
        · rename_i hlt
          obtain ⟨hlt, rfl⟩ := hlt
          injection h with h; subst h
          obtain ⟨B, w, s, c, hb, hes, he, hc⟩ := r
          exact main B (w + off * (sz + 1)) len c he hlt ⟨B, w, s, sz + 1, hb, by rw [Nat.add_mul]; simp [Nat.add_assoc]⟩
        · cases h
      · simp only [Option.bind_eq_some_iff] at h
        obtain ⟨z, ⟨xs, hx, hz⟩, hif⟩ := h
        split at hif
        · rename_i hzl
          injection hif with hif; subst hif
          obtain ⟨hb, a', c, he, _, hE | ⟨b, w, es, rfl, hes, hE⟩⟩ := elems_val hx r
          · subst hE; simp at hz
          · obtain ⟨y, ry, hys, hyi⟩ := Elems.get es b hE hz
            have : es = sz + 1 := by have := VRels.length ry.cells; simp at this; omega
            subst this
            exact main b w xs.length c he (List.getElem?_eq_some_iff.1 hz).1 ⟨hb.get hz, b, w + i * (sz + 1), y, rfl, ry, hyi⟩
        · cases hif
    · cases h
  · rename_i i n e hi hd
    obtain ⟨k, hk⟩ := idx_val hi (S.aval E h2)
    split at h
    · rename_i sz hsz
      have hs := run_csz T hsz W
      split at h
      · rename_i hlt
        have main : ∀ b w, a.eval p = .pointer (some ⟨b, w, none⟩) → VRel G.g x (.pointer (some ⟨b, w + i * (sz + 1), none⟩)) → OpOk C.P o a W (Post C G W x H) := by
          intro b w he rx
          refine OpOk.value (y := .pointer (some ⟨b, w + i * (sz + 1), none⟩)) (W' := W) ?_ (Post.here S rx)
          simp only [execOp, ho]
          refine runV ?_
          simp only [Instr.indexAt, hk, asIntOf, Sem.run_bind, Sem.run_pure, Result.andThen_ok, run_underlying (T.und _ _ hd), he, Instr.sureAddr]
          simp [hs, hlt, Addr.add_lit]
        split at h
        · rename_i z j
          injection h with h; subst h
          obtain ⟨hb, b, w, y, he, rz, hyi⟩ := r
          exact main b (w + j) he ⟨hb, b, w, y, by rw [Nat.add_assoc], rz, hyi⟩
        · rename_i b g l j
          injection h with h; subst h
          obtain ⟨B, w, s, es, hb, he⟩ := r
          exact main B _ he ⟨B, w, s, es, hb, by rw [Nat.add_assoc]⟩
        · cases h
      · cases h
    · cases h
  · cases h

theorem op_index {t : TypeId} {p q : Operand} (ho : o.op = .index t p q) (S : Sim C G H W) (E : ERel G.g env a.tmps) {u v : AV} (h1 : aval C env p = some u) (h2 : aval C env q = some v) (h : indexA C t u v = some x) : OpOk C.P o a W (Post C G W x H) := by
  have r := S.aval E h1
  unfold indexA at h
  split at h
  · rename_i i s hi hd
    obtain ⟨k, hk⟩ := idx_val hi (S.aval E h2)
    split at h
    · rename_i hlt
      injection h with h; subst h
      have he : a.eval p = .string s := r.1
      refine OpOk.value (y := .int .u8 s[i].toNat) (W' := W) ?_ (Post.here S ⟨rfl, rfl⟩)
      simp only [execOp, ho]
      refine runV ?_
      simp [Instr.index, hk, asIntOf, run_underlying (T.und _ _ hd), he, hlt]
    · cases h
  · rename_i i n e cs hi hd
    obtain ⟨k, hk⟩ := idx_val hi (S.aval E h2)
    split at h
    · rename_i sz hsz
      split at h
      · rename_i hlt
        obtain ⟨ys, he, rc⟩ := r
        obtain ⟨y, hy, ry⟩ := run_partA T h rc W
        refine OpOk.value (y := y) (W' := W) ?_ (Post.here S ry)
        simp only [execOp, ho]
        refine runV ?_
        simp only [Instr.index, hk, asIntOf, Sem.run_bind, Sem.run_pure, Result.andThen_ok, run_underlying (T.und _ _ hd), he]
        simp [run_csz T hsz, hlt, hy]
      · cases h
    · cases h
  · cases h

/-- How much room a row has. -/
theorem op_cap {c : Call} {args : List AV} (ho : o.op = .call c) (hc : c.callee = .builtin .cap) (S : Sim C G H W) (E : ERel G.g env a.tmps) (h1 : avals C env c.args.toList = some args) (h : capA C c.argTypes args = some x) : OpOk C.P o a W (Post C G W x H) := by
  have r := S.avals E h1
  unfold capA at h
  split at h
  · rename_i b g es off len e' hd
    simp only [Option.map_eq_some_iff] at h
    obtain ⟨m, hm, rfl⟩ := h
    simp only [Option.bind_eq_some_iff] at hd
    obtain ⟨t, ht, hd⟩ := hd
    obtain ⟨y, ys, e, ry, rys⟩ := r
    obtain rfl : ys = [] := rys
    obtain ⟨B, w, s, c', hb, hes, he, hlc, hcc, hbd, hex⟩ := ry
    subst he
    have hmc := hex m hm
    obtain rfl : c' = m - off := by omega
    refine OpOk.value (y := .int .i64 ((m - off : Nat) : Int)) (W' := W) ?_ (Post.here S ⟨rfl, rfl⟩)
    have hargs : c.args.map a.eval = #[.slice (some ⟨B, w + off * es, none⟩) len (m - off)] := by apply Array.ext'; simpa using e
    have hu := run_underlying (T.und _ _ hd) W
    simp only [execOp, ho, resolve, hc, hargs, Sem.run_bind, Sem.run_pure, Result.andThen_ok, invoke, builtin, Builtin.cap_, ht]
    simp [hu, goInt]
  · cases h
theorem op_len {c : Call} {args : List AV} (ho : o.op = .call c) (hc : c.callee = .builtin .len) (S : Sim C G H W) (E : ERel G.g env a.tmps) (h1 : avals C env c.args.toList = some args) (h : lenA C c.argTypes args = some x) : OpOk C.P o a W (Post C G W x H) := by
  have r := S.avals E h1
  have main : ∀ t d y n, c.argTypes[0]? = some t → C.und t = some d → c.args.toList.map a.eval = [y] → x = .v (.int .i64 (n : Int)) →
      ((∃ s : ByteArray, d = .string ∧ y = .string s ∧ n = (s.size : Int)) ∨ (∃ e b m k, d = .slice e ∧ y = .slice b m k ∧ n = (m : Int)) ∨ (∃ m e, d = .array m e ∧ n = (m : Int))) → OpOk C.P o a W (Post C G W x H) := by
    intro t d y n ht hd hy hx hcase
    subst hx
    refine OpOk.value (y := .int .i64 n) (W' := W) ?_ (Post.here S ⟨rfl, rfl⟩)
    have hargs : c.args.map a.eval = #[y] := by apply Array.ext'; simpa using hy
    have hu := run_underlying (T.und _ _ hd) W
    simp only [execOp, ho, resolve, hc, hargs, Sem.run_bind, Sem.run_pure, Result.andThen_ok, invoke, builtin, Builtin.len_, ht]
    rcases hcase with ⟨s, rfl, rfl, rfl⟩ | ⟨e, b, m, k, rfl, rfl, rfl⟩ | ⟨m, e, rfl, rfl⟩
    · simp [hu, goInt]
    · simp [hu, goInt]
    · simp [hu, goInt]
  unfold lenA at h
  split at h
  · rename_i s hd
    injection h with h
    simp only [Option.bind_eq_some_iff] at hd
    obtain ⟨t, ht, hd⟩ := hd
    obtain ⟨y, ys, e, ry, rys⟩ := r
    obtain rfl : ys = [] := rys
    exact main t _ y s.size ht hd e h.symm (.inl ⟨s, rfl, ry.1, rfl⟩)
  · rename_i e' hd
    injection h with h
    simp only [Option.bind_eq_some_iff] at hd
    obtain ⟨t, ht, hd⟩ := hd
    obtain ⟨y, ys, e, ry, rys⟩ := r
    obtain rfl : ys = [] := rys
    obtain ⟨B, w, s, c', hb, hes, he, hcc⟩ := ry
    exact main t _ y _ ht hd e h.symm (.inr (.inl ⟨_, _, _, _, rfl, he, rfl⟩))
  · rename_i u e' _ hd
    simp only [Option.map_eq_some_iff] at h
    obtain ⟨l, hl, hx⟩ := h
    simp only [Option.bind_eq_some_iff] at hd
    obtain ⟨t, ht, hd⟩ := hd
    obtain ⟨y, ys, e, ry, rys⟩ := r
    obtain rfl : ys = [] := rys
    obtain ⟨_, a', c', he, _⟩ := elems_val hl ry
    exact main t _ y _ ht hd e hx.symm (.inr (.inl ⟨_, _, _, _, rfl, he, rfl⟩))
  · rename_i u m e' hd
    injection h with h
    simp only [Option.bind_eq_some_iff] at hd
    obtain ⟨t, ht, hd⟩ := hd
    obtain ⟨y, ys, e, ry, rys⟩ := r
    obtain rfl : ys = [] := rys
    exact main t _ y _ ht hd e h.symm (.inr (.inr ⟨_, _, rfl, rfl⟩))
  · cases h
end
end Go.AM

namespace Go.AM
section
variable {C : Cfg} {G : Gs} {H : Hp} {W : World} {o : Oper} {a : Act} {env : Env} {x : AV}

/-- A bound of a slice expression: not there, or a number. -/
def BoundIs (v : Option Value) (d n : Nat) : Prop := (v = none ∧ n = d) ∨ ∃ k, v = some (.int k (n : Int))
theorem run_sliceBound {P : Program} {k : IntKind} {n y : Nat} {c : BoundsCode} (h : n ≤ y) : (Instr.sliceBound (.int k (n : Int)) y c).run P W = .ok n W := by
  simp [Instr.sliceBound, asIntOf, h]
theorem run_sliceBounds {P : Program} {s : Bool} {len cap l h : Nat} {lo hi : Option Value} (h1 : BoundIs lo 0 l) (h2 : BoundIs hi len h) (hlh : l ≤ h) (hc : h ≤ cap) :
    (Instr.sliceBounds s len cap lo hi none).run P W = .ok (l, h, cap) W := by
  rcases h1 with ⟨rfl, rfl⟩ | ⟨k, rfl⟩ <;> rcases h2 with ⟨rfl, rfl⟩ | ⟨k', rfl⟩ <;> cases s <;> simp [Instr.sliceBounds, run_sliceBound hlh, run_sliceBound hc]
theorem run_sliceBounds3 {P : Program} {s : Bool} {len cap l h : Nat} {lo : Option Value} {k k' : IntKind} (h1 : BoundIs lo 0 l) (hlh : l ≤ h) (hc : h ≤ cap) :
    (Instr.sliceBounds s len cap lo (some (.int k (h : Int))) (some (.int k' (h : Int)))).run P W = .ok (l, h, h) W := by
  rcases h1 with ⟨rfl, rfl⟩ | ⟨k, rfl⟩ <;> cases s <;> simp [Instr.sliceBounds, run_sliceBound hlh, run_sliceBound hc, run_sliceBound (Nat.le_refl h)]

theorem bound_of (S : Sim C G H W) (E : ERel G.g env a.tmps) {p : Option Operand} {xs : List AV} (h : avals C env p.toList = some xs) {d n : Nat} (hn : optIdx xs.head? d = some n) : BoundIs (p.map a.eval) d n := by
  cases p with
  | none =>
    simp only [Option.toList, avals, Option.some.injEq] at h
    subst h
    simp only [List.head?_nil, optIdx, Option.some.injEq] at hn
    exact .inl ⟨rfl, hn.symm⟩
  | some p =>
    obtain ⟨z, zs, e, r, _⟩ : ∃ z zs, [a.eval p] = z :: zs ∧ (∃ u us, xs = u :: us ∧ VRel G.g u z) ∧ True := by
      have hr := S.avals E h
      cases xs with
      | nil => simp [VRels] at hr
      | cons u us => obtain ⟨z, zs, e, r, _⟩ := hr; exact ⟨z, zs, e, ⟨u, us, rfl, r⟩, trivial⟩
    obtain ⟨u, us, rfl, r⟩ := r
    injection e with e _
    subst e
    simp only [List.head?_cons, optIdx] at hn
    obtain ⟨k, hk⟩ := idx_val hn r
    exact .inr ⟨k, by simp [hk]⟩

theorem szOk_of {G : Gh} {xs : List AV} {es n b o : Nat} (h : szOk xs n = true) (hE : Elems G es b o xs) : xs = [] ∨ es = n := by
  cases xs with
  | nil => exact .inl rfl
  | cons x xs =>
    simp only [szOk, beq_iff_eq] at h
    obtain ⟨⟨z, r, hz, _⟩, _⟩ := hE
    have := VRels.length r.cells
    simp at this
    exact .inr (by omega)

variable (T : C.Tables)
include T

theorem elemT_und {t e : TypeId} (h : elemT C t = some e) : C.P.underlying t = some (.slice e) := by
  unfold elemT at h
  split at h
  · rename_i e' hu; injection h with h; subst h; exact T.und _ _ hu
  · cases h

theorem op_slice {t : TypeId} {p : Operand} {lo hi mx : Option Operand} (ho : o.op = .slice t p lo hi mx) (S : Sim C G H W) (E : ERel G.g env a.tmps) {u : AV} {l h m : List AV} (h1 : aval C env p = some u) (hl : avals C env lo.toList = some l) (hh : avals C env hi.toList = some h) (hm : avals C env mx.toList = some m)
    (hx : sliceA C t u l.head? h.head? m.head? = some x) : OpOk C.P o a W (Post C G W x H) := by
  have r := S.aval E h1
  have fin : ∀ y, (Instr.sliceAt t (a.eval p) (lo.map a.eval) (hi.map a.eval) (mx.map a.eval)).run C.P W = .ok y W → VRel G.g x y → OpOk C.P o a W (Post C G W x H) := by
    intro y hy ry
    refine OpOk.value (y := y) (W' := W) ?_ (Post.here S ry)
    simp only [execOp, ho]
    exact runV hy
  have hmx : m.head? = none → mx.map a.eval = none := by
    intro hn
    cases mx with
    | none => rfl
    | some q =>
      have := VRels.length (S.avals E hm)
      cases m with
      | nil => simp at this
      | cons => simp at hn
  unfold sliceA at hx
  split at hx
  · rename_i s
    split at hx
    · rename_i i j hd hi' hj hmn
      split at hx
      · rename_i hb
        injection hx with hx; subst hx
        have he : a.eval p = .string s := r.1
        refine fin _ ?_ ⟨rfl, rfl⟩
        simp only [Instr.sliceAt, Sem.run_bind, run_underlying (T.und _ _ hd), Result.andThen_ok, Instr.slice, he, hmx hmn]
        simp [run_sliceBounds (P := C.P) (s := false) (bound_of S E hl hi') (bound_of S E hh hj) hb.1 hb.2]
      · cases hx
    · cases hx
  · rename_i cs
    split at hx
    · rename_i n e hd hl0 hh0 hm0
      split at hx
      · rename_i g es hg hes
        split at hx
        · rename_i hc
          simp only [Option.map_eq_some_iff] at hx
          obtain ⟨xs, hch, rfl⟩ := hx
          obtain ⟨hb, b, q, z, he, ⟨vs, rfl, rz⟩, hi'⟩ := r
          simp only [Nat.add_zero] at he
          obtain ⟨k1, k2, k3⟩ := chunk_elems (b := b) (o := q) hch rz hb hi' hc.1
          have b1 := bound_of S E hl (d := 0) (n := 0) (by rw [hl0]; rfl)
          have b2 := bound_of S E hh (d := n) (n := n) (by rw [hh0]; rfl)
          refine fin (.slice (some ⟨b, q, none⟩) n n) ?_ ⟨k2, some ⟨b, q, none⟩, by rw [k1], (fun h => by cases h), ?_⟩
          · simp only [Instr.sliceAt, Sem.run_bind, run_underlying (T.und _ _ hd), Result.andThen_ok, he, Instr.sureAddr, Sem.run_pure, hmx hm0, run_sliceBounds (P := C.P) (s := false) b1 b2 (Nat.zero_le _) (Nat.le_refl _), run_csz T hes]
            simp [Addr.add]
          · exact .inr ⟨b, q, es, rfl, hc.2, k3⟩
        · cases hx
      · cases hx
    · cases hx
  · rename_i b g es off len
    split at hx
    · rename_i k i j hes hi' hj hmn
      simp only [Option.bind_eq_some_iff] at hes
      obtain ⟨e, he, hes⟩ := hes
      split at hx
      · rename_i hc
        obtain ⟨c1, c2, rfl⟩ := hc
        obtain ⟨B, w, sz, c, hb, hpos, hv, hlc, hcap⟩ := r
        have hu := elemT_und T he
        have hsb := run_sliceBounds (P := C.P) (W := W) (s := true) (bound_of S E hl hi') (bound_of S E hh hj) c1 (Nat.le_trans c2 hlc)
        have hsl : (Instr.sliceAt t (a.eval p) (lo.map a.eval) (hi.map a.eval) (mx.map a.eval)).run C.P W = .ok (.slice (if c = i then some ⟨B, w + off * k, none⟩ else (some (⟨B, w + off * k, none⟩ : Addr)).map (·.add (i * k))) (j - i) (c - i)) W := by
          simp only [Instr.sliceAt, Sem.run_bind, run_underlying hu, Result.andThen_ok, Instr.slice, hv, hmx hmn, hsb, run_csz T hes, Sem.run_pure]
        split at hx
        · rename_i h0
          injection hx with hx; subst hx
          refine fin _ hsl ⟨trivial, _, c - i, by rw [show j - i = 0 by omega]; rfl, Nat.zero_le _, .inl ⟨rfl, ?_⟩⟩
          split <;> rfl
        · rename_i h0
          injection hx with hx; subst hx
          refine fin _ hsl ⟨B, w, sz, c - i, hb, hpos, ?_, by omega, by rw [show off + i + (c - i) = off + c by omega]; exact hcap⟩
          congr 1
          split
          · have : i = 0 := by omega
            subst this
            rw [Nat.add_zero]
          · simp only [Option.map_some, Addr.add_lit, Nat.add_mul, Nat.add_assoc]
      · split at hx
        · rename_i hc
          obtain ⟨rfl, rfl, c2⟩ := hc
          injection hx with hx; subst hx
          obtain ⟨B, w, sz, c, hb, hpos, hv, hlc, hcap, hbd, hex⟩ := r
          have hjc : j ≤ c := by
            unfold roomG at c2
            split at c2
            · rename_i m hm
              have := hex m hm
              have := of_decide_eq_true c2
              omega
            · cases c2
          have hu := elemT_und T he
          have hsb := run_sliceBounds (P := C.P) (W := W) (s := true) (bound_of S E hl hi') (bound_of S E hh hj) (Nat.zero_le _) hjc
          have hsl : (Instr.sliceAt t (a.eval p) (lo.map a.eval) (hi.map a.eval) (mx.map a.eval)).run C.P W = .ok (.slice (if c = 0 then some ⟨B, w + off * k, none⟩ else (some (⟨B, w + off * k, none⟩ : Addr)).map (·.add (0 * k))) (j - 0) (c - 0)) W := by
            simp only [Instr.sliceAt, Sem.run_bind, run_underlying hu, Result.andThen_ok, Instr.slice, hv, hmx hmn, hsb, run_csz T hes, Sem.run_pure]
          refine fin _ hsl ⟨B, w, sz, c, hb, hpos, ?_, hjc, hcap, hbd, hex⟩
          congr 1
          split
          · rfl
          · simp only [Option.map_some, Addr.add_lit, Nat.zero_mul, Nat.add_zero]
        · cases hx
    · cases hx
  · split at hx
    · rename_i es xs hes hxs
      simp only [Option.bind_eq_some_iff] at hes
      obtain ⟨e, he, hes⟩ := hes
      split at hx
      · rename_i i j hi' hj
        split at hx
        · rename_i hc
          obtain ⟨c1, c2, c3, c4⟩ := hc
          obtain ⟨hb, a', c, hv, hlc, hE⟩ := elems_val hxs r
          have hu := elemT_und T he
          have hsl : ∀ q, (Instr.sliceBounds true xs.length c (lo.map a.eval) (hi.map a.eval) (mx.map a.eval)).run C.P W = .ok (i, j, q) W →
              (Instr.sliceAt t (a.eval p) (lo.map a.eval) (hi.map a.eval) (mx.map a.eval)).run C.P W = .ok (.slice (if q = i then a' else a'.map (·.add (i * es))) (j - i) (q - i)) W := by
            intro q hq
            simp only [Instr.sliceAt, Sem.run_bind, run_underlying hu, Result.andThen_ok, Instr.slice, hv, hq, run_csz T hes, Sem.run_pure]
          have hlen : ((xs.drop i).take (j - i)).length = j - i := by rw [List.length_take, List.length_drop]; omega
          have hpart : ∀ q, j ≤ q → ((xs.drop i).take (j - i) = [] ∨ ∃ b w es', (if q = i then a' else a'.map (·.add (i * es))) = some ⟨b, w, none⟩ ∧ 0 < es' ∧ Elems G.g es' b w ((xs.drop i).take (j - i))) := by
            intro q hq
            by_cases hij : i = j
            · exact .inl (List.eq_nil_of_length_eq_zero (by rw [hlen]; omega))
            · rcases hE with hE | ⟨b, w, es', rfl, hes', hE⟩
              · subst hE; simp at c2; omega
              · rcases szOk_of c4 hE with hn | rfl
                · subst hn; simp at c2; omega
                · refine .inr ⟨b, w + i * es', es', ?_, hes', Elems.take es' b _ (Elems.drop es' b i hE)⟩
                  rw [if_neg (by omega)]
                  simp [Addr.add_lit]
          split at hx
          · rename_i hm0
            have hsb := run_sliceBounds (P := C.P) (W := W) (s := true) (bound_of S E hl hi') (bound_of S E hh hj) c1 (Nat.le_trans c2 hlc)
            rw [hmx hm0] at fin hsl
            split at hx
            · rename_i h0
              injection hx with hx; subst hx
              refine fin _ (hsl c hsb) ?_
              obtain ⟨rfl, rfl⟩ := h0
              have : (Value.slice (if c = 0 then a' else a'.map (·.add (0 * es))) (xs.length - 0) (c - 0)) = a.eval p := by
                rw [hv]
                congr 1
                split
                · rfl
                · cases a' <;> simp [Addr.add]
              rw [this]
              exact r
            · rename_i hne
              injection hx with hx; subst hx
              have hsome : (if c = i then a' else a'.map (·.add (i * es))).isSome = true := by
                rcases hE with hE | ⟨b, w, es', rfl, hes', hE⟩
                · subst hE
                  exfalso
                  simp only [List.length_nil] at c2 hne
                  omega
                · split <;> rfl
              exact fin _ (hsl c hsb) ⟨(hb.drop i).take _, _, c - i, by rw [hlen], by rw [hlen]; omega, (hpart c (Nat.le_trans c2 hlc)).imp (fun h => ⟨h, hsome⟩) id⟩
          · rename_i mm hm0
            split at hx
            · rename_i hmi
              injection hx with hx; subst hx
              obtain ⟨hmi, his⟩ := hmi
              have bm := bound_of S E hm (d := 0) (n := j) (by rw [hm0]; exact hmi)
              have bh := bound_of S E hh (d := xs.length) (n := j) hj
              have hsome : hi ≠ none := by
                rintro rfl
                simp only [Option.toList, avals, Option.some.injEq] at hh
                subst hh
                simp at his
              have hmsome : mx ≠ none := by
                rintro rfl
                simp only [Option.toList, avals, Option.some.injEq] at hm
                subst hm
                simp at hm0
              obtain ⟨k, hk⟩ : ∃ k, hi.map a.eval = some (.int k (j : Int)) := by
                rcases bh with ⟨hn, _⟩ | h
                · cases hi with
                  | none => exact absurd rfl hsome
                  | some q => simp at hn
                · exact h
              obtain ⟨k', hk'⟩ : ∃ k, mx.map a.eval = some (.int k (j : Int)) := by
                rcases bm with ⟨hn, _⟩ | h
                · cases mx with
                  | none => exact absurd rfl hmsome
                  | some q => simp at hn
                · exact h
              have hsb := run_sliceBounds3 (P := C.P) (W := W) (s := true) (len := xs.length) (k := k) (k' := k') (bound_of S E hl hi') c1 (Nat.le_trans c2 hlc)
              rw [← hk, ← hk'] at hsb
              exact fin _ (hsl j hsb) ⟨(hb.drop i).take _, _, by rw [hlen], (fun h => by cases h), hpart j (Nat.le_refl _)⟩
            · cases hx
        · cases hx
      · cases hx
    · cases hx
end
end Go.AM

namespace Go.AM
section
variable {C : Cfg} {G : Gs} {H : Hp} {W : World} {o : Oper} {a : Act} {env : Env} {x : AV}

/-- What is proved of a function that runs on a heap of its own: whatever its arguments are that have nothing of a heap within. -/
def PureOk (C : Cfg) (f : FuncId) (xs : List AV) (r : AV) : Prop :=
  ∀ (G : Gs) (H : Hp) (W : World) (vs : List Value), Sim C G H W → VRels G.g xs vs → Bares xs → Calls C.P f vs.toArray W fun e W' => ∃ y, e = .returned y ∧ Post C G W r H y W'
/-- A function that shares the heap. -/
def CallOk (C : Cfg) (f : FuncId) (xs : List AV) (H : Hp) (r : AV) (H' : Hp) : Prop :=
  ∀ (G : Gs) (W : World) (vs : List Value), Sim C G H W → VRels G.g xs vs → Calls C.P f vs.toArray W fun e W' => ∃ y, e = .returned y ∧ Post C G W r H' y W'

/-- A function without a body: what it answers. -/
def ExtOk (C : Cfg) (f : FuncId) (xs : List AV) (r : AV) : Prop :=
  ∀ (G : Gs) (W : World) (vs : List Value), VRels G.g xs vs → ∃ y, (callFunc f vs.toArray).run C.P W = .ok (.value y) W ∧ VRel G.g r y
/-- A contract of a function, with a body or without. -/
def PrimOk (C : Cfg) (f : FuncId) (p : List AV → Option AV) : Prop :=
  ((∃ fn, C.P.funcs[f]? = some fn ∧ (fn.name == "runtime.NumGoroutine") = false ∧ fn.body.isSome = true) ∧ ∀ xs r, p xs = some r → PureOk C f xs r) ∨ ∀ xs r, p xs = some r → ExtOk C f xs r

/-- Each region that draws its order is one whose operations are apart, or wait for each other. -/
def regionsOk : Code → Bool
  | .region _ ops draw => !draw || Region.lexB .any ops
  | .seq a b => regionsOk a && regionsOk b
  | .cond _ a b => regionsOk a && regionsOk b
  | .block _ b => regionsOk b
  | .loop b => regionsOk b
  | _ => true

structure Cfg.Ok (C : Cfg) : Prop where
  tab : C.Tables
  mixed : C.P.follows .mixedOrders = true
  regions : ∀ f fn c, C.fns f = some fn → fn.body = some c → regionsOk c = true
  prim : ∀ f p, C.prim f = some p → PrimOk C f p
  ident : ∀ f, C.ident f = true → ∀ (x : Value) (W : World), (callFunc f #[x]).run C.P W = .ok (.value x) W
  lies : ∀ e u, C.lies e u = true → liesAt C.P C.P.depth e 1 0 u 1 = true
  ovl : ∀ f, C.ovl f = true → ∃ fn t e n, C.P.funcs[f]? = some fn ∧ (fn.name == "runtime.NumGoroutine") = false ∧ fn.body.isNone = true ∧ Extern.findNext fn = none ∧ Extern.find fn = some (Extern.SlicesOverlaps.overlaps fn.params fn.resultTypes) ∧ fn.params[0]? = some t ∧ C.und t = some (.slice e) ∧ C.csz e = some (n + 1)

theorem run_callFunc {P : Program} {f : FuncId} {fn : Func} (hf : P.funcs[f]? = some fn) (hn : (fn.name == "runtime.NumGoroutine") = false) (hb : fn.body.isSome = true) (args : Array Value) : (callFunc f args).run P W = .ok (.enter f args) W := by
  have hb' : fn.body.isNone = false := by cases h : fn.body <;> simp_all
  simp only [callFunc, Sem.run_bind, run_program, Result.andThen_ok, hf, hn, hb', Bool.false_eq_true, if_false, Sem.run_pure]

theorem exec_call {c : Call} {q : Operand} (ho : o.op = .call c) (hc : c.callee = .value q) {f : FuncId} {p s : Array Value} (hv : a.eval q = .func (.func f) p s) {fn : Func} (hf : C.P.funcs[f]? = some fn) (hn : (fn.name == "runtime.NumGoroutine") = false) (hb : fn.body.isSome = true) :
    (execOp a.eval o).run C.P W = .ok (.enter f (p ++ c.args.map a.eval ++ s)) W := by
  simp only [execOp, ho, resolve, hc, hv, Deferred.ofValue, Sem.run_bind, Sem.run_pure, Result.andThen_ok, invoke]
  exact run_callFunc hf hn hb _

theorem exec_ext {c : Call} {q : Operand} (ho : o.op = .call c) (hc : c.callee = .value q) {f : FuncId} {p s : Array Value} (hv : a.eval q = .func (.func f) p s) {y : Value} (hy : (callFunc f (p ++ c.args.map a.eval ++ s).toList.toArray).run C.P W = .ok (.value y) W) :
    (execOp a.eval o).run C.P W = .ok (.value y) W := by
  simp only [execOp, ho, resolve, hc, hv, Deferred.ofValue, Sem.run_bind, Sem.run_pure, Result.andThen_ok, invoke]
  have e : (p ++ c.args.map a.eval ++ s).toList.toArray = p ++ c.args.map a.eval ++ s := rfl
  rw [e] at hy
  exact hy

theorem op_call {c : Call} {q : Operand} (ho : o.op = .call c) (hc : c.callee = .value q) (S : Sim C G H W) (E : ERel G.g env a.tmps) {args : List AV} (h1 : avals C env c.args.toList = some args) {f : FuncId} {p s : List AV} (hv : aval C env q = some (.fn (.func f) p s)) {H' : Hp}
    {fn : Func} (hf : C.P.funcs[f]? = some fn) (hn : (fn.name == "runtime.NumGoroutine") = false) (hb : fn.body.isSome = true)
    (hcall : ∀ vs : List Value, VRels G.g (p ++ args ++ s) vs → Calls C.P f vs.toArray W fun e W' => ∃ y, e = .returned y ∧ Post C G W x H' y W') : OpOk C.P o a W (Post C G W x H') := by
  obtain ⟨p', s', he, rp, rs⟩ := S.aval E hv
  refine OpOk.enter (exec_call ho hc he hf hn hb) ?_
  have := hcall (p' ++ c.args.map a.eval ++ s').toList (by
    simp only [Array.toList_append, Array.toList_map]
    exact VRels.append (VRels.append rp (S.avals E h1)) rs)
  have e : (p' ++ c.args.map a.eval ++ s').toList.toArray = p' ++ c.args.map a.eval ++ s' := rfl
  rwa [e] at this

theorem op_callP (K : C.Ok) {c : Call} {q : Operand} (ho : o.op = .call c) (hc : c.callee = .value q) (S : Sim C G H W) (E : ERel G.g env a.tmps) {args : List AV} (h1 : avals C env c.args.toList = some args) {f : AV} (hv : aval C env q = some f)
    {call : FuncId → List AV → Option AV} (hcall : ∀ f xs r, call f xs = some r → (∃ fn, C.fns f = some fn ∧ fn.body.isSome = true) ∧ PureOk C f xs r) (h : callPA C call f args = some x) : OpOk C.P o a W (Post C G W x H) := by
  unfold callPA at h
  split at h
  · rename_i f p s
    split at h
    · rename_i xs hxs
      have main : ∀ fn, C.P.funcs[f]? = some fn → (fn.name == "runtime.NumGoroutine") = false → fn.body.isSome = true → PureOk C f xs x → OpOk C.P o a W (Post C G W x H) := by
        intro fn hf hn hb hp
        refine op_call ho hc S E h1 hv hf hn hb fun vs rv => ?_
        obtain ⟨k1, k2⟩ := bares_bare _ _ _ hxs rv
        exact hp G H W vs S k2 k1
      split at h
      · rename_i pr hpr
        rcases K.prim f pr hpr with ⟨⟨fn, hf, hn, hb⟩, hk⟩ | hk
        · exact main fn hf hn hb (hk xs x h)
        · obtain ⟨p', s', he, rp, rs⟩ := S.aval E hv
          obtain ⟨y, hy, ry⟩ := hk xs x h G W (p' ++ c.args.map a.eval ++ s').toList (bares_bare _ _ _ hxs (by
            simp only [Array.toList_append, Array.toList_map]
            exact VRels.append (VRels.append rp (S.avals E h1)) rs)).2
          exact OpOk.value (exec_ext ho hc he hy) (Post.here S ry)
      · split at h
        · obtain ⟨⟨fn, hf, hb⟩, hk⟩ := hcall f xs x h
          obtain ⟨hf', hn⟩ := K.tab.fns f fn hf
          exact main fn hf' hn hb hk
        · cases h
    · split at h
      · rename_i hid
        simp only [Bool.and_eq_true] at hid
        split at h
        · rename_i y hy
          injection h with h; subst h
          obtain ⟨p', s', he, rp, rs⟩ := S.aval E hv
          have hr := VRels.append (VRels.append rp (S.avals E h1)) rs
          rw [hy] at hr
          obtain ⟨z, zs, hz, ry, hzs⟩ := hr
          obtain rfl : zs = [] := hzs
          refine OpOk.value (exec_ext ho hc he (y := z) ?_) (Post.here S ry)
          have e : (p' ++ c.args.map a.eval ++ s').toList = [z] := by
            simp only [Array.toList_append, Array.toList_map]
            exact hz
          rw [e]
          exact K.ident f hid.2 z W
        · cases h
      · cases h
  · cases h

theorem op_minmax {c : Call} (ho : o.op = .call c) {b : Builtin} (hc : c.callee = .builtin b) (S : Sim C G H W) (E : ERel G.g env a.tmps) {args : List AV} (h1 : avals C env c.args.toList = some args) {l : List Value} (hl : AV.toVs args = some l) {s : Array TypeId → TypeId → Array Value → Sem Value}
    (hs : ∀ ts ty consts xs, builtin b ts ty consts xs = (do pure (.value (← s ts ty xs)))) {y : Value} (hy : pureRun C.P (s c.argTypes o.type l.toArray) = some y) (hx : ofV y = some x) : OpOk C.P o a W (Post C G W x H) := by
  have r := S.avals E h1
  have e := toVs_eq _ _ _ hl r
  have e2 : c.args.map a.eval = l.toArray := by apply Array.ext'; simpa using e
  refine OpOk.value (y := y) (W' := W) ?_ (Post.here S (ofV_rel hx))
  simp only [execOp, ho, resolve, hc, Sem.run_bind, Sem.run_pure, Result.andThen_ok, invoke, hs, e2, run_pureRun _ _ _ hy W]

theorem op_sliceData {c : Call} (ho : o.op = .call c) (hc : c.callee = .builtin .unsafeSliceData) (S : Sim C G H W) (E : ERel G.g env a.tmps) {t : Nat} {y : AV} {ys : List AV} (h1 : avals C env c.args.toList = some [.ap t (y :: ys)]) : OpOk C.P o a W (Post C G W (.sd t (y :: ys)) H) := by
  obtain ⟨v, l, hargs, ⟨hb, ht, ad, cp, hv, hcp, hE⟩, e⟩ := S.avals E h1
  obtain rfl : l = [] := e
  have hargs' : c.args.map a.eval = #[v] := by apply Array.ext'; simpa using hargs
  rcases hE with ⟨h, _⟩ | ⟨b, es, rfl, h0, hE⟩
  · cases h
  refine OpOk.value (y := .pointer (some ⟨b, 0, none⟩)) (W' := W) ?_ (Post.here S ⟨hb, b, cp, es, by rw [ht, hv], rfl, h0, hE⟩)
  have := Lib.run_unsafeSliceData_row (P := C.P) W c.argTypes o.type ⟨b, 0, none⟩ (y :: ys).length cp (by simp only [List.length_cons] at hcp; omega)
  simp only [execOp, ho, resolve, hc, hargs', hv, Sem.run_bind, Sem.run_pure, Result.andThen_ok, invoke, builtin, this]

/-- **Operations that neither look at the heap nor turn it.** -/
theorem opP_ok (K : C.Ok) {call : FuncId → List AV → Option AV} (hcall : ∀ f xs r, call f xs = some r → (∃ fn, C.fns f = some fn ∧ fn.body.isSome = true) ∧ PureOk C f xs r) {fid : FuncId} (S : Sim C G H W) (E : ERel G.g env a.tmps)
    (h : opP C call fid o env = some x) : OpOk C.P o a W (Post C G W x H) := by
  have T := K.tab
  unfold opP at h
  split at h
  case h_1 p ho => exact op_move (.inl ho) S E h
  case h_2 p ho => exact op_move (.inr ho) S E h
  case h_3 c p q ho =>
    split at h
    · rename_i t u v hc h1 h2
      injection h with h; subst h
      exact op_pick ho S E hc h1 h2
    · cases h
  case h_4 e ho =>
    split at h
    · rename_i d z hd hz
      split at h
      · rename_i hc
        injection h with h; subst h
        simp only [Bool.and_eq_true] at hc
        exact op_alloc T ho S hz hc.2
      · cases h
    · cases h
  case h_5 e p ho =>
    split at h
    · rename_i d y hd hy
      split at h
      · rename_i hc
        injection h with h; subst h
        simp only [Bool.and_eq_true] at hc
        simp only [Option.bind_eq_some_iff] at hy
        obtain ⟨u, hu, hb⟩ := hy
        exact op_box ho S (S.aval E hu) hb hc.2
      · cases h
    · cases h
  case h_6 t parts ho =>
    simp only [Option.bind_eq_some_iff] at h
    obtain ⟨ps, h1, h2⟩ := h
    exact op_build T ho S E h1 h2
  case h_7 t len parts ho =>
    simp only [Option.bind_eq_some_iff] at h
    obtain ⟨ps', ⟨ps, h1, h2⟩, h3⟩ := h
    exact op_buildSlice T ho S E h1 h2 h3
  case h_8 t p ho =>
    split at h
    · rename_i z j hz
      exact op_load_rp T ho S E hz h
    · cases h
  case h_9 p ho =>
    split at h
    · rename_i z j hz
      injection h with h; subst h
      have r := S.aval E hz
      refine op_nilCheck ho S r ?_
      obtain ⟨_, b, q, w, he, _⟩ := r
      rw [he]; trivial
    · rename_i b g i j hz
      injection h with h; subst h
      have r := S.aval E hz
      refine op_nilCheck ho S r ?_
      obtain ⟨B, q, sz, es, _, he⟩ := r
      rw [he]; trivial
    · rename_i f p q hz
      injection h with h; subst h
      have r := S.aval E hz
      refine op_nilCheck ho S r ?_
      obtain ⟨p', q', he, _⟩ := r
      rw [he]; trivial
    · rename_i t u hz
      injection h with h; subst h
      have r := S.aval E hz
      refine op_nilCheck ho S r ?_
      obtain ⟨z, he, _⟩ := r
      rw [he]; trivial
    · cases h
  case h_10 op t p q t' ho =>
    split at h
    · rename_i u v h1 h2
      exact op_bin T ho S E h1 h2 h
    · cases h
  case h_11 op t p ho =>
    split at h
    · rename_i y hy
      simp only [Option.bind_eq_some_iff] at hy h
      obtain ⟨u, hu, hy⟩ := hy
      obtain ⟨z, hz, hx⟩ := h
      exact op_unOp ho S E hu hy hz hx
    · cases h
  case h_12 s d p ho =>
    split at h
    · cases h
    · simp only [Option.bind_eq_some_iff] at h
      obtain ⟨u, hu, hx⟩ := h
      exact op_convert T ho S E hu hx
  case h_13 t p ho =>
    split at h
    · cases h
    · cases h
    · cases h
    · rename_i u d hn hu hd
      injection h with h; subst h
      exact op_makeInterface T ho S E hu hd hn
  case h_14 f p q ho =>
    split at h
    · rename_i u v h1 h2
      injection h with h; subst h
      exact op_makeFunc ho S E h1 h2
    · cases h
  case h_15 t p lo hi mx ho =>
    split at h
    · rename_i u l i m h1 h2 h3 h4
      exact op_slice T ho S E h1 h2 h3 h4 h
    · cases h
  case h_16 t p f ho =>
    simp only [Option.bind_eq_some_iff] at h
    obtain ⟨u, hu, hx⟩ := h
    exact op_fieldAddr T ho S E hu hx
  case h_17 t p f ho =>
    split at h
    · rename_i cs fields hc hd
      split at h
      · rename_i fd hf
        exact op_field T ho S E hc hd hf h
      · cases h
    · cases h
  case h_18 t p q ho =>
    split at h
    · rename_i u v h1 h2
      exact op_indexAddr T ho S E h1 h2 h
    · cases h
  case h_19 t p q ho =>
    split at h
    · rename_i u v h1 h2
      exact op_index T ho S E h1 h2 h
    · cases h
  case h_20 p t t' ok ho =>
    split at h
    · cases h
    · cases h
    · rename_i u d hn hu hd
      split at h
      · rename_i ht
        injection h with h; subst h
        subst ht
        exact op_typeAssert T ho S E hu hd hn
      · cases h
    · cases h
  case h_21 p i ho =>
    split at h
    · rename_i xs hxs
      exact op_extract ho S E hxs h
    · cases h
  case h_22 c ho =>
    split at h
    · cases h
    · rename_i args hargs
      split at h
      · rename_i q hc
        simp only [Option.bind_eq_some_iff] at h
        obtain ⟨f, hf, hx⟩ := h
        exact op_callP K ho hc S E hargs hf hcall hx
      · rename_i hc
        exact op_len T ho hc S E hargs h
      · rename_i hc
        exact op_cap T ho hc S E hargs h
      · rename_i hc
        unfold sdA at h
        split at h
        · rename_i t y ys
          injection h with h; subst h
          exact op_sliceData ho hc S E hargs
        · cases h
      · rename_i hc
        split at h
        · rename_i l hl
          simp only [Option.bind_eq_some_iff] at h
          obtain ⟨y, hy, hx⟩ := h
          exact op_minmax ho hc S E hargs hl (s := Builtin.min_) (fun _ _ _ _ => rfl) hy hx
        · cases h
      · rename_i hc
        split at h
        · rename_i l hl
          simp only [Option.bind_eq_some_iff] at h
          obtain ⟨y, hy, hx⟩ := h
          exact op_minmax ho hc S E hargs hl (s := Builtin.max_) (fun _ _ _ _ => rfl) hy hx
        · cases h
      · cases h
  case h_23 => cases h
end
end Go.AM
