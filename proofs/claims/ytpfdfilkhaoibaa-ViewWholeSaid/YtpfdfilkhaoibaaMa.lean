/-
  Parts, one behind the other: EvA, EvB, EvC, EvD, EvE, EvF, EvG.
-/
import Derived.Scope
import Derived.Still
import Derived.KernelRfl
import Derived.Laws.AppendOwn
import Derived.Deep.MidRow
import Derived.Laws.Entries
import Derived.ChangeKeysEq
import Derived.Laws.Strings
import Derived.Laws.StructEq
import Derived.LaidEqlPtr
import Derived.Lib.Strings
import Derived.Below
/-
  The abstract evaluator: a deterministic, computable reading of the loaded code over immutable lists and a small heap.
-/
namespace Go.Proofs.Ytpfdfilkhaoibaa.Ev
open Go
set_option linter.unusedVariables false
set_option linter.unusedSimpArgs false

/-- Abstract values. 'list': a slice over cells that never change; 'rptr': a pointer to such cells; 'slice', 'ptr': into the small heap ('slice': n cells an element; the capacity is at least cap, and just that if 'ex'); 'raw': one cell as it lies. -/
inductive AV where
  | bool (b : Bool)
  | int (k : IntKind) (n : Int)
  | str (s : List UInt8)
  | nilp
  | ptr (b o : Nat)
  | rptr (v : AV)
  | nils
  | list (xs : List AV) (nn : Bool) (cap tok : Option Nat)
  | slice (b o len cap n : Nat) (ex : Bool)
  | raw (v : Value)
  | func (fn : Fn) (first captured : List AV)
  | nilFunc
  | iface (t : TypeId) (v : AV)
  | nilIface
  | agg (cs : List AV)
  | tuple (vs : List AV)
  deriving Inhabited

def AV.undef : AV := .tuple []
def AV.cells : AV → List AV
  | .agg cs => cs
  | v => [v]
def AV.one : AV → Bool
  | .agg _ | .tuple _ => false
  | _ => true
/-- A list as a pure function hands it back. -/
abbrev AV.L (xs : List AV) : AV := .list xs false none none

/-- Objects of the small heap: a variable or an array (its first cells); the right to append to a list of n elements; what nothing is known of any more. -/
inductive AO where
  | cells (cs : List AV)
  | own (n sz : Nat)
  | dead
  deriving Inhabited
abbrev Heap := List AO

mutual
def AV.strip : AV → AV
  | .nils => .list [] false none none
  | .list xs _ _ _ => .list (stripL xs) false none none
  | .agg cs => .agg (stripL cs)
  | .tuple vs => .tuple (stripL vs)
  | .iface t v => .iface t v.strip
  | .func fn a b => .func fn (stripL a) (stripL b)
  | .rptr v => .rptr v.strip
  | .bool b => .bool b
  | .int k n => .int k n
  | .str s => .str s
  | .nilp => .nilp
  | .ptr b o => .ptr b o
  | .slice b o l c n e => .slice b o l c n e
  | .raw v => .raw v
  | .nilFunc => .nilFunc
  | .nilIface => .nilIface
def stripL : List AV → List AV
  | [] => []
  | x :: xs => x.strip :: stripL xs
end

/-- The elements of a list, as a pure function would hand them back. -/
def stripE : AV → AV
  | .list xs nn c t => .list (stripL xs) nn c t
  | v => v

mutual
def AV.clean (n : Nat) : AV → Bool
  | .ptr b _ => decide (b < n)
  | .slice b _ _ _ _ _ => decide (b < n)
  | .raw _ => true
  | .list xs _ _ tok => cleanL n xs && (match tok with | none => true | some t => decide (t < n))
  | .agg cs => cleanL n cs
  | .tuple vs => cleanL n vs
  | .iface _ v => v.clean n
  | .func _ a b => cleanL n a && cleanL n b
  | .rptr v => v.clean n
  | .nils => true
  | .bool _ => true
  | .int _ _ => true
  | .str _ => true
  | .nilp => true
  | .nilFunc => true
  | .nilIface => true
def cleanL (n : Nat) : List AV → Bool
  | [] => true
  | x :: xs => x.clean n && cleanL n xs
end

inductive Mode where
  | no | pure | impure
  deriving DecidableEq

structure Cfg where
  P : Program
  mode : FuncId → Mode
  prim : FuncId → Option (List AV → Option AV)
  /-- Contracts that look at, or change, the heap. -/
  hprim : FuncId → Option (List AV → Heap → Option (AV × Heap × Bool)) := fun _ => none
  /-- Functions whose new slices are arrays of the heap. -/
  arrOf : FuncId → Bool := fun _ => false
  arr : Bool := false
abbrev Cfg.on (C : Cfg) (f : FuncId) : Cfg := { C with arr := C.arrOf f }

def ofCell : Value → Option AV
  | .bool b => some (.bool b)
  | .int k n => some (.int k n)
  | .string s => some (.str s.data.toList)
  | .pointer none => some .nilp
  | .slice none 0 0 => some .nils
  | .nilFunc => some .nilFunc
  | .nilIface => some .nilIface
  | _ => none
def ofConst : Value → Option AV
  | .agg cs => (cs.toList.mapM ofCell).map .agg
  | v => ofCell v

def evalOperand (fr : List AV) : Operand → Option AV
  | .tmp t => fr[t]?
  | .const v => ofConst v
  | .func f => some (.func (.func f) [] [])
  | .global _ => none

def tySize (P : Program) (t : TypeId) : Option Nat := (P.info? t).map (·.size)
def tyBytes (P : Program) (t : TypeId) : Option Nat := (P.info? t).map (·.bytes)
def tyAgg (P : Program) (t : TypeId) : Bool := match P.underlying t with | some (.struct _) | some (.array _ _) => true | _ => false
def tyScalar (P : Program) (t : TypeId) : Bool := match P.underlying t with | some (.struct _) | some (.array _ _) | none => false | _ => true
def tyZero (P : Program) (t : TypeId) : Option AV := (P.info? t).bind fun i => i.zero.bind ofConst

def splice {α : Type} (cs : List α) (o : Nat) (vs : List α) : List α := cs.take o ++ vs ++ cs.drop (o + vs.length)

/-- A part of an aggregate. -/
def partA (P : Program) (t : TypeId) (cs : List AV) (off : Nat) : Option AV :=
  if tyAgg P t then
    match tySize P t with
    | some n => if off + n ≤ cs.length then some (.agg ((cs.drop off).take n)) else none
    | none => none
  else if tyScalar P t then
    match cs[off]? with
    | some x => if x.one then some x else none
    | none => none
  else none

def loadA (P : Program) (t : TypeId) (h : Heap) : AV → Option AV
  | .rptr v =>
    match v with
    | .agg cs => if tyAgg P t && tySize P t == some cs.length then some (.agg cs) else none
    | .tuple _ => none
    | v => if tyScalar P t then some v else none
  | .ptr b o =>
    match h[b]? with
    | some (.cells cs) => partA P t cs o
    | _ => none
  | _ => none

def storeA (P : Program) (t : TypeId) (h : Heap) (a v : AV) : Option (Heap × Nat) :=
  match a with
  | .ptr b o =>
    match h[b]? with
    | some (.cells cs) =>
      if tySize P t == some v.cells.length && decide (o + v.cells.length ≤ cs.length) && v.cells.all AV.one then
        some (h.set b (.cells (splice cs o v.cells)), b)
      else none
    | _ => none
  | _ => none

def wrapBin (op : BinOp) (k : IntKind) (a b : Int) : Option AV :=
  match op with
  | .add => some (.int k (k.wrap (a + b)))
  | .sub => some (.int k (k.wrap (a - b)))
  | .mul => some (.int k (k.wrap (a * b)))
  | .quo => if b = 0 then none else some (.int k (k.wrap (a.tdiv b)))
  | .rem => if b = 0 then none else some (.int k (a.tmod b))
  | .eql => some (.bool (a == b))
  | .neq => some (.bool (a != b))
  | .lss => some (.bool (decide (a < b)))
  | .leq => some (.bool (decide (a ≤ b)))
  | .gtr => some (.bool (decide (a > b)))
  | .geq => some (.bool (decide (a ≥ b)))
  | .and => some (.int k (k.wrap (BitVec.ofInt k.bits a &&& BitVec.ofInt k.bits b).toNat))
  | .or => some (.int k (k.wrap (BitVec.ofInt k.bits a ||| BitVec.ofInt k.bits b).toNat))
  | .xor => some (.int k (k.wrap (BitVec.ofInt k.bits a ^^^ BitVec.ofInt k.bits b).toNat))
  | _ => none
def shiftA (op : BinOp) (k : IntKind) (x y : Int) : Option AV :=
  if y < 0 then none else
  match op with
  | .shl => some (.int k (k.wrap (x * 2 ^ (min y.toNat k.bits))))
  | .shr => some (.int k (x.fdiv (2 ^ (min y.toNat k.bits))))
  | _ => none
def strBin (op : BinOp) (a b : List UInt8) : Option AV :=
  match op with
  | .add => if a.length + b.length ≤ 140737488355328 then some (.str (a ++ b)) else none
  | .eql => some (.bool (a == b))
  | .neq => some (.bool (!(a == b)))
  | .lss => some (.bool (Op.bytesLess a b))
  | .leq => some (.bool (Op.bytesLess a b || a == b))
  | .gtr => some (.bool (!(Op.bytesLess a b || a == b)))
  | .geq => some (.bool (!(Op.bytesLess a b)))
  | _ => none
def eqFs (P : Program) (eq : TypeId → AV → AV → Option Bool) (xs ys : List AV) : List Field → Option Bool
  | [] => some true
  | f :: fs =>
    if f.name ≠ "_" then
      match partA P f.type xs f.offset, partA P f.type ys f.offset with
      | some a, some b =>
        match eq f.type a b with
        | some true => eqFs P eq xs ys fs
        | r => r
      | _, _ => none
    else eqFs P eq xs ys fs
/-- '==' of values without references. -/
def eqIn (P : Program) : Nat → TypeId → AV → AV → Option Bool
  | 0, _, _, _ => none
  | d + 1, t, x, y =>
    match P.underlying t, x, y with
    | some .bool, .bool a, .bool b => some (a == b)
    | some (.int _), .int k a, .int k' b => if k = k' then some (a == b) else none
    | some .string, .str a, .str b => some (a == b)
    | some (.struct fields), .agg xs, .agg ys => if P.stoodInHeld t then none else eqFs P (eqIn P d) xs ys fields.toList
    | _, _, _ => none
/-- '==' beside numbers and texts. -/
def eqA (P : Program) (t : TypeId) (h : Heap) : AV → AV → Option Bool
  | .bool a, .bool b => match P.underlying t with | some .bool => some (a == b) | _ => none
  | .nils, .nils => match P.underlying t with | some (.slice _) => some true | _ => none
  | .list xs nn _ _, .nils => match P.underlying t with | some (.slice _) => if nn || !xs.isEmpty then some false else none | _ => none
  | .slice .., .nils => match P.underlying t with | some (.slice _) => some false | _ => none
  | .nilp, .nilp => match P.underlying t with | some (.pointer _) => some true | _ => none
  | .ptr .., .nilp => match P.underlying t with | some (.pointer _) => some false | _ => none
  | .rptr _, .nilp => match P.underlying t with | some (.pointer _) => some false | _ => none
  | .nilp, .ptr .. => match P.underlying t with | some (.pointer _) => some false | _ => none
  | .ptr b o, .ptr b' o' =>
    match P.underlying t with
    | some (.pointer e) =>
      match tySize P e with
      | some (_ + 1) =>
        match h[b]?, h[b']? with
        | some (.cells _), some (.cells _) => some (b == b' && o == o')
        | _, _ => none
      | _ => none
    | _ => none
  | .iface .., .nilIface => match P.underlying t with | some (.interface _) => some false | _ => none
  | .nilIface, .nilIface => match P.underlying t with | some (.interface _) => some true | _ => none
  | .agg xs, .agg ys => if P.eqGuardType P.depth t then none else eqIn P 8 t (.agg xs) (.agg ys)
  | _, _ => none
def binA (P : Program) (op : BinOp) (t : TypeId) (h : Heap) (x y : AV) : Option AV :=
  match op, x, y with
  | .shl, .int k a, .int _ b => shiftA .shl k a b
  | .shr, .int k a, .int _ b => shiftA .shr k a b
  | op, .int k a, .int k' b => if k = k' then wrapBin op k a b else none
  | op, .str a, .str b => strBin op a b
  | .eql, x, y => (eqA P t h x y).map .bool
  | .neq, x, y => (eqA P t h x y).map fun b => .bool (!b)
  | _, _, _ => none

def unA (op : UnOp) : AV → Option AV
  | .int k n => match op with | .neg => some (.int k (k.wrap (0 - n))) | _ => none
  | .bool b => match op with | .not => some (.bool (!b)) | _ => none
  | _ => none

def bytesOf : List AV → Option (List UInt8)
  | [] => some []
  | .int .u8 n :: xs => (bytesOf xs).map (UInt8.ofNat n.toNat :: ·)
  | _ => none

def ofBytes (s : List UInt8) : List AV := s.map fun b => .int .u8 (b.toNat : Int)

/-- Conversions: the value, and the heap (a new right to append, behind []byte(s)). -/
def convA (P : Program) (src dst : TypeId) (h : Heap) (x : AV) : Option (AV × Heap) :=
  match P.underlying src, P.underlying dst, x with
  | some _, some (.int k), .int _ n => some (.int k (k.wrap n), h)
  | some .string, some .string, .str s => some (.str s, h)
  | some .string, some (.slice e), .str s =>
    match P.underlying e with
    | some (.int .u8) => some (.list (ofBytes s) true none (some h.length), h ++ [.own s.length 1])
    | _ => none
  | some (.slice e), some .string, x =>
    match P.underlying e with
    | some (.int .u8) =>
      match x with
      | .nils => some (.str [], h)
      | .list xs _ _ _ => (bytesOf xs).map fun s => (.str s, h)
      | .slice b o len _ _ _ =>
        match h[b]? with
        | some (.cells cs) => if o + len ≤ cs.length then (bytesOf ((cs.drop o).take len)).map fun s => (.str s, h) else none
        | _ => none
      | _ => none
    | _ => none
  | some (.slice _), some (.slice e), .list xs true (some c) (some τ) =>
    match P.underlying e with
    | some (.int .u8) => if src = dst ∧ 0 < c ∧ c = xs.length then (match h[τ]? with | some (.own k 1) => if k = c then some (.list xs true (some c) none, h) else none | _ => none) else none
    | _ => none
  | _, _, _ => none

def intOf? : AV → Option Int
  | .int _ n => some n
  | _ => none

def headOk (n : Nat) : List AV → Bool
  | [] => true
  | x :: _ => x.cells.length == n

def indexAddrA (P : Program) (t : TypeId) (x i : AV) : Option AV :=
  match i, P.underlying t, x with
  | .int _ n, some (.slice e), .list xs _ _ _ =>
    if 0 ≤ n ∧ n < xs.length then
      match xs[n.toNat]?, tySize P e with
      | some v, some s => if v.cells.length = s then some (.rptr v) else none
      | _, _ => none
    else none
  | .int _ n, some (.slice e), .slice b o len _ _ _ =>
    if 0 ≤ n ∧ n < len then (tySize P e).map fun s => .ptr b (o + n.toNat * s) else none
  | .int _ n, some (.array len e), .ptr b o =>
    if 0 ≤ n ∧ n < len then (tySize P e).map fun s => .ptr b (o + n.toNat * s) else none
  | .int _ n, some (.array len e), .rptr (.agg cs) =>
    if 0 ≤ n ∧ n < len then
      match tySize P e with
      | some s => (partA P e cs (n.toNat * s)).map .rptr
      | none => none
    else none
  | _, _, _ => none

def fieldAddrA (P : Program) (s : TypeId) (x : AV) (f : Nat) : Option AV :=
  match P.underlying s with
  | some (.struct fields) =>
    match fields[f]? with
    | some fd =>
      match tySize P fd.type with
      | some (_ + 1) =>
        match x with
        | .ptr b o => some (.ptr b (o + fd.offset))
        | .rptr (.agg cs) => (partA P fd.type cs fd.offset).map .rptr
        | _ => none
      | _ => none
    | none => none
  | _ => none

def fieldA (P : Program) (s : TypeId) (x : AV) (f : Nat) : Option AV :=
  match P.underlying s, x with
  | some (.struct fields), .agg cs =>
    match fields[f]? with
    | some fd => partA P fd.type cs fd.offset
    | none => none
  | _, _ => none

def indexA (P : Program) (t : TypeId) (x i : AV) : Option AV :=
  match P.underlying t, x, i with
  | some .string, .str s, .int _ n => if 0 ≤ n then (s[n.toNat]?).map fun b => .int .u8 (b.toNat : Int) else none
  | some (.array len e), .agg cs, .int _ n =>
    if 0 ≤ n ∧ n < len then
      match tySize P e with
      | some s => partA P e cs (n.toNat * s)
      | none => none
    else none
  | _, _, _ => none

/-- Bounds 'l, h, m' of a slice expression over a length and a capacity. -/
def boundsA (len cap : Nat) (lo hi mx : Option AV) : Option (Nat × Nat × Nat) :=
  let num (v : Option AV) (d : Nat) : Option Int := match v with | none => some (d : Int) | some v => intOf? v
  match num mx cap, num hi len, num lo 0 with
  | some m, some h, some l => if (mx.isSome → hi.isSome) ∧ 0 ≤ m ∧ m ≤ cap ∧ 0 ≤ h ∧ h ≤ m ∧ 0 ≤ l ∧ l ≤ h then some (l.toNat, h.toNat, m.toNat) else none
  | _, _, _ => none

def sliceA (P : Program) (t : TypeId) (x : AV) (lo hi mx : Option AV) : Option AV :=
  match P.underlying t, x with
  | some .string, .str s =>
    if mx.isSome then none else (boundsA s.length s.length lo hi none).map fun (l, h, _) => .str ((s.take h).drop l)
  | some (.slice e), .list xs nn cap _ =>
    match tySize P e, boundsA xs.length xs.length lo hi mx with
    | some n, some (l, h, m) =>
      if headOk n xs then some (.list ((xs.take h).drop l) nn (if mx.isSome then some (m - l) else cap.map (· - l)) none) else none
    | _, _ => none
  | some (.slice e), .nils =>
    match tySize P e, boundsA 0 0 lo hi mx with
    | some _, some _ => some .nils
    | _, _ => none
  | some (.slice e), .slice b o len cap n ex =>
    match tySize P e, boundsA len cap lo hi mx with
    | some n', some (l, h, m) =>
      if n = n' ∨ n = 0 then
        if m = l ∧ (ex || mx.isSome) = false then some (.list [] true none none)
        else some (.slice b (if m = l then o else o + l * n') (h - l) (m - l) n (ex || mx.isSome))
      else none
    | _, _ => none
  | some (.array len e), .ptr b o =>
    match tySize P e, boundsA len len lo hi mx with
    | some n, some (l, h, m) => some (.slice b (if m = l then o else o + l * n) (h - l) (m - l) 0 true)
    | _, _ => none
  | _, _ => none

/-- 'fill', over lists. -/
def fillA (place : Nat → Option (Nat × Nat)) (cells : List AV) : List (Nat × AV) → Option (List AV)
  | [] => some cells
  | (i, v) :: rest =>
    match place i with
    | none => none
    | some (off, size) =>
      if v.cells.length ≠ size || off + v.cells.length > cells.length then none
      else fillA place (splice cells off v.cells) rest

def structPlaces (P : Program) (fields : Array Field) : Option (List (Nat × Nat)) :=
  fields.toList.mapM fun f => (tySize P f.type).map fun n => (f.offset, n)

def buildA (P : Program) (t : TypeId) (parts : List (Nat × AV)) : Option AV :=
  match tyZero P t, P.underlying t with
  | some z, some (.struct fields) =>
    match structPlaces P fields with
    | some places => (fillA (places[·]?) z.cells parts).map .agg
    | none => none
  | some z, some (.array _ e) =>
    match tySize P e with
    | some n => (fillA (fun i => some (i * n, n)) z.cells parts).map .agg
    | none => none
  | _, _ => none

/-- A literal of several octets gets a right of its own: '[]byte("..")' marks its row. -/
def freshB (P : Program) (t : TypeId) (n : Nat) : Bool :=
  decide (2 ≤ n) && match P.underlying t with
    | some (.slice e) => (match P.underlying e with | some (.int .u8) => tySize P e == some 1 | _ => false)
    | _ => false
def tokV (τ : Nat) : AV → AV
  | .list xs nn c _ => .list xs nn c (some τ)
  | v => v
/-- A slice literal whose elements are all named, in order. -/
def buildSliceA (P : Program) (t : TypeId) (len : Nat) (parts : List (Nat × AV)) : Option AV :=
  match P.underlying t with
  | some (.slice e) =>
    match tySize P e, tyZero P e with
    | some n, some _ =>
      if len * n ≤ 16777216 && parts.map (·.1) == List.range len && parts.all (fun p => p.2.cells.length == n && p.2.cells.all AV.one) then
        some (.list (parts.map (·.2)) true (some len) none)
      else none
    | _, _ => none
  | _ => none

def lenA (P : Program) (t : TypeId) (x : AV) : Option AV :=
  match P.underlying t, x with
  | some .string, .str s => some (.int .i64 s.length)
  | some (.array n _), _ => some (.int .i64 n)
  | some (.pointer a), _ => match P.underlying a with | some (.array n _) => some (.int .i64 n) | _ => none
  | some (.slice _), .list xs _ _ _ => some (.int .i64 xs.length)
  | some (.slice _), .nils => some (.int .i64 0)
  | some (.slice _), .slice _ _ n _ _ _ => some (.int .i64 n)
  | _, _ => none

def minA (less : Bool) : AV → AV → Option AV
  | .int k x, .int k' y => if k = k' then some (.int k (if less then (if y < x then y else x) else (if y > x then y else x))) else none
  | _, _ => none
def minsA (less : Bool) : List AV → Option AV
  | [] => none
  | x :: rest => rest.foldlM (minA less) x

/-- An element of cells. -/
def mkE : List AV → AV
  | [x] => x
  | l => .agg l
def chunkA (n : Nat) : Nat → List AV → List AV
  | 0, _ => []
  | k + 1, cs => mkE (cs.take n) :: chunkA n k (cs.drop n)

def elemsA (h : Heap) (n : Nat) : AV → Option (List AV)
  | .nils => some []
  | .list xs _ _ _ => if headOk n xs then some xs else none
  | .str s => if n = 1 then some (ofBytes s) else none
  | .slice b o len _ _ _ =>
    match h[b]? with
    | some (.cells cs) => if o + len * n ≤ cs.length then some (chunkA n len (cs.drop o)) else none
    | _ => none
  | _ => none

def appendable : TypeDesc → Bool
  | .slice _ => true
  | .string => true
  | _ => false

/-- What is appended: elements; so many zero values. -/
def newsA (ud : TypeDesc) (h : Heap) (n by_ : Nat) (z : AV) (src : AV) : Option (List AV) :=
  match ud, src with
  | .int _, .int .i64 l => if 0 ≤ l ∧ l ≤ 4294967296 ∧ l * (by_ : Int) ≤ 35184372088832 then some (List.replicate l.toNat z) else none
  | .int _, _ => none
  | ud, src => if appendable ud then elemsA h n src else none

/-- append to an array of the heap. -/
def appendS (h : Heap) (n by_ : Nat) (ys : List AV) (b o len cap n' : Nat) (ex : Bool) : Option (AV × Heap × Option Nat) :=
  if ys.isEmpty then some (.slice b o len cap n' ex, h, none) else
  if n' = n ∧ 0 < n ∧ (len + ys.length) * by_ ≤ 35184372088832 ∧ len + ys.length ≤ 35184372088832 then
    match h[b]? with
    | some (.cells cs) =>
      if o + len * n ≤ cs.length then
        if len + ys.length ≤ cap then
          some (.slice b o (len + ys.length) cap n ex, h.set b (.cells (splice cs (o + len * n) (ys.flatMap AV.cells))), some b)
        else if ex then
          some (.slice h.length 0 (len + ys.length) (len + ys.length) n false, h ++ [.cells ((cs.drop o).take (len * n) ++ ys.flatMap AV.cells)], none)
        else if o = 0 then
          some (.slice h.length 0 (len + ys.length) (len + ys.length) n false, h.set b .dead ++ [.cells (cs.take (len * n) ++ ys.flatMap AV.cells)], some b)
        else none
      else none
    | _ => none
  else none

/-- append: the value, the heap, which object was written (if any). -/
def appendA (P : Program) (mt : Bool) (types : List TypeId) (h : Heap) (dst src : AV) : Option (AV × Heap × Option Nat) :=
  match types with
  | [t, u] =>
    match P.underlying t, P.underlying u with
    | some (.slice e), some ud =>
      match tySize P e, tyBytes P e, tyZero P e with
      | some n, some by_, some z =>
        match newsA ud h n by_ z src with
        | some ys =>
          if z.cells.length ≠ n then none else
          match dst with
          | .nils =>
            if ys.isEmpty then some (.nils, h, none)
            else if ys.length * by_ ≤ 35184372088832 ∧ ys.length ≤ 35184372088832 then
              if mt then (if 0 < n then some (.slice h.length 0 ys.length ys.length n false, h ++ [.cells (ys.flatMap AV.cells)], none) else none)
              else some (.list ys true none (some h.length), h ++ [.own ys.length n], none)
            else none
          | .list xs nn cap tok =>
            if ys.isEmpty then some (.list xs nn cap tok, h, none)
            else if ¬ ((xs.length + ys.length) * by_ ≤ 35184372088832 ∧ xs.length + ys.length ≤ 35184372088832) then none
            else if headOk n xs = false then none
            else if cap = some xs.length then
              if mt then (if 0 < n then some (.slice h.length 0 (xs.length + ys.length) (xs.length + ys.length) n false, h ++ [.cells ((xs ++ ys).flatMap AV.cells)], none) else none)
              else some (.list (xs ++ ys) true none (some h.length), h ++ [.own (xs.length + ys.length) n], none)
            else match tok with
              | some τ =>
                match h[τ]? with
                | some (.own m sz) => if m = xs.length ∧ sz = n then some (.list (xs ++ ys) true none (some τ), h.set τ (.own (xs.length + ys.length) n), some τ) else none
                | _ => none
              | none => none
          | .slice b o len cap n' ex => appendS h n by_ ys b o len cap n' ex
          | _ => none
        | none => none
      | _, _, _ => none
    | _, _ => none
  | _ => none

/-- copy: how many, the heap, which object was written (if any). -/
def copyA (P : Program) (types : List TypeId) (h : Heap) (dst src : AV) : Option (AV × Heap × Option Nat) :=
  match types with
  | t :: _ =>
    match P.underlying t with
    | some (.slice e) =>
      match tySize P e with
      | some n =>
        match elemsA h n src with
        | some ys =>
          match dst with
          | .nils => some (.int .i64 0, h, none)
          | .slice b o len _ _ _ =>
            match h[b]? with
            | some (.cells cs) =>
              if o + min ys.length len * n ≤ cs.length then
                some (.int .i64 (min ys.length len : Nat), h.set b (.cells (splice cs o ((ys.take (min ys.length len)).flatMap AV.cells))), some b)
              else none
            | _ => none
          | _ => none
        | none => none
      | none => none
    | _ => none
  | _ => none

/-- clear, of a slice. -/
def clearA (P : Program) (types : List TypeId) (h : Heap) (dst : AV) : Option (AV × Heap × Option Nat) :=
  match types with
  | t :: _ =>
    match P.underlying t with
    | some (.slice e) =>
      match dst with
      | .nils => some (.undef, h, none)
      | .list [] _ _ _ => some (.undef, h, none)
      | .slice b o len _ _ _ =>
        if len = 0 then some (.undef, h, none) else
        match tySize P e, tyZero P e, h[b]? with
        | some n, some z, some (.cells cs) =>
          if z.cells.length = n ∧ o + len * n ≤ cs.length then
            some (.undef, h.set b (.cells (splice cs o ((List.replicate len z).flatMap AV.cells))), some b)
          else none
        | _, _, _ => none
      | _ => none
    | _ => none
  | _ => none

def capA (P : Program) (t : TypeId) (x : AV) : Option AV :=
  match P.underlying t, x with
  | some (.slice _), .nils => some (.int .i64 0)
  | some (.slice _), .list _ _ (some c) _ => some (.int .i64 c)
  | some (.slice _), .slice _ _ _ c _ true => some (.int .i64 c)
  | _, _ => none

def makeSliceA (P : Program) (mt : Bool) (t : TypeId) (h : Heap) (len cap : AV) : Option (AV × Heap) :=
  match P.underlying t, len, cap with
  | some (.slice e), .int .i64 l, .int .i64 c =>
    match tySize P e, tyBytes P e, tyZero P e with
    | some n, some by_, some z =>
      if 0 ≤ l ∧ l ≤ c ∧ c ≤ 4294967296 ∧ c * (by_ : Int) ≤ 35184372088832 ∧ z.cells.length = n ∧ z.cells.all AV.one then
        if l = 0 ∧ mt = false then some (.list [] true none (some h.length), h ++ [.own 0 n])
        else some (.slice h.length 0 l.toNat c.toNat n true, h ++ [.cells ((List.replicate c.toNat z).flatMap AV.cells)])
      else none
    | _, _, _ => none
  | _, _, _ => none

mutual
/-- Arrays of the heap as lists. -/
def AV.fz (g : Nat → Nat → Nat → Nat → Option (List AV)) : AV → AV
  | .slice b o len cap n ex => match g b o len n with | some xs => .list xs false none none | none => .slice b o len cap n ex
  | .list xs nn c t => .list (fzL g xs) nn c t
  | .agg cs => .agg (fzL g cs)
  | .tuple vs => .tuple (fzL g vs)
  | .iface t v => .iface t (v.fz g)
  | .rptr v => .rptr (v.fz g)
  | .func fn a b => .func fn a b
  | .bool b => .bool b
  | .int k n => .int k n
  | .str s => .str s
  | .nilp => .nilp
  | .nils => .nils
  | .ptr b o => .ptr b o
  | .nilFunc => .nilFunc
  | .nilIface => .nilIface
  | .raw v => .raw v
def fzL (g : Nat → Nat → Nat → Nat → Option (List AV)) : List AV → List AV
  | [] => []
  | x :: xs => x.fz g :: fzL g xs
end
def frz (h : Heap) : Nat → AV → AV
  | 0, v => v
  | k + 1, v => v.fz fun b o len n => match h[b]? with
    | some (.cells cs) => if 0 < n ∧ o + len * n ≤ cs.length then some ((chunkA n len (cs.drop o)).map (frz h k)) else none
    | _ => none

/-- A slice literal in a function whose new slices are arrays. -/
def buildSliceM (P : Program) (t : TypeId) (h : Heap) (len : Nat) (parts : List (Nat × AV)) : Option (AV × Heap) :=
  match P.underlying t with
  | some (.slice e) =>
    match tySize P e, buildSliceA P t len parts with
    | some n, some v => if len = 0 ∨ n = 0 then some (v, h) else some (.slice h.length 0 len len n true, h ++ [.cells ((parts.map (·.2)).flatMap AV.cells)])
    | _, _ => none
  | _ => none

/-- Which operations look at the heap, which change it. -/
inductive Cls where
  | p | r | a | s
  deriving DecidableEq

def Cfg.isPure (C : Cfg) (f : FuncId) : Bool := (C.hprim f).isNone && ((C.prim f).isSome || C.mode f == .pure)
def tyPtr (P : Program) (t : TypeId) : Bool := match P.underlying t with | some (.pointer _) => true | _ => false

def convCls (P : Program) (s d : TypeId) : Cls :=
  match P.underlying d with
  | some (.int _) => .p
  | some .string => match P.underlying s with | some .string => .p | _ => .r
  | _ => .s

def cls (C : Cfg) (o : Oper) : Cls :=
  match o.op with
  | .load .. => .r
  | .alloc .. | .box .. => .a
  | .store .. | .makeSlice .. => .s
  | .buildSlice t n _ => if C.arr || freshB C.P t n then .s else .p
  | .binOp _ t _ _ _ => if tyPtr C.P t then .r else .p
  | .convert s d _ => convCls C.P s d
  | .call c =>
    match c.callee with
    | .builtin b => match b with | .len | .cap | .min | .max => .p | _ => .s
    | .value (.func f) => if C.isPure f then .p else .s
    | _ => .s
  | _ => .p

abbrev CallFn := FuncId → List AV → Heap → Option (AV × Heap × Bool)

def callF (C : Cfg) (call : CallFn) (g : FuncId) (vs : List AV) (h : Heap) (d : Bool) : Option (AV × Heap × Bool) :=
  match C.hprim g with
  | some p =>
    match p vs h with
    | some (v, h', d') => some (v, h', d || d')
    | none => none
  | none =>
  match C.prim g with
  | some p => if cleanL 0 (stripL vs) then (p (stripL vs)).bind fun v => if v.clean 0 then some (v, h, d) else none else none
  | none =>
    match C.mode g with
    | .pure =>
      if cleanL 0 (stripL vs) then
        match call g (stripL vs) [] with
        | some (v, h1, _) => if (frz h1 3 v).strip.clean 0 then some ((frz h1 3 v).strip, h, d) else none
        | none => none
      else none
    | .impure =>
      match call g vs h with
      | some (v, h', d') => some (v, h', d || d')
      | none => none
    | .no => none

/-- The method of a dynamic type, and its receiver. -/
def methodA (P : Program) (v : AV) (name : String) : Option (FuncId × AV) :=
  match v with
  | .iface t v =>
    match P.info? t with
    | some i =>
      match i.methods.find? (·.name == name) with
      | some m =>
        if m.path.isEmpty then
          match m.func, P.underlying t with
          | some (f, true), some (.pointer _) => some (f, v)
          | some (f, false), some (.struct _) => some (f, v)
          | _, _ => none
        else none
      | none => none
    | none => none
  | _ => none

def isC : Operand → Bool
  | .const _ => true
  | _ => false
/-- Two nil interfaces: one of them is the literal. -/
def nilOk (x y : Operand) : AV → AV → Bool
  | .nilIface, .nilIface => isC x || isC y
  | _, _ => true

def wrDirty (base : Nat) : Option Nat → Bool
  | some b => decide (b < base)
  | none => false

def evalOp (C : Cfg) (call : CallFn) (base : Nat) (o : Oper) (ρ : Operand → Option AV) (h : Heap) (d : Bool) : Option (AV × Heap × Bool) :=
  let P := C.P
  match o.op with
  | .move x | .assign x => (ρ x).map (·, h, d)
  | .pick c a b =>
    match ρ c with
    | some (.bool true) => (ρ a).map (·, h, d)
    | some (.bool false) => (ρ b).map (·, h, d)
    | _ => none
  | .alloc t => match tyZero P t with | some z => if z.cells.all AV.one then some (.ptr h.length 0, h ++ [.cells z.cells], d) else none | none => none
  | .box _ x => match ρ x with | some v => if v.cells.all AV.one then some (.ptr h.length 0, h ++ [.cells v.cells], d) else none | none => none
  | .build t parts => match parts.toList.mapM (fun p => (ρ p.2).map fun v => (p.1, v)) with | some ps => (buildA P t ps).map (·, h, d) | none => none
  | .buildSlice t n parts => match parts.toList.mapM (fun p => (ρ p.2).map fun v => (p.1, v)) with | some ps => if C.arr then (buildSliceM P t h n ps).map (fun (v, h) => (v, h, d)) else if freshB P t n then (buildSliceA P t n ps).map (fun v => (tokV h.length v, h ++ [.own n 1], d)) else (buildSliceA P t n ps).map (·, h, d) | none => none
  | .load t a => match ρ a with | some v => (loadA P t h v).map (·, h, d) | none => none
  | .store t a x =>
    match ρ a, ρ x with
    | some a, some v => (storeA P t h a v).map fun (h', b) => (.undef, h', d || decide (b < base))
    | _, _ => none
  | .nilCheck x =>
    match ρ x with
    | some (.ptr b o) => some (.ptr b o, h, d)
    | some (.rptr v) => some (.rptr v, h, d)
    | some (.func (.func f) a b) => some (.func (.func f) a b, h, d)
    | _ => none
  | .binOp op t x y _ =>
    match ρ x, ρ y with
    | some a, some b => if nilOk x y a b then (binA P op t h a b).map (·, h, d) else none
    | _, _ => none
  | .unOp op _ x => match ρ x with | some v => (unA op v).map (·, h, d) | none => none
  | .convert s t x => match ρ x with | some v => (convA P s t h v).map fun (v, h) => (v, h, d) | none => none
  | .makeInterface t x =>
    match ρ x, P.underlying t with
    | some _, some (.interface _) => none
    | some v, some _ => some (.iface t v, h, d)
    | _, _ => none
  | .makeFunc fn first captured =>
    match first.toList.mapM ρ, captured.toList.mapM ρ with
    | some a, some b => some (.func fn a b, h, d)
    | _, _ => none
  | .makeSlice t l c =>
    match ρ l, ρ c with
    | some l, some c => (makeSliceA P C.arr t h l c).map fun (v, h) => (v, h, d)
    | _, _ => none
  | .slice t x lo hi mx =>
    match ρ x, lo.mapM ρ, hi.mapM ρ, mx.mapM ρ with
    | some x, some lo, some hi, some mx => (sliceA P t x lo hi mx).map (·, h, d)
    | _, _, _, _ => none
  | .fieldAddr t x f => match ρ x with | some v => (fieldAddrA P t v f).map (·, h, d) | none => none
  | .field t x f => match ρ x with | some v => (fieldA P t v f).map (·, h, d) | none => none
  | .indexAddr t x i => match ρ x, ρ i with | some x, some i => (indexAddrA P t x i).map (·, h, d) | _, _ => none
  | .index t x i => match ρ x, ρ i with | some x, some i => (indexA P t x i).map (·, h, d) | _, _ => none
  | .extract t i => match ρ t with | some (.tuple vs) => (vs[i]?).map (·, h, d) | _ => none
  | .call c =>
    match c.args.toList.mapM ρ with
    | some vs =>
      match c.callee with
      | .builtin b =>
        match b, c.argTypes.toList, vs with
        | .len, t :: _, x :: _ => (lenA P t x).map (·, h, d)
        | .min, _, vs => (minsA true vs).map (·, h, d)
        | .max, _, vs => (minsA false vs).map (·, h, d)
        | .append, ts, [x, y] =>
          (appendA P C.arr ts h x y).map fun (v, h', wr) => (stripE v, h', d || wrDirty base wr)
        | .cap, t :: _, x :: _ => (capA P t x).map (·, h, d)
        | .copy, ts, [x, y] =>
          (copyA P ts h x y).map fun (v, h', wr) => (v, h', d || wrDirty base wr)
        | .clear, ts, [x] =>
          (clearA P ts h x).map fun (v, h', wr) => (v, h', d || wrDirty base wr)
        | _, _, _ => none
      | .value f =>
        match ρ f with
        | some (.func (.func g) first captured) => callF C call g (first ++ vs ++ captured) h d
        | _ => none
      | .invoke r name =>
        match ρ r with
        | some v =>
          match methodA P v name with
          | some (f, rv) => callF C call f (rv :: vs) h d
          | none => none
        | none => none
    | none => none
  | _ => none

structure St where
  fr : List AV
  h : Heap
  d : Bool

def St.put (st : St) (dst : Option Tmp) (v : AV) : St :=
  match dst with
  | some t => { st with fr := st.fr.set t v }
  | none => st

/-- What an operation that is a guard said. -/
def yieldedA (ops : Array Oper) (fr : List AV) (j : Nat) : Option Bool :=
  match ((ops[j]?).bind (·.dst)).bind (fr[·]?) with
  | some (.bool b) => some b
  | some (.raw (.bool b)) => some b
  | _ => none

def stepOp (C : Cfg) (call : CallFn) (base : Nat) (ops : Array Oper) (o : Oper) (st : St) : Option St :=
  if Region.wanted o (yieldedA ops st.fr) then
    match evalOp C call base o (evalOperand st.fr) st.h st.d with
    | some (v, h, d) => some (St.put ⟨st.fr, h, d⟩ o.dst v)
    | none => none
  else some (st.put o.dst .undef)

def evalOps (C : Cfg) (call : CallFn) (base : Nat) (ops : Array Oper) : List Oper → St → Option St
  | [], st => some st
  | o :: rest, st =>
    match stepOp C call base ops o st with
    | some st => evalOps C call base ops rest st
    | none => none

inductive Ex where
  | normal | ret
  | exit (id : Nat)

def iter (body : St → Option (Ex × St)) : Nat → St → Option (Ex × St)
  | 0, _ => none
  | n + 1, st =>
    match body st with
    | some (.normal, st) => iter body n st
    | r => r

def evalC (C : Cfg) (call : CallFn) (base n : Nat) : Code → St → Option (Ex × St)
  | .skip, st => some (.normal, st)
  | .label _, st => some (.normal, st)
  | .region _ ops _, st => (evalOps C call base ops ops.toList st).map (.normal, ·)
  | .seq a b, st =>
    match evalC C call base n a st with
    | some (.normal, st) => evalC C call base n b st
    | r => r
  | .cond c a b, st =>
    match evalOperand st.fr c with
    | some (.bool true) => evalC C call base n a st
    | some (.bool false) => evalC C call base n b st
    | _ => none
  | .block id body, st =>
    match evalC C call base n body st with
    | some (.exit i, st) => if i = id then some (.normal, st) else some (.exit i, st)
    | r => r
  | .loop body, st => iter (fun s => evalC C call base n body s) n st
  | .scope body, st => evalC C call base n body st
  | .exit id, st => some (.exit id, st)
  | .ret, st => some (.ret, st)
  | _, _ => none

def resultA (P : Program) (fr : List AV) (h : Heap) : ResultVar → Option AV
  | .tmp t => fr[t]?
  | .cell a t => match fr[a]? with | some v => loadA P t h v | none => none
def resultsA (P : Program) (rs : List ResultVar) (fr : List AV) (h : Heap) : Option AV :=
  match rs.mapM (resultA P fr h) with
  | some [v] => some v
  | some vs => some (.tuple vs)
  | none => none

def evalF (C : Cfg) : Nat → CallFn
  | 0, _, _, _ => none
  | k + 1, f, args, h =>
    if C.mode f = .no then none else
    match C.P.funcs[f]? with
    | none => none
    | some fn =>
      match fn.body with
      | none => none
      | some c =>
        match evalC (C.on f) (evalF C k) h.length k c ⟨args ++ List.replicate (fn.ntmps - args.length) .undef, h, false⟩ with
        | some (.exit _, _) => none
        | some (_, st) =>
          match resultsA C.P fn.results.toList st.fr st.h with
          | some v => if !st.d && v.clean h.length then some (v, h, false) else some (v, st.h, st.d)
          | none => none
        | none => none

end Go.Proofs.Ytpfdfilkhaoibaa.Ev

/-
  How abstract values lie in the model's memory; what a step may change.
-/
namespace Go.Proofs.Ytpfdfilkhaoibaa.Ev
open Go
set_option linter.unusedVariables false
set_option linter.unusedSimpArgs false

/-- What is known of memory: cells that never change; which block a heap object is; the slice behind a right to append. -/
structure M where
  F : Addr → Option Value
  mu : Nat → Option Nat
  rho : Nat → Nat → Option (Addr × Nat)

/-- Cells lie, one behind the other, among those that never change. -/
def CellsF (F : Addr → Option Value) (a : Addr) (l : List Value) : Prop := ∀ i v, l[i]? = some v → F ⟨a.block, a.off + i, none⟩ = some v

def VCells (v : Value) : List Value := v.cells.toList

mutual
def VRel (m : M) : AV → Value → Prop
  | .bool b, v => v = .bool b
  | .int k n, v => v = .int k n
  | .str s, v => ∃ b : ByteArray, v = .string b ∧ b.data.toList = s
  | .nilp, v => v = .pointer none
  | .ptr b o, v => ∃ c, m.mu b = some c ∧ v = .pointer (some ⟨c, o, none⟩)
  | .rptr x, v => ∃ a cv, v = .pointer (some a) ∧ a.spot = none ∧ VRel m x cv ∧ CellsF m.F a (VCells cv)
  | .nils, v => v = .slice none 0 0
  | .list xs nn cap tok, v =>
    (xs = [] ∧ nn = false ∧ (∀ c, cap = some c → c = 0) ∧ tok = none ∧ v = .slice none 0 0) ∨
    ∃ a cap' cvs s, v = .slice (some a) xs.length cap' ∧ (cap' ≠ 0 → a.spot = none) ∧ xs.length ≤ cap' ∧ VRelL m xs cvs ∧ (∀ cv ∈ cvs, (VCells cv).length = s) ∧
      CellsF m.F a (cvs.flatMap VCells) ∧ (∀ c, cap = some c → c = cap') ∧ (∀ τ, tok = some τ → m.rho τ xs.length = some (a, cap'))
  | .slice b o len cap n ex, v => ∃ c cap', m.mu b = some c ∧ v = .slice (some ⟨c, o, none⟩) len cap' ∧ len ≤ cap' ∧ cap ≤ cap' ∧ (ex = true → cap = cap') ∧ (0 < n → ∃ k, m.rho b 0 = some (⟨c, 0, none⟩, k) ∧ o + cap' * n ≤ k)
  | .raw u, v => v = u ∧ v.oneCell' = true
  | .func fn x y, v => ∃ xs ys, v = .func fn xs ys ∧ VRelL m x xs.toList ∧ VRelL m y ys.toList
  | .nilFunc, v => v = .nilFunc
  | .iface t x, v => ∃ cv, v = .iface t cv ∧ VRel m x cv
  | .nilIface, v => v = .nilIface
  | .agg cs, v => ∃ cvs, v = .agg cvs ∧ VRelL m cs cvs.toList
  | .tuple vs, v => ∃ cvs, v = .tuple cvs ∧ VRelL m vs cvs.toList
def VRelL (m : M) : List AV → List Value → Prop
  | [], l => l = []
  | x :: xs, l => ∃ v vs, l = v :: vs ∧ VRel m x v ∧ VRelL m xs vs
end

theorem VRelL.length {m : M} : ∀ {xs : List AV} {vs : List Value}, VRelL m xs vs → vs.length = xs.length
  | [], _, h => by simp only [VRelL] at h; subst h; rfl
  | _ :: xs, _, h => by
    simp only [VRelL] at h
    obtain ⟨v, vs, rfl, _, h⟩ := h
    simp [VRelL.length h]

theorem VRelL.get {m : M} : ∀ {xs : List AV} {vs : List Value} {i : Nat} {x : AV}, VRelL m xs vs → xs[i]? = some x → ∃ v, vs[i]? = some v ∧ VRel m x v
  | [], _, _, _, _, hx => by simp at hx
  | y :: xs, _, i, x, h, hx => by
    simp only [VRelL] at h
    obtain ⟨v, vs, rfl, h1, h2⟩ := h
    cases i with
    | zero => simp at hx; subst hx; exact ⟨v, by simp, h1⟩
    | succ i => simp at hx; obtain ⟨w, hw, hr⟩ := VRelL.get h2 hx; exact ⟨w, by simpa using hw, hr⟩

theorem VRelL.of_get {m : M} : ∀ {xs : List AV} {vs : List Value}, vs.length = xs.length → (∀ (i : Nat) (x : AV) (v : Value), xs[i]? = some x → vs[i]? = some v → VRel m x v) → VRelL m xs vs
  | [], vs, hl, _ => by simp only [VRelL]; exact List.eq_nil_of_length_eq_zero (by simpa using hl)
  | x :: xs, [], hl, _ => by simp at hl
  | x :: xs, v :: vs, hl, h => by
    simp only [VRelL]
    exact ⟨v, vs, rfl, h 0 x v (by simp) (by simp), VRelL.of_get (by simpa using hl) fun i y w hy hw => h (i + 1) y w (by simpa using hy) (by simpa using hw)⟩

theorem VRelL.append {m : M} : ∀ {xs ys : List AV} {vs ws : List Value}, VRelL m xs vs → VRelL m ys ws → VRelL m (xs ++ ys) (vs ++ ws)
  | [], _, _, _, h, h' => by simp only [VRelL] at h; subst h; simpa using h'
  | _ :: xs, _, _, _, h, h' => by
    simp only [VRelL] at h
    obtain ⟨v, vs, rfl, h1, h2⟩ := h
    simp only [List.cons_append, VRelL]
    exact ⟨v, _, rfl, h1, VRelL.append h2 h'⟩

theorem VRelL.take {m : M} : ∀ {xs : List AV} {vs : List Value} (n : Nat), VRelL m xs vs → VRelL m (xs.take n) (vs.take n)
  | [], _, n, h => by simp only [VRelL] at h; subst h; simp [VRelL]
  | _ :: xs, _, 0, h => by simp [VRelL]
  | _ :: xs, _, n + 1, h => by
    simp only [VRelL] at h
    obtain ⟨v, vs, rfl, h1, h2⟩ := h
    simp only [List.take_succ_cons, VRelL]
    exact ⟨v, _, rfl, h1, VRelL.take n h2⟩
theorem VRelL.drop {m : M} : ∀ {xs : List AV} {vs : List Value} (n : Nat), VRelL m xs vs → VRelL m (xs.drop n) (vs.drop n)
  | [], _, n, h => by simp only [VRelL] at h; subst h; simp [VRelL]
  | _ :: xs, _, 0, h => by simpa using h
  | _ :: xs, _, n + 1, h => by
    simp only [VRelL] at h
    obtain ⟨v, vs, rfl, h1, h2⟩ := h
    simpa using VRelL.drop n h2
theorem VRelL.set {m : M} {x : AV} {v : Value} (hx : VRel m x v) : ∀ {xs : List AV} {vs : List Value} (n : Nat), VRelL m xs vs → VRelL m (xs.set n x) (vs.set n v)
  | [], _, n, h => by simp only [VRelL] at h; subst h; simp [VRelL]
  | _ :: xs, _, 0, h => by
    simp only [VRelL] at h
    obtain ⟨w, vs, rfl, h1, h2⟩ := h
    simp only [List.set_cons_zero, VRelL]
    exact ⟨v, vs, rfl, hx, h2⟩
  | _ :: xs, _, n + 1, h => by
    simp only [VRelL] at h
    obtain ⟨w, vs, rfl, h1, h2⟩ := h
    simp only [List.set_cons_succ, VRelL]
    exact ⟨w, _, rfl, h1, VRelL.set hx n h2⟩
theorem VRelL.replicate {m : M} {x : AV} {v : Value} (hx : VRel m x v) : ∀ n, VRelL m (List.replicate n x) (List.replicate n v)
  | 0 => by simp [VRelL]
  | n + 1 => by simp only [List.replicate_succ, VRelL]; exact ⟨v, _, rfl, hx, VRelL.replicate hx n⟩
theorem VRelL.nil {m : M} : VRelL m [] [] := by simp [VRelL]
theorem VRelL.cons {m : M} {x : AV} {v : Value} {xs : List AV} {vs : List Value} (h : VRel m x v) (h' : VRelL m xs vs) : VRelL m (x :: xs) (v :: vs) := by
  simp only [VRelL]; exact ⟨v, vs, rfl, h, h'⟩

/-- More is known. -/
structure M.le (m m' : M) : Prop where
  F : ∀ a v, m.F a = some v → m'.F a = some v
  mu : ∀ i c, m.mu i = some c → m'.mu i = some c
  rho : ∀ i n r, m.rho i n = some r → m'.rho i n = some r
theorem M.le.refl (m : M) : m.le m := ⟨fun _ _ h => h, fun _ _ h => h, fun _ _ _ h => h⟩
theorem M.le.trans {a b c : M} (h : a.le b) (k : b.le c) : a.le c := ⟨fun x v e => k.F _ _ (h.F _ _ e), fun i x e => k.mu _ _ (h.mu _ _ e), fun i n r e => k.rho _ _ _ (h.rho _ _ _ e)⟩

theorem CellsF.mono {F F' : Addr → Option Value} (h : ∀ a v, F a = some v → F' a = some v) {a : Addr} {l : List Value} (hc : CellsF F a l) : CellsF F' a l :=
  fun i v e => h _ _ (hc i v e)

mutual
theorem VRel.mono {m m' : M} (h : m.le m') : ∀ (x : AV) (v : Value), VRel m x v → VRel m' x v
  | .bool _, _, e => by simpa only [VRel] using e
  | .int _ _, _, e => by simpa only [VRel] using e
  | .str _, _, e => by simpa only [VRel] using e
  | .nilp, _, e => by simpa only [VRel] using e
  | .ptr _ _, _, e => by simp only [VRel] at e ⊢; obtain ⟨c, h1, h2⟩ := e; exact ⟨c, h.mu _ _ h1, h2⟩
  | .rptr x, _, e => by
    simp only [VRel] at e ⊢
    obtain ⟨a, cv, h1, h2, h3, h4⟩ := e
    exact ⟨a, cv, h1, h2, VRel.mono h x cv h3, h4.mono h.F⟩
  | .nils, _, e => by simpa only [VRel] using e
  | .list xs _ _ _, _, e => by
    simp only [VRel] at e ⊢
    rcases e with e | ⟨a, cap', cvs, s, h1, h2, h3, h4, h5, h6, h7, h8⟩
    · exact .inl e
    · exact .inr ⟨a, cap', cvs, s, h1, h2, h3, VRelL.mono h xs cvs h4, h5, h6.mono h.F, h7, fun τ e => h.rho _ _ _ (h8 τ e)⟩
  | .slice _ _ _ _ _ _, _, e => by
    simp only [VRel] at e ⊢; obtain ⟨c, cap', h1, h2, h3, h4, h5, h6⟩ := e
    exact ⟨c, cap', h.mu _ _ h1, h2, h3, h4, h5, fun hn => by obtain ⟨k, k1, k2⟩ := h6 hn; exact ⟨k, h.rho _ _ _ k1, k2⟩⟩
  | .raw _, _, e => by simpa only [VRel] using e
  | .func _ x y, _, e => by
    simp only [VRel] at e ⊢
    obtain ⟨xs, ys, h1, h2, h3⟩ := e
    exact ⟨xs, ys, h1, VRelL.mono h x _ h2, VRelL.mono h y _ h3⟩
  | .nilFunc, _, e => by simpa only [VRel] using e
  | .iface _ x, _, e => by simp only [VRel] at e ⊢; obtain ⟨cv, h1, h2⟩ := e; exact ⟨cv, h1, VRel.mono h x cv h2⟩
  | .nilIface, _, e => by simpa only [VRel] using e
  | .agg cs, _, e => by simp only [VRel] at e ⊢; obtain ⟨cvs, h1, h2⟩ := e; exact ⟨cvs, h1, VRelL.mono h cs _ h2⟩
  | .tuple cs, _, e => by simp only [VRel] at e ⊢; obtain ⟨cvs, h1, h2⟩ := e; exact ⟨cvs, h1, VRelL.mono h cs _ h2⟩
theorem VRelL.mono {m m' : M} (h : m.le m') : ∀ (x : List AV) (v : List Value), VRelL m x v → VRelL m' x v
  | [], _, e => by simpa only [VRelL] using e
  | x :: xs, _, e => by
    simp only [VRelL] at e ⊢
    obtain ⟨v, vs, h1, h2, h3⟩ := e
    exact ⟨v, vs, h1, VRel.mono h x v h2, VRelL.mono h xs vs h3⟩
end

mutual
theorem VRel.strip {m : M} : ∀ (x : AV) (v : Value), VRel m x v → VRel m x.strip v
  | .bool _, _, e => by simpa only [AV.strip, VRel] using e
  | .int _ _, _, e => by simpa only [AV.strip, VRel] using e
  | .str _, _, e => by simpa only [AV.strip, VRel] using e
  | .nilp, _, e => by simpa only [AV.strip, VRel] using e
  | .ptr _ _, _, e => by simpa only [AV.strip, VRel] using e
  | .rptr x, _, e => by
    simp only [AV.strip, VRel] at e ⊢
    obtain ⟨a, cv, h1, h2, h3, h4⟩ := e
    exact ⟨a, cv, h1, h2, VRel.strip x cv h3, h4⟩
  | .nils, _, e => by simp only [AV.strip, VRel] at e ⊢; exact .inl ⟨by simp, by simp, by simp, by simp, e⟩
  | .list xs _ _ _, _, e => by
    simp only [AV.strip, VRel] at e ⊢
    rcases e with ⟨h0, _, _, _, h4⟩ | ⟨a, cap', cvs, s, h1, h2, h3, h4, h5, h6, _, _⟩
    · subst h0; exact .inl ⟨by simp only [stripL], by simp, by simp, by simp, h4⟩
    · have hl : (stripL xs).length = xs.length := stripL_length xs
      exact .inr ⟨a, cap', cvs, s, by rw [hl]; exact h1, h2, by rw [hl]; exact h3, VRelL.strip xs cvs h4, h5, h6, by simp, by simp⟩
  | .slice _ _ _ _ _ _, _, e => by simpa only [AV.strip, VRel] using e
  | .raw _, _, e => by simpa only [AV.strip, VRel] using e
  | .func _ x y, _, e => by
    simp only [AV.strip, VRel] at e ⊢
    obtain ⟨xs, ys, h1, h2, h3⟩ := e
    exact ⟨xs, ys, h1, VRelL.strip x _ h2, VRelL.strip y _ h3⟩
  | .nilFunc, _, e => by simpa only [AV.strip, VRel] using e
  | .iface _ x, _, e => by simp only [AV.strip, VRel] at e ⊢; obtain ⟨cv, h1, h2⟩ := e; exact ⟨cv, h1, VRel.strip x cv h2⟩
  | .nilIface, _, e => by simpa only [AV.strip, VRel] using e
  | .agg cs, _, e => by simp only [AV.strip, VRel] at e ⊢; obtain ⟨cvs, h1, h2⟩ := e; exact ⟨cvs, h1, VRelL.strip cs _ h2⟩
  | .tuple cs, _, e => by simp only [AV.strip, VRel] at e ⊢; obtain ⟨cvs, h1, h2⟩ := e; exact ⟨cvs, h1, VRelL.strip cs _ h2⟩
theorem VRelL.strip {m : M} : ∀ (x : List AV) (v : List Value), VRelL m x v → VRelL m (stripL x) v
  | [], _, e => by simpa only [stripL, VRelL] using e
  | x :: xs, _, e => by
    simp only [stripL, VRelL] at e ⊢
    obtain ⟨v, vs, h1, h2, h3⟩ := e
    exact ⟨v, vs, h1, VRel.strip x v h2, VRelL.strip xs vs h3⟩
theorem stripL_length : ∀ xs : List AV, (stripL xs).length = xs.length
  | [] => by simp only [stripL]
  | _ :: xs => by simp only [stripL, List.length_cons, stripL_length xs]
end

/-- Only what is said of the first n heap objects. -/
def M.upto (m : M) (n : Nat) : M := ⟨m.F, fun i => if i < n then m.mu i else none, fun i k => if i < n then m.rho i k else none⟩

mutual
theorem VRel.upto {m : M} {n : Nat} : ∀ (x : AV) (v : Value), x.clean n = true → VRel m x v → VRel (m.upto n) x v
  | .bool _, _, _, e => by simpa only [VRel] using e
  | .int _ _, _, _, e => by simpa only [VRel] using e
  | .str _, _, _, e => by simpa only [VRel] using e
  | .nilp, _, _, e => by simpa only [VRel] using e
  | .ptr b _, _, hc, e => by
    simp only [VRel] at e ⊢; obtain ⟨c, h1, h2⟩ := e
    have hb : b < n := by simpa only [AV.clean, decide_eq_true_eq] using hc
    exact ⟨c, by simp only [M.upto, if_pos hb, h1], h2⟩
  | .rptr x, _, hc, e => by
    simp only [VRel] at e ⊢
    obtain ⟨a, cv, h1, h2, h3, h4⟩ := e
    exact ⟨a, cv, h1, h2, VRel.upto x cv (by simpa only [AV.clean] using hc) h3, h4⟩
  | .nils, _, _, e => by simpa only [VRel] using e
  | .list xs _ _ tok, _, hc, e => by
    simp only [VRel] at e ⊢
    simp only [AV.clean, Bool.and_eq_true] at hc
    rcases e with e | ⟨a, cap', cvs, s, h1, h2, h3, h4, h5, h6, h7, h8⟩
    · exact .inl e
    · refine .inr ⟨a, cap', cvs, s, h1, h2, h3, VRelL.upto xs cvs hc.1 h4, h5, h6, h7, fun τ e => ?_⟩
      have := hc.2
      rw [e] at this
      have hτ : τ < n := by simpa only [decide_eq_true_eq] using this
      simp only [M.upto, if_pos hτ]
      exact h8 τ e
  | .slice b _ _ _ _ _, _, hc, e => by
    simp only [VRel] at e ⊢; obtain ⟨c, cap', h1, h2, h3, h4, h5, h6⟩ := e
    have hb : b < n := by simpa only [AV.clean, decide_eq_true_eq] using hc
    exact ⟨c, cap', by simp only [M.upto, if_pos hb, h1], h2, h3, h4, h5, fun hn => by obtain ⟨k, k1, k2⟩ := h6 hn; exact ⟨k, by simp only [M.upto, if_pos hb, k1], k2⟩⟩
  | .raw _, _, _, e => by simpa only [VRel] using e
  | .func _ x y, _, hc, e => by
    simp only [VRel] at e ⊢
    simp only [AV.clean, Bool.and_eq_true] at hc
    obtain ⟨xs, ys, h1, h2, h3⟩ := e
    exact ⟨xs, ys, h1, VRelL.upto x _ hc.1 h2, VRelL.upto y _ hc.2 h3⟩
  | .nilFunc, _, _, e => by simpa only [VRel] using e
  | .iface _ x, _, hc, e => by simp only [VRel] at e ⊢; obtain ⟨cv, h1, h2⟩ := e; exact ⟨cv, h1, VRel.upto x cv (by simpa only [AV.clean] using hc) h2⟩
  | .nilIface, _, _, e => by simpa only [VRel] using e
  | .agg cs, _, hc, e => by simp only [VRel] at e ⊢; obtain ⟨cvs, h1, h2⟩ := e; exact ⟨cvs, h1, VRelL.upto cs _ (by simpa only [AV.clean] using hc) h2⟩
  | .tuple cs, _, hc, e => by simp only [VRel] at e ⊢; obtain ⟨cvs, h1, h2⟩ := e; exact ⟨cvs, h1, VRelL.upto cs _ (by simpa only [AV.clean] using hc) h2⟩
theorem VRelL.upto {m : M} {n : Nat} : ∀ (x : List AV) (v : List Value), cleanL n x = true → VRelL m x v → VRelL (m.upto n) x v
  | [], _, _, e => by simpa only [VRelL] using e
  | x :: xs, _, hc, e => by
    simp only [VRelL] at e ⊢
    simp only [cleanL, Bool.and_eq_true] at hc
    obtain ⟨v, vs, h1, h2, h3⟩ := e
    exact ⟨v, vs, h1, VRel.upto x v hc.1 h2, VRelL.upto xs vs hc.2 h3⟩
end

/-- The cells of a value lie as its abstract cells say. -/
theorem VRel.cells {m : M} {x : AV} {v : Value} (h : VRel m x v) : VRelL m x.cells (VCells v) := by
  cases x with
  | agg cs => simp only [VRel] at h; obtain ⟨cvs, rfl, h⟩ := h; exact h
  | bool b => simp only [VRel] at h; subst h; exact .cons (by simp only [VRel]) .nil
  | int k n => simp only [VRel] at h; subst h; exact .cons (by simp only [VRel]) .nil
  | str s => have h' := h; simp only [VRel] at h; obtain ⟨b, rfl, _⟩ := h; exact .cons h' .nil
  | nilp => have h' := h; simp only [VRel] at h; subst h; exact .cons h' .nil
  | ptr b o => have h' := h; simp only [VRel] at h; obtain ⟨c, _, rfl⟩ := h; exact .cons h' .nil
  | rptr x => have h' := h; simp only [VRel] at h; obtain ⟨a, cv, rfl, _⟩ := h; exact .cons h' .nil
  | nils => have h' := h; simp only [VRel] at h; subst h; exact .cons h' .nil
  | list xs nn cap tok =>
    have h' := h
    simp only [VRel] at h
    rcases h with ⟨_, _, _, _, rfl⟩ | ⟨a, cap', cvs, s, rfl, _⟩ <;> exact .cons h' .nil
  | slice b o l c n ex => have h' := h; simp only [VRel] at h; obtain ⟨c, cap', _, rfl, _⟩ := h; exact .cons h' .nil
  | raw u =>
    have h' := h
    simp only [VRel] at h
    replace h := h.2
    have : VCells v = [v] := by cases v <;> first | rfl | (simp [Value.oneCell'] at h)
    rw [this]; exact .cons h' .nil
  | func fn a b => have h' := h; simp only [VRel] at h; obtain ⟨xs, ys, rfl, _⟩ := h; exact .cons h' .nil
  | nilFunc => have h' := h; simp only [VRel] at h; subst h; exact .cons h' .nil
  | iface t x => have h' := h; simp only [VRel] at h; obtain ⟨cv, rfl, _⟩ := h; exact .cons h' .nil
  | nilIface => have h' := h; simp only [VRel] at h; subst h; exact .cons h' .nil
  | tuple vs => have h' := h; simp only [VRel] at h; obtain ⟨cvs, rfl, _⟩ := h; exact .cons h' .nil

end Go.Proofs.Ytpfdfilkhaoibaa.Ev

/-
  The invariant between the small heap and the model's memory, and the steps that keep it.
-/
namespace Go.Proofs.Ytpfdfilkhaoibaa.Ev
open Go
set_option linter.unusedVariables false
set_option linter.unusedSimpArgs false

/-- The blocks that belong to the small heap. -/
def Touch (m : M) (h : Heap) (c : Nat) : Prop :=
  (∃ i cs, h[i]? = some (.cells cs) ∧ m.mu i = some c) ∨ (∃ i n sz a cap, h[i]? = some (.own n sz) ∧ m.rho i n = some (a, cap) ∧ a.block = c)

/-- Cells that nobody but the owner of a right to append may use. -/
structure Spare (m : M) (h : Heap) (w : World) (n sz : Nat) (a : Addr) (cap : Nat) : Prop where
  spot : a.spot = none
  le : n ≤ cap
  cell : ∀ j, n * sz ≤ j → j < cap * sz → (∃ v, w.cell? ⟨a.block, a.off + j, none⟩ = some v) ∧ w.frozen? ⟨a.block, a.off + j, none⟩ = false ∧ m.F ⟨a.block, a.off + j, none⟩ = none
  lt : a.block < w.heap.size
  var : ∀ k cs, h[k]? = some (.cells cs) → m.mu k ≠ some a.block

structure Inv (m : M) (h : Heap) (w : World) : Prop where
  f : ∀ a v, m.F a = some v → w.cell? a = some v
  fone : ∀ a v, m.F a = some v → v.oneCell' = true
  var : ∀ i cs, h[i]? = some (.cells cs) → ∃ c cvs t, m.mu i = some c ∧ w.heap[c]? = some (.cells cvs t (0, 0)) ∧ VRelL m cs (cvs.toList.take cs.length) ∧ (∀ a, a.block = c → m.F a = none) ∧ (∀ v ∈ cvs.toList, v.oneCell' = true) ∧ m.rho i 0 = some (⟨c, 0, none⟩, cvs.size)
  inj : ∀ i j cs ds c, h[i]? = some (.cells cs) → h[j]? = some (.cells ds) → m.mu i = some c → m.mu j = some c → i = j
  own : ∀ i n sz, h[i]? = some (.own n sz) → ∃ a cap, m.rho i n = some (a, cap) ∧ Spare m h w n sz a cap
  apart : ∀ i j n k sz tz a b ca cb, h[i]? = some (.own n sz) → h[j]? = some (.own k tz) → m.rho i n = some (a, ca) → m.rho j k = some (b, cb) → i ≠ j → a.block ≠ b.block
  mu : ∀ i c, m.mu i = some c → i < h.length
  rho : ∀ i n r, m.rho i n = some r → i < h.length
  cur : ∀ i n k sz r, h[i]? = some (.own n sz) → m.rho i k = some r → k ≤ n

/-- From one state to a later one: more is known; blocks below B that don't belong to the small heap are as they were. -/
structure Step (B : Nat) (m : M) (h : Heap) (w : World) (m' : M) (h' : Heap) (w' : World) : Prop where
  le : m.le m'
  inv : Inv m' h' w'
  size : w.heap.size ≤ w'.heap.size
  os : w'.os = w.os
  tape : w'.tape = w.tape
  output : w'.output = w.output
  frame : ∀ c, c < B → ¬ Touch m h c → w'.heap[c]? = w.heap[c]?
  touch : ∀ c, Touch m' h' c → Touch m h c ∨ B ≤ c
  fnew : ∀ a v, m'.F a = some v → m.F a = some v ∨ Touch m h a.block ∨ B ≤ a.block

theorem Step.refl {B : Nat} {m : M} {h : Heap} {w : World} (hi : Inv m h w) : Step B m h w m h w :=
  ⟨M.le.refl m, hi, Nat.le_refl _, rfl, rfl, rfl, fun _ _ _ => rfl, fun _ h => .inl h, fun _ _ h => .inl h⟩

theorem Step.trans {B : Nat} {m m1 m2 : M} {h h1 h2 : Heap} {w w1 w2 : World} (s : Step B m h w m1 h1 w1) (t : Step B m1 h1 w1 m2 h2 w2) : Step B m h w m2 h2 w2 where
  le := s.le.trans t.le
  inv := t.inv
  size := Nat.le_trans s.size t.size
  os := t.os.trans s.os
  tape := t.tape.trans s.tape
  output := t.output.trans s.output
  frame := fun c hc hn => (t.frame c hc fun ht => (s.touch c ht).elim hn (fun h => by omega)).trans (s.frame c hc hn)
  touch := fun c hc => (t.touch c hc).elim (fun h => s.touch c h) .inr
  fnew := fun a v hv => by
    rcases t.fnew a v hv with h | h | h
    · exact s.fnew a v h
    · rcases s.touch _ h with h | h
      · exact .inr (.inl h)
      · exact .inr (.inr h)
    · exact .inr (.inr h)

theorem Step.mono {B B' : Nat} {m m' : M} {h h' : Heap} {w w' : World} (s : Step B' m h w m' h' w') (hb : B ≤ B') : Step B m h w m' h' w' where
  le := s.le
  inv := s.inv
  size := s.size
  os := s.os
  tape := s.tape
  output := s.output
  frame := fun c hc => s.frame c (Nat.lt_of_lt_of_le hc hb)
  touch := fun c hc => (s.touch c hc).imp id (Nat.le_trans hb)
  fnew := fun a v hv => (s.fnew a v hv).imp id (Or.imp id (Nat.le_trans hb))

/-- One behind the other, each counted from where it begins. -/
theorem Step.then {m m1 m2 : M} {h h1 h2 : Heap} {w w1 w2 : World} (s : Step w.heap.size m h w m1 h1 w1) (t : Step w1.heap.size m1 h1 w1 m2 h2 w2) : Step w.heap.size m h w m2 h2 w2 :=
  s.trans (t.mono s.size)

theorem cell?_heap {w w' : World} (h : w'.heap = w.heap) (a : Addr) : w'.cell? a = w.cell? a := by simp [World.cell?, h]
theorem frozen?_heap {w w' : World} (h : w'.heap = w.heap) (a : Addr) : w'.frozen? a = w.frozen? a := by simp [World.frozen?, h]

theorem Spare.world {m : M} {h : Heap} {w w' : World} {n sz : Nat} {a : Addr} {cap : Nat} (s : Spare m h w n sz a cap) (hs : w.heap.size ≤ w'.heap.size)
    (hc : ∀ j, n * sz ≤ j → j < cap * sz → (∃ v, w'.cell? ⟨a.block, a.off + j, none⟩ = some v) ∧ w'.frozen? ⟨a.block, a.off + j, none⟩ = false) : Spare m h w' n sz a cap :=
  ⟨s.spot, s.le, fun j h1 h2 => ⟨(hc j h1 h2).1, (hc j h1 h2).2, (s.cell j h1 h2).2.2⟩, Nat.lt_of_lt_of_le s.lt hs, s.var⟩

/-- The count of draws moves. -/
theorem Step.same {B : Nat} {m : M} {h : Heap} {w w' : World} (hi : Inv m h w) (hh : w'.heap = w.heap) (h1 : w'.os = w.os) (h2 : w'.tape = w.tape) (h3 : w'.output = w.output) : Step B m h w m h w' where
  le := M.le.refl m
  inv := ⟨fun a v e => by rw [cell?_heap hh]; exact hi.f a v e, hi.fone, fun i cs e => by rw [hh]; exact hi.var i cs e, hi.inj,
    fun i n sz e => by obtain ⟨a, cap, hr, hs⟩ := hi.own i n sz e; exact ⟨a, cap, hr, hs.world (by rw [hh]; exact Nat.le_refl _) fun j h1 h2 => ⟨by rw [cell?_heap hh]; exact (hs.cell j h1 h2).1, by rw [frozen?_heap hh]; exact (hs.cell j h1 h2).2.1⟩⟩,
    hi.apart, hi.mu, hi.rho, hi.cur⟩
  size := by rw [hh]; exact Nat.le_refl _
  os := h1
  tape := h2
  output := h3
  frame := fun c _ _ => by rw [hh]
  touch := fun _ h => .inl h
  fnew := fun _ _ h => .inl h

theorem heap_push_old (w : World) (o : Obj) (c : Nat) (h : c < w.heap.size) : (w.alloc o).heap[c]? = w.heap[c]? := heap_alloc_old w o c h

theorem cell_alloc_old {w : World} {a : Addr} {v : Value} (o : Obj) (h : w.cell? a = some v) : (w.alloc o).cell? a = some v := by
  rw [World.cell?_of_block (heap_alloc_old w o a.block (World.block_lt_of_cell? w a h))]; exact h
theorem frozen_alloc_old {w : World} {a : Addr} (o : Obj) (h : a.block < w.heap.size) : (w.alloc o).frozen? a = w.frozen? a :=
  World.frozen?_of_block (heap_alloc_old w o a.block h)

/-- A new block that nobody speaks of yet. -/
theorem Step.push {B : Nat} {m : M} {h : Heap} {w : World} (hi : Inv m h w) (hB : B ≤ w.heap.size) (o : Obj) : Step B m h w m h (w.alloc o) where
  le := M.le.refl m
  inv := ⟨fun a v e => cell_alloc_old o (hi.f a v e), hi.fone,
    fun i cs e => by
      obtain ⟨c, cvs, t, h1, h2, h3⟩ := hi.var i cs e
      exact ⟨c, cvs, t, h1, by rw [heap_alloc_old w o c (Array.getElem?_eq_some_iff.1 h2).1]; exact h2, h3⟩, hi.inj,
    fun i n sz e => by
      obtain ⟨a, cap, hr, hs⟩ := hi.own i n sz e
      refine ⟨a, cap, hr, hs.world (by simp) fun j h1 h2 => ?_⟩
      obtain ⟨⟨v, hv⟩, hz, _⟩ := hs.cell j h1 h2
      exact ⟨⟨v, cell_alloc_old o hv⟩, by rw [frozen_alloc_old (a := ⟨a.block, a.off + j, none⟩) o hs.lt]; exact hz⟩,
    hi.apart, hi.mu, hi.rho, hi.cur⟩
  size := by simp
  os := rfl
  tape := rfl
  output := rfl
  frame := fun c hc _ => heap_alloc_old w o c (Nat.lt_of_lt_of_le hc hB)
  touch := fun _ h => .inl h
  fnew := fun _ _ h => .inl h

theorem getElem?_snoc {α : Type} (l : List α) (x : α) (i : Nat) (y : α) (h : (l ++ [x])[i]? = some y) : l[i]? = some y ∨ (i = l.length ∧ y = x) := by
  rcases Nat.lt_trichotomy i l.length with hi | hi | hi
  · rw [List.getElem?_append_left hi] at h; exact .inl h
  · subst hi
    rw [List.getElem?_append_right (Nat.le_refl _)] at h
    simp at h
    exact .inr ⟨rfl, h.symm⟩
  · rw [List.getElem?_append_right (by omega)] at h
    rw [List.getElem?_eq_none (by simp; omega)] at h
    cases h
theorem getElem?_old {α : Type} {l : List α} {x : α} {i : Nat} {y : α} (h : l[i]? = some y) : (l ++ [x])[i]? = some y := by
  rw [List.getElem?_append_left (List.getElem?_eq_some_iff.1 h).1]; exact h

/-- What is known once a new object lies over block c. -/
def M.lay (m : M) (n c k : Nat) : M := ⟨m.F, fun i => if i = n then some c else m.mu i, fun i j => if i = n ∧ j = 0 then some (⟨c, 0, none⟩, k) else m.rho i j⟩
theorem M.lay_mu (m : M) (n c k i : Nat) (h : i ≠ n) : (m.lay n c k).mu i = m.mu i := by simp only [M.lay, if_neg h]
theorem M.lay_rho (m : M) (n c k i j : Nat) (h : i ≠ n) : (m.lay n c k).rho i j = m.rho i j := by simp only [M.lay]; rw [if_neg (fun e => h e.1)]
theorem M.lay_mu' (m : M) (n c k : Nat) : (m.lay n c k).mu n = some c := by simp [M.lay]
theorem M.lay_rho' (m : M) (n c k : Nat) : (m.lay n c k).rho n 0 = some (⟨c, 0, none⟩, k) := by simp [M.lay]

theorem lay_inv {m : M} {h : Heap} {w : World} (hi : Inv m h w) (c : Nat) (cvs : Array Value) (t : TypeId) (cs : List AV)
    (hb : w.heap[c]? = some (.cells cvs t (0, 0))) (hr : VRelL m cs (cvs.toList.take cs.length)) (ho : ∀ v ∈ cvs.toList, v.oneCell' = true) (hF : ∀ a, a.block = c → m.F a = none) (hT : ¬ Touch m h c) :
    m.le (m.lay h.length c cvs.size) ∧ Inv (m.lay h.length c cvs.size) (h ++ [.cells cs]) w ∧ ∀ d, Touch (m.lay h.length c cvs.size) (h ++ [.cells cs]) d → Touch m h d ∨ d = c := by
  have old : ∀ {i : Nat} {x : AO}, h[i]? = some x → i ≠ h.length := fun {i x} e => Nat.ne_of_lt (List.getElem?_eq_some_iff.1 e).1
  have hle : m.le (m.lay h.length c cvs.size) :=
    ⟨fun _ _ e => e, fun i d e => by rw [M.lay_mu _ _ _ _ _ (Nat.ne_of_lt (hi.mu i d e))]; exact e, fun i n r e => by rw [M.lay_rho _ _ _ _ _ _ (Nat.ne_of_lt (hi.rho i n r e))]; exact e⟩
  refine ⟨hle, ⟨hi.f, hi.fone, ?_, ?_, ?_, ?_, ?_, ?_, ?_⟩, ?_⟩
  · intro i ds e
    rcases getElem?_snoc _ _ _ _ e with e | ⟨rfl, q⟩
    · obtain ⟨d, dvs, u, h1, h2, h3, h4, h5, h6⟩ := hi.var i ds e
      exact ⟨d, dvs, u, hle.mu _ _ h1, h2, VRelL.mono hle _ _ h3, h4, h5, hle.rho _ _ _ h6⟩
    · cases q
      exact ⟨c, cvs, t, M.lay_mu' _ _ _ _, hb, VRelL.mono hle _ _ hr, hF, ho, M.lay_rho' _ _ _ _⟩
  · intro i j ds es d e e' h1 h2
    rcases getElem?_snoc _ _ _ _ e with e | ⟨rfl, q⟩ <;> rcases getElem?_snoc _ _ _ _ e' with e' | ⟨rfl, q'⟩
    · rw [M.lay_mu _ _ _ _ _ (old e)] at h1
      rw [M.lay_mu _ _ _ _ _ (old e')] at h2
      exact hi.inj i j ds es d e e' h1 h2
    · rw [M.lay_mu _ _ _ _ _ (old e)] at h1
      rw [M.lay_mu'] at h2
      cases h2
      exact (hT (.inl ⟨i, ds, e, h1⟩)).elim
    · rw [M.lay_mu _ _ _ _ _ (old e')] at h2
      rw [M.lay_mu'] at h1
      cases h1
      exact (hT (.inl ⟨j, es, e', h2⟩)).elim
    · rfl
  · intro i n sz e
    rcases getElem?_snoc _ _ _ _ e with e | ⟨_, e⟩
    · obtain ⟨a, cap, h1, h2⟩ := hi.own i n sz e
      refine ⟨a, cap, hle.rho _ _ _ h1, h2.spot, h2.le, h2.cell, h2.lt, fun k ds e' => ?_⟩
      rcases getElem?_snoc _ _ _ _ e' with e' | ⟨rfl, _⟩
      · rw [M.lay_mu _ _ _ _ _ (old e')]
        exact h2.var k ds e'
      · rw [M.lay_mu']
        intro e0
        cases e0
        exact hT (.inr ⟨i, n, sz, a, cap, e, h1, rfl⟩)
    · cases e
  · intro i j n k sz tz a b ca cb e e' h1 h2 hne
    rcases getElem?_snoc _ _ _ _ e with e | ⟨_, e⟩
    · rcases getElem?_snoc _ _ _ _ e' with e' | ⟨_, e'⟩
      · rw [M.lay_rho _ _ _ _ _ _ (old e)] at h1
        rw [M.lay_rho _ _ _ _ _ _ (old e')] at h2
        exact hi.apart i j n k sz tz a b ca cb e e' h1 h2 hne
      · cases e'
    · cases e
  · intro i d e
    by_cases e0 : i = h.length
    · simp; omega
    · rw [M.lay_mu _ _ _ _ _ e0] at e
      have := hi.mu i d e; simp; omega
  · intro i n r e
    by_cases e0 : i = h.length
    · simp; omega
    · rw [M.lay_rho _ _ _ _ _ _ e0] at e
      have := hi.rho i n r e; simp; omega
  · intro i n k sz r e h1
    rcases getElem?_snoc _ _ _ _ e with e | ⟨_, e⟩
    · rw [M.lay_rho _ _ _ _ _ _ (old e)] at h1
      exact hi.cur i n k sz r e h1
    · cases e
  · intro d hd
    rcases hd with ⟨i, ds, e, h1⟩ | ⟨i, n, sz, a, cap, e, h1, h2⟩
    · rcases getElem?_snoc _ _ _ _ e with e | ⟨rfl, _⟩
      · rw [M.lay_mu _ _ _ _ _ (old e)] at h1
        exact .inl (.inl ⟨i, ds, e, h1⟩)
      · rw [M.lay_mu'] at h1; cases h1; exact .inr rfl
    · rcases getElem?_snoc _ _ _ _ e with e | ⟨_, e⟩
      · rw [M.lay_rho _ _ _ _ _ _ (old e)] at h1
        exact .inl (.inr ⟨i, n, sz, a, cap, e, h1, h2⟩)
      · cases e

/-- A heap object of variables is laid over a block that nobody speaks of. -/
theorem Step.var {B : Nat} {m : M} {h : Heap} {w : World} (hi : Inv m h w) (c : Nat) (hc : B ≤ c) (cvs : Array Value) (t : TypeId) (cs : List AV)
    (hb : w.heap[c]? = some (.cells cvs t (0, 0))) (hr : VRelL m cs (cvs.toList.take cs.length)) (ho : ∀ v ∈ cvs.toList, v.oneCell' = true) (hF : ∀ a, a.block = c → m.F a = none) (hT : ¬ Touch m h c) :
    Step B m h w (m.lay h.length c cvs.size) (h ++ [.cells cs]) w := by
  obtain ⟨h1, h2, h3⟩ := lay_inv hi c cvs t cs hb hr ho hF hT
  exact ⟨h1, h2, Nat.le_refl _, rfl, rfl, rfl, fun _ _ _ => rfl, fun d hd => (h3 d hd).imp id (fun e => by omega), fun _ _ e => .inl e⟩

theorem getElem?_set_some {α : Type} {l : List α} {i j : Nat} {x y : α} (h : (l.set i x)[j]? = some y) : (j = i ∧ y = x) ∨ (j ≠ i ∧ l[j]? = some y) := by
  by_cases e : i = j
  · subst e
    rw [List.getElem?_set_self'] at h
    cases hl : l[i]? with
    | none => simp [hl] at h
    | some z => simp [hl] at h; exact .inl ⟨rfl, h.symm⟩
  · rw [List.getElem?_set_ne e] at h; exact .inr ⟨fun h => e h.symm, h⟩

/-- Another reading of an object's first cells. -/
theorem Step.relay {B : Nat} {m : M} {h : Heap} {w : World} (hi : Inv m h w) {b : Nat} {cs : List AV} (hb : h[b]? = some (.cells cs)) (cs' : List AV)
    (hcs : ∀ c cvs t, m.mu b = some c → w.heap[c]? = some (.cells cvs t (0, 0)) → VRelL m cs' (cvs.toList.take cs'.length)) : Step B m h w m (h.set b (.cells cs')) w := by
  have back : ∀ {i : Nat} {ds : List AV}, (h.set b (.cells cs'))[i]? = some (.cells ds) → ∃ es, h[i]? = some (.cells es) := by
    intro i ds e
    rcases getElem?_set_some e with ⟨rfl, _⟩ | ⟨_, e⟩
    · exact ⟨_, hb⟩
    · exact ⟨_, e⟩
  have backo : ∀ {i n sz : Nat}, (h.set b (.cells cs'))[i]? = some (.own n sz) → h[i]? = some (.own n sz) := by
    intro i n sz e
    rcases getElem?_set_some e with ⟨rfl, q⟩ | ⟨_, e⟩
    · cases q
    · exact e
  refine ⟨M.le.refl m, ⟨hi.f, hi.fone, ?_, ?_, ?_, ?_, ?_, ?_, ?_⟩, Nat.le_refl _, rfl, rfl, rfl, fun _ _ _ => rfl, ?_, fun _ _ e => .inl e⟩
  · intro i ds e
    rcases getElem?_set_some e with ⟨rfl, q⟩ | ⟨_, e⟩
    · cases q
      obtain ⟨d, dvs, u, h1, h2, h3, h4, h5, h6⟩ := hi.var i cs hb
      exact ⟨d, dvs, u, h1, h2, hcs d dvs u h1 h2, h4, h5, h6⟩
    · exact hi.var i ds e
  · intro i j ds es d e e' h1 h2
    obtain ⟨_, e⟩ := back e
    obtain ⟨_, e'⟩ := back e'
    exact hi.inj i j _ _ d e e' h1 h2
  · intro i n sz e
    obtain ⟨a, cap, h1, h2⟩ := hi.own i n sz (backo e)
    exact ⟨a, cap, h1, h2.spot, h2.le, h2.cell, h2.lt, fun k ds e' => by obtain ⟨_, e'⟩ := back e'; exact h2.var k _ e'⟩
  · intro i j n k sz tz a b' ca cb e e' h1 h2 hne
    exact hi.apart i j n k sz tz a b' ca cb (backo e) (backo e') h1 h2 hne
  · intro i d e; simpa using hi.mu i d e
  · intro i n r e; simpa using hi.rho i n r e
  · intro i n k sz r e h1; exact hi.cur i n k sz r (backo e) h1
  · intro d hd
    rcases hd with ⟨i, ds, e, h1⟩ | ⟨i, n, sz, a, cap, e, h1, h2⟩
    · obtain ⟨_, e⟩ := back e; exact .inl (.inl ⟨i, _, e, h1⟩)
    · exact .inl (.inr ⟨i, n, sz, a, cap, backo e, h1, h2⟩)

/-- Nothing is said of an object any more. -/
theorem Step.die {B : Nat} {m : M} {h : Heap} {w : World} (hi : Inv m h w) (b : Nat) : Step B m h w m (h.set b .dead) w := by
  have back : ∀ {i : Nat} {x : AO}, x ≠ .dead → (h.set b .dead)[i]? = some x → i ≠ b ∧ h[i]? = some x := by
    intro i x hx e
    rcases getElem?_set_some e with ⟨rfl, q⟩ | ⟨e0, e⟩
    · exact (hx q).elim
    · exact ⟨e0, e⟩
  have bc : ∀ {i : Nat} {cs : List AV}, (h.set b .dead)[i]? = some (.cells cs) → i ≠ b ∧ h[i]? = some (.cells cs) := fun e => back (by simp) e
  have bo : ∀ {i n sz : Nat}, (h.set b .dead)[i]? = some (.own n sz) → i ≠ b ∧ h[i]? = some (.own n sz) := fun e => back (by simp) e
  refine ⟨M.le.refl m, ⟨hi.f, hi.fone, ?_, ?_, ?_, ?_, ?_, ?_, ?_⟩, Nat.le_refl _, rfl, rfl, rfl, fun _ _ _ => rfl, ?_, fun _ _ e => .inl e⟩
  · intro i ds e; exact hi.var i ds (bc e).2
  · intro i j ds es d e e' h1 h2; exact hi.inj i j _ _ d (bc e).2 (bc e').2 h1 h2
  · intro i n sz e
    obtain ⟨a, cap, h1, h2⟩ := hi.own i n sz (bo e).2
    exact ⟨a, cap, h1, h2.spot, h2.le, h2.cell, h2.lt, fun k ds e' => h2.var k _ (bc e').2⟩
  · intro i j n k sz tz a b' ca cb e e' h1 h2 hne
    exact hi.apart i j n k sz tz a b' ca cb (bo e).2 (bo e').2 h1 h2 hne
  · intro i d e; simpa using hi.mu i d e
  · intro i n r e; simpa using hi.rho i n r e
  · intro i n k sz r e h1; exact hi.cur i n k sz r (bo e).2 h1
  · intro d hd
    rcases hd with ⟨i, ds, e, h1⟩ | ⟨i, n, sz, a, cap, e, h1, h2⟩
    · exact .inl (.inl ⟨i, _, (bc e).2, h1⟩)
    · exact .inl (.inr ⟨i, n, sz, a, cap, (bo e).2, h1, h2⟩)

/-- An object dies; a new one lies over its block. -/
theorem Step.move {B : Nat} {m : M} {h : Heap} {w : World} (hi : Inv m h w) {b c : Nat} {cs : List AV} (hb : h[b]? = some (.cells cs)) (hc : m.mu b = some c) (cvs : Array Value) (t : TypeId) (hw : w.heap[c]? = some (.cells cvs t (0, 0))) (cs' : List AV)
    (hcs : VRelL m cs' (cvs.toList.take cs'.length)) : Step B m h w (m.lay h.length c cvs.size) (h.set b .dead ++ [.cells cs']) w := by
  have s := Step.die (B := B) hi b
  have hl : (h.set b .dead).length = h.length := by simp
  obtain ⟨d, dvs, u, h1, h2, h3, h4, h5, h6⟩ := hi.var b cs hb
  rw [hc] at h1
  cases h1
  rw [hw] at h2
  cases h2
  have hT : ¬ Touch m (h.set b .dead) c := by
    rintro (⟨i, ds, e, k1⟩ | ⟨i, n, sz, a, cap, e, k1, k2⟩)
    · rcases getElem?_set_some e with ⟨rfl, q⟩ | ⟨e0, e⟩
      · cases q
      · exact e0 (hi.inj i b ds cs c e hb k1 hc)
    · rcases getElem?_set_some e with ⟨rfl, q⟩ | ⟨e0, e⟩
      · cases q
      · obtain ⟨a', cap', q1, q2⟩ := hi.own i n sz e
        rw [k1] at q1
        cases q1
        exact q2.var b cs hb (k2 ▸ hc)
  obtain ⟨k1, k2, k3⟩ := lay_inv s.inv c cvs t cs' hw hcs h5 h4 hT
  rw [hl] at k1 k2 k3
  refine ⟨k1, k2, Nat.le_refl _, rfl, rfl, rfl, fun _ _ _ => rfl, fun d hd => ?_, fun _ _ e => .inl e⟩
  rcases k3 d hd with e | rfl
  · exact s.touch d e
  · exact .inl (.inl ⟨b, cs, hb, hc⟩)

/-- A new right to append. -/
theorem Step.tok {B : Nat} {m : M} {h : Heap} {w : World} (hi : Inv m h w) (n sz : Nat) (a : Addr) (cap : Nat) (hs : Spare m h w n sz a cap) (hB : B ≤ a.block)
    (hT : ¬ Touch m h a.block) : Step B m h w ⟨m.F, m.mu, fun i k => if i = h.length then (if k = n then some (a, cap) else none) else m.rho i k⟩ (h ++ [.own n sz]) w := by
  have hle : m.le ⟨m.F, m.mu, fun i k => if i = h.length then (if k = n then some (a, cap) else none) else m.rho i k⟩ :=
    ⟨fun _ _ e => e, fun _ _ e => e, fun i k r e => by have := hi.rho i k r e; simp only [if_neg (Nat.ne_of_lt this)]; exact e⟩
  refine ⟨hle, ⟨hi.f, hi.fone, ?_, ?_, ?_, ?_, ?_, ?_, ?_⟩, Nat.le_refl _, rfl, rfl, rfl, fun _ _ _ => rfl, ?_, fun _ _ e => .inl e⟩
  · intro i ds e
    rcases getElem?_snoc _ _ _ _ e with e | ⟨_, e⟩
    · obtain ⟨d, dvs, u, h1, h2, h3, h4⟩ := hi.var i ds e
      exact ⟨d, dvs, u, h1, h2, VRelL.mono hle _ _ h3, h4.1, h4.2.1, hle.rho _ _ _ h4.2.2⟩
    · cases e
  · intro i j ds es d e e' h1 h2
    rcases getElem?_snoc _ _ _ _ e with e | ⟨_, e⟩
    · rcases getElem?_snoc _ _ _ _ e' with e' | ⟨_, e'⟩
      · exact hi.inj i j ds es d e e' h1 h2
      · cases e'
    · cases e
  · intro i k tz e
    rcases getElem?_snoc _ _ _ _ e with e | ⟨rfl, q⟩
    · obtain ⟨b, cb, h1, h2⟩ := hi.own i k tz e
      refine ⟨b, cb, hle.rho _ _ _ h1, h2.spot, h2.le, h2.cell, h2.lt, fun j ds e' => ?_⟩
      rcases getElem?_snoc _ _ _ _ e' with e' | ⟨_, e'⟩
      · exact h2.var j ds e'
      · cases e'
    · cases q
      refine ⟨a, cap, by simp, hs.spot, hs.le, hs.cell, hs.lt, fun j ds e' => ?_⟩
      rcases getElem?_snoc _ _ _ _ e' with e' | ⟨_, e'⟩
      · exact hs.var j ds e'
      · cases e'
  · intro i j k l uz tz b d cb cd e e' h1 h2 hne
    rcases getElem?_snoc _ _ _ _ e with e | ⟨rfl, q⟩ <;> rcases getElem?_snoc _ _ _ _ e' with e' | ⟨rfl, q'⟩
    · have hil := (List.getElem?_eq_some_iff.1 e).1
      have hjl := (List.getElem?_eq_some_iff.1 e').1
      simp only [if_neg (Nat.ne_of_lt hil), if_neg (Nat.ne_of_lt hjl)] at h1 h2
      exact hi.apart i j k l uz tz b d cb cd e e' h1 h2 hne
    · have hil := (List.getElem?_eq_some_iff.1 e).1
      simp only [if_neg (Nat.ne_of_lt hil)] at h1
      cases q'
      simp at h2
      obtain ⟨rfl, _⟩ := h2
      intro e0
      exact hT (.inr ⟨i, k, uz, b, cb, e, h1, e0⟩)
    · have hjl := (List.getElem?_eq_some_iff.1 e').1
      simp only [if_neg (Nat.ne_of_lt hjl)] at h2
      cases q
      simp at h1
      obtain ⟨rfl, _⟩ := h1
      intro e0
      exact hT (.inr ⟨j, l, tz, d, cd, e', h2, e0.symm⟩)
    · exact (hne rfl).elim
  · intro i d e
    have := hi.mu i d e; simp; omega
  · intro i k r e
    simp only at e
    split at e
    · rename_i e0; subst e0; simp
    · have := hi.rho i k r e; simp; omega
  · intro i k l tz r e h1
    rcases getElem?_snoc _ _ _ _ e with e | ⟨rfl, q⟩
    · have hil := (List.getElem?_eq_some_iff.1 e).1
      simp only [if_neg (Nat.ne_of_lt hil)] at h1
      exact hi.cur i k l tz r e h1
    · cases q
      simp at h1
      omega
  · intro d hd
    rcases hd with ⟨i, ds, e, h1⟩ | ⟨i, k, tz, b, cb, e, h1, h2⟩
    · rcases getElem?_snoc _ _ _ _ e with e | ⟨_, e⟩
      · exact .inl (.inl ⟨i, ds, e, h1⟩)
      · cases e
    · rcases getElem?_snoc _ _ _ _ e with e | ⟨rfl, q⟩
      · have hil := (List.getElem?_eq_some_iff.1 e).1
        simp only [if_neg (Nat.ne_of_lt hil)] at h1
        exact .inl (.inr ⟨i, k, tz, b, cb, e, h1, h2⟩)
      · cases q
        simp at h1
        obtain ⟨rfl, _⟩ := h1
        subst h2
        exact .inr hB

/-- A right to append goes on, to a longer list. -/
theorem Step.retok {B : Nat} {m : M} {h : Heap} {w : World} (hi : Inv m h w) (τ n sz n' : Nat) (ht : h[τ]? = some (.own n sz)) (hn : n < n') (a : Addr) (cap : Nat)
    (hs : Spare m h w n' sz a cap) (hB : B ≤ a.block ∨ ∃ b cb, m.rho τ n = some (b, cb) ∧ b.block = a.block)
    (hT : ∀ i k tz b cb, i ≠ τ → h[i]? = some (.own k tz) → m.rho i k = some (b, cb) → b.block ≠ a.block) :
    Step B m h w ⟨m.F, m.mu, fun i k => if i = τ ∧ k = n' then some (a, cap) else m.rho i k⟩ (h.set τ (.own n' sz)) w := by
  have hτ := (List.getElem?_eq_some_iff.1 ht).1
  have hle : m.le ⟨m.F, m.mu, fun i k => if i = τ ∧ k = n' then some (a, cap) else m.rho i k⟩ :=
    ⟨fun _ _ e => e, fun _ _ e => e, fun i k r e => by
      have h0 : ¬ (i = τ ∧ k = n') := by rintro ⟨rfl, rfl⟩; have := hi.cur _ _ _ _ _ ht e; omega
      simp only [if_neg h0]; exact e⟩
  refine ⟨hle, ⟨hi.f, hi.fone, ?_, ?_, ?_, ?_, ?_, ?_, ?_⟩, Nat.le_refl _, rfl, rfl, rfl, fun _ _ _ => rfl, ?_, fun _ _ e => .inl e⟩
  · intro i ds e
    rcases getElem?_set_some e with ⟨_, e⟩ | ⟨_, e⟩
    · cases e
    · obtain ⟨d, dvs, u, h1, h2, h3, h4⟩ := hi.var i ds e
      exact ⟨d, dvs, u, h1, h2, VRelL.mono hle _ _ h3, h4.1, h4.2.1, hle.rho _ _ _ h4.2.2⟩
  · intro i j ds es d e e' h1 h2
    rcases getElem?_set_some e with ⟨_, e⟩ | ⟨_, e⟩
    · cases e
    · rcases getElem?_set_some e' with ⟨_, e'⟩ | ⟨_, e'⟩
      · cases e'
      · exact hi.inj i j ds es d e e' h1 h2
  · intro i k tz e
    rcases getElem?_set_some e with ⟨rfl, q⟩ | ⟨hne, e⟩
    · cases q
      refine ⟨a, cap, by simp, hs.spot, hs.le, hs.cell, hs.lt, fun j ds e' => ?_⟩
      rcases getElem?_set_some e' with ⟨_, e'⟩ | ⟨_, e'⟩
      · cases e'
      · exact hs.var j ds e'
    · obtain ⟨b, cb, h1, h2⟩ := hi.own i k tz e
      refine ⟨b, cb, hle.rho _ _ _ h1, h2.spot, h2.le, h2.cell, h2.lt, fun j ds e' => ?_⟩
      rcases getElem?_set_some e' with ⟨_, e'⟩ | ⟨_, e'⟩
      · cases e'
      · exact h2.var j ds e'
  · intro i j k l uz tz b d cb cd e e' h1 h2 hne
    rcases getElem?_set_some e with ⟨rfl, q⟩ | ⟨hi0, g⟩ <;> rcases getElem?_set_some e' with ⟨rfl, q'⟩ | ⟨hj0, g'⟩
    · exact (hne rfl).elim
    · cases q
      simp at h1
      obtain ⟨rfl, _⟩ := h1
      simp only [hj0, false_and, if_false] at h2
      exact fun e0 => hT j l tz d cd hj0 g' h2 e0.symm
    · cases q'
      simp at h2
      obtain ⟨rfl, _⟩ := h2
      simp only [hi0, false_and, if_false] at h1
      exact fun e0 => hT i k uz b cb hi0 g h1 e0
    · simp only [hi0, hj0, false_and, if_false] at h1 h2
      exact hi.apart i j k l uz tz b d cb cd g g' h1 h2 hne
  · intro i d e
    have := hi.mu i d e; simpa using this
  · intro i k r e
    simp only at e
    split at e
    · rename_i e0; obtain ⟨rfl, _⟩ := e0; simpa using hτ
    · have := hi.rho i k r e; simpa using this
  · intro i k l tz r e h1
    rcases getElem?_set_some e with ⟨rfl, q⟩ | ⟨hi0, e⟩
    · cases q
      simp only at h1
      split at h1
      · rename_i e0; omega
      · have := hi.cur _ _ _ _ _ ht h1; omega
    · simp only [hi0, false_and, if_false] at h1
      exact hi.cur i k l tz r e h1
  · intro d hd
    rcases hd with ⟨i, ds, e, h1⟩ | ⟨i, k, tz, b, cb, e, h1, h2⟩
    · rcases getElem?_set_some e with ⟨_, e⟩ | ⟨_, e⟩
      · cases e
      · exact .inl (.inl ⟨i, ds, e, h1⟩)
    · rcases getElem?_set_some e with ⟨rfl, q⟩ | ⟨hi0, e⟩
      · cases q
        simp at h1
        obtain ⟨rfl, _⟩ := h1
        rcases hB with hB | ⟨b', cb', h3, h4⟩
        · subst h2; exact .inr hB
        · exact .inl (.inr ⟨i, n, sz, b', cb', ht, h3, h4.trans h2⟩)
      · simp only [hi0, false_and, if_false] at h1
        exact .inl (.inr ⟨i, k, tz, b, cb, e, h1, h2⟩)

/-- More cells are known never to change: they lie in no variable and in no spare part. -/
theorem Step.fro {B : Nat} {m : M} {h : Heap} {w : World} (hi : Inv m h w) (G : Addr → Option Value) (hG : ∀ a v, G a = some v → w.cell? a = some v) (hG1 : ∀ a v, G a = some v → v.oneCell' = true)
    (hv : ∀ a v, G a = some v → ∀ k cs, h[k]? = some (.cells cs) → m.mu k ≠ some a.block)
    (hs : ∀ i n sz a cap, h[i]? = some (.own n sz) → m.rho i n = some (a, cap) → ∀ j, n * sz ≤ j → j < cap * sz → G ⟨a.block, a.off + j, none⟩ = none)
    (hB : ∀ a v, G a = some v → B ≤ a.block ∨ Touch m h a.block) :
    Step B m h w ⟨fun a => match m.F a with | some v => some v | none => G a, m.mu, m.rho⟩ h w := by
  have hle : m.le ⟨fun a => match m.F a with | some v => some v | none => G a, m.mu, m.rho⟩ :=
    ⟨fun a v e => by simp only [e], fun _ _ e => e, fun _ _ _ e => e⟩
  have split : ∀ a v, (match m.F a with | some v => some v | none => G a) = some v → m.F a = some v ∨ G a = some v := by
    intro a v e
    cases hF : m.F a with
    | some u => simp only [hF] at e; exact .inl e
    | none => simp only [hF] at e; exact .inr e
  refine ⟨hle, ⟨?_, ?_, ?_, hi.inj, ?_, hi.apart, hi.mu, hi.rho, hi.cur⟩, Nat.le_refl _, rfl, rfl, rfl, fun _ _ _ => rfl, fun _ e => .inl e, ?_⟩
  · intro a v e
    rcases split a v e with e | e
    · exact hi.f a v e
    · exact hG a v e
  · intro a v e
    rcases split a v e with e | e
    · exact hi.fone a v e
    · exact hG1 a v e
  · intro i ds e
    obtain ⟨d, dvs, u, h1, h2, h3, h4⟩ := hi.var i ds e
    refine ⟨d, dvs, u, h1, h2, VRelL.mono hle _ _ h3, fun a ha => ?_, h4.2⟩
    simp only [h4.1 a ha]
    cases hg : G a with
    | none => rfl
    | some v => exact (hv a v hg i ds e (ha ▸ h1)).elim
  · intro i n sz e
    obtain ⟨a, cap, h1, h2⟩ := hi.own i n sz e
    refine ⟨a, cap, h1, h2.spot, h2.le, fun j k1 k2 => ?_, h2.lt, h2.var⟩
    obtain ⟨c1, c2, c3⟩ := h2.cell j k1 k2
    exact ⟨c1, c2, by simp only [c3]; exact hs i n sz a cap e h1 j k1 k2⟩
  · intro a v e
    rcases split a v e with e | e
    · exact .inl e
    · exact .inr ((hB a v e).symm)

/-- A row gets a mark behind its last cell; no spare part is in it. -/
theorem Step.mark {B : Nat} {m : M} {h : Heap} {w w' : World} (hi : Inv m h w) {τ k sz : Nat} {a : Addr} {cap : Nat} (hτ : h[τ]? = some (.own k sz)) (hr : m.rho τ k = some (a, cap)) (hk : cap ≤ k)
    (hblk : ∀ c, c ≠ a.block → w'.heap[c]? = w.heap[c]?) (hcell : ∀ p, w'.cell? p = w.cell? p) (hsz : w'.heap.size = w.heap.size) (h1 : w'.os = w.os) (h2 : w'.tape = w.tape) (h3 : w'.output = w.output) : Step B m h w m h w' := by
  obtain ⟨a0, cap0, hr0, hs0⟩ := hi.own τ k sz hτ
  rw [hr] at hr0
  cases hr0
  refine ⟨M.le.refl m, ⟨?_, hi.fone, ?_, hi.inj, ?_, hi.apart, hi.mu, hi.rho, hi.cur⟩, by omega, h1, h2, h3, ?_, fun _ h => .inl h, fun _ _ h => .inl h⟩
  · intro b v e; rw [hcell]; exact hi.f b v e
  · intro i cs e
    obtain ⟨c, cvs, t, k1, k2, k3⟩ := hi.var i cs e
    refine ⟨c, cvs, t, k1, ?_, k3⟩
    rw [hblk c (fun e' => hs0.var i cs e (by rw [k1, e']))]
    exact k2
  · intro i n z e
    obtain ⟨b, cb, k1, k2⟩ := hi.own i n z e
    refine ⟨b, cb, k1, k2.world (by omega) fun j j1 j2 => ?_⟩
    by_cases hit : i = τ
    · subst hit
      rw [hτ] at e
      cases e
      rw [hr] at k1
      cases k1
      have : cap * sz ≤ k * sz := Nat.mul_le_mul_right _ hk
      omega
    · have hne := hi.apart i τ n k z sz b a cb cap e hτ k1 hr hit
      obtain ⟨c1, c2, _⟩ := k2.cell j j1 j2
      exact ⟨by rw [hcell]; exact c1, (World.frozen?_of_block (w := w) (w' := w') (hblk (⟨b.block, b.off + j, none⟩ : Addr).block hne)).trans c2⟩
  · intro c _ ht
    exact hblk c (fun e => ht (.inr ⟨τ, k, sz, a, cap, hτ, hr, e.symm⟩))

end Go.Proofs.Ytpfdfilkhaoibaa.Ev

/-
  What each operation does to values that lie as the abstract ones say: operations that leave memory alone.
-/
namespace Go.Proofs.Ytpfdfilkhaoibaa.Ev
open Go
set_option linter.unusedVariables false
set_option linter.unusedSimpArgs false

theorem VRel.int' {m : M} {k : IntKind} {n : Int} {v : Value} (h : VRel m (.int k n) v) : v = .int k n := by simpa only [VRel] using h
theorem VRel.bool' {m : M} {b : Bool} {v : Value} (h : VRel m (.bool b) v) : v = .bool b := by simpa only [VRel] using h
theorem VRel.mkint {m : M} (k : IntKind) (n : Int) : VRel m (.int k n) (.int k n) := by simp only [VRel]
theorem VRel.mkbool {m : M} (b : Bool) : VRel m (.bool b) (.bool b) := by simp only [VRel]
theorem VRel.undef {m : M} : VRel m .undef undef := by simp only [AV.undef, Go.undef, VRel]; exact ⟨#[], rfl, VRelL.nil⟩
theorem VRel.mkstr {m : M} (b : ByteArray) : VRel m (.str b.data.toList) (.string b) := by simp only [VRel]; exact ⟨b, rfl, rfl⟩

/-- Optional operands. -/
def ORel (m : M) : Option AV → Option Value → Prop
  | none, none => True
  | some x, some v => VRel m x v
  | _, _ => False

theorem tySize_spec {P : Program} {t : TypeId} {n : Nat} (h : tySize P t = some n) : ∃ i, P.info? t = some i ∧ i.size = n := by
  unfold tySize at h
  cases hi : P.info? t with
  | none => simp [hi] at h
  | some i => simp [hi] at h; exact ⟨i, rfl, h⟩
theorem run_sizeOf' {P : Program} {t : TypeId} {n : Nat} (h : tySize P t = some n) (w : World) : (sizeOf t).run P w = .ok n w := by
  obtain ⟨i, hi, rfl⟩ := tySize_spec h
  simp [sizeOf, typeInfo, hi]
theorem run_isAgg_true {P : Program} {t : TypeId} (h : tyAgg P t = true) (w : World) : (isAgg t).run P w = .ok true w := by
  unfold tyAgg at h
  cases hu : P.underlying t with
  | none => simp [hu] at h
  | some d => simp only [hu] at h; unfold isAgg; rw [Sem.run_bind, run_underlying hu w]; cases d <;> simp_all
theorem run_isAgg_false {P : Program} {t : TypeId} (h : tyScalar P t = true) (w : World) : (isAgg t).run P w = .ok false w := by
  unfold tyScalar at h
  cases hu : P.underlying t with
  | none => simp [hu] at h
  | some d => simp only [hu] at h; unfold isAgg; rw [Sem.run_bind, run_underlying hu w]; cases d <;> simp_all

/-- A list that holds a cell has room, so its address is plain. -/
theorem spot_of {m : M} {xs : List AV} {cvs : List Value} {a : Addr} {cap' j : Nat} {v : Value} (g2 : cap' ≠ 0 → a.spot = none) (g3 : xs.length ≤ cap') (g4 : VRelL m xs cvs) (hv : (cvs.flatMap VCells)[j]? = some v) : a.spot = none := by
  refine g2 fun h0 => ?_
  have hl := g4.length
  have : cvs = [] := List.eq_nil_of_length_eq_zero (by omega)
  subst this
  simp at hv
theorem Addr.add_none (a : Addr) (h : a.spot = none) (n : Nat) : a.add n = ⟨a.block, a.off + n, none⟩ := by
  obtain ⟨b, o, s⟩ := a
  simp only at h
  subst h
  exact Addr.add_mid b o n

theorem list_toArray_get {l : List Value} {a : Array Value} (h : a.toList = l) (i : Nat) : a[i]? = l[i]? := by subst h; simp

/-- A part of an aggregate. -/
theorem partA_ok {P : Program} {m : M} {t : TypeId} {cs : List AV} {off : Nat} {x : AV} (he : partA P t cs off = some x) {cvs : Array Value} (hr : VRelL m cs cvs.toList) (w : World) :
    ∃ cv, (part t cvs off).run P w = .ok cv w ∧ VRel m x cv := by
  unfold partA at he
  split at he
  · rename_i hagg
    split at he
    · rename_i n hn
      split at he
      · rename_i hle
        simp only [Option.some.injEq] at he
        subst he
        refine ⟨.agg (cvs.extract off (off + n)), ?_, ?_⟩
        · simp [part, run_isAgg_true hagg, run_sizeOf' hn]
        · simp only [VRel]
          refine ⟨_, rfl, ?_⟩
          have : (cvs.extract off (off + n)).toList = (cvs.toList.drop off).take n := by simp [Array.toList_extract, List.extract_eq_take_drop]
          rw [this]
          exact (hr.drop off).take n
      · cases he
    · cases he
  · split at he
    · rename_i hsc
      split at he
      · rename_i y hy
        split at he
        · simp only [Option.some.injEq] at he
          subst he
          obtain ⟨v, hv, hx⟩ := hr.get hy
          refine ⟨v, ?_, hx⟩
          have hv' : cvs[off]? = some v := by simpa using hv
          simp [part, run_isAgg_false hsc, hv']
        · cases he
      · cases he
    · cases he

theorem VRel.one {m : M} {x : AV} {v : Value} (h : VRel m x v) (h1 : x.one = true) : VCells v = [v] ∧ v.oneCell' = true := by
  cases x <;> simp only [AV.one] at h1 <;> simp only [VRel] at h <;> first
    | (cases h1; done)
    | (obtain ⟨_, _, _, rfl, _⟩ := h; exact ⟨rfl, rfl⟩)
    | (obtain ⟨_, h⟩ := h; refine ⟨?_, h⟩; cases v <;> first | rfl | (simp [Value.oneCell'] at h))
    | (subst h; exact ⟨rfl, rfl⟩)
    | (obtain ⟨_, rfl, _⟩ := h; exact ⟨rfl, rfl⟩)
    | (obtain ⟨_, _, rfl⟩ := h; exact ⟨rfl, rfl⟩)
    | (obtain ⟨_, _, rfl, _⟩ := h; exact ⟨rfl, rfl⟩)
    | (rcases h with ⟨_, _, _, _, rfl⟩ | ⟨_, _, _, _, rfl, _⟩ <;> exact ⟨rfl, rfl⟩)

/-- Where a part lies. -/
theorem partA_mem {P : Program} {m : M} {t : TypeId} {cs : List AV} {off : Nat} {x : AV} (he : partA P t cs off = some x) {l : List Value} (hr : VRelL m cs l) :
    ∃ cv n, VRel m x cv ∧ VCells cv = (l.drop off).take n := by
  unfold partA at he
  split at he
  · split at he
    · rename_i n hn
      split at he
      · simp only [Option.some.injEq] at he
        subst he
        refine ⟨.agg ((l.drop off).take n).toArray, n, ?_, by simp [VCells, Value.cells]⟩
        simp only [VRel]
        exact ⟨_, rfl, by simpa using (hr.drop off).take n⟩
      · cases he
    · cases he
  · split at he
    · split at he
      · rename_i y hy
        split at he
        · rename_i h1
          simp only [Option.some.injEq] at he
          subst he
          obtain ⟨v, hv, hx⟩ := hr.get hy
          refine ⟨v, 1, hx, ?_⟩
          rw [(hx.one h1).1]
          rw [List.getElem?_eq_some_iff] at hv
          obtain ⟨hl, rfl⟩ := hv
          rw [List.drop_eq_getElem_cons hl, List.take_succ_cons, List.take_zero]
        · cases he
      · cases he
    · cases he

theorem flatMap_take {s : Nat} : ∀ (l : List Value) (h : Nat), (∀ v ∈ l, (VCells v).length = s) → (l.take h).flatMap VCells = (l.flatMap VCells).take (h * s)
  | [], h, _ => by simp
  | v :: l, 0, _ => by simp
  | v :: l, h + 1, hs => by
    have h1 := hs v (by simp)
    simp only [List.take_succ_cons, List.flatMap_cons]
    rw [flatMap_take l h (fun u hu => hs u (by simp [hu]))]
    have e1 : (h + 1) * s = (VCells v).length + h * s := by rw [h1, Nat.add_mul]; omega
    rw [e1, List.take_length_add_append]
theorem flatMap_drop {s : Nat} : ∀ (l : List Value) (h : Nat), (∀ v ∈ l, (VCells v).length = s) → (l.drop h).flatMap VCells = (l.flatMap VCells).drop (h * s)
  | [], h, _ => by simp
  | v :: l, 0, _ => by simp
  | v :: l, h + 1, hs => by
    have h1 := hs v (by simp)
    simp only [List.drop_succ_cons, List.flatMap_cons]
    rw [flatMap_drop l h (fun u hu => hs u (by simp [hu]))]
    have e1 : (h + 1) * s = (VCells v).length + h * s := by rw [h1, Nat.add_mul]; omega
    rw [e1, List.drop_length_add_append]
theorem flatMap_length {s : Nat} : ∀ (l : List Value), (∀ v ∈ l, (VCells v).length = s) → (l.flatMap VCells).length = l.length * s
  | [], _ => by simp
  | v :: l, hs => by
    simp only [List.flatMap_cons, List.length_append, List.length_cons, hs v (by simp), flatMap_length l (fun u hu => hs u (by simp [hu])), Nat.add_mul]
    omega

theorem CellsF.drop {F : Addr → Option Value} {a : Addr} {l : List Value} (h : CellsF F a l) (n : Nat) : CellsF F ⟨a.block, a.off + n, none⟩ (l.drop n) := by
  intro i v hv
  have := h (n + i) v (by simpa using hv)
  simpa [Nat.add_assoc] using this
theorem CellsF.take {F : Addr → Option Value} {a : Addr} {l : List Value} (h : CellsF F a l) (n : Nat) : CellsF F a (l.take n) := by
  intro i v hv
  rw [List.getElem?_take] at hv
  split at hv
  · exact h i v hv
  · cases hv
theorem CellsF.left {F : Addr → Option Value} {a : Addr} {l k : List Value} (h : CellsF F a (l ++ k)) : CellsF F a l := by
  have := h.take l.length
  rwa [List.take_left] at this

/-- The cells of one element. -/
theorem CellsF.elem {F : Addr → Option Value} {a : Addr} {l : List Value} {s i : Nat} {v : Value} (h : CellsF F a (l.flatMap VCells)) (hs : ∀ v ∈ l, (VCells v).length = s) (hi : l[i]? = some v) :
    CellsF F ⟨a.block, a.off + i * s, none⟩ (VCells v) := by
  have h1 := h.drop (i * s)
  rw [← flatMap_drop l i hs] at h1
  have h2 : l.drop i = v :: l.drop (i + 1) := by
    rw [List.getElem?_eq_some_iff] at hi
    obtain ⟨hl, rfl⟩ := hi
    exact List.drop_eq_getElem_cons hl
  rw [h2] at h1
  simp only [List.flatMap_cons] at h1
  exact h1.left

theorem VCells_length {m : M} {x : AV} {v : Value} (h : VRel m x v) : (VCells v).length = x.cells.length := by
  have := h.cells.length; exact this

theorem headOk_spec {m : M} {xs : List AV} {cvs : List Value} {s n : Nat} (hr : VRelL m xs cvs) (hs : ∀ v ∈ cvs, (VCells v).length = s) (h : headOk n xs = true) : xs = [] ∨ s = n := by
  cases xs with
  | nil => exact .inl rfl
  | cons x xs =>
    simp only [VRelL] at hr
    obtain ⟨v, vs, rfl, h1, _⟩ := hr
    simp only [headOk, beq_iff_eq] at h
    have := hs v (by simp)
    rw [VCells_length h1] at this
    exact .inr (by omega)

/-- What may be loaded. -/
theorem run_loadVar_F {P : Program} {m : M} {w : World} {t : TypeId} {h : Heap} {x y : AV} (hi : ∀ a v, m.F a = some v → w.cell? a = some v) (he : loadA P t h (.rptr x) = some y) {a : Addr} {cv : Value} (ha : a.spot = none)
    (hr : VRel m x cv) (hc : CellsF m.F a (VCells cv)) : ∃ u, (loadVar t a).run P w = .ok u w ∧ VRel m y u := by
  obtain ⟨b, o, sp⟩ := a
  simp only at ha
  subst ha
  have one : ∀ u, VCells cv = [u] → w.cell? ⟨b, o, none⟩ = some u := fun u hu => hi _ _ (by have := hc 0 u (by simp [hu]); simpa using this)
  have scalar : tyScalar P t = true → VCells cv = [cv] → ∃ u, (loadVar t ⟨b, o, none⟩).run P w = .ok u w ∧ VRel m x u := by
    intro hsc h1
    exact ⟨cv, by simp [loadVar, run_isAgg_false hsc, one cv h1], hr⟩
  cases x <;> simp only [loadA] at he
  case agg cs =>
    split at he
    · rename_i hcond
      simp only [Bool.and_eq_true, beq_iff_eq] at hcond
      simp only [Option.some.injEq] at he
      subst he
      simp only [VRel] at hr
      obtain ⟨cvs, rfl, hr⟩ := hr
      have hl := hr.length
      have hld : (loadCells ⟨b, o, none⟩ cvs.toList.length).run P w = .ok cvs.toList.toArray w :=
        run_loadCells_list (P := P) w ⟨b, o, none⟩ cvs.toList (fun j v hv => by rw [Addr.add_mid]; exact hi _ _ (hc j v hv))
      refine ⟨.agg cvs, ?_, by simp only [VRel]; exact ⟨cvs, rfl, hr⟩⟩
      rw [hl] at hld
      simp [loadVar, run_isAgg_true hcond.1, run_sizeOf' hcond.2, hld]
    · cases he
  case tuple => cases he
  case raw u =>
    split at he
    · rename_i hsc
      simp only [Option.some.injEq] at he
      subst he
      exact scalar hsc (hr.one rfl).1
    · cases he
  all_goals
    split at he
    · rename_i hsc
      simp only [Option.some.injEq] at he
      subst he
      refine scalar hsc ?_
      simp only [VRel] at hr
      first
        | (subst hr; rfl)
        | (obtain ⟨_, rfl, _⟩ := hr; rfl)
        | (obtain ⟨_, _, rfl⟩ := hr; rfl)
        | (obtain ⟨_, _, rfl, _⟩ := hr; rfl)
        | (obtain ⟨_, _, _, rfl, _⟩ := hr; rfl)
        | (obtain ⟨_, rfl⟩ := hr; rfl)
        | (rcases hr with ⟨_, _, _, _, rfl⟩ | ⟨_, _, _, _, rfl, _⟩ <;> rfl)
    · cases he

theorem cell_row {w : World} {c o : Nat} {cvs : Array Value} {t : TypeId} {fr : Nat × Nat} (h : w.heap[c]? = some (.cells cvs t fr)) : w.cell? ⟨c, o, none⟩ = cvs[o]? := cell_of_row w c o cvs t fr h

theorem take_get {α : Type} {l : List α} {k j : Nat} {v : α} (h : (l.take k)[j]? = some v) : l[j]? = some v := by
  rw [List.getElem?_take] at h
  split at h
  · exact h
  · cases h

theorem run_loadVar_row' {P : Program} {m : M} {w : World} {t : TypeId} {cs : List AV} {o : Nat} {y : AV} (he : partA P t cs o = some y) {c : Nat} {cvs : Array Value} {u : TypeId} {fr : Nat × Nat} {l : List Value}
    (hb : w.heap[c]? = some (.cells cvs u fr)) (hp : ∀ (j : Nat) (v : Value), l[j]? = some v → cvs.toList[j]? = some v) (hr : VRelL m cs l) : ∃ v, (loadVar t ⟨c, o, none⟩).run P w = .ok v w ∧ VRel m y v := by
  unfold partA at he
  split at he
  · rename_i hagg
    split at he
    · rename_i n hn
      split at he
      · rename_i hle
        simp only [Option.some.injEq] at he
        subst he
        have hl := hr.length
        have hlen : ((l.drop o).take n).length = n := by simp at hl ⊢; omega
        have hld := run_loadCells_list (P := P) w ⟨c, o, none⟩ ((l.drop o).take n) (fun j v hv => by
          rw [Addr.add_mid, cell_row hb]
          have := take_get hv
          simp only [List.getElem?_drop] at this
          simpa using hp _ _ this)
        rw [hlen] at hld
        refine ⟨.agg ((l.drop o).take n).toArray, ?_, ?_⟩
        · simp [loadVar, run_isAgg_true hagg, run_sizeOf' hn, hld]
        · simp only [VRel]
          exact ⟨_, rfl, by simpa using (hr.drop o).take n⟩
      · cases he
    · cases he
  · split at he
    · rename_i hsc
      split at he
      · rename_i z hz
        split at he
        · simp only [Option.some.injEq] at he
          subst he
          obtain ⟨v, hv, hx⟩ := hr.get hz
          refine ⟨v, ?_, hx⟩
          have hv' : w.cell? ⟨c, o, none⟩ = some v := by rw [cell_row hb]; simpa using hp _ _ hv
          simp [loadVar, run_isAgg_false hsc, hv']
        · cases he
      · cases he
    · cases he

theorem loadA_ok {P : Program} {m : M} {h : Heap} {w : World} (hi : Inv m h w) {t : TypeId} {x y : AV} {v : Value} (hx : VRel m x v) (he : loadA P t h x = some y) :
    ∃ u, (Instr.loadAt t v).run P w = .ok u w ∧ VRel m y u := by
  cases x with
  | rptr x =>
    simp only [VRel] at hx
    obtain ⟨a, cv, rfl, ha, hr, hc⟩ := hx
    obtain ⟨u, h1, h2⟩ := run_loadVar_F (P := P) hi.f he ha hr hc
    exact ⟨u, by simp [Instr.loadAt, Instr.sureAddr, h1], h2⟩
  | ptr b o =>
    simp only [VRel] at hx
    obtain ⟨c, hm, rfl⟩ := hx
    simp only [loadA] at he
    split at he
    · rename_i cs hb
      obtain ⟨d, cvs, t', h1, h2, h3, _⟩ := hi.var b cs hb
      rw [hm] at h1
      cases h1
      obtain ⟨u, k1, k2⟩ := run_loadVar_row' (P := P) he h2 (fun _ _ => take_get) h3
      exact ⟨u, by simp [Instr.loadAt, Instr.sureAddr, k1], k2⟩
    · cases he
  | _ => simp only [loadA] at he; cases he

theorem intArith_run {P : Program} {w : World} (op : BinOp) (k : IntKind) (a b : Int) {y : AV} (he : wrapBin op k a b = some y) (t : TypeId) (h1 : op ≠ .shl) (h2 : op ≠ .shr) :
    ∃ v, (binOp op t (.int k a) (.int k b)).run P w = .ok v w ∧ ∀ m, VRel m y v := by
  cases op <;> simp only [wrapBin] at he <;> first
    | (cases he; done)
    | (exact (h1 rfl).elim)
    | (exact (h2 rfl).elim)
    | (split at he
       · cases he
       · rename_i hb
         simp only [Option.some.injEq] at he; subst he
         exact ⟨_, by simp [binOp, Op.intDiv, hb]; rfl, fun m => by simp only [VRel]⟩)
    | (simp only [Option.some.injEq] at he; subst he
       exact ⟨_, by simp [binOp, Op.intArith, Op.intCmp]; rfl, fun m => by simp only [VRel]⟩)

theorem shift_run {P : Program} {w : World} (op : BinOp) (k j : IntKind) (a b : Int) {y : AV} (he : shiftA op k a b = some y) (t : TypeId) :
    ∃ v, (binOp op t (.int k a) (.int j b)).run P w = .ok v w ∧ ∀ m, VRel m y v := by
  unfold shiftA at he
  split at he
  · cases he
  · rename_i hb
    cases op <;> simp only at he <;> first
      | (cases he; done)
      | (simp only [Option.some.injEq] at he; subst he
         exact ⟨_, by simp [binOp, Op.shift, hb]; rfl, fun m => by simp only [VRel]⟩)

end Go.Proofs.Ytpfdfilkhaoibaa.Ev

/-
  What each operation does: texts, indexes, slices, literals, lengths.
-/
namespace Go.Proofs.Ytpfdfilkhaoibaa.Ev
open Go
set_option linter.unusedVariables false
set_option linter.unusedSimpArgs false

theorem strBin_run {P : Program} {w : World} (op : BinOp) (a b : ByteArray) {y : AV} (he : strBin op a.data.toList b.data.toList = some y) (t : TypeId) :
    ∃ v, (binOp op t (.string a) (.string b)).run P w = .ok v w ∧ ∀ m, VRel m y v := by
  have ea := ByteArray.toList_eq a
  have eb := ByteArray.toList_eq b
  cases op <;> simp only [strBin] at he <;> first
    | (cases he; done)
    | (split at he
       · rename_i hl
         simp only [Option.some.injEq] at he; subst he
         refine ⟨.string (a ++ b), ?_, fun m => ?_⟩
         · have h1 : ¬ (9223372036854775807 : Int) < (a.size : Int) + (b.size : Int) := by
             have : a.data.toList.length = a.size := rfl
             have : b.data.toList.length = b.size := rfl
             omega
           simp [binOp, Op.stringOp, IntKind.max, IntKind.signed, IntKind.bits, h1]
         · simp only [VRel]
           exact ⟨_, rfl, by simp⟩
       · cases he)
    | (simp only [Option.some.injEq] at he; subst he
       refine ⟨_, ?_, fun m => by simp only [VRel]; rfl⟩
       simp only [binOp, Op.stringOp, Sem.run_pure, ea, eb])

theorem eqFs_run {P : Program} {m : M} {w : World} {eq : TypeId → AV → AV → Option Bool} {d' : Nat} (hq : ∀ t x y b, eq t x y = some b → ∀ u v, VRel m x u → VRel m y v → (Op.equalIn d' t u v).run P w = .ok b w) {xs ys : List AV} {cx cy : Array Value} (hx : VRelL m xs cx.toList) (hy : VRelL m ys cy.toList) :
    ∀ (fs : List Field) (b : Bool), eqFs P eq xs ys fs = some b → (Op.eqFields d' cx cy fs).run P w = .ok b w
  | [], b, he => by
    simp only [eqFs, Option.some.injEq] at he
    subst he
    simp [Op.eqFields]
  | f :: fs, b, he => by
    simp only [eqFs] at he
    simp only [Op.eqFields]
    split at he
    · rename_i hn
      rw [if_pos hn]
      split at he
      · rename_i a c ha hc
        obtain ⟨va, ka, ra⟩ := partA_ok ha hx w
        obtain ⟨vc, kc, rc⟩ := partA_ok hc hy w
        cases hr : eq f.type a c with
        | none => rw [hr] at he; cases he
        | some r =>
          have hr' := hq f.type a c r hr va vc ra rc
          rw [hr] at he
          cases r with
          | true =>
            have ih := eqFs_run hq hx hy fs b he
            simp [ka, kc, hr', ih]
          | false =>
            simp only [Option.some.injEq] at he
            subst he
            simp [ka, kc, hr']
      · cases he
    · rename_i hn
      rw [if_neg hn]
      exact eqFs_run hq hx hy fs b he
theorem eqIn_run {P : Program} {m : M} {w : World} : ∀ (d : Nat) (t : TypeId) (x y : AV) (b : Bool), eqIn P d t x y = some b → ∀ (u v : Value), VRel m x u → VRel m y v → ∀ d', d ≤ d' → (Op.equalIn d' t u v).run P w = .ok b w := by
  intro d
  induction d with
  | zero => intro t x y b he; cases he
  | succ d ih =>
    intro t x y b he u v hx hy d' hd
    obtain ⟨d', rfl⟩ : ∃ k, d' = k + 1 := ⟨d' - 1, by omega⟩
    unfold eqIn at he
    split at he
    · rename_i a b' hu
      simp only [Option.some.injEq] at he
      subst he
      rw [hx.bool', hy.bool']
      simp [Op.equalIn, run_underlying hu]
    · rename_i k0 k a k' b' hu
      split at he
      · rename_i hk
        subst hk
        simp only [Option.some.injEq] at he
        subst he
        rw [hx.int', hy.int']
        simp [Op.equalIn, run_underlying hu]
      · cases he
    · rename_i a b' hu
      simp only [Option.some.injEq] at he
      subst he
      simp only [VRel] at hx hy
      obtain ⟨a, rfl, rfl⟩ := hx
      obtain ⟨b, rfl, rfl⟩ := hy
      rw [run_equalIn_string w d' t a b hu, ByteArray.toList_eq, ByteArray.toList_eq]
    · rename_i fields xs ys hu
      split at he
      · cases he
      · rename_i hst
        simp only [VRel] at hx hy
        obtain ⟨cx, rfl, hx⟩ := hx
        obtain ⟨cy, rfl, hy⟩ := hy
        have hf : P.fieldsOf t = fields := by simp [Program.fieldsOf, hu]
        rw [run_equalIn_struct w d' t cx cy (by rw [hf]; exact hu) (by simpa using hst), hf]
        exact eqFs_run (fun t x y b he u v hx hy => ih t x y b he u v hx hy d' (by omega)) hx hy fields.toList b he
    · cases he

theorem eqA_run {P : Program} {m : M} {h : Heap} {w : World} (hi : Inv m h w) {t : TypeId} {x y : AV} {b : Bool} (he : eqA P t h x y = some b) {u v : Value} (hx : VRel m x u) (hy : VRel m y v) :
    (Op.equal t u v).run P w = .ok b w := by
  obtain ⟨d, h1, h8⟩ : ∃ d, Op.maxDepth = d + 1 ∧ 8 ≤ d + 1 := ⟨9999, rfl, by decide⟩
  unfold Op.equal
  rw [h1]
  unfold eqA at he
  split at he
  · simp only [VRel] at hx hy
    subst hx hy
    split at he
    · rename_i hu
      simp only [Option.some.injEq] at he
      subst he
      simp [Op.equalIn, run_underlying hu]
    · cases he
  · simp only [VRel] at hx hy
    subst hx hy
    split at he
    · rename_i hu
      simp only [Option.some.injEq] at he
      subst he
      simp [Op.equalIn, run_underlying hu]
    · cases he
  · rename_i xs nn cap tok
    simp only [VRel] at hx hy
    subst hy
    split at he
    · rename_i hu
      split at he
      · rename_i hn
        simp only [Option.some.injEq] at he
        subst he
        rcases hx with ⟨rfl, rfl, _⟩ | ⟨a, cap', cvs, s, rfl, _⟩
        · simp at hn
        · simp [Op.equalIn, run_underlying hu]
      · cases he
    · cases he
  · simp only [VRel] at hx hy
    obtain ⟨c, cap', _, rfl, _⟩ := hx
    subst hy
    split at he
    · rename_i hu
      simp only [Option.some.injEq] at he
      subst he
      simp [Op.equalIn, run_underlying hu]
    · cases he
  · simp only [VRel] at hx hy
    subst hx hy
    split at he
    · rename_i hu
      simp only [Option.some.injEq] at he
      subst he
      simp [Op.equalIn, run_underlying hu]
    · cases he
  · simp only [VRel] at hx hy
    obtain ⟨c, _, rfl⟩ := hx
    subst hy
    split at he
    · rename_i hu
      simp only [Option.some.injEq] at he
      subst he
      simp [Op.equalIn, run_underlying hu]
    · cases he
  · simp only [VRel] at hx hy
    obtain ⟨c, _, rfl, _⟩ := hx
    subst hy
    split at he
    · rename_i hu
      simp only [Option.some.injEq] at he
      subst he
      simp [Op.equalIn, run_underlying hu]
    · cases he
  · simp only [VRel] at hx hy
    obtain ⟨c, _, rfl⟩ := hy
    subst hx
    split at he
    · rename_i hu
      simp only [Option.some.injEq] at he
      subst he
      simp [Op.equalIn, run_underlying hu]
    · cases he
  · rename_i b1 o1 b2 o2
    simp only [VRel] at hx hy
    obtain ⟨c, hc, rfl⟩ := hx
    obtain ⟨c', hc', rfl⟩ := hy
    split at he
    · rename_i e hu
      split at he
      · rename_i k hs
        obtain ⟨j, hj, hjs⟩ := tySize_spec hs
        split at he
        · rename_i cs cs' hb hb'
          simp only [Option.some.injEq] at he
          obtain ⟨d1, cvs, t1, k1, k2, _⟩ := hi.var b1 cs hb
          obtain ⟨d2, cvs', t2, k1', k2', _⟩ := hi.var b2 cs' hb'
          rw [hc] at k1
          cases k1
          rw [hc'] at k1'
          cases k1'
          have hbb : b1 = b2 ↔ c = c' := ⟨fun e => by subst e; rw [hc] at hc'; exact Option.some.inj hc', fun e => hi.inj b1 b2 cs cs' c hb hb' hc (e ▸ hc')⟩
          have hz : j.size ≠ 0 := by omega
          by_cases hab : (⟨c, o1, none⟩ : Addr) = ⟨c', o2, none⟩
          · have e1 : c = c' := congrArg Addr.block hab
            have e2 : o1 = o2 := congrArg Addr.off hab
            subst e1 e2
            have : b = true := by rw [← he]; simp [hbb.2 rfl]
            subst this
            simp [Op.equalIn, run_underlying hu, sizeOf, typeInfo, hj, hz, run_sameAddr_same]
          · have : b = false := by
              rw [← he]
              cases hq : (b1 == b2 && o1 == o2) with
              | false => rfl
              | true =>
                simp only [Bool.and_eq_true, beq_iff_eq] at hq
                have e1 := hbb.1 hq.1
                have e2 := hq.2
                subst e1 e2
                exact (hab rfl).elim
            subst this
            have hs2 := run_sameAddr_other (P := P) w hab k2 k2'
            simp [Op.equalIn, run_underlying hu, sizeOf, typeInfo, hj, hz, hs2]
        · cases he
      · cases he
    · cases he
  · simp only [VRel] at hx hy
    obtain ⟨c, rfl, _⟩ := hx
    subst hy
    split at he
    · rename_i hu
      simp only [Option.some.injEq] at he
      subst he
      simp [Op.equalIn, run_underlying hu]
    · cases he
  · simp only [VRel] at hx hy
    subst hx hy
    split at he
    · rename_i hu
      simp only [Option.some.injEq] at he
      subst he
      simp [Op.equalIn, run_underlying hu]
    · cases he
  · split at he
    · cases he
    · exact eqIn_run 8 t _ _ b he u v hx hy (d + 1) h8
  · cases he

/-- Values on which '==' has no guard. -/
theorem eqGuard_run {P : Program} {m : M} {h : Heap} {w : World} (op : BinOp) (t : TypeId) (x y : Operand) {a b : AV} {c : AV} (he : binA P op t h a b = some c) (hn : nilOk x y a b = true) {u v : Value} (hx : VRel m a u) (hy : VRel m b v) :
    (eqGuard op t x y u v).run P w = .ok () w := by
  unfold eqGuard
  by_cases hop : op = .eql ∨ op = .neq
  · have key : ∀ r, eqA P t h a b = some r → (match u, v with
        | .nilIface, .nilIface =>
          if isC x || isC y then (pure () : Sem Unit) else do
          if ← Op.eqGuardIn Op.maxDepth t u v then unsupported (.noEntry "binop/eql: two nil values of an interface type with methods, neither of them the literal nil")
        | .agg _, .agg _ => do
          if !(← program).eqGuardType (← program).depth t then return
          if ← Op.eqGuardIn Op.maxDepth t u v then unsupported (.noEntry "binop/eql: two nil values of an interface type with methods, in a part of a struct or an array")
        | _, _ => pure ()).run P w = .ok () w := by
      intro r hr
      unfold eqA at hr
      split at hr
      case h_12 =>
        split at hr
        · cases hr
        · rename_i hg
          simp only [VRel] at hx hy
          obtain ⟨_, rfl, _⟩ := hx
          obtain ⟨_, rfl, _⟩ := hy
          simp [hg]
      case h_13 => cases hr
      case h_11 =>
        simp only [VRel] at hx hy
        subst hx hy
        simp only [nilOk] at hn
        simp [hn]
      all_goals
        simp only [VRel] at hx hy
        first
          | (subst hx hy; rfl)
          | (subst hy; rcases hx with ⟨_, _, _, _, rfl⟩ | ⟨_, _, _, _, rfl, _⟩ <;> rfl)
          | (subst hy; obtain ⟨_, _, _, rfl, _⟩ := hx; rfl)
          | (subst hy; obtain ⟨_, _, rfl⟩ := hx; rfl)
          | (subst hx; obtain ⟨_, _, rfl⟩ := hy; rfl)
          | (obtain ⟨_, _, rfl⟩ := hx; obtain ⟨_, _, rfl⟩ := hy; rfl)
          | (subst hy; obtain ⟨_, _, rfl, _⟩ := hx; rfl)
          | (subst hy; obtain ⟨_, rfl, _⟩ := hx; rfl)
    have int : ∀ k i k' j, a = .int k i → b = .int k' j → u = .int k i ∧ v = .int k' j := fun k i k' j e1 e2 => by subst e1 e2; exact ⟨hx.int', hy.int'⟩
    unfold binA at he
    split at he
    · rcases hop with h | h <;> cases h
    · rcases hop with h | h <;> cases h
    · rw [hx.int', hy.int']
      rcases hop with h | h <;> subst h <;> simp
    · simp only [VRel] at hx hy
      obtain ⟨_, rfl, _⟩ := hx
      obtain ⟨_, rfl, _⟩ := hy
      rcases hop with h | h <;> subst h <;> simp
    · cases hq : eqA P t h a b with
      | none => simp [hq] at he
      | some r => exact key r hq
    · cases hq : eqA P t h a b with
      | none => simp [hq] at he
      | some r => exact key r hq
    · cases he
  · cases op <;> first | (exact (hop (.inl rfl)).elim) | (exact (hop (.inr rfl)).elim) | simp

theorem eqA_bin {P : Program} {m : M} {h : Heap} {t : TypeId} {x y : AV} {b : Bool} (he : eqA P t h x y = some b) {u v : Value} (hx : VRel m x u) (hy : VRel m y v) :
    binOp .eql t u v = (do pure (.bool (← Op.equal t u v))) ∧ binOp .neq t u v = (do pure (.bool (!(← Op.equal t u v)))) := by
  unfold eqA at he
  split at he
  all_goals (try simp only [VRel] at hx hy)
  · subst hx hy; exact ⟨rfl, rfl⟩
  · subst hx hy; exact ⟨rfl, rfl⟩
  · subst hy
    rcases hx with ⟨_, _, _, _, rfl⟩ | ⟨a, cap', cvs, s, rfl, _⟩ <;> exact ⟨rfl, rfl⟩
  · obtain ⟨c, cap', _, rfl, _⟩ := hx; subst hy; exact ⟨rfl, rfl⟩
  · subst hx hy; exact ⟨rfl, rfl⟩
  · obtain ⟨c, _, rfl⟩ := hx; subst hy; exact ⟨rfl, rfl⟩
  · obtain ⟨a, cv, rfl, _⟩ := hx; subst hy; exact ⟨rfl, rfl⟩
  · obtain ⟨c, _, rfl⟩ := hy; subst hx; exact ⟨rfl, rfl⟩
  · obtain ⟨c, _, rfl⟩ := hx; obtain ⟨c', _, rfl⟩ := hy; exact ⟨rfl, rfl⟩
  · obtain ⟨c, rfl, _⟩ := hx; subst hy; exact ⟨rfl, rfl⟩
  · subst hx hy; exact ⟨rfl, rfl⟩
  · obtain ⟨_, rfl, _⟩ := hx; obtain ⟨_, rfl, _⟩ := hy; exact ⟨rfl, rfl⟩
  · cases he

theorem binA_ok {P : Program} {m : M} {h : Heap} {w : World} (hi : Inv m h w) {op : BinOp} {t : TypeId} {x y : AV} {z : AV} (he : binA P op t h x y = some z) {u v : Value} (hx : VRel m x u) (hy : VRel m y v) :
    ∃ r, (binOp op t u v).run P w = .ok r w ∧ VRel m z r := by
  unfold binA at he
  split at he
  · rw [hx.int', hy.int']
    obtain ⟨r, h1, h2⟩ := shift_run (P := P) (w := w) .shl _ _ _ _ he t
    exact ⟨r, h1, h2 m⟩
  · rw [hx.int', hy.int']
    obtain ⟨r, h1, h2⟩ := shift_run (P := P) (w := w) .shr _ _ _ _ he t
    exact ⟨r, h1, h2 m⟩
  · rename_i k a k' b h1 h2
    split at he
    · rename_i hk
      subst hk
      rw [hx.int', hy.int']
      obtain ⟨r, k1, k2⟩ := intArith_run (P := P) (w := w) _ _ _ _ he t (fun e => by subst e; simp_all) (fun e => by subst e; simp_all)
      exact ⟨r, k1, k2 m⟩
    · cases he
  · simp only [VRel] at hx hy
    obtain ⟨a, rfl, rfl⟩ := hx
    obtain ⟨b, rfl, rfl⟩ := hy
    obtain ⟨r, k1, k2⟩ := strBin_run (P := P) (w := w) _ _ _ he t
    exact ⟨r, k1, k2 m⟩
  · cases hq : eqA P t h x y with
    | none => simp [hq] at he
    | some b =>
      simp only [hq, Option.map_some, Option.some.injEq] at he
      subst he
      have h1 := eqA_run (P := P) hi hq hx hy
      refine ⟨.bool b, ?_, by simp only [VRel]⟩
      rw [(eqA_bin hq hx hy).1]
      simp [h1]
  · cases hq : eqA P t h x y with
    | none => simp [hq] at he
    | some b =>
      simp only [hq, Option.map_some, Option.some.injEq] at he
      subst he
      have h1 := eqA_run (P := P) hi hq hx hy
      refine ⟨.bool (!b), ?_, by simp only [VRel]⟩
      rw [(eqA_bin hq hx hy).2]
      simp [h1]
  · cases he

end Go.Proofs.Ytpfdfilkhaoibaa.Ev

/-
  What each operation does: addresses, fields, indexes, slice expressions, lengths, literals.
-/
namespace Go.Proofs.Ytpfdfilkhaoibaa.Ev
open Go
set_option linter.unusedVariables false
set_option linter.unusedSimpArgs false

theorem unA_ok {P : Program} {m : M} {w : World} {op : UnOp} {x z : AV} (he : unA op x = some z) {u : Value} (hx : VRel m x u) : ∃ r, (Op.unary op u).run P w = .ok r w ∧ VRel m z r := by
  unfold unA at he
  split at he
  · rename_i k n
    rw [hx.int']
    cases op <;> simp only at he <;> first | (cases he; done) | skip
    simp only [Option.some.injEq] at he
    subst he
    exact ⟨.int k (k.wrap (0 - n)), by simp only [Op.unary, Op.intArith, Sem.run_pure], by simp only [VRel]⟩
  · rw [hx.bool']
    cases op <;> simp only at he <;> first | (cases he; done) | skip
    simp only [Option.some.injEq] at he
    subst he
    exact ⟨_, by simp [Op.unary]; rfl, by simp only [VRel]⟩
  · cases he

theorem Addr.add_zero' (a : Addr) : a.add 0 = a := by simp [Addr.add]

theorem indexAddrA_ok {P : Program} {m : M} {w : World} {t : TypeId} {x i z : AV} (he : indexAddrA P t x i = some z) {u v : Value} (hx : VRel m x u) (hi : VRel m i v) :
    ∃ r, (Instr.indexAt t u v).run P w = .ok r w ∧ VRel m z r := by
  unfold indexAddrA at he
  split at he
  · rename_i k n e xs nn cap tok hu
    rw [hi.int']
    split at he
    · rename_i hb
      split at he
      · rename_i y s hy hs
        split at he
        · rename_i hl
          simp only [Option.some.injEq] at he
          subst he
          simp only [VRel] at hx
          rcases hx with ⟨rfl, _⟩ | ⟨a, cap', cvs, s', rfl, h2, h3, h4, h5, h6, h7, h8⟩
          · simp at hy
          · obtain ⟨cv, hcv, hr⟩ := h4.get hy
            have hsz : s' = s := by
              have := h5 cv (List.mem_of_getElem? hcv)
              rw [VCells_length hr] at this
              omega
            subst hsz
            refine ⟨.pointer (some ⟨a.block, a.off + n.toNat * s', none⟩), ?_, ?_⟩
            · have hb' : 0 ≤ n ∧ n < ((xs.length : Nat) : Int) := hb
              simp [Instr.indexAt, run_underlying hu, asIntOf, run_sizeOf' hs, hb', Addr.add_none a (h2 (by omega))]
            · simp only [VRel]
              exact ⟨_, cv, rfl, rfl, hr, h6.elem h5 hcv⟩
        · cases he
      · cases he
    · cases he
  · rename_i k n e b o len cap nn ex hu
    rw [hi.int']
    simp only [VRel] at hx
    obtain ⟨c, cap', hm, rfl, _⟩ := hx
    split at he
    · rename_i hb
      cases hs : tySize P e with
      | none => simp [hs] at he
      | some s =>
        simp only [hs, Option.map_some, Option.some.injEq] at he
        subst he
        refine ⟨.pointer (some ⟨c, o + n.toNat * s, none⟩), ?_, by simp only [VRel]; exact ⟨c, hm, rfl⟩⟩
        simp [Instr.indexAt, run_underlying hu, asIntOf, run_sizeOf' hs, hb, Addr.add_mid]
    · cases he
  · rename_i k n len e b o hu
    rw [hi.int']
    simp only [VRel] at hx
    obtain ⟨c, hm, rfl⟩ := hx
    split at he
    · rename_i hb
      cases hs : tySize P e with
      | none => simp [hs] at he
      | some s =>
        simp only [hs, Option.map_some, Option.some.injEq] at he
        subst he
        refine ⟨.pointer (some ⟨c, o + n.toNat * s, none⟩), ?_, by simp only [VRel]; exact ⟨c, hm, rfl⟩⟩
        simp [Instr.indexAt, Instr.sureAddr, run_underlying hu, asIntOf, run_sizeOf' hs, hb, Addr.add_mid]
    · cases he
  · rename_i k n len e cs hu
    rw [hi.int']
    simp only [VRel] at hx
    obtain ⟨a, cv, rfl, ha, hr, hc⟩ := hx
    obtain ⟨cvs, rfl, hr⟩ := hr
    split at he
    · rename_i hb
      split at he
      · rename_i s hs
        cases hp : partA P e cs (n.toNat * s) with
        | none => simp [hp] at he
        | some y =>
          simp only [hp, Option.map_some, Option.some.injEq] at he
          subst he
          obtain ⟨cv, k', h1, h2⟩ := partA_mem hp hr
          refine ⟨.pointer (some ⟨a.block, a.off + n.toNat * s, none⟩), ?_, ?_⟩
          · simp [Instr.indexAt, Instr.sureAddr, run_underlying hu, asIntOf, run_sizeOf' hs, hb, Addr.add_none a ha]
          · simp only [VRel]
            refine ⟨_, cv, rfl, rfl, h1, ?_⟩
            rw [h2]
            exact (hc.drop _).take _
      · cases he
    · cases he
  · cases he

theorem fieldAddrA_ok {P : Program} {m : M} {w : World} {s : TypeId} {x z : AV} {f : Nat} (he : fieldAddrA P s x f = some z) {u : Value} (hx : VRel m x u) :
    ∃ r, (Instr.fieldAt s u f).run P w = .ok r w ∧ VRel m z r := by
  unfold fieldAddrA at he
  split at he
  · rename_i fields hu
    split at he
    · rename_i fd hf
      split at he
      · rename_i n hs
        have hs0 := run_sizeOf' (P := P) hs w
        split at he
        · rename_i b o
          simp only [Option.some.injEq] at he
          subst he
          simp only [VRel] at hx
          obtain ⟨c, hm, rfl⟩ := hx
          refine ⟨.pointer (some ⟨c, o + fd.offset, none⟩), ?_, by simp only [VRel]; exact ⟨c, hm, rfl⟩⟩
          simp [Instr.fieldAt, Instr.sureAddr, run_underlying hu, hf, fieldPlace, hs0, Addr.add_mid]
        · rename_i cs
          simp only [VRel] at hx
          obtain ⟨a, cv, rfl, ha, hr, hc⟩ := hx
          obtain ⟨cvs, rfl, hr⟩ := hr
          cases hp : partA P fd.type cs fd.offset with
          | none => simp [hp] at he
          | some y =>
            simp only [hp, Option.map_some, Option.some.injEq] at he
            subst he
            obtain ⟨cv, k', h1, h2⟩ := partA_mem hp hr
            refine ⟨.pointer (some ⟨a.block, a.off + fd.offset, none⟩), ?_, ?_⟩
            · simp [Instr.fieldAt, Instr.sureAddr, run_underlying hu, hf, fieldPlace, hs0, Addr.add_none a ha]
            · simp only [VRel]
              refine ⟨_, cv, rfl, rfl, h1, ?_⟩
              rw [h2]
              exact (hc.drop _).take _
        · cases he
      · cases he
    · cases he
  · cases he

theorem fieldA_ok {P : Program} {m : M} {w : World} {s : TypeId} {x z : AV} {f : Nat} (he : fieldA P s x f = some z) {u : Value} (hx : VRel m x u) :
    ∃ r, (Instr.field s u f).run P w = .ok r w ∧ VRel m z r := by
  unfold fieldA at he
  split at he
  · rename_i fields cs hu
    split at he
    · rename_i fd hf
      simp only [VRel] at hx
      obtain ⟨cvs, rfl, hr⟩ := hx
      obtain ⟨cv, h1, h2⟩ := partA_ok he hr w
      exact ⟨cv, by simp [Instr.field, run_underlying hu, hf, asAgg, h1], h2⟩
    · cases he
  · cases he

theorem indexA_ok {P : Program} {m : M} {w : World} {t : TypeId} {x i z : AV} (he : indexA P t x i = some z) {u v : Value} (hx : VRel m x u) (hi : VRel m i v) :
    ∃ r, (Instr.index t u v).run P w = .ok r w ∧ VRel m z r := by
  unfold indexA at he
  split at he
  · rename_i s k n hu
    rw [hi.int']
    simp only [VRel] at hx
    obtain ⟨b, rfl, rfl⟩ := hx
    split at he
    · rename_i hn
      cases hb : b.data.toList[n.toNat]? with
      | none => simp [hb] at he
      | some c =>
        simp only [hb, Option.map_some, Option.some.injEq] at he
        subst he
        have hb' : b[n.toNat]? = some c := by
          rw [List.getElem?_eq_some_iff] at hb
          obtain ⟨hl, hb⟩ := hb
          have hl' : n.toNat < b.size := hl
          rw [getElem?_pos b n.toNat hl', ← hb]
          rfl
        exact ⟨.int .u8 (c.toNat : Int), by simp [Instr.index, run_underlying hu, asIntOf, hn, hb'], by simp only [VRel]⟩
    · cases he
  · rename_i len e cs k n hu
    rw [hi.int']
    simp only [VRel] at hx
    obtain ⟨cvs, rfl, hr⟩ := hx
    split at he
    · rename_i hb
      split at he
      · rename_i s hs
        obtain ⟨cv, h1, h2⟩ := partA_ok he hr w
        exact ⟨cv, by simp [Instr.index, run_underlying hu, asIntOf, hb, run_sizeOf' hs, h1], h2⟩
      · cases he
    · cases he
  · cases he

theorem intOf?_spec {m : M} {x : AV} {n : Int} (h : intOf? x = some n) {v : Value} (hx : VRel m x v) : ∃ k, v = .int k n := by
  unfold intOf? at h
  split at h
  · simp only [Option.some.injEq] at h; subst h; exact ⟨_, hx.int'⟩
  · cases h

theorem bound_run {P : Program} {w : World} {k : IntKind} {n : Int} {y : Nat} (h0 : 0 ≤ n) (h1 : n ≤ y) (code : BoundsCode) : (Instr.sliceBound (.int k n) y code).run P w = .ok n.toNat w := by
  simp [Instr.sliceBound, asIntOf, h0, h1]

theorem bounds_run {P : Program} {m : M} {w : World} {len capA capC l h mm : Nat} {lo hi mx : Option AV} (he : boundsA len capA lo hi mx = some (l, h, mm)) (hcap : capA ≤ capC) (isS : Bool)
    {lo' hi' mx' : Option Value} (hl : ORel m lo lo') (hh : ORel m hi hi') (hm : ORel m mx mx') :
    (Instr.sliceBounds isS len capC lo' hi' mx').run P w = .ok (l, h, if mx.isSome then mm else capC) w ∧ l ≤ h ∧ h ≤ mm ∧ mm ≤ capA ∧ (mx = none → mm = capA) := by
  unfold boundsA at he
  simp only at he
  split at he
  · rename_i mn hn ln e1 e2 e3
    split at he
    · rename_i hc
      obtain ⟨c1, c2, c3, c4, c5, c6, c7⟩ := hc
      simp only [Option.some.injEq, Prod.mk.injEq] at he
      obtain ⟨rfl, rfl, rfl⟩ := he
      refine ⟨?_, by omega, by omega, by omega, fun h0 => by subst h0; simp at e1; omega⟩
      cases mx with
      | none =>
        simp only [Option.some.injEq] at e1
        subst e1
        have hm' : mx' = none := by cases mx' <;> simp [ORel] at hm ⊢
        subst hm'
        cases hi with
        | none =>
          simp only [Option.some.injEq] at e2
          subst e2
          have hh' : hi' = none := by cases hi' <;> simp [ORel] at hh ⊢
          subst hh'
          cases lo with
          | none =>
            simp only [Option.some.injEq] at e3
            subst e3
            have hl' : lo' = none := by cases lo' <;> simp [ORel] at hl ⊢
            subst hl'
            simp [Instr.sliceBounds]
          | some x =>
            cases lo' with
            | none => simp [ORel] at hl
            | some v =>
              simp only [ORel] at hl
              obtain ⟨k, rfl⟩ := intOf?_spec e3 hl
              have := bound_run (P := P) (w := w) (k := k) (n := ln) (y := len) c6 (by omega) .sliceB
              simp [Instr.sliceBounds, this]
        | some x =>
          cases hi' with
          | none => simp [ORel] at hh
          | some v =>
            simp only [ORel] at hh
            obtain ⟨k, rfl⟩ := intOf?_spec e2 hh
            have hb := fun code => bound_run (P := P) (w := w) (k := k) (n := hn) (y := capC) c4 (by omega) code
            cases lo with
            | none =>
              simp only [Option.some.injEq] at e3
              subst e3
              have hl' : lo' = none := by cases lo' <;> simp [ORel] at hl ⊢
              subst hl'
              simp [Instr.sliceBounds, hb]
            | some y =>
              cases lo' with
              | none => simp [ORel] at hl
              | some v =>
                simp only [ORel] at hl
                obtain ⟨j, rfl⟩ := intOf?_spec e3 hl
                have hb2 := fun code => bound_run (P := P) (w := w) (k := j) (n := ln) (y := hn.toNat) c6 (by omega) code
                simp [Instr.sliceBounds, hb, hb2]
      | some z =>
        cases mx' with
        | none => simp [ORel] at hm
        | some v =>
          simp only [ORel] at hm
          obtain ⟨k0, rfl⟩ := intOf?_spec e1 hm
          have hb0 := fun code => bound_run (P := P) (w := w) (k := k0) (n := mn) (y := capC) c2 (by omega) code
          cases hi with
          | none => simp at c1
          | some x =>
            cases hi' with
            | none => simp [ORel] at hh
            | some v =>
              simp only [ORel] at hh
              obtain ⟨k, rfl⟩ := intOf?_spec e2 hh
              have hb := fun code => bound_run (P := P) (w := w) (k := k) (n := hn) (y := mn.toNat) c4 (by omega) code
              cases lo with
              | none =>
                simp only [Option.some.injEq] at e3
                subst e3
                have hl' : lo' = none := by cases lo' <;> simp [ORel] at hl ⊢
                subst hl'
                simp [Instr.sliceBounds, hb0, hb]
              | some y =>
                cases lo' with
                | none => simp [ORel] at hl
                | some v =>
                  simp only [ORel] at hl
                  obtain ⟨j, rfl⟩ := intOf?_spec e3 hl
                  have hb2 := fun code => bound_run (P := P) (w := w) (k := j) (n := ln) (y := hn.toNat) c6 (by omega) code
                  simp [Instr.sliceBounds, hb0, hb, hb2]
    · cases he
  · cases he

theorem VRelL.forall_mem {m : M} : ∀ {xs : List AV} {vs : List Value}, VRelL m xs vs → ∀ v ∈ vs, ∃ x ∈ xs, VRel m x v
  | [], _, h, v, hv => by simp only [VRelL] at h; subst h; cases hv
  | x :: xs, _, h, v, hv => by
    simp only [VRelL] at h
    obtain ⟨u, us, rfl, h1, h2⟩ := h
    rcases List.mem_cons.1 hv with rfl | hv
    · exact ⟨x, by simp, h1⟩
    · obtain ⟨y, hy, hr⟩ := VRelL.forall_mem h2 v hv
      exact ⟨y, by simp [hy], hr⟩

theorem sliceA_ok {P : Program} {m : M} {w : World} {t : TypeId} {x z : AV} {lo hi mx : Option AV} (he : sliceA P t x lo hi mx = some z) {u : Value} (hx : VRel m x u)
    {lo' hi' mx' : Option Value} (hl : ORel m lo lo') (hh : ORel m hi hi') (hm : ORel m mx mx') :
    ∃ r, (Instr.sliceAt t u lo' hi' mx').run P w = .ok r w ∧ VRel m z r := by
  unfold sliceA at he
  split at he
  · rename_i s hu
    simp only [VRel] at hx
    obtain ⟨b, rfl, rfl⟩ := hx
    split at he
    · cases he
    · rename_i hmx
      have hmx0 : mx = none := by cases mx <;> simp at hmx ⊢
      subst hmx0
      have hm' : mx' = none := by cases mx' <;> simp [ORel] at hm ⊢
      subst hm'
      cases hb : boundsA b.data.toList.length b.data.toList.length lo hi none with
      | none => rw [hb] at he; simp only [Option.map_none] at he; cases he
      | some q =>
        obtain ⟨l, h, mm⟩ := q
        rw [hb] at he
        simp only [Option.map_some, Option.some.injEq] at he
        subst he
        obtain ⟨h1, h2, h3, h4, h5⟩ := bounds_run (P := P) (w := w) (capC := b.data.toList.length) hb (Nat.le_refl _) false hl hh hm
        have e1 : b.data.toList.length = b.size := rfl
        rw [e1] at h1
        refine ⟨.string (b.extract l h), ?_, ?_⟩
        · simp [Instr.sliceAt, Instr.slice, run_underlying hu, h1]
        · simp only [VRel]
          refine ⟨_, rfl, ?_⟩
          rw [Lib.extract_data, List.drop_take]
  · rename_i e xs nn cap tok hu
    split at he
    · rename_i n l h mm hs hb
      split at he
      · rename_i hok
        simp only [Option.some.injEq] at he
        subst he
        simp only [VRel] at hx
        rcases hx with ⟨rfl, rfl, hc0, _, rfl⟩ | ⟨a, cap', cvs, s, rfl, g2, g3, g4, g5, g6, g7, g8⟩
        · obtain ⟨h1, h2, h3, h4, h5⟩ := bounds_run (P := P) (w := w) (capC := 0) hb (by simp) true hl hh hm
          simp at h4
          subst h4
          have h0 : h = 0 := by omega
          subst h0
          have l0 : l = 0 := by omega
          subst l0
          refine ⟨.slice none 0 0, ?_, ?_⟩
          · simp at h1
            simp [Instr.sliceAt, Instr.slice, run_underlying hu, h1, run_sizeOf' hs]
          · simp only [VRel]
            refine .inl ⟨by simp, by simp, ?_, by simp, by simp⟩
            intro c hc
            split at hc
            · simp at hc; omega
            · cases cap with
              | none => simp at hc
              | some k => simp at hc; have := hc0 k rfl; omega
        · obtain ⟨h1, h2, h3, h4, h5⟩ := bounds_run (P := P) (w := w) (capC := cap') hb g3 true hl hh hm
          refine ⟨.slice (some (if (if mx.isSome then mm else cap') = l then a else ⟨a.block, a.off + l * n, none⟩)) (h - l) ((if mx.isSome then mm else cap') - l), ?_, ?_⟩
          · simp only [Instr.sliceAt, Instr.slice, Sem.run_bind, run_underlying hu, Result.andThen_ok, h1, run_sizeOf' hs]
            simp only [Sem.run_pure]
            by_cases hml : (if mx.isSome then mm else cap') = l
            · simp [hml]
            · have hc0 : cap' ≠ 0 := by (intro h0; apply hml; split <;> omega)
              simp [hml, Addr.add_none a (g2 hc0)]
          · simp only [VRel]
            have hlen : ((xs.take h).drop l).length = h - l := by simp; omega
            refine .inr ⟨_, _, (cvs.take h).drop l, s, by rw [hlen], ?_, ?_, (g4.take h).drop l, ?_, ?_, ?_, by simp⟩
            · by_cases hml : (if mx.isSome then mm else cap') = l
              · intro hne; rw [if_pos hml]; exact (hne (by omega)).elim
              · intro _; rw [if_neg hml]
            · rw [hlen]; split <;> omega
            · intro cv hcv
              exact g5 cv (List.mem_of_mem_take (List.mem_of_mem_drop hcv))
            · by_cases hlh : h - l = 0
              · have : (cvs.take h).drop l = [] := by apply List.eq_nil_of_length_eq_zero; simp; omega
                rw [this]
                intro i v hv
                simp at hv
              · have hne : ¬ (if mx.isSome then mm else cap') = l := by split <;> omega
                rw [if_neg hne]
                rcases headOk_spec g4 g5 hok with hx0 | hsn
                · subst hx0; simp at h4; omega
                · subst hsn
                  rw [flatMap_drop _ _ (fun v hv => g5 v (List.mem_of_mem_take hv)), flatMap_take _ _ g5]
                  exact (g6.take _).drop _
            · intro c hc
              by_cases hms : mx.isSome
              · simp only [hms, if_true, Option.some.injEq] at hc ⊢
                omega
              · simp only [hms, if_false, Bool.false_eq_true] at hc ⊢
                cases cap with
                | none => simp at hc
                | some k => simp at hc; have := g7 k rfl; omega
      · cases he
    · cases he
  · rename_i e hu
    split at he
    · rename_i n q hs hb
      simp only [Option.some.injEq] at he
      subst he
      obtain ⟨l, h, mm⟩ := q
      simp only [VRel] at hx
      subst hx
      obtain ⟨h1, h2, h3, h4, h5⟩ := bounds_run (P := P) (w := w) (capC := 0) hb (Nat.le_refl _) true hl hh hm
      have m0 : mm = 0 := by omega
      subst m0
      have h0 : h = 0 := by omega
      subst h0
      have l0 : l = 0 := by omega
      subst l0
      refine ⟨.slice none 0 0, ?_, by simp only [VRel]⟩
      simp at h1
      simp [Instr.sliceAt, Instr.slice, run_underlying hu, h1, run_sizeOf' hs]
    · cases he
  · rename_i e b o len cap n ex hu
    split at he
    · rename_i n' l h mm hs hb
      split at he
      case isFalse => cases he
      rename_i hnn
      simp only [VRel] at hx
      obtain ⟨c, cap', hmu, rfl, hlc, hcc, hex, hrow⟩ := hx
      obtain ⟨h1, h2, h3, h4, h5⟩ := bounds_run (P := P) (w := w) (capC := cap') hb hcc true hl hh hm
      split at he
      · rename_i hc
        obtain ⟨hml, hq⟩ := hc
        simp only [Bool.or_eq_false_iff] at hq
        have hmx : mx = none := by cases mx <;> simp at hq ⊢
        subst hmx
        simp only [Option.some.injEq] at he
        subst he
        have hhl : h = l := by omega
        refine ⟨.slice (some ⟨c, if cap' = l then o else o + l * n', none⟩) (h - l) (cap' - l), ?_, ?_⟩
        · simp only [Instr.sliceAt, Instr.slice, Sem.run_bind, run_underlying hu, Result.andThen_ok, h1, run_sizeOf' hs]
          simp only [Sem.run_pure]
          by_cases hml' : cap' = l
          · simp [hml']
          · simp [hml', Addr.add_mid]
        · simp only [VRel]
          refine .inr ⟨⟨c, if cap' = l then o else o + l * n', none⟩, cap' - l, [], 0, by simp [hhl], fun _ => rfl, by simp, .nil, by simp, by intro i v hv; simp at hv, by simp, by simp⟩
      · rename_i hc
        simp only [Option.some.injEq] at he
        subst he
        have hcase : ∃ r, (if mx.isSome then mm else cap') = r ∧ (r = l ↔ mm = l) ∧ mm - l ≤ r - l ∧ ((ex || mx.isSome) = true → mm - l = r - l) ∧ r ≤ cap' ∧ h ≤ r := by
          cases hmx : mx.isSome with
          | true => exact ⟨mm, by simp, Iff.rfl, Nat.le_refl _, fun _ => rfl, by omega, by omega⟩
          | false =>
            have hmx' : mx = none := by cases mx <;> simp at hmx ⊢
            have hmc := h5 hmx'
            refine ⟨cap', by simp, ?_, by omega, fun e => ?_, Nat.le_refl _, by omega⟩
            · constructor
              · intro e; omega
              · intro e
                cases hx : ex with
                | true => have := hex hx; omega
                | false => exact (hc ⟨e, by simp [hx, hmx]⟩).elim
            · simp only [hmx, Bool.or_false] at e
              have := hex e; omega
        obtain ⟨r, hr1, hr2, hr3, hr4, hr5, hr6⟩ := hcase
        rw [hr1] at h1
        refine ⟨.slice (some ⟨c, if mm = l then o else o + l * n', none⟩) (h - l) (r - l), ?_, ?_⟩
        · simp only [Instr.sliceAt, Instr.slice, Sem.run_bind, run_underlying hu, Result.andThen_ok, h1, run_sizeOf' hs]
          simp only [Sem.run_pure]
          by_cases hml : mm = l
          · simp [hml, hr2.2 hml]
          · have : ¬ r = l := fun e => hml (hr2.1 e)
            simp [hml, this, Addr.add_mid]
        · simp only [VRel]
          refine ⟨c, r - l, hmu, rfl, by omega, hr3, hr4, fun hn => ?_⟩
          obtain ⟨k, k1, k2⟩ := hrow hn
          refine ⟨k, k1, ?_⟩
          have hn' : n = n' := hnn.elim id (fun h0 => by omega)
          subst hn'
          have hmul : (r - l) * n + l * n ≤ cap' * n := by rw [← Nat.add_mul]; exact Nat.mul_le_mul_right _ (by omega)
          split <;> omega
    · cases he
  · rename_i len e b o hu
    split at he
    · rename_i n l h mm hs hb
      simp only [Option.some.injEq] at he
      subst he
      simp only [VRel] at hx
      obtain ⟨c, hmu, rfl⟩ := hx
      obtain ⟨h1, h2, h3, h4, h5⟩ := bounds_run (P := P) (w := w) (capC := len) hb (Nat.le_refl _) false hl hh hm
      have e0 : (if mx.isSome then mm else len) = mm := by
        split
        · rfl
        · rename_i h0; cases mx <;> simp at h0; exact (h5 rfl).symm
      rw [e0] at h1
      refine ⟨.slice (some ⟨c, if mm = l then o else o + l * n, none⟩) (h - l) (mm - l), ?_, by simp only [VRel]; exact ⟨c, mm - l, hmu, rfl, by omega, Nat.le_refl _, fun _ => rfl, fun h0 => by omega⟩⟩
      simp only [Instr.sliceAt, Instr.sureAddr, Sem.run_bind, run_underlying hu, Result.andThen_ok, Sem.run_pure, h1, run_sizeOf' hs]
      by_cases hml : mm = l
      · simp [hml]
      · simp [hml, Addr.add_mid]
    · cases he
  · cases he

end Go.Proofs.Ytpfdfilkhaoibaa.Ev

/-
  Steps that change memory: new rows, stores, a list that grows.
-/
namespace Go.Proofs.Ytpfdfilkhaoibaa.Ev
open Go
set_option linter.unusedVariables false
set_option linter.unusedSimpArgs false

theorem Touch.lt {m : M} {h : Heap} {w : World} (hi : Inv m h w) {c : Nat} (ht : Touch m h c) : c < w.heap.size := by
  rcases ht with ⟨i, cs, e, h1⟩ | ⟨i, n, sz, a, cap, e, h1, h2⟩
  · obtain ⟨d, cvs, t, k1, k2, _⟩ := hi.var i cs e
    rw [h1] at k1
    cases k1
    exact (Array.getElem?_eq_some_iff.1 k2).1
  · obtain ⟨b, cb, k1, k2⟩ := hi.own i n sz e
    rw [h1] at k1
    cases k1
    subst h2
    exact k2.lt

theorem F_lt {m : M} {h : Heap} {w : World} (hi : Inv m h w) {a : Addr} {v : Value} (e : m.F a = some v) : a.block < w.heap.size :=
  World.block_lt_of_cell? w a (hi.f a v e)

/-- A new row whose first cells never change. -/
theorem Step.newRow {m : M} {h : Heap} {w : World} (hi : Inv m h w) (arr : Array Value) (t : TypeId) (fr : Nat × Nat) (k : Nat) (ho : ∀ v ∈ arr.toList.take k, v.oneCell' = true) :
    ∃ m', Step w.heap.size m h w m' h (w.alloc (.cells arr t fr)) ∧ CellsF m'.F ⟨w.heap.size, 0, none⟩ (arr.toList.take k) ∧ m'.mu = m.mu ∧ m'.rho = m.rho ∧
      ∀ j, k ≤ j → m'.F ⟨w.heap.size, j, none⟩ = none := by
  have s1 := Step.push (B := w.heap.size) hi (Nat.le_refl _) (.cells arr t fr)
  have hrow : (w.alloc (.cells arr t fr)).heap[w.heap.size]? = some (.cells arr t fr) := heap_alloc_new w _
  let G : Addr → Option Value := fun a => if a.block = w.heap.size ∧ a.spot = none ∧ a.off < k then arr[a.off]? else none
  have s2 := Step.fro (B := w.heap.size) s1.inv G (by
      intro a v e
      simp only [G] at e
      split at e
      · rename_i hc
        obtain ⟨b, o, s⟩ := a
        obtain ⟨h1, h2, h3⟩ := hc
        simp only at h1 h2 h3 e
        subst h1 h2
        rw [cell_row hrow]; exact e
      · cases e) (by
      intro a v e
      simp only [G] at e
      split at e
      · rename_i hc
        refine ho v (List.mem_of_getElem? (i := a.off) ?_)
        rw [List.getElem?_take, if_pos hc.2.2]
        simpa using e
      · cases e) (by
      intro a v e j cs e' h1
      simp only [G] at e
      split at e
      · rename_i hc
        have := Touch.lt hi (.inl ⟨j, cs, e', h1⟩)
        omega
      · cases e) (by
      intro i n sz a cap e h1 j _ _
      have := Touch.lt hi (.inr ⟨i, n, sz, a, cap, e, h1, rfl⟩)
      simp only [G]
      rw [if_neg (by rintro ⟨h1, _⟩; omega)]) (by
      intro a v e
      simp only [G] at e
      split at e
      · rename_i hc; exact .inl (by omega)
      · cases e)
  refine ⟨_, s1.trans s2, ?_, rfl, rfl, ?_⟩
  · intro i v hv
    have hF : m.F ⟨w.heap.size, 0 + i, none⟩ = none := by
      cases hF : m.F ⟨w.heap.size, 0 + i, none⟩ with
      | none => rfl
      | some u => have := F_lt hi hF; simp at this
    simp only [hF]
    rw [List.getElem?_take] at hv
    split at hv
    · rename_i hik
      simp only [G, Nat.zero_add]
      rw [if_pos ⟨trivial, trivial, hik⟩]
      simpa using hv
    · cases hv
  · intro j hj
    have hF : m.F ⟨w.heap.size, j, none⟩ = none := by
      cases hF : m.F ⟨w.heap.size, j, none⟩ with
      | none => rfl
      | some u => have := F_lt hi hF; simp at this
    simp only [hF, G]
    rw [if_neg (by rintro ⟨_, _, h3⟩; omega)]

/-- A new variable. -/
theorem Step.newVar {m : M} {h : Heap} {w : World} (hi : Inv m h w) (cvs : Array Value) (t : TypeId) (cs : List AV) (hr : VRelL m cs (cvs.toList.take cs.length)) (ho : ∀ v ∈ cvs.toList, v.oneCell' = true) :
    ∃ m', Step w.heap.size m h w m' (h ++ [.cells cs]) (w.alloc (.cells cvs t)) ∧ m'.mu h.length = some w.heap.size ∧ m'.rho h.length 0 = some (⟨w.heap.size, 0, none⟩, cvs.size) := by
  have s1 := Step.push (B := w.heap.size) hi (Nat.le_refl _) (.cells cvs t)
  have s2 := Step.var (B := w.heap.size) s1.inv w.heap.size (Nat.le_refl _) cvs t cs (heap_alloc_new w _) hr ho
    (fun a ha => by
      cases hF : m.F a with
      | none => rfl
      | some u => have := F_lt hi hF; omega)
    (fun ht => by have := Touch.lt hi ht; omega)
  exact ⟨_, s1.trans s2, M.lay_mu' _ _ _ _, M.lay_rho' _ _ _ _⟩

theorem splice_length {α : Type} (cs : List α) (o : Nat) (vs : List α) (h : o + vs.length ≤ cs.length) : (splice cs o vs).length = cs.length := by
  simp [splice]; omega
theorem splice_get {α : Type} (cs : List α) (o : Nat) (vs : List α) (h : o ≤ cs.length) (j : Nat) : (splice cs o vs)[j]? = if j < o then cs[j]? else if j < o + vs.length then vs[j - o]? else cs[j]? := by
  unfold splice
  have hl : (cs.take o).length = o := by simp; omega
  by_cases h1 : j < o
  · rw [if_pos h1, List.append_assoc, List.getElem?_append_left (by omega), List.getElem?_take, if_pos h1]
  · rw [if_neg h1]
    by_cases h2 : j < o + vs.length
    · rw [if_pos h2, List.getElem?_append_left (by simp; omega), List.getElem?_append_right (by omega), hl]
    · rw [if_neg h2, List.getElem?_append_right (by simp; omega), List.getElem?_drop]
      congr 1
      simp
      omega
theorem splice_length' {α : Type} (cs : List α) (o : Nat) (vs : List α) (h : o ≤ cs.length) : (splice cs o vs).length = max cs.length (o + vs.length) := by
  simp [splice]; omega
theorem take_splice {α : Type} (cs : List α) (o k : Nat) (vs : List α) (h : o ≤ k) (hk : k ≤ cs.length) : (splice cs o vs).take (max k (o + vs.length)) = splice (cs.take k) o vs := by
  apply List.ext_getElem?
  intro j
  rw [List.getElem?_take, splice_get _ _ _ (by omega), splice_get _ _ _ (by simp; omega)]
  simp only [List.getElem?_take]
  by_cases h1 : j < o
  · rw [if_pos (by omega), if_pos h1, if_pos h1, if_pos (by omega)]
  · rw [if_neg h1, if_neg h1]
    by_cases h2 : j < o + vs.length
    · rw [if_pos h2, if_pos (by omega), if_pos h2]
    · rw [if_neg h2, if_neg h2]
      by_cases h3 : j < k
      · rw [if_pos h3, if_pos (by omega)]
      · rw [if_neg h3, if_neg (by omega)]
theorem VRelL.splice {m : M} {xs ys : List AV} {vs us : List Value} (h : VRelL m xs vs) (h' : VRelL m ys us) (o : Nat) : VRelL m (splice xs o ys) (Ev.splice vs o us) := by
  unfold Ev.splice
  rw [h'.length]
  exact ((h.take o).append h').append (h.drop _)

theorem setCells_heap (b : Nat) : ∀ (vs : List Value) (o : Nat) (w : World) (c : Nat), c ≠ b → (w.setCells b o vs).heap[c]? = w.heap[c]?
  | [], _, _, _, _ => rfl
  | v :: r, o, w, c, h => by
    rw [World.setCells, setCells_heap b r (o + 1) _ c h]
    exact Go.RowKit.Below.heap_setCell w ⟨b, o, none⟩ v c h
theorem setCells_row (b : Nat) (t : TypeId) (fr : Nat × Nat) : ∀ (vs : List Value) (o : Nat) (w : World) (arr : Array Value), w.heap[b]? = some (.cells arr t fr) → o + vs.length ≤ arr.size →
    ∃ arr', (w.setCells b o vs).heap[b]? = some (.cells arr' t fr) ∧ arr'.toList = splice arr.toList o vs
  | [], o, w, arr, h, hl => ⟨arr, h, by simp [splice]⟩
  | v :: r, o, w, arr, h, hl => by
    have h1 : (w.setCell ⟨b, o, none⟩ v).heap[b]? = some (.cells (arr.setIfInBounds o v) t fr) := by
      have hb := (Array.getElem?_eq_some_iff.1 h).1
      have hb2 := (Array.getElem?_eq_some_iff.1 h).2
      simp [World.setCell, Array.getElem?_modify, h]
    obtain ⟨arr', h2, h3⟩ := setCells_row b t fr r (o + 1) _ _ h1 (by simp at hl ⊢; omega)
    refine ⟨arr', h2, ?_⟩
    rw [h3]
    apply List.ext_getElem?
    intro j
    rw [splice_get _ _ _ (by simp at hl ⊢; omega), splice_get _ _ _ (by simp at hl ⊢; omega)]
    simp only [Array.toList_setIfInBounds, List.length_cons]
    by_cases e1 : j < o
    · rw [if_pos (by omega), if_pos e1, List.getElem?_set_ne (by omega)]
    · rw [if_neg e1]
      by_cases e2 : j = o
      · subst e2
        rw [if_pos (by omega), if_pos (by omega), List.getElem?_set_self (by simp at hl ⊢; omega)]
        simp
      · rw [if_neg (by omega)]
        by_cases e3 : j < o + 1 + r.length
        · rw [if_pos e3, if_pos (by omega)]
          rw [show j - o = (j - (o + 1)) + 1 by omega]
          simp
        · rw [if_neg e3, if_neg (by omega), List.getElem?_set_ne (by omega)]
theorem setCells_size (b : Nat) : ∀ (vs : List Value) (o : Nat) (w : World), (w.setCells b o vs).heap.size = w.heap.size
  | [], _, _ => rfl
  | v :: r, o, w => by rw [World.setCells, setCells_size b r]; simp [World.setCell]
theorem setCells_os (b : Nat) : ∀ (vs : List Value) (o : Nat) (w : World), (w.setCells b o vs).os = w.os ∧ (w.setCells b o vs).tape = w.tape ∧ (w.setCells b o vs).output = w.output
  | [], _, _ => ⟨rfl, rfl, rfl⟩
  | v :: r, o, w => by rw [World.setCells]; exact setCells_os b r (o + 1) _

/-- A store into a variable of the small heap. -/
theorem Step.set {B : Nat} {m : M} {h : Heap} {w : World} (hi : Inv m h w) {b : Nat} {cs : List AV} (hb : h[b]? = some (.cells cs)) {c : Nat} (hc : m.mu b = some c) (o : Nat) (vs : List AV) (us : List Value)
    (hr : VRelL m vs us) (ho : ∀ v ∈ us, v.oneCell' = true) (hl : o ≤ cs.length) (hsz : ∀ cvs t, w.heap[c]? = some (.cells cvs t (0, 0)) → o + vs.length ≤ cvs.size) : Step B m h w m (h.set b (.cells (splice cs o vs))) (w.setCells c o us) := by
  obtain ⟨c', cvs, t, k1, k2, k3, k4, k5, k6⟩ := hi.var b cs hb
  rw [hc] at k1
  cases k1
  have hlen := k3.length
  have hle : cs.length ≤ cvs.size := by simp at hlen; omega
  have hfit := hsz cvs t k2
  have hul := hr.length
  obtain ⟨arr', r1, r2⟩ := setCells_row c t (0, 0) us o w cvs k2 (by omega)
  have hos := setCells_os c us o w
  have hbl := (List.getElem?_eq_some_iff.1 hb).1
  have hcell : ∀ a, a.block ≠ c → (w.setCells c o us).cell? a = w.cell? a := fun a ha => World.cell?_of_block (setCells_heap c us o w a.block ha)
  have hvars : ∀ (i : Nat) (ds : List AV), (h.set b (.cells (splice cs o vs)))[i]? = some (.cells ds) → ∃ es, h[i]? = some (.cells es) := by
    intro i ds e
    rcases getElem?_set_some e with ⟨rfl, _⟩ | ⟨_, e⟩
    · exact ⟨cs, hb⟩
    · exact ⟨ds, e⟩
  have hown : ∀ (i n sz : Nat), (h.set b (.cells (splice cs o vs)))[i]? = some (.own n sz) → h[i]? = some (.own n sz) := by
    intro i n sz e
    rcases getElem?_set_some e with ⟨rfl, q⟩ | ⟨_, e⟩
    · cases q
    · exact e
  refine ⟨M.le.refl m, ⟨?_, hi.fone, ?_, ?_, ?_, ?_, ?_, ?_, ?_⟩, by rw [setCells_size]; exact Nat.le_refl _, hos.1, hos.2.1, hos.2.2, ?_, ?_, fun _ _ e => .inl e⟩
  · intro a v e
    rw [hcell a (fun ha => by rw [k4 a ha] at e; cases e)]
    exact hi.f a v e
  · intro i ds e
    rcases getElem?_set_some e with ⟨rfl, q⟩ | ⟨hne, e⟩
    · cases q
      have hsize : arr'.size = cvs.size := by
        have := congrArg List.length r2
        rw [splice_length _ _ _ (by simp; omega)] at this
        simpa using this
      refine ⟨c, arr', t, hc, r1, ?_, k4, fun v hv => ?_, by rw [hsize]; exact k6⟩
      · rw [r2, splice_length' _ _ _ hl, ← hul, take_splice _ _ _ _ hl (by simpa using hle)]
        exact k3.splice hr o
      rw [r2] at hv
      unfold Ev.splice at hv
      simp only [List.mem_append] at hv
      rcases hv with (hv | hv) | hv
      · exact k5 v (List.mem_of_mem_take hv)
      · exact ho v hv
      · exact k5 v (List.mem_of_mem_drop hv)
    · obtain ⟨d, dvs, u, g1, g2, g3, g4⟩ := hi.var i ds e
      refine ⟨d, dvs, u, g1, ?_, g3, g4⟩
      rw [setCells_heap c us o w d (fun hd => hne (hi.inj i b ds cs c e hb (hd ▸ g1) hc))]
      exact g2
  · intro i j ds es d e e' h1 h2
    obtain ⟨ds', e⟩ := hvars i ds e
    obtain ⟨es', e'⟩ := hvars j es e'
    exact hi.inj i j ds' es' d e e' h1 h2
  · intro i n sz e
    obtain ⟨a, cap, g1, g2⟩ := hi.own i n sz (hown i n sz e)
    have hne : a.block ≠ c := fun ha => g2.var b cs hb (ha ▸ hc)
    refine ⟨a, cap, g1, g2.spot, g2.le, fun j j1 j2 => ?_, by rw [setCells_size]; exact g2.lt, fun k ds e' => ?_⟩
    · obtain ⟨f1, f2, f3⟩ := g2.cell j j1 j2
      exact ⟨by rw [hcell ⟨a.block, a.off + j, none⟩ hne]; exact f1, by rw [World.frozen?_setCells]; exact f2, f3⟩
    · obtain ⟨ds', e'⟩ := hvars k ds e'
      exact g2.var k ds' e'
  · intro i j n k sz tz a b' ca cb e e' h1 h2 hne
    exact hi.apart i j n k sz tz a b' ca cb (hown _ _ _ e) (hown _ _ _ e') h1 h2 hne
  · intro i d e
    have := hi.mu i d e; simpa using this
  · intro i n r e
    have := hi.rho i n r e; simpa using this
  · intro i n k sz r e h1
    exact hi.cur i n k sz r (hown _ _ _ e) h1
  · intro d _ hd
    exact setCells_heap c us o w d (fun e => hd (.inl ⟨b, cs, hb, e ▸ hc⟩))
  · intro d hd
    rcases hd with ⟨i, ds, e, h1⟩ | ⟨i, n, sz, a, cap, e, h1, h2⟩
    · obtain ⟨ds', e⟩ := hvars i ds e
      exact .inl (.inl ⟨i, ds', e, h1⟩)
    · exact .inl (.inr ⟨i, n, sz, a, cap, hown _ _ _ e, h1, h2⟩)

/-- Cells in the spare part of a list are written. -/
theorem Step.setSpare {B : Nat} {m : M} {h : Heap} {w : World} (hi : Inv m h w) {τ n sz : Nat} (hτ : h[τ]? = some (.own n sz)) {a : Addr} {cap : Nat} (hr : m.rho τ n = some (a, cap)) (us : List Value)
    (hl : n * sz + us.length ≤ cap * sz) : Step B m h w m h (w.setCells a.block (a.off + n * sz) us) := by
  obtain ⟨a', cap', k1, k2⟩ := hi.own τ n sz hτ
  rw [hr] at k1
  cases k1
  have hos := setCells_os a.block us (a.off + n * sz) w
  have hcell : ∀ x, x.block ≠ a.block → (w.setCells a.block (a.off + n * sz) us).cell? x = w.cell? x := fun x hx => World.cell?_of_block (setCells_heap _ us _ w x.block hx)
  refine ⟨M.le.refl m, ⟨?_, hi.fone, ?_, hi.inj, ?_, hi.apart, hi.mu, hi.rho, hi.cur⟩, by rw [setCells_size]; exact Nat.le_refl _, hos.1, hos.2.1, hos.2.2, ?_, fun _ h => .inl h, fun _ _ e => .inl e⟩
  · intro x v e
    rw [World.cell?_setCells_out _ _ _ _ _ (fun hx hs => ?_)]
    · exact hi.f x v e
    · refine Classical.byContradiction fun hc => ?_
      obtain ⟨b, o, s⟩ := x
      simp only at hx hs hc
      subst hx hs
      obtain ⟨_, _, f3⟩ := k2.cell (o - a.off) (by omega) (by omega)
      rw [show a.off + (o - a.off) = o by omega] at f3
      rw [f3] at e
      cases e
  · intro i ds e
    obtain ⟨d, dvs, u, g1, g2, g3, g4⟩ := hi.var i ds e
    refine ⟨d, dvs, u, g1, ?_, g3, g4⟩
    rw [setCells_heap _ us _ w d (fun hd => k2.var i ds e (by rw [← hd]; exact g1))]
    exact g2
  · intro i k tz e
    obtain ⟨b, cb, g1, g2⟩ := hi.own i k tz e
    refine ⟨b, cb, g1, g2.spot, g2.le, fun j j1 j2 => ?_, by rw [setCells_size]; exact g2.lt, g2.var⟩
    obtain ⟨⟨v, f1⟩, f2, f3⟩ := g2.cell j j1 j2
    refine ⟨?_, by rw [World.frozen?_setCells]; exact f2, f3⟩
    have := World.isSome_setCells a.block us (a.off + n * sz) w ⟨b.block, b.off + j, none⟩ (by rw [f1]; rfl)
    exact Option.isSome_iff_exists.1 this
  · intro d _ hd
    exact setCells_heap _ us _ w d (fun e => hd (.inr ⟨τ, n, sz, a, cap, hτ, hr, e.symm⟩))

end Go.Proofs.Ytpfdfilkhaoibaa.Ev
