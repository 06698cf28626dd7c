/-
  The abstract evaluator: a deterministic, computable reading of the loaded code over immutable lists and a small heap.
-/
import Derived.Scope
import Derived.Still
import Derived.KernelRfl
namespace Go.Proofs.Ytnifldbmflkmpaa.Ev
open Go
set_option linter.unusedVariables false
set_option linter.unusedSimpArgs false

/-- Abstract values. 'list': a slice over cells that never change; 'rptr': a pointer to such cells; 'slice', 'ptr': into the small heap. -/
inductive AV where
  | bool (b : Bool)
  | int (k : IntKind) (n : Int)
  | str (s : List UInt8)
  | nilp
  | ptr (b o : Nat)
  | rptr (v : AV)
  | nils
  | list (xs : List AV) (nn : Bool) (cap tok : Option Nat)
  | slice (b o len cap : Nat)
  | func (fn : Fn) (first captured : List AV)
  | nilFunc
  | iface (t : TypeId) (v : AV)
  | nilIface
  | agg (cs : List AV)
  | tuple (vs : List AV)
  deriving Inhabited

def AV.undef : AV := .tuple []
def AV.cells : AV → List AV
  | .agg cs => cs
  | v => [v]
def AV.one : AV → Bool
  | .agg _ | .tuple _ => false
  | _ => true
/-- A list as a pure function hands it back. -/
abbrev AV.L (xs : List AV) : AV := .list xs false none none

/-- Objects of the small heap: a variable or an array; the right to append to a list of n elements. -/
inductive AO where
  | cells (cs : List AV)
  | own (n sz : Nat)
  deriving Inhabited
abbrev Heap := List AO

mutual
def AV.strip : AV → AV
  | .nils => .list [] false none none
  | .list xs _ _ _ => .list (stripL xs) false none none
  | .agg cs => .agg (stripL cs)
  | .tuple vs => .tuple (stripL vs)
  | .iface t v => .iface t v.strip
  | .func fn a b => .func fn (stripL a) (stripL b)
  | .rptr v => .rptr v.strip
  | .bool b => .bool b
  | .int k n => .int k n
  | .str s => .str s
  | .nilp => .nilp
  | .ptr b o => .ptr b o
  | .slice b o l c => .slice b o l c
  | .nilFunc => .nilFunc
  | .nilIface => .nilIface
def stripL : List AV → List AV
  | [] => []
  | x :: xs => x.strip :: stripL xs
end

mutual
def AV.clean (n : Nat) : AV → Bool
  | .ptr b _ => decide (b < n)
  | .slice b _ _ _ => decide (b < n)
  | .list xs _ _ tok => cleanL n xs && (match tok with | none => true | some t => decide (t < n))
  | .agg cs => cleanL n cs
  | .tuple vs => cleanL n vs
  | .iface _ v => v.clean n
  | .func _ a b => cleanL n a && cleanL n b
  | .rptr v => v.clean n
  | .nils => true
  | .bool _ => true
  | .int _ _ => true
  | .str _ => true
  | .nilp => true
  | .nilFunc => true
  | .nilIface => true
def cleanL (n : Nat) : List AV → Bool
  | [] => true
  | x :: xs => x.clean n && cleanL n xs
end

inductive Mode where
  | no | pure | impure
  deriving DecidableEq

structure Cfg where
  P : Program
  mode : FuncId → Mode
  prim : FuncId → Option (List AV → Option AV)

def ofCell : Value → Option AV
  | .bool b => some (.bool b)
  | .int k n => some (.int k n)
  | .string s => some (.str s.data.toList)
  | .pointer none => some .nilp
  | .slice none 0 0 => some .nils
  | .nilFunc => some .nilFunc
  | .nilIface => some .nilIface
  | _ => none
def ofConst : Value → Option AV
  | .agg cs => (cs.toList.mapM ofCell).map .agg
  | v => ofCell v

def evalOperand (fr : List AV) : Operand → Option AV
  | .tmp t => fr[t]?
  | .const v => ofConst v
  | .func f => some (.func (.func f) [] [])
  | .global _ => none

def tySize (P : Program) (t : TypeId) : Option Nat := (P.info? t).map (·.size)
def tyBytes (P : Program) (t : TypeId) : Option Nat := (P.info? t).map (·.bytes)
def tyAgg (P : Program) (t : TypeId) : Bool := match P.underlying t with | some (.struct _) | some (.array _ _) => true | _ => false
def tyScalar (P : Program) (t : TypeId) : Bool := match P.underlying t with | some (.struct _) | some (.array _ _) | none => false | _ => true
def tyZero (P : Program) (t : TypeId) : Option AV := (P.info? t).bind fun i => i.zero.bind ofConst

def splice {α : Type} (cs : List α) (o : Nat) (vs : List α) : List α := cs.take o ++ vs ++ cs.drop (o + vs.length)

/-- A part of an aggregate. -/
def partA (P : Program) (t : TypeId) (cs : List AV) (off : Nat) : Option AV :=
  if tyAgg P t then
    match tySize P t with
    | some n => if off + n ≤ cs.length then some (.agg ((cs.drop off).take n)) else none
    | none => none
  else if tyScalar P t then
    match cs[off]? with
    | some x => if x.one then some x else none
    | none => none
  else none

def loadA (P : Program) (t : TypeId) (h : Heap) : AV → Option AV
  | .rptr v =>
    match v with
    | .agg cs => if tyAgg P t && tySize P t == some cs.length then some (.agg cs) else none
    | .tuple _ => none
    | v => if tyScalar P t then some v else none
  | .ptr b o =>
    match h[b]? with
    | some (.cells cs) => partA P t cs o
    | _ => none
  | _ => none

def storeA (P : Program) (t : TypeId) (h : Heap) (a v : AV) : Option (Heap × Nat) :=
  match a with
  | .ptr b o =>
    match h[b]? with
    | some (.cells cs) =>
      if tySize P t == some v.cells.length && decide (o + v.cells.length ≤ cs.length) && v.cells.all AV.one then
        some (h.set b (.cells (splice cs o v.cells)), b)
      else none
    | _ => none
  | _ => none

def wrapBin (op : BinOp) (k : IntKind) (a b : Int) : Option AV :=
  match op with
  | .add => some (.int k (k.wrap (a + b)))
  | .sub => some (.int k (k.wrap (a - b)))
  | .mul => some (.int k (k.wrap (a * b)))
  | .quo => if b = 0 then none else some (.int k (k.wrap (a.tdiv b)))
  | .rem => if b = 0 then none else some (.int k (a.tmod b))
  | .eql => some (.bool (a == b))
  | .neq => some (.bool (a != b))
  | .lss => some (.bool (decide (a < b)))
  | .leq => some (.bool (decide (a ≤ b)))
  | .gtr => some (.bool (decide (a > b)))
  | .geq => some (.bool (decide (a ≥ b)))
  | .and => some (.int k (k.wrap (BitVec.ofInt k.bits a &&& BitVec.ofInt k.bits b).toNat))
  | .or => some (.int k (k.wrap (BitVec.ofInt k.bits a ||| BitVec.ofInt k.bits b).toNat))
  | .xor => some (.int k (k.wrap (BitVec.ofInt k.bits a ^^^ BitVec.ofInt k.bits b).toNat))
  | _ => none
def shiftA (op : BinOp) (k : IntKind) (x y : Int) : Option AV :=
  if y < 0 then none else
  match op with
  | .shl => some (.int k (k.wrap (x * 2 ^ (min y.toNat k.bits))))
  | .shr => some (.int k (x.fdiv (2 ^ (min y.toNat k.bits))))
  | _ => none
def strBin (op : BinOp) (a b : List UInt8) : Option AV :=
  match op with
  | .add => if a.length + b.length ≤ 140737488355328 then some (.str (a ++ b)) else none
  | .eql => some (.bool (a == b))
  | .neq => some (.bool (!(a == b)))
  | .lss => some (.bool (Op.bytesLess a b))
  | .leq => some (.bool (Op.bytesLess a b || a == b))
  | .gtr => some (.bool (!(Op.bytesLess a b || a == b)))
  | .geq => some (.bool (!(Op.bytesLess a b)))
  | _ => none
/-- '==' beside numbers and texts. -/
def eqA (P : Program) (t : TypeId) : AV → AV → Option Bool
  | .bool a, .bool b => match P.underlying t with | some .bool => some (a == b) | _ => none
  | .nils, .nils => match P.underlying t with | some (.slice _) => some true | _ => none
  | .list xs nn _ _, .nils => match P.underlying t with | some (.slice _) => if nn || !xs.isEmpty then some false else none | _ => none
  | .slice .., .nils => match P.underlying t with | some (.slice _) => some false | _ => none
  | .nilp, .nilp => match P.underlying t with | some (.pointer _) => some true | _ => none
  | .ptr .., .nilp => match P.underlying t with | some (.pointer _) => some false | _ => none
  | .rptr _, .nilp => match P.underlying t with | some (.pointer _) => some false | _ => none
  | _, _ => none
def binA (P : Program) (op : BinOp) (t : TypeId) (x y : AV) : Option AV :=
  match op, x, y with
  | .shl, .int k a, .int _ b => shiftA .shl k a b
  | .shr, .int k a, .int _ b => shiftA .shr k a b
  | op, .int k a, .int k' b => if k = k' then wrapBin op k a b else none
  | op, .str a, .str b => strBin op a b
  | .eql, x, y => (eqA P t x y).map .bool
  | .neq, x, y => (eqA P t x y).map fun b => .bool (!b)
  | _, _, _ => none

def unA (op : UnOp) : AV → Option AV
  | .int k n => match op with | .neg => some (.int k (k.wrap (0 - n))) | _ => none
  | .bool b => match op with | .not => some (.bool (!b)) | _ => none
  | _ => none

def bytesOf : List AV → Option (List UInt8)
  | [] => some []
  | .int .u8 n :: xs => (bytesOf xs).map (UInt8.ofNat n.toNat :: ·)
  | _ => none

def ofBytes (s : List UInt8) : List AV := s.map fun b => .int .u8 (b.toNat : Int)

/-- Conversions: the value, and the heap (a new right to append, behind []byte(s)). -/
def convA (P : Program) (src dst : TypeId) (h : Heap) (x : AV) : Option (AV × Heap) :=
  match P.underlying src, P.underlying dst, x with
  | some _, some (.int k), .int _ n => some (.int k (k.wrap n), h)
  | some .string, some .string, .str s => some (.str s, h)
  | some .string, some (.slice e), .str s =>
    match P.underlying e with
    | some (.int .u8) => some (.list (ofBytes s) true none (some h.length), h ++ [.own s.length 1])
    | _ => none
  | some (.slice e), some .string, x =>
    match P.underlying e with
    | some (.int .u8) =>
      match x with
      | .nils => some (.str [], h)
      | .list xs _ _ _ => (bytesOf xs).map fun s => (.str s, h)
      | .slice b o len _ =>
        match h[b]? with
        | some (.cells cs) => if o + len ≤ cs.length then (bytesOf ((cs.drop o).take len)).map fun s => (.str s, h) else none
        | _ => none
      | _ => none
    | _ => none
  | _, _, _ => none

def intOf? : AV → Option Int
  | .int _ n => some n
  | _ => none

def headOk (n : Nat) : List AV → Bool
  | [] => true
  | x :: _ => x.cells.length == n

def indexAddrA (P : Program) (t : TypeId) (x i : AV) : Option AV :=
  match i, P.underlying t, x with
  | .int _ n, some (.slice e), .list xs _ _ _ =>
    if 0 ≤ n ∧ n < xs.length then
      match xs[n.toNat]?, tySize P e with
      | some v, some s => if v.cells.length = s then some (.rptr v) else none
      | _, _ => none
    else none
  | .int _ n, some (.slice e), .slice b o len _ =>
    if 0 ≤ n ∧ n < len then (tySize P e).map fun s => .ptr b (o + n.toNat * s) else none
  | .int _ n, some (.array len e), .ptr b o =>
    if 0 ≤ n ∧ n < len then (tySize P e).map fun s => .ptr b (o + n.toNat * s) else none
  | .int _ n, some (.array len e), .rptr (.agg cs) =>
    if 0 ≤ n ∧ n < len then
      match tySize P e with
      | some s => (partA P e cs (n.toNat * s)).map .rptr
      | none => none
    else none
  | _, _, _ => none

def fieldAddrA (P : Program) (s : TypeId) (x : AV) (f : Nat) : Option AV :=
  match P.underlying s with
  | some (.struct fields) =>
    match fields[f]? with
    | some fd =>
      match tySize P fd.type with
      | some (_ + 1) =>
        match x with
        | .ptr b o => some (.ptr b (o + fd.offset))
        | .rptr (.agg cs) => (partA P fd.type cs fd.offset).map .rptr
        | _ => none
      | _ => none
    | none => none
  | _ => none

def fieldA (P : Program) (s : TypeId) (x : AV) (f : Nat) : Option AV :=
  match P.underlying s, x with
  | some (.struct fields), .agg cs =>
    match fields[f]? with
    | some fd => partA P fd.type cs fd.offset
    | none => none
  | _, _ => none

def indexA (P : Program) (t : TypeId) (x i : AV) : Option AV :=
  match P.underlying t, x, i with
  | some .string, .str s, .int _ n => if 0 ≤ n then (s[n.toNat]?).map fun b => .int .u8 (b.toNat : Int) else none
  | some (.array len e), .agg cs, .int _ n =>
    if 0 ≤ n ∧ n < len then
      match tySize P e with
      | some s => partA P e cs (n.toNat * s)
      | none => none
    else none
  | _, _, _ => none

/-- Bounds 'l, h, m' of a slice expression over a length and a capacity. -/
def boundsA (len cap : Nat) (lo hi mx : Option AV) : Option (Nat × Nat × Nat) :=
  let num (v : Option AV) (d : Nat) : Option Int := match v with | none => some (d : Int) | some v => intOf? v
  match num mx cap, num hi len, num lo 0 with
  | some m, some h, some l => if (mx.isSome → hi.isSome) ∧ 0 ≤ m ∧ m ≤ cap ∧ 0 ≤ h ∧ h ≤ m ∧ 0 ≤ l ∧ l ≤ h then some (l.toNat, h.toNat, m.toNat) else none
  | _, _, _ => none

def sliceA (P : Program) (t : TypeId) (x : AV) (lo hi mx : Option AV) : Option AV :=
  match P.underlying t, x with
  | some .string, .str s =>
    if mx.isSome then none else (boundsA s.length s.length lo hi none).map fun (l, h, _) => .str ((s.take h).drop l)
  | some (.slice e), .list xs nn cap _ =>
    match tySize P e, boundsA xs.length xs.length lo hi mx with
    | some n, some (l, h, m) =>
      if headOk n xs then some (.list ((xs.take h).drop l) nn (if mx.isSome then some (m - l) else cap.map (· - l)) none) else none
    | _, _ => none
  | some (.slice e), .nils =>
    match tySize P e, boundsA 0 0 lo hi mx with
    | some _, some _ => some .nils
    | _, _ => none
  | some (.slice e), .slice b o len cap =>
    match tySize P e, boundsA len cap lo hi mx with
    | some n, some (l, h, m) => some (.slice b (if m = l then o else o + l * n) (h - l) (m - l))
    | _, _ => none
  | some (.array len e), .ptr b o =>
    match tySize P e, boundsA len len lo hi mx with
    | some n, some (l, h, m) => some (.slice b (if m = l then o else o + l * n) (h - l) (m - l))
    | _, _ => none
  | _, _ => none

/-- 'fill', over lists. -/
def fillA (place : Nat → Option (Nat × Nat)) (cells : List AV) : List (Nat × AV) → Option (List AV)
  | [] => some cells
  | (i, v) :: rest =>
    match place i with
    | none => none
    | some (off, size) =>
      if v.cells.length ≠ size || off + v.cells.length > cells.length then none
      else fillA place (splice cells off v.cells) rest

def structPlaces (P : Program) (fields : Array Field) : Option (List (Nat × Nat)) :=
  fields.toList.mapM fun f => (tySize P f.type).map fun n => (f.offset, n)

def buildA (P : Program) (t : TypeId) (parts : List (Nat × AV)) : Option AV :=
  match tyZero P t, P.underlying t with
  | some z, some (.struct fields) =>
    match structPlaces P fields with
    | some places => (fillA (places[·]?) z.cells parts).map .agg
    | none => none
  | some z, some (.array _ e) =>
    match tySize P e with
    | some n => (fillA (fun i => some (i * n, n)) z.cells parts).map .agg
    | none => none
  | _, _ => none

/-- A slice literal whose elements are all named, in order. -/
def buildSliceA (P : Program) (t : TypeId) (len : Nat) (parts : List (Nat × AV)) : Option AV :=
  match P.underlying t with
  | some (.slice e) =>
    match tySize P e, tyZero P e with
    | some n, some _ =>
      if len * n ≤ 16777216 && parts.map (·.1) == List.range len && parts.all (fun p => p.2.cells.length == n && p.2.cells.all AV.one) then
        some (.list (parts.map (·.2)) true (some len) none)
      else none
    | _, _ => none
  | _ => none

def lenA (P : Program) (t : TypeId) (x : AV) : Option AV :=
  match P.underlying t, x with
  | some .string, .str s => some (.int .i64 s.length)
  | some (.array n _), _ => some (.int .i64 n)
  | some (.pointer a), _ => match P.underlying a with | some (.array n _) => some (.int .i64 n) | _ => none
  | some (.slice _), .list xs _ _ _ => some (.int .i64 xs.length)
  | some (.slice _), .nils => some (.int .i64 0)
  | some (.slice _), .slice _ _ n _ => some (.int .i64 n)
  | _, _ => none

def minA (less : Bool) : AV → AV → Option AV
  | .int k x, .int k' y => if k = k' then some (.int k (if less then (if y < x then y else x) else (if y > x then y else x))) else none
  | _, _ => none
def minsA (less : Bool) : List AV → Option AV
  | [] => none
  | x :: rest => rest.foldlM (minA less) x

def elemsA (h : Heap) (n : Nat) : AV → Option (List AV)
  | .nils => some []
  | .list xs _ _ _ => if headOk n xs then some xs else none
  | .str s => if n = 1 then some (ofBytes s) else none
  | .slice b o len _ =>
    match h[b]? with
    | some (.cells cs) => if n = 1 && decide (o + len ≤ cs.length) then some ((cs.drop o).take len) else none
    | _ => none
  | _ => none

def appendable : TypeDesc → Bool
  | .slice _ => true
  | .string => true
  | _ => false

/-- append: the value, the heap, which object was written (if any). -/
def appendA (P : Program) (types : List TypeId) (h : Heap) (dst src : AV) : Option (AV × Heap × Option Nat) :=
  match types with
  | [t, u] =>
    match P.underlying t, P.underlying u with
    | some (.slice e), some ud =>
      if appendable ud = false then none else
      match tySize P e, tyBytes P e, tyZero P e with
      | some n, some by_, some z =>
        match elemsA h n src with
        | some ys =>
          if z.cells.length ≠ n then none else
          match dst with
          | .nils =>
            if ys.isEmpty then some (.nils, h, none)
            else if ys.length * by_ ≤ 35184372088832 ∧ ys.length ≤ 35184372088832 then some (.list ys true none (some h.length), h ++ [.own ys.length n], none) else none
          | .list xs nn cap tok =>
            if ys.isEmpty then some (.list xs nn cap tok, h, none)
            else if ¬ ((xs.length + ys.length) * by_ ≤ 35184372088832 ∧ xs.length + ys.length ≤ 35184372088832) then none
            else if headOk n xs = false then none
            else if cap = some xs.length then some (.list (xs ++ ys) true none (some h.length), h ++ [.own (xs.length + ys.length) n], none)
            else match tok with
              | some τ =>
                match h[τ]? with
                | some (.own m sz) => if m = xs.length ∧ sz = n then some (.list (xs ++ ys) true none (some τ), h.set τ (.own (xs.length + ys.length) n), some τ) else none
                | _ => none
              | none => none
          | _ => none
        | none => none
      | _, _, _ => none
    | _, _ => none
  | _ => none

def makeSliceA (P : Program) (t : TypeId) (h : Heap) (len cap : AV) : Option (AV × Heap) :=
  match P.underlying t, len, cap with
  | some (.slice e), .int .i64 l, .int .i64 c =>
    match tySize P e, tyBytes P e, tyZero P e with
    | some n, some by_, some z =>
      if 0 ≤ l ∧ l ≤ c ∧ c ≤ 4294967296 ∧ c * (by_ : Int) ≤ 35184372088832 ∧ z.cells.length = n ∧ z.cells.all AV.one then
        if l = 0 then some (.list [] true none (some h.length), h ++ [.own 0 n])
        else
          match z.cells with
          | [y] => some (.slice h.length 0 l.toNat c.toNat, h ++ [.cells (List.replicate c.toNat y)])
          | _ => none
      else none
    | _, _, _ => none
  | _, _, _ => none

/-- Which operations look at the heap, which change it. -/
inductive Cls where
  | p | r | s
  deriving DecidableEq

def Cfg.isPure (C : Cfg) (f : FuncId) : Bool := (C.prim f).isSome || C.mode f == .pure

def convCls (P : Program) (s d : TypeId) : Cls :=
  match P.underlying d with
  | some (.int _) => .p
  | some .string => match P.underlying s with | some .string => .p | _ => .r
  | _ => .s

def cls (C : Cfg) (o : Oper) : Cls :=
  match o.op with
  | .load .. => .r
  | .alloc .. | .box .. | .store .. | .makeSlice .. => .s
  | .convert s d _ => convCls C.P s d
  | .call c =>
    match c.callee with
    | .builtin b => match b with | .len | .cap | .min | .max => .p | _ => .s
    | .value (.func f) => if C.isPure f then .p else .s
    | _ => .s
  | _ => .p

abbrev CallFn := FuncId → List AV → Heap → Option (AV × Heap × Bool)

def callF (C : Cfg) (call : CallFn) (g : FuncId) (vs : List AV) (h : Heap) (d : Bool) : Option (AV × Heap × Bool) :=
  match C.prim g with
  | some p => if cleanL 0 (stripL vs) then (p (stripL vs)).bind fun v => if v.clean 0 then some (v, h, d) else none else none
  | none =>
    match C.mode g with
    | .pure =>
      if cleanL 0 (stripL vs) then
        match call g (stripL vs) [] with
        | some (v, _, _) => if v.strip.clean 0 then some (v.strip, h, d) else none
        | none => none
      else none
    | .impure =>
      match call g vs h with
      | some (v, h', d') => some (v, h', d || d')
      | none => none
    | .no => none

def wrDirty (base : Nat) : Option Nat → Bool
  | some b => decide (b < base)
  | none => false

def evalOp (C : Cfg) (call : CallFn) (base : Nat) (o : Oper) (ρ : Operand → Option AV) (h : Heap) (d : Bool) : Option (AV × Heap × Bool) :=
  let P := C.P
  match o.op with
  | .move x | .assign x => (ρ x).map (·, h, d)
  | .pick c a b =>
    match ρ c with
    | some (.bool true) => (ρ a).map (·, h, d)
    | some (.bool false) => (ρ b).map (·, h, d)
    | _ => none
  | .alloc t => match tyZero P t with | some z => if z.cells.all AV.one then some (.ptr h.length 0, h ++ [.cells z.cells], d) else none | none => none
  | .box _ x => match ρ x with | some v => if v.cells.all AV.one then some (.ptr h.length 0, h ++ [.cells v.cells], d) else none | none => none
  | .build t parts => match parts.toList.mapM (fun p => (ρ p.2).map fun v => (p.1, v)) with | some ps => (buildA P t ps).map (·, h, d) | none => none
  | .buildSlice t n parts => match parts.toList.mapM (fun p => (ρ p.2).map fun v => (p.1, v)) with | some ps => (buildSliceA P t n ps).map (·, h, d) | none => none
  | .load t a => match ρ a with | some v => (loadA P t h v).map (·, h, d) | none => none
  | .store t a x =>
    match ρ a, ρ x with
    | some a, some v => (storeA P t h a v).map fun (h', b) => (.undef, h', d || decide (b < base))
    | _, _ => none
  | .nilCheck x =>
    match ρ x with
    | some (.ptr b o) => some (.ptr b o, h, d)
    | some (.rptr v) => some (.rptr v, h, d)
    | some (.func (.func f) a b) => some (.func (.func f) a b, h, d)
    | _ => none
  | .binOp op t x y _ =>
    match ρ x, ρ y with
    | some a, some b => (binA P op t a b).map (·, h, d)
    | _, _ => none
  | .unOp op _ x => match ρ x with | some v => (unA op v).map (·, h, d) | none => none
  | .convert s t x => match ρ x with | some v => (convA P s t h v).map fun (v, h) => (v, h, d) | none => none
  | .makeInterface t x =>
    match ρ x, P.underlying t with
    | some _, some (.interface _) => none
    | some v, some _ => some (.iface t v, h, d)
    | _, _ => none
  | .makeFunc fn first captured =>
    match first.toList.mapM ρ, captured.toList.mapM ρ with
    | some a, some b => some (.func fn a b, h, d)
    | _, _ => none
  | .makeSlice t l c =>
    match ρ l, ρ c with
    | some l, some c => (makeSliceA P t h l c).map fun (v, h) => (v, h, d)
    | _, _ => none
  | .slice t x lo hi mx =>
    match ρ x, lo.mapM ρ, hi.mapM ρ, mx.mapM ρ with
    | some x, some lo, some hi, some mx => (sliceA P t x lo hi mx).map (·, h, d)
    | _, _, _, _ => none
  | .fieldAddr t x f => match ρ x with | some v => (fieldAddrA P t v f).map (·, h, d) | none => none
  | .field t x f => match ρ x with | some v => (fieldA P t v f).map (·, h, d) | none => none
  | .indexAddr t x i => match ρ x, ρ i with | some x, some i => (indexAddrA P t x i).map (·, h, d) | _, _ => none
  | .index t x i => match ρ x, ρ i with | some x, some i => (indexA P t x i).map (·, h, d) | _, _ => none
  | .extract t i => match ρ t with | some (.tuple vs) => (vs[i]?).map (·, h, d) | _ => none
  | .call c =>
    match c.args.toList.mapM ρ with
    | some vs =>
      match c.callee with
      | .builtin b =>
        match b, c.argTypes.toList, vs with
        | .len, t :: _, x :: _ => (lenA P t x).map (·, h, d)
        | .min, _, vs => (minsA true vs).map (·, h, d)
        | .max, _, vs => (minsA false vs).map (·, h, d)
        | .append, ts, [x, y] =>
          (appendA P ts h x y).map fun (v, h', wr) => (v, h', d || wrDirty base wr)
        | _, _, _ => none
      | .value f =>
        match ρ f with
        | some (.func (.func g) first captured) => callF C call g (first ++ vs ++ captured) h d
        | _ => none
      | .invoke _ _ => none
    | none => none
  | _ => none

structure St where
  fr : List AV
  h : Heap
  d : Bool

def St.put (st : St) (dst : Option Tmp) (v : AV) : St :=
  match dst with
  | some t => { st with fr := st.fr.set t v }
  | none => st

/-- What an operation that is a guard said. -/
def yieldedA (ops : Array Oper) (fr : List AV) (j : Nat) : Option Bool :=
  match ((ops[j]?).bind (·.dst)).bind (fr[·]?) with
  | some (.bool b) => some b
  | _ => none

def stepOp (C : Cfg) (call : CallFn) (base : Nat) (ops : Array Oper) (o : Oper) (st : St) : Option St :=
  if Region.wanted o (yieldedA ops st.fr) then
    match evalOp C call base o (evalOperand st.fr) st.h st.d with
    | some (v, h, d) => some (St.put ⟨st.fr, h, d⟩ o.dst v)
    | none => none
  else some (st.put o.dst .undef)

def evalOps (C : Cfg) (call : CallFn) (base : Nat) (ops : Array Oper) : List Oper → St → Option St
  | [], st => some st
  | o :: rest, st =>
    match stepOp C call base ops o st with
    | some st => evalOps C call base ops rest st
    | none => none

inductive Ex where
  | normal | ret
  | exit (id : Nat)

def iter (body : St → Option (Ex × St)) : Nat → St → Option (Ex × St)
  | 0, _ => none
  | n + 1, st =>
    match body st with
    | some (.normal, st) => iter body n st
    | r => r

def evalC (C : Cfg) (call : CallFn) (base n : Nat) : Code → St → Option (Ex × St)
  | .skip, st => some (.normal, st)
  | .label _, st => some (.normal, st)
  | .region _ ops _, st => (evalOps C call base ops ops.toList st).map (.normal, ·)
  | .seq a b, st =>
    match evalC C call base n a st with
    | some (.normal, st) => evalC C call base n b st
    | r => r
  | .cond c a b, st =>
    match evalOperand st.fr c with
    | some (.bool true) => evalC C call base n a st
    | some (.bool false) => evalC C call base n b st
    | _ => none
  | .block id body, st =>
    match evalC C call base n body st with
    | some (.exit i, st) => if i = id then some (.normal, st) else some (.exit i, st)
    | r => r
  | .loop body, st => iter (fun s => evalC C call base n body s) n st
  | .scope body, st => evalC C call base n body st
  | .exit id, st => some (.exit id, st)
  | .ret, st => some (.ret, st)
  | _, _ => none

def resultA (P : Program) (fr : List AV) (h : Heap) : ResultVar → Option AV
  | .tmp t => fr[t]?
  | .cell a t => match fr[a]? with | some v => loadA P t h v | none => none
def resultsA (P : Program) (rs : List ResultVar) (fr : List AV) (h : Heap) : Option AV :=
  match rs.mapM (resultA P fr h) with
  | some [v] => some v
  | some vs => some (.tuple vs)
  | none => none

def evalF (C : Cfg) : Nat → CallFn
  | 0, _, _, _ => none
  | k + 1, f, args, h =>
    if C.mode f = .no then none else
    match C.P.funcs[f]? with
    | none => none
    | some fn =>
      match fn.body with
      | none => none
      | some c =>
        match evalC C (evalF C k) h.length k c ⟨args ++ List.replicate (fn.ntmps - args.length) .undef, h, false⟩ with
        | some (.exit _, _) => none
        | some (_, st) =>
          match resultsA C.P fn.results.toList st.fr st.h with
          | some v => if !st.d && v.clean h.length then some (v, h, false) else some (v, st.h, st.d)
          | none => none
        | none => none

end Go.Proofs.Ytnifldbmflkmpaa.Ev
