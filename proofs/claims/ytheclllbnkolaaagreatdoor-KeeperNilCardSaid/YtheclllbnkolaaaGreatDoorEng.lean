import Derived.RangeFuncLeaves
import Derived.RecoverIn
import Derived.LoopNIn
import Derived.OrdersIn
namespace Go.Eng
open Go

/-! ### Finite maps from numbers -/
inductive T (α : Type) where
  | nil
  | node (l : T α) (v : Option α) (r : T α)

namespace T
variable {α : Type}
def get : T α → Nat → Option α
  | .nil, _ => none
  | .node l v r, n => cond (Nat.beq n 0) v (cond (Nat.beq (n % 2) 1) (get l (n / 2)) (get r (n / 2 - 1)))
def left : T α → T α | .nil => .nil | .node l _ _ => l
def right : T α → T α | .nil => .nil | .node _ _ r => r
def val : T α → Option α | .nil => none | .node _ v _ => v
def setF : Nat → T α → Nat → Option α → T α
  | 0, t, _, _ => t
  | k + 1, t, n, v => cond (Nat.beq n 0) (.node t.left v t.right)
      (cond (Nat.beq (n % 2) 1) (.node (setF k t.left (n / 2) v) t.val t.right) (.node t.left t.val (setF k t.right (n / 2 - 1) v)))
def set (t : T α) (n : Nat) (v : α) : T α := setF (n + 1) t n (some v)
def del (t : T α) (n : Nat) : T α := setF (n + 1) t n none
end T

/-! ### Abstract values and blocks -/
inductive Cap where
  | ex (n : Nat)
  | en (d : Nat)

inductive AV where
  | s (v : Value)
  | ptr (i off : Nat)
  | slc (i off len : Nat) (cap : Cap)
  | mp (i : Nat)
  | fn (f : Fn) (first captured : List AV)
  | yld (l : Nat)
  | ifc (t : TypeId) (v : AV)
  | agg (cs : List AV)
  | tup (cs : List AV)
  deriving Inhabited

abbrev Tm := T AV

structure ME where
  key : Value
  val : AV
  born : Nat

inductive AB where
  | cells (vs : List AV) (et : TypeId) (es : Nat) (open_ : Bool)
  | map (es : List ME) (clock : Nat)
  | iter (m : Option Nat) (since : Nat) (seen : List Nat) (stepped : Nat)
  | loop (state : LoopState) (pending : Option Code) (fn : FuncId) (n : Nat) (tm : Tm) (params : List Tmp) (assign body : Code) (defers : Nat)
  | dfr (taken : Bool)

abbrev H := T AB

structure Hp where
  h : H
  nx : Nat

inductive AD where
  | call (f : FuncId) (args : List AV)
  | mark (r : Nat)

/-- The program, its types and its functions by number. -/
structure Env where
  P : Program
  ty : T TypeInfo
  fn : T Func

def Env.inf (E : Env) (t : TypeId) : Option TypeInfo := E.ty.get t
def Env.und (E : Env) (t : TypeId) : Option TypeDesc :=
  match E.ty.get t with
  | some i => match i.desc with
    | .named _ u => match E.ty.get u with | some j => some j.desc | none => none
    | d => some d
  | none => none

/-! ### What needs no memory -/
def quiet (P : Program) {α : Type} : Sem α → Option α
  | .pure a => some a
  | .program k => quiet P (k P)
  | .mark _ k => quiet P k
  | _ => none

mutual
def toV : AV → Option Value
  | .s v => some v
  | .agg cs => (toVL cs).map fun l => .agg l.toArray
  | .tup cs => (toVL cs).map fun l => .tuple l.toArray
  | .ifc t v => (toV v).map (.iface t)
  | .fn f a b => match toVL a, toVL b with
    | some a, some b => some (.func f a.toArray b.toArray)
    | _, _ => none
  | _ => none
def toVL : List AV → Option (List Value)
  | [] => some []
  | x :: xs => match toV x, toVL xs with
    | some v, some vs => some (v :: vs)
    | _, _ => none
end

def cellsA : AV → List AV
  | .agg cs => cs
  | .s (.agg a) => a.toList.map .s
  | x => [x]

def asFn : AV → Option (AV ⊕ (FuncId × List AV × List AV))
  | .s (.func (.func f) a b) => some (.inr (f, a.toList.map .s, b.toList.map .s))
  | .fn (.func f) a b => some (.inr (f, a, b))
  | .yld l => some (.inl (.yld l))
  | _ => none

inductive Callee where
  | func (f : FuncId) (args : List AV)
  | round (l : Nat) (args : List AV)

inductive OR where
  | val (v : AV) (w : Hp)
  | skip (w : Hp)
  | call (c : Callee) (w : Hp)
  | dfr (d : AD) (w : Hp)
  | pick (l : List (AV × Hp))

def spl {α : Type} (off n : Nat) (l : List α) : List α := (l.drop off).take n

def putL {α : Type} : List α → Nat → List α → Option (List α)   -- old, at, new: all within
  | old, _, [] => some old
  | [], _, _ :: _ => none
  | _ :: os, 0, x :: xs => (putL os 0 xs).map (x :: ·)
  | o :: os, k + 1, xs => (putL os k xs).map (o :: ·)

section
variable (E : Env) (ρ : Operand → AV)

def szOf (t : TypeId) : Option Nat := (E.inf t).map (·.size)
def aggT (t : TypeId) : Option Bool := (E.und t).map fun d => d matches .struct _ | .array _ _
def zeroA (t : TypeId) : Option (List AV) := ((E.inf t).bind (·.zero)).map fun v => v.cells.toList.map .s

def natOf : AV → Option Nat
  | .s (.int _ (.ofNat n)) => some n
  | _ => none

def natO (d : Nat) : Option AV → Option Nat
  | none => some d
  | some x => natOf x

/-- The cells of n elements that a slice or a string hands over. -/
def elemsOf (w : Hp) (es n : Nat) : AV → Option (List AV)
  | .s (.slice none _ _) => some []
  | .s (.string s) => some ((s.data.toList.take n).map fun b => .s (.int .u8 b.toNat))
  | .slc i off len _ => match w.h.get i with
    | some (.cells vs _ _ _) => let l := spl off (n * es) vs; cond (Nat.beq l.length (n * es) && Nat.ble n len) (some l) none
    | _ => none
  | _ => none

def lenA : AV → Option Nat
  | .s (.slice none n _) => some n
  | .s (.string s) => some s.size
  | .slc _ _ n _ => some n
  | _ => none

def newCells (w : Hp) (vs : List AV) (et es : Nat) (o : Bool) : Nat × Hp := (w.nx, ⟨w.h.set w.nx (.cells vs et es o), w.nx + 1⟩)

/-- A value of one cell. -/
def oneA : AV → Bool
  | .agg _ | .tup _ => false
  | .s (.agg _) | .s (.tuple _) => false
  | _ => true

/-- A block of which all that its row holds is the slice's own has room for n elements. -/
def enOk (w : Hp) (i es n : Nat) : Bool :=
  match w.h.get i with
  | some (.cells vs _ bs true) => Nat.beq bs es && Nat.blt 0 es && Nat.ble (n * es) vs.length
  | _ => false

def writeA (w : Hp) (i off : Nat) (cs : List AV) : Option Hp :=
  match w.h.get i with
  | some (.cells vs et es op) => match cond (cs.all oneA) (putL vs off cs) none with
    | some vs' => some ⟨w.h.set i (.cells vs' et es op), w.nx⟩
    | none => none
  | _ => none

def appendNew (w : Hp) (cs : List AV) (et es n : Nat) : Option OR :=
  let r := newCells w cs et es true; some (.val (.slc r.1 0 n (.en 0)) r.2)

def appendIn (w : Hp) (i off es len need : Nat) (cap : Cap) (new : List AV) : Option OR :=
  (writeA w i (off + len * es) new).map fun w => .val (.slc i off need cap) w

def appendSlc (w : Hp) (et es : Nat) (i off len : Nat) (cap : Cap) (n : Nat) (old new : List AV) : Option OR :=
  match cap with
    | .ex c => cond (Nat.ble (len + n) c) (appendIn w i off es len (len + n) cap new) (appendNew w (old ++ new) et es (len + n))
    | .en d => cond (enOk w i es (len + n + d)) (appendIn w i off es len (len + n) cap new)
        (match w.h.get i with
         | some (.cells _ _ bs true) => cond (new.all oneA && Nat.beq bs es && Nat.ble off (d * es)) (appendNew ⟨w.h.del i, w.nx⟩ (old ++ new) et es (len + n)) none
         | _ => none)

def appendA (w : Hp) (t1 : TypeId) (t2 : TypeId) (s x : AV) : Option OR :=
  match E.und t1, E.und t2 with
  | some (.slice _), some (.int _) => none
  | some (.slice et), some _ => match szOf E et, lenA x, E.inf et, zeroA E et with
    | some es, some n, some inf, some z =>
      match s, elemsOf w es n x with
      | .s (.slice none 0 0), some new => cond (Nat.beq n 0) (some (.val s w)) (cond (Nat.ble (n * inf.bytes) 1048576 && Nat.ble n 1048576 && Nat.beq new.length (n * es) && Nat.beq z.length es) (appendNew w new et es n) none)
      | .slc i off len cap, some new => cond (Nat.beq n 0) (some (.val s w))
          (cond (Nat.ble ((len + n) * inf.bytes) 1048576 && Nat.ble (len + n) 1048576 && Nat.beq new.length (n * es) && Nat.beq z.length es) (match elemsOf w es len s with
            | some old => appendSlc w et es i off len cap n old new
            | none => none) none)
      | _, _ => none
    | _, _, _, _ => none
  | _, _ => none

def bytesOfA : List AV → Option (List UInt8)
  | [] => some []
  | .s (.int .u8 n) :: r => (bytesOfA r).map (UInt8.ofNat n.toNat :: ·)
  | _ => none

def keyEq (kt : TypeId) (a b : Value) : Option Bool :=
  match E.und kt, a, b with
  | some (.string), .string x, .string y => some (x == y)
  | some (.int _), .int k x, .int k' y => cond (decide (k = k')) (some (x == y)) none
  | some (.bool), .bool x, .bool y => some (x == y)
  | some (.struct _), _, _ => quiet E.P (Op.equal kt a b)
  | _, _, _ => none

def findA (kt : TypeId) (k : Value) : List ME → Nat → Option (Option (Nat × AV))
  | [], _ => (E.und kt).map fun _ => none
  | e :: es, i => match keyEq E kt k e.key with
    | some true => some (some (i, e.val))
    | some false => findA kt k es (i + 1)
    | none => none

def setVal (k : Value) (v : AV) : List ME → Nat → List ME
  | [], _ => []
  | e :: es, 0 => { e with key := k, val := v } :: es
  | e :: es, i + 1 => e :: setVal k v es i

def eraseAt {α : Type} : List α → Nat → List α
  | [], _ => []
  | _ :: es, 0 => es
  | e :: es, i + 1 => e :: eraseAt es i

def mapOf (w : Hp) : AV → Option (List ME)
  | .s (.map none) => some []
  | .mp i => match w.h.get i with | some (.map es _) => some es | _ => none
  | _ => none

def ptrEq (w : Hp) (i o j o' : Nat) : Option Bool :=
  cond (Nat.beq i j) (some (Nat.beq o o')) (match w.h.get i, w.h.get j with
    | some (.cells _ _ _ false), some (.cells _ _ _ false) => some false
    | _, _ => none)

def isNilA : AV → Bool
  | .s (.pointer none) | .s (.slice none _ _) | .s (.map none) | .s .nilFunc | .s .nilIface => true
  | _ => false

/-- A type's kind against a value that leads to memory, the other side nil. -/
def memA (d : TypeDesc) (x y : AV) : Bool :=
  match d, x, y with
  | .pointer _, .ptr _ _, .s (.pointer none) => true
  | .slice _, .slc _ _ _ _, .s (.slice none _ _) => true
  | .map _ _, .mp _, .s (.map none) => true
  | .func _ _ _, .fn _ _ _, .s .nilFunc => true
  | .interface _, .ifc _ _, .s .nilIface => true
  | _, _, _ => false

def ptrEqT (w : Hp) (t : TypeId) (x y : AV) : Option Bool :=
  match E.und t, x, y with
  | some (.pointer e), .ptr i o, .ptr j o' => match szOf E e with
    | some (_ + 1) => ptrEq w i o j o'
    | _ => none
  | _, _, _ => none

/-- x == y where one of them leads to memory. -/
def eqA (w : Hp) (t : TypeId) (x y : AV) : Option Bool :=
  match E.und t with
  | some d => cond (memA d x y || memA d y x) (some false)
      (match d, x, y with
       | .interface _, .ifc a u, .ifc b v => cond (Nat.beq a b) (match E.inf a with
          | some inf => cond inf.comparable (ptrEqT E w a u v) none
          | none => none) (some false)
       | .interface _, .ifc a _, .s (.iface b _) => cond (Nat.beq a b) none (some false)
       | .interface _, .s (.iface b _), .ifc a _ => cond (Nat.beq a b) none (some false)
       | .pointer _, .ptr _ _, .ptr _ _ => ptrEqT E w t x y
       | _, _, _ => none)
  | none => none

def ifcOf : AV → Option (TypeId × AV)
  | .ifc t v => some (t, v)
  | .s (.iface t v) => some (t, .s v)
  | _ => none

def methodA (t : TypeId) (name : String) : Option Method := (E.inf t).bind fun i => i.methods.find? (·.name == name)

def readA (w : Hp) (t : TypeId) (i off : Nat) : Option AV :=
  match w.h.get i, aggT E t, szOf E t with
  | some (.cells vs _ _ _), some true, some n => let l := spl off n vs; cond (Nat.beq l.length n) (some (.agg l)) none
  | some (.cells vs _ _ _), some false, _ => vs[off]?
  | _, _, _ => none

/-- The method behind an interface value, and its receiver: declared at the type itself, or one pointer's field away. -/
def recvA (w : Hp) (t : TypeId) (v : AV) (name : String) : Option (FuncId × AV) :=
  match methodA E t name with
  | none => none
  | some m => match m.func with
    | none => none
    | some (f, byPtr) => match m.path.toList with
      | [] => match E.und t with
        | some (.pointer _) => cond byPtr (some (f, v)) none
        | some (.struct _) => cond byPtr none (some (f, v))
        | _ => none
      | [st] => match st.deref, v, E.und st.struct with
        | true, .ptr i off, some (.struct fields) => match fields[st.index]? with
          | some fd => match szOf E fd.type, E.und fd.type with
            | some 0, _ => none
            | some _, some (.struct _) => cond byPtr (some (f, .ptr i (off + fd.offset)))
                (match readA E w fd.type i (off + fd.offset) with
                 | some r => some (f, r)
                 | none => none)
            | _, _ => none
          | none => none
        | _, _, _ => none
      | _ => none

/-- Is there surely a receiver behind it that is no nil pointer? -/
def notNilA (t : TypeId) (v : AV) (name : String) : Bool :=
  match methodA E t name with
  | some m => match m.path.toList, m.func, E.und t, v with
    | [], some (_, true), _, _ => true
    | [], some (_, false), some (.struct _), _ => true
    | _, _, _, _ => false
  | none => false

def boolA (b : Bool) : AV := .s (.bool b)

def fillA (places : List (Nat × Nat)) (cells : List AV) : List (Nat × AV) → Option (List AV)
  | [] => some cells
  | (i, v) :: rest => match places[i]? with
    | none => none
    | some (off, size) => let cs := cellsA v; cond (Nat.beq cs.length size && Nat.ble (off + size) cells.length) (match putL cells off cs with | some c => fillA places c rest | none => none) none

def placesOf : List Field → Option (List (Nat × Nat))
  | [] => some []
  | f :: fs => match szOf E f.type, placesOf fs with
    | some s, some r => some ((f.offset, s) :: r)
    | _, _ => none

def repl {α : Type} (l : List α) : Nat → List α
  | 0 => []
  | n + 1 => l ++ repl l n

/-! One operation at a time. -/
def opPick (c a b : AV) (w : Hp) : Option OR :=
  match c with
  | .s (.bool true) => some (.val a w)
  | .s (.bool false) => some (.val b w)
  | _ => none

def opAlloc (w : Hp) (et : TypeId) : Option OR :=
  match zeroA E et, szOf E et with
  | some z, some es => let r := newCells w z et es false; some (.val (.ptr r.1 0) r.2)
  | _, _ => none

def opBox (w : Hp) (et : TypeId) (x : AV) : Option OR :=
  match szOf E et with
  | some es => let r := newCells w (cellsA x) et es false; some (.val (.ptr r.1 0) r.2)
  | none => none

def partsA (parts : Array (Nat × Operand)) : List (Nat × AV) := parts.toList.map fun p => (p.1, ρ p.2)

def opBuild (w : Hp) (t : TypeId) (parts : Array (Nat × Operand)) : Option OR :=
  match zeroA E t, E.und t with
  | some z, some (.struct fields) => match placesOf E fields.toList with
    | some pl => (fillA pl z (partsA ρ parts)).map fun cs => .val (.agg cs) w
    | none => none
  | some z, some (.array n et) => match szOf E et with
    | some es => (fillA ((List.range n).map fun i => (i * es, es)) z (partsA ρ parts)).map fun cs => .val (.agg cs) w
    | none => none
  | _, _ => none

def opBuildSlice (w : Hp) (t : TypeId) (len : Nat) (parts : Array (Nat × Operand)) : Option OR :=
  match E.und t with
  | some (.slice et) => match szOf E et, zeroA E et with
    | some es, some z => cond (Nat.beq z.length es && Nat.ble (len * es) 16777216) (match fillA ((List.range len).map fun i => (i * es, es)) (repl z len) (partsA ρ parts) with
      | some cs => let r := newCells w cs et es false; some (.val (.slc r.1 0 len (.ex len)) r.2)
      | none => none) none
    | _, _ => none
  | _ => none

def opLoad (w : Hp) (t : TypeId) (a : AV) : Option OR :=
  match a with
  | .ptr i off => (readA E w t i off).map (.val · w)
  | _ => none

def opStore (w : Hp) (t : TypeId) (a x : AV) : Option OR :=
  match a, szOf E t with
  | .ptr i off, some n => let cs := cellsA x
    cond (Nat.beq cs.length n) ((writeA w i off cs).map .skip) none
  | _, _ => none

def opNil (w : Hp) (x : AV) : Option OR :=
  match x with
  | .ptr _ _ => some (.val x w)
  | .fn (.func _) _ _ => some (.val x w)
  | .fn (.method name) (r :: _) _ => match ifcOf r with
    | some (t, v) => cond (notNilA E t v name) (some (.val x w)) none
    | none => none
  | .yld _ => some (.val x w)
  | .ifc _ _ => some (.val x w)
  | _ => none

def intBin (op : BinOp) (k : IntKind) (a b : Int) : Option Value :=
  match op with
  | .add => some (.int k (k.wrap (a + b)))
  | .sub => some (.int k (k.wrap (a - b)))
  | .mul => some (.int k (k.wrap (a * b)))
  | .eql => some (.bool (a == b))
  | .neq => some (.bool (a != b))
  | .lss => some (.bool (decide (a < b)))
  | .leq => some (.bool (decide (a ≤ b)))
  | .gtr => some (.bool (decide (a > b)))
  | .geq => some (.bool (decide (a ≥ b)))
  | _ => none

def binQ (op : BinOp) (t : TypeId) (x y : Operand) (a b : Value) : Option Value :=
  quiet E.P (do eqGuard op t x y a b; binOp op t a b)

def binS (op : BinOp) (t : TypeId) (x y : Operand) (a b : Value) : Option Value :=
  match op, a, b with
  | .shl, _, _ | .shr, _, _ => binQ E op t x y a b
  | _, .int k m, .int l n => cond (decide (k = l)) (match intBin op k m n with | some v => some v | none => binQ E op t x y a b) none
  | _, _, _ => binQ E op t x y a b

def binM (w : Hp) (t : TypeId) (op : BinOp) (x y : AV) : Option AV :=
  match op with
  | .eql => (eqA E w t x y).map boolA
  | .neq => (eqA E w t x y).map fun b => boolA (!b)
  | _ => none

def opBin (w : Hp) (op : BinOp) (t : TypeId) (x y : Operand) (a b : AV) : Option OR :=
  match a, b with
  | .s u, .s v => (binS E op t x y u v).map fun v => .val (.s v) w
  | _, _ => match toV a, toV b with
    | some u, some v => (binQ E op t x y u v).map fun v => .val (.s v) w
    | _, _ => (binM E w t op a b).map (.val · w)

def opUn (w : Hp) (op : UnOp) (x : AV) : Option OR :=
  match x with
  | .s v => (quiet E.P (Op.unary op v)).map fun v => .val (.s v) w
  | _ => none

def opConvert (w : Hp) (src dst : TypeId) (x : AV) : Option OR :=
  match x with
  | .slc i off len cap => match E.und src, E.und dst with
    | some (.slice e), some .string => match E.und e, elemsOf w 1 len (.slc i off len cap) with
      | some (.int .u8), some l => (bytesOfA l).map fun bs => .val (.s (.string ⟨bs.toArray⟩)) w
      | _, _ => none
    | _, _ => none
  | .s (.string s) => match E.und src, E.und dst with
    | some _, some (.slice e) => match E.und e with
      | some (.int .u8) => let r := newCells w (s.data.toList.map fun b => .s (.int .u8 b.toNat)) e 1 true; some (.val (.slc r.1 0 s.size (.en 0)) r.2)
      | _ => none
    | some _, some .string => some (.val x w)
    | _, _ => none
  | .s (.int k n) => match E.und src, E.und dst with
    | some _, some (.int d) => some (.val (.s (.int d (d.wrap n))) w)
    | _, _ => (quiet E.P (convert src dst (.int k n))).map fun v => .val (.s v) w
  | .s v => (quiet E.P (convert src dst v)).map fun v => .val (.s v) w
  | _ => none

def opMakeIface (w : Hp) (t : TypeId) (x : AV) : Option OR :=
  match E.und t with
  | some (.interface _) => none
  | some _ => match toV x with
    | some v => some (.val (.s (.iface t v)) w)
    | none => some (.val (.ifc t x) w)
  | none => none

def opMakeFunc (w : Hp) (f : Fn) (first captured : List AV) : Option OR :=
  match f with
  | .func _ | .method _ => some (.val (.fn f first captured) w)
  | _ => none

def newMap (w : Hp) : Option OR := some (.val (.mp w.nx) ⟨w.h.set w.nx (.map [] 0), w.nx + 1⟩)

def opMakeMap (w : Hp) (t : TypeId) (r : Option AV) : Option OR :=
  match r with
  | none => newMap w
  | some r => match E.und t, r with
    | some (.map _ _), .s (.int _ _) => newMap w
    | _, _ => none

def opMakeSlice (w : Hp) (t : TypeId) (l c : AV) : Option OR :=
  match E.und t, natOf l, natOf c with
  | some (.slice et), some len, some cap => match szOf E et, zeroA E et, E.inf et with
    | some es, some z, some inf => cond (Nat.beq z.length es && Nat.ble len cap && Nat.ble (cap * inf.bytes) 1048576 && Nat.ble cap 1048576)
        (let r := newCells w (repl z cap) et es false; some (.val (.slc r.1 0 len (.ex cap)) r.2)) none
    | _, _, _ => none
  | _, _, _ => none

def cutEx (w : Hp) (i off es l h m c : Nat) : Option OR :=
  cond (Nat.ble l h && Nat.ble h m && Nat.ble m c) (some (.val (.slc i (off + l * es) (h - l) (.ex (m - l))) w)) none

def opSlice (w : Hp) (t : TypeId) (x : AV) (lo hi mx : Option AV) : Option OR :=
  match x with
  | .slc i off len cap => match E.und t with
    | some (.slice et) => match szOf E et with
      | some es =>
        match natO 0 lo, natO len hi, mx with
        | some l, some h, none => (match cap with
          | .ex c => cutEx w i off es l h c c
          | .en d => cond (Nat.ble l h && enOk w i es (h + d)) (some (.val (.slc i (off + l * es) (h - l) (.en (d + l))) w)) none)
        | some l, some h, some m => cond hi.isSome (match natOf m with
          | some m => (match cap with
            | .ex c => cutEx w i off es l h m c
            | .en d => cond (enOk w i es (m + d)) (cutEx w i off es l h m m) none)
          | none => none) none
        | _, _, _ => none
      | none => none
    | _ => none
  | .ptr i off => match E.und t with
    | some (.array n et) => match szOf E et with
      | some es => match natO 0 lo, natO n hi, mx with
        | some l, some h, none => cutEx w i off es l h n n
        | _, _, _ => none
      | none => none
    | _ => none
  | .s (.string s) => match E.und t, natO 0 lo, natO s.size hi, mx with
    | some .string, some l, some h, none => cond (Nat.ble l h && Nat.ble h s.size) (some (.val (.s (.string (s.extract l h))) w)) none
    | _, _, _, _ => none
  | .s (.slice none 0 0) => match E.und t, natO 0 lo, natO 0 hi, natO 0 mx with
    | some (.slice et), some 0, some 0, some 0 => cond (mx.isNone || hi.isSome) (match szOf E et with
      | some _ => some (.val x w)
      | none => none) none
    | _, _, _, _ => none
  | _ => none

def opFieldAddr (w : Hp) (t : TypeId) (x : AV) (f : Nat) : Option OR :=
  match x, E.und t with
  | .ptr i off, some (.struct fields) => match fields.toList[f]? with
    | some f => match szOf E f.type with
      | some 0 => none
      | some _ => some (.val (.ptr i (off + f.offset)) w)
      | none => none
    | none => none
  | _, _ => none

def partA (t : TypeId) (cs : List AV) (off : Nat) : Option AV :=
  match aggT E t, szOf E t with
  | some true, some n => let l := spl off n cs; cond (Nat.beq l.length n) (some (.agg l)) none
  | some false, _ => cs[off]?
  | _, _ => none

def aggOf : AV → Option (List AV)
  | .agg cs => some cs
  | .s (.agg a) => some (a.toList.map .s)
  | _ => none

def opField (w : Hp) (t : TypeId) (x : AV) (f : Nat) : Option OR :=
  match aggOf x, E.und t with
  | some cs, some (.struct fields) => match fields.toList[f]? with
    | some f => (partA E f.type cs f.offset).map (.val · w)
    | none => none
  | _, _ => none

def opIndexAddr (w : Hp) (t : TypeId) (x ix : AV) : Option OR :=
  match E.und t, x, natOf ix with
  | some (.array n et), .ptr i off, some k => match szOf E et with
    | some es => cond (Nat.blt k n) (some (.val (.ptr i (off + k * es)) w)) none
    | none => none
  | some (.slice et), .slc i off len _, some k => match szOf E et with
    | some es => cond (Nat.blt k len) (some (.val (.ptr i (off + k * es)) w)) none
    | none => none
  | _, _, _ => none

def opIndex (w : Hp) (t : TypeId) (x ix : AV) : Option OR :=
  match x, E.und t, natOf ix with
  | .s (.string s), some .string, some k => match s.data.toList[k]? with
    | some b => some (.val (.s (.int .u8 b.toNat)) w)
    | none => none
  | x, some (.array n et), some k => match aggOf x, szOf E et with
    | some cs, some es => cond (Nat.blt k n) ((partA E et cs (k * es)).map (.val · w)) none
    | _, _ => none
  | _, _, _ => none

def zeroOf (t : TypeId) : Option AV := ((E.inf t).bind (·.zero)).map .s

def opLookup (w : Hp) (t : TypeId) (x ix : AV) (ok : Bool) : Option OR :=
  match E.und t, mapOf w x, toV ix with
  | some (.map kt et), some es, some k => match quiet E.P (Instr.checkKey es.isEmpty 10000 kt k), findA E kt k es 0 with
    | some _, some (some (_, v)) => some (.val (cond ok (.tup [v, boolA true]) v) w)
    | some _, some none => (zeroOf E et).map fun zv => .val (cond ok (.tup [zv, boolA false]) zv) w
    | _, _ => none
  | _, _, _ => none

def opMapUpdate (w : Hp) (t : TypeId) (m k x : AV) : Option OR :=
  match E.und t, m, toV k with
  | some (.map kt _), .mp i, some k => match w.h.get i with
    | some (.map es clock) => match quiet E.P (Instr.checkKey false 10000 kt k), findA E kt k es 0 with
      | some _, some (some (j, _)) =>
        match (es[j]?).map (·.key) with
        | some old => cond (Instr.sameBits 10000 old k) (some (.skip ⟨w.h.set i (.map (setVal k x es j) clock), w.nx⟩)) none
        | none => none
      | some _, some none => some (.skip ⟨w.h.set i (.map (es ++ [{ key := k, val := x, born := clock }]) (clock + 1)), w.nx⟩)
      | _, _ => none
    | _ => none
  | _, _, _ => none

def opRange (w : Hp) (t : TypeId) (x : AV) : Option OR :=
  match E.und t, x with
  | some (.map _ _), .s (.map none) => some (.val (.ptr w.nx 0) ⟨w.h.set w.nx (.iter none 0 [] 0), w.nx + 1⟩)
  | some (.map _ _), .mp i => match w.h.get i with
    | some (.map _ clock) => some (.val (.ptr w.nx 0) ⟨w.h.set w.nx (.iter (some i) clock [] clock), w.nx + 1⟩)
    | _ => none
  | _, _ => none

def opNext (w : Hp) (x : AV) : Option OR :=
  match x with
  | .ptr r 0 => match w.h.get r with
    | some (.iter none _ _ _) => some (.val (.s (.tuple #[.bool false])) w)
    | some (.iter (some m) since seen last) => match w.h.get m with
      | some (.map es clock) =>
        cond (!seen.isEmpty && !es.isEmpty && es.all (fun e => Nat.ble last e.born)) none
        (let left := es.filter fun e => !seen.contains e.born
         let old := left.filter fun e => Nat.blt e.born since
         let new := left.filter fun e => Nat.ble since e.born
         let tk (e : ME) : AV × Hp := (.tup [boolA true, .s e.key, e.val], ⟨w.h.set r (.iter (some m) since (seen ++ [e.born]) clock), w.nx⟩)
         some (.pick ((cond old.isEmpty [(.s (.tuple #[.bool false]), w)] []) ++ (old ++ new).map tk)))
      | _ => none
    | _ => none
  | _ => none

def opEntry (w : Hp) (x : AV) : Option OR :=
  match x with
  | .ptr r 0 => match w.h.get r with
    | some (.iter (some m) _ seen stepped) => match w.h.get m, seen.getLast? with
      | some (.map es clock), some stamp => cond (Nat.beq clock stepped) (match es.find? (fun e => Nat.beq e.born stamp) with
        | some e => some (.val (.tup [.s e.key, e.val]) w)
        | none => none) none
      | _, _ => none
    | _ => none
  | _ => none

def opAssert (w : Hp) (asserted : TypeId) (ok : Bool) (x : AV) : Option OR :=
  match ifcOf x with
  | some (t, v) => match E.und asserted with
    | some (.interface want) => match E.inf t with
      | some inf => match Instr.missingMethod want inf.methods with
        | none => some (.val (cond ok (.tup [x, boolA true]) x) w)
        | some _ => none
      | none => none
    | some _ => cond (Nat.beq t asserted) (some (.val (cond ok (.tup [v, boolA true]) v) w))
        (cond ok ((zeroOf E asserted).map fun zv => .val (.tup [zv, boolA false]) w) none)
    | none => none
  | none => match x with
    | .s .nilIface => match E.und asserted with
      | some _ => cond ok ((zeroOf E asserted).map fun zv => .val (.tup [zv, boolA false]) w) none
      | none => none
    | _ => none

def opExtract (w : Hp) (x : AV) (ix : Nat) : Option OR :=
  match x with
  | .tup cs => (cs[ix]?).map (.val · w)
  | .s (.tuple a) => (a.toList[ix]?).map fun v => .val (.s v) w
  | _ => none

def opLen (w : Hp) (t : TypeId) (x : AV) : Option OR :=
  match x, E.und t with
  | .s (.string s), some .string => some (.val (.s (goInt s.size)) w)
  | .slc _ _ n _, some (.slice _) => some (.val (.s (goInt n)) w)
  | .s (.slice none n _), some (.slice _) => some (.val (.s (goInt n)) w)
  | .mp i, some (.map _ _) => match w.h.get i with | some (.map es _) => some (.val (.s (goInt es.length)) w) | _ => none
  | .s (.map none), some (.map _ _) => some (.val (.s (goInt 0)) w)
  | _, some (.array n _) => some (.val (.s (goInt n)) w)
  | _, _ => none

def opCap (w : Hp) (t : TypeId) (x : AV) : Option OR :=
  match x, E.und t with
  | .slc _ _ _ (.ex n), some (.slice _) => some (.val (.s (goInt n)) w)
  | .s (.slice none _ n), some (.slice _) => some (.val (.s (goInt n)) w)
  | _, _ => none

def opCopy (w : Hp) (t : TypeId) (d x : AV) : Option OR :=
  match E.und t, lenA d, lenA x with
  | some (.slice et), some dn, some xn => match szOf E et with
    | some es =>
      let n := Nat.min xn dn
      match elemsOf w es n x, d with
      | some cs, .slc i off _ _ => cond (Nat.beq n 0) (some (.val (.s (goInt 0)) w)) ((writeA w i off cs).map fun w => .val (.s (goInt n)) w)
      | some _, .s (.slice none _ _) => some (.val (.s (goInt n)) w)
      | _, _ => none
    | none => none
  | _, _, _ => none

def opDelete (w : Hp) (t : TypeId) (m k : AV) : Option OR :=
  match E.und t, m, toV k with
  | some (.map kt _), .mp i, some k => match w.h.get i with
    | some (.map es clock) => match quiet E.P (Instr.checkKey es.isEmpty 10000 kt k), findA E kt k es 0 with
      | some _, some (some (j, _)) => some (.val (.s (.tuple #[])) ⟨w.h.set i (.map (eraseAt es j) clock), w.nx⟩)
      | some _, some none => some (.val (.s (.tuple #[])) w)
      | _, _ => none
    | _ => none
  | _, _, _ => none

def opClear (w : Hp) (t : TypeId) (x : AV) : Option OR :=
  match E.und t, x with
  | some (.map _ _), .mp i => match w.h.get i with
    | some (.map _ clock) => some (.val (.s (.tuple #[])) ⟨w.h.set i (.map [] clock), w.nx⟩)
    | _ => none
  | some (.slice et), .slc i off len _ => cond (Nat.beq len 0) (some (.val (.s (.tuple #[])) w)) (match zeroA E et with
    | some z => (writeA w i off (repl z len)).map fun w => .val (.s (.tuple #[])) w
    | none => none)
  | some (.slice _), .s (.slice none _ _) => some (.val (.s (.tuple #[])) w)
  | _, _ => none

def min2A (mx : Bool) : Value → Value → Option Value
  | .int k a, .int _ b => some (.int k (cond mx (if b > a then b else a) (if b < a then b else a)))
  | _, _ => none

def minsA (mx : Bool) : Value → List AV → Option Value
  | a, [] => some a
  | a, .s b :: r => match min2A mx a b with | some c => minsA mx c r | none => none
  | _, _ => none

def opMin (w : Hp) (mx : Bool) (l : List AV) : Option OR :=
  match l with
  | .s (.int k a) :: r => (minsA mx (.int k a) r).map fun v => .val (.s v) w
  | _ => none

def opBuiltin (w : Hp) (b : Builtin) (ts : List TypeId) (args : List AV) : Option OR :=
  match b with
  | .append => match ts, args with | [t1, t2], [s, x] => appendA E w t1 t2 s x | _, _ => none
  | .len => match ts, args with | [t], [x] => opLen E w t x | _, _ => none
  | .cap => match ts, args with | [t], [x] => opCap E w t x | _, _ => none
  | .copy => match ts, args with | [t, _], [d, x] => opCopy E w t d x | _, _ => none
  | .delete => match ts, args with | [t, _], [m, k] => opDelete E w t m k | _, _ => none
  | .clear => match ts, args with | [t], [x] => opClear E w t x | _, _ => none
  | .min => opMin w false args
  | .max => opMin w true args
  | _ => none

def opCallV (w : Hp) (f : AV) (args : List AV) : Option OR :=
  match asFn f with
  | some (.inr (f, first, cap)) => some (.call (.func f (first ++ args ++ cap)) w)
  | some (.inl (.yld l)) => some (.call (.round l args) w)
  | _ => none

def opInvoke (w : Hp) (r : AV) (name : String) (args : List AV) : Option OR :=
  match ifcOf r with
  | some (t, v) => match recvA E w t v name with
    | some (f, v) => some (.call (.func f (v :: args)) w)
    | none => none
  | none => none

def opCall (w : Hp) (c : Call) : Option OR :=
  match c.callee with
  | .value f => opCallV w (ρ f) (c.args.toList.map ρ)
  | .builtin b => opBuiltin E w b c.argTypes.toList (c.args.toList.map ρ)
  | .invoke r name => opInvoke E w (ρ r) name (c.args.toList.map ρ)

def opDefer (w : Hp) (c : Call) : Option OR :=
  match c.callee with
  | .value f => match asFn (ρ f) with
    | some (.inr (f, first, cap)) => some (.dfr (.call f (first ++ c.args.toList.map ρ ++ cap)) w)
    | _ => none
  | _ => none

def opA (w : Hp) (o : Oper) : Option OR :=
  match o.op with
  | .move x => some (.val (ρ x) w)
  | .assign x => some (.val (ρ x) w)
  | .pick c a b => opPick (ρ c) (ρ a) (ρ b) w
  | .alloc et => opAlloc E w et
  | .box et x => opBox E w et (ρ x)
  | .build t parts => opBuild E ρ w t parts
  | .buildSlice t len parts => opBuildSlice E ρ w t len parts
  | .load t a => opLoad E w t (ρ a)
  | .store t a x => opStore E w t (ρ a) (ρ x)
  | .nilCheck x => opNil E w (ρ x)
  | .binOp op t x y _ => opBin E w op t x y (ρ x) (ρ y)
  | .unOp op _ x => opUn E w op (ρ x)
  | .convert src dst x => opConvert E w src dst (ρ x)
  | .makeInterface t x => opMakeIface E w t (ρ x)
  | .makeFunc f first captured => opMakeFunc w f (first.toList.map ρ) (captured.toList.map ρ)
  | .makeMap t r => opMakeMap E w t (r.map ρ)
  | .makeSlice t l c => opMakeSlice E w t (ρ l) (ρ c)
  | .slice t x lo hi mx => opSlice E w t (ρ x) (lo.map ρ) (hi.map ρ) (mx.map ρ)
  | .fieldAddr t x f => opFieldAddr E w t (ρ x) f
  | .field t x f => opField E w t (ρ x) f
  | .indexAddr t x ix => opIndexAddr E w t (ρ x) (ρ ix)
  | .index t x ix => opIndex E w t (ρ x) (ρ ix)
  | .lookup t x ix ok => opLookup E w t (ρ x) (ρ ix) ok
  | .mapUpdate t m k x => opMapUpdate E w t (ρ m) (ρ k) (ρ x)
  | .insert t m k x => opMapUpdate E w t (ρ m) (ρ k) (ρ x)
  | .range t x => opRange E w t (ρ x)
  | .next x false => opNext w (ρ x)
  | .entry x => opEntry w (ρ x)
  | .typeAssert x _ asserted ok => opAssert E w asserted ok (ρ x)
  | .extract x ix => opExtract w (ρ x) ix
  | .call c => opCall E ρ w c
  | .defer c => opDefer ρ w c
  | _ => none
end

/-! ### Frames -/
structure Fr where
  n : Nat
  tm : Tm
  df : List AD
  rnd : Bool

def Fr.ρ (f : Fr) : Operand → AV
  | .tmp t => (f.tm.get t).getD (.s undef)
  | .const v => .s v
  | .global g => .s (.pointer (some ⟨g, 0, none⟩))
  | .func f => .s (.func (.func f) #[] #[])

def Fr.put (f : Fr) (d : Option Tmp) (v : AV) : Option Fr :=
  match d with
  | none => some f
  | some d => cond (Nat.blt d f.n) (some { f with tm := f.tm.set d v }) none

def nthOp : List Oper → Nat → Option Oper
  | [], _ => none
  | o :: _, 0 => some o
  | _ :: os, i + 1 => nthOp os i

/-- Is the operation wanted? -/
def wantedA (ops : List Oper) (f : Fr) (o : Oper) : Option Bool :=
  match o.guard with
  | none => some true
  | some (j, want) => match (nthOp ops j).bind (·.dst) with
    | none => none
    | some d => match (f.tm.get d).getD (.s undef) with
      | .s (.bool b) => some (b == want)
      | .s (.tuple _) => some false
      | _ => none

abbrev CallF := Callee → Hp → Option (List (AV × Hp))

def put1 (f : Fr) (d : Option Tmp) (v : AV) (w : Hp) : Option (List (Fr × Hp)) :=
  match f.put d v with | some f => some [(f, w)] | none => none

def putAll (f : Fr) (d : Option Tmp) : List (AV × Hp) → Option (List (Fr × Hp))
  | [] => some []
  | x :: xs => match f.put d x.1, putAll f d xs with
    | some g, some r => some ((g, x.2) :: r)
    | _, _ => none

def outA (call : CallF) (f : Fr) (d : Option Tmp) (r : OR) : Option (List (Fr × Hp)) :=
  match r with
  | .val v w => put1 f d v w
  | .skip w => put1 f d (.s undef) w
  | .dfr x w => cond f.rnd none (match f.put d (.s undef) with | some f => some [({ f with df := x :: f.df }, w)] | none => none)
  | .call c w => match call c w with | some l => putAll f d l | none => none
  | .pick l => putAll f d l

/-- One operation, carried out or passed over. -/
def stepA (E : Env) (call : CallF) (ops : List Oper) (o : Oper) (f : Fr) (w : Hp) : Option (List (Fr × Hp)) :=
  match wantedA ops f o with
  | none => none
  | some false => put1 f o.dst (.s undef) w
  | some true => match opA E f.ρ w o with
    | some r => outA call f o.dst r
    | none => none

def bindL {α β : Type} (k : α → Option (List β)) : List α → Option (List β)
  | [] => some []
  | x :: xs => match k x, bindL k xs with
    | some a, some b => some (a ++ b)
    | _, _ => none

def seqA (E : Env) (call : CallF) (all : List Oper) : List Oper → Fr → Hp → Option (List (Fr × Hp))
  | [], f, w => some [(f, w)]
  | o :: os, f, w => match stepA E call all o f w with
    | some l => bindL (fun x => seqA E call all os x.1 x.2) l
    | none => none

/-! ### A region that draws its order -/
def isW : Op → Bool
  | .store .. | .mapUpdate .. | .insert .. | .range .. | .next .. | .defer _ => true
  | .call c => match c.callee with
    | .builtin b => match b with
      | .len | .cap | .min | .max => false
      | _ => true
    | _ => true
  | _ => false
def isA (E : Env) : Op → Bool
  | .alloc _ | .box .. | .buildSlice .. | .makeSlice .. | .makeMap .. => true
  | .convert _ d _ => match E.und d with | some (.slice _) => true | _ => false
  | _ => false
/-- What comes before an operation, as a number's bits. -/
def maskOf (ms : T Nat) (i : Nat) : List Edge → Nat → Option Nat
  | [], s => some s
  | e :: r, s => cond (Region.binds .any e) (cond (Nat.blt e.on i) (maskOf ms i r (s ||| (2 ^ e.on ||| (ms.get e.on).getD 0))) none) (maskOf ms i r s)

def maskT : List Oper → Nat → T Nat → Option (T Nat)
  | [], _, ms => some ms
  | o :: os, i, ms => match maskOf ms i o.after.toList 0 with
    | some m => maskT os (i + 1) (ms.set i m)
    | none => none

def mkAt (ms : T Nat) (i : Nat) : Nat := (ms.get i).getD 0

/-- The places of those that act, in the text's order. -/
def actors : List Oper → Nat → List Nat
  | [], _ => []
  | o :: os, i => cond (isW o.op) (i :: actors os (i + 1)) (actors os (i + 1))

/-- Each of them has all that come earlier ahead of it. -/
def chainOk (ms : T Nat) : List Nat → Bool
  | [] => true
  | i :: r => r.all (fun j => (mkAt ms j).testBit i) && chainOk ms r

def looksL (all : List Oper) (o : Oper) : List Tmp :=
  (o.op.operands.toList.filterMap fun | .tmp t => some t | _ => none) ++
  (match o.guard with
   | some (g, _) => ((nthOp all g).bind (·.dst)).toList
   | none => [])

/-- No two write one temporary; who reads it is ordered with who writes it. -/
def writesOk (all : List Oper) (ms : T Nat) : Bool :=
  all.zipIdx.all fun x => match x.1.dst with
    | none => true
    | some t => all.zipIdx.all fun y => (Nat.beq x.2 y.2 || y.1.dst != some t) &&
        (!(looksL all y.1).contains t || (mkAt ms y.2).testBit x.2 || (mkAt ms x.2).testBit y.2)

def okRegion (all : List Oper) : Bool :=
  match maskT all 0 .nil with
  | some ms => chainOk ms (actors all 0) && writesOk all ms
  | none => false

def goodC : Code → Bool
  | .region _ ops true => okRegion ops.toList
  | .seq a b => goodC a && goodC b
  | .cond _ a b => goodC a && goodC b
  | .block _ b => goodC b
  | .loop b => goodC b
  | .rangeFunc _ _ a b => goodC a && goodC b
  | _ => true

def vEq : Value → Value → Bool
  | .bool a, .bool b => a == b
  | .int k a, .int l b => decide (k = l) && a == b
  | .string a, .string b => a == b
  | .pointer none, .pointer none => true
  | .slice none a b, .slice none c d => Nat.beq a c && Nat.beq b d
  | .map none, .map none => true
  | .nilFunc, .nilFunc => true
  | .func (.func f) a b, .func (.func g) c d => Nat.beq f g && a.isEmpty && b.isEmpty && c.isEmpty && d.isEmpty
  | .nilIface, .nilIface => true
  | .tuple a, .tuple b => a.isEmpty && b.isEmpty
  | _, _ => false

mutual
def avEq : AV → AV → Bool
  | .s v, .s u => vEq v u
  | .ptr i o, .ptr j p => Nat.beq i j && Nat.beq o p
  | .slc i o l c, .slc j p m d => Nat.beq i j && Nat.beq o p && Nat.beq l m && (match c, d with | .ex a, .ex b => Nat.beq a b | .en a, .en b => Nat.beq a b | _, _ => false)
  | .mp i, .mp j => Nat.beq i j
  | .fn f a b, .fn g c d => decide (f = g) && avEqL a c && avEqL b d
  | .yld l, .yld m => Nat.beq l m
  | .ifc t v, .ifc u x => Nat.beq t u && avEq v x
  | .agg a, .agg b => avEqL a b
  | .tup a, .tup b => avEqL a b
  | _, _ => false
def avEqL : List AV → List AV → Bool
  | [], [] => true
  | a :: as, b :: bs => avEq a b && avEqL as bs
  | _, _ => false
end

def subM (m d : Nat) : Bool := Nat.beq (Nat.land m d) m

/-- A light operation that is still open: it hands back v, from what it read. -/
structure Wt where
  i : Nat
  o : Oper
  tm : Tm
  v : AV

structure DS where
  done : Nat
  f : Fr
  ws : List Wt
  pd : List (Nat × AB)

def rhoT (tm : Tm) : Operand → AV := Fr.ρ ⟨0, tm, [], false⟩

/-- A light operation. One that makes a block makes it under the number base + i; the block is placed later. -/
def lightE (E : Env) (all : List Oper) (base i : Nat) (o : Oper) (s : DS) (w : Hp) : Option DS :=
  match wantedA all s.f o with
  | none => none
  | some false => match s.f.put o.dst (.s undef) with
    | some f => some ⟨s.done ||| 2 ^ i, f, s.ws, s.pd⟩
    | none => none
  | some true => cond (isA E o.op)
      (match opA E s.f.ρ ⟨w.h, base + i⟩ o with
       | some (.val v w') => match w'.h.get (base + i), s.f.put o.dst v with
         | some blk, some f => some ⟨s.done ||| 2 ^ i, f, s.ws, (i, blk) :: s.pd⟩
         | _, _ => none
       | _ => none)
      (match opA E s.f.ρ w o with
       | some (.val v _) => match s.f.put o.dst v with
         | some f => some ⟨s.done ||| 2 ^ i, f, ⟨i, o, s.f.tm, v⟩ :: s.ws, s.pd⟩
         | none => none
       | _ => none)

/-- Not its turn: it acts, or it is done, or something ahead of it is not. -/
def notYet (ms : T Nat) (o : Oper) (i done : Nat) : Bool := isW o.op || done.testBit i || !subM (mkAt ms i) done

def lightsE (E : Env) (all : List Oper) (ms : T Nat) (base : Nat) (w : Hp) : List Oper → Nat → DS → Option DS
  | [], _, s => some s
  | o :: r, i, s => cond (notYet ms o i s.done) (lightsE E all ms base w r (i + 1) s) (match lightE E all base i o s w with
    | some s => lightsE E all ms base w r (i + 1) s
    | none => none)

def stable (ms : T Nat) (done : Nat) : List Oper → Nat → Bool
  | [], _ => true
  | o :: r, i => notYet ms o i done && stable ms done r (i + 1)

def insP (base m : Nat) : List (Nat × AB) → H → H
  | [], h => h
  | x :: r, h => cond (m.testBit x.1) ((insP base m r h).set (base + x.1) x.2) (insP base m r h)

def sameW (E : Env) (w : Hp) : List Wt → Bool
  | [] => true
  | x :: r => (match opA E (rhoT x.tm) w x.o with | some (.val u _) => avEq u x.v | _ => false) && sameW E w r

def actE (E : Env) (call : CallF) (all : List Oper) (o : Oper) (f : Fr) (w : Hp) : Option (List (AV × Hp)) :=
  match wantedA all f o with
  | none => none
  | some false => some [(.s undef, w)]
  | some true => match opA E f.ρ w o with
    | some (.val v w) => some [(v, w)]
    | some (.skip w) => some [(.s undef, w)]
    | some (.call c w) => call c w
    | some (.pick l) => some l
    | _ => none

/-- The open ones go on. -/
def nextE (E : Env) (m i : Nat) (d : Option Tmp) (s : DS) (x : AV × Hp) : Option (DS × Hp) :=
  match s.f.put d x.1 with
  | some f => let ws := s.ws.filter fun y => !m.testBit y.i
    cond (sameW E x.2 ws) (some (⟨s.done ||| 2 ^ i, f, ws, s.pd.filter fun y => !m.testBit y.1⟩, x.2)) none
  | none => none

def turnE (E : Env) (call : CallF) (all : List Oper) (ms : T Nat) (base i : Nat) (s : DS) (w : Hp) : Option (List (DS × Hp)) :=
  match nthOp all i with
  | some o => cond (subM (mkAt ms i) s.done && stable ms s.done all 0) (match actE E call all o s.f ⟨insP base (mkAt ms i) s.pd w.h, w.nx⟩ with
    | some l => bindL (fun x => match nextE E (mkAt ms i) i o.dst s x with | some y => some [y] | none => none) l
    | none => none) none
  | none => none

def endE (all : List Oper) (base : Nat) (s : DS) (w : Hp) : Option (List (Fr × Hp)) :=
  cond (Nat.beq s.done (2 ^ all.length - 1)) (some [(s.f, ⟨insP base (2 ^ all.length - 1) s.pd w.h, w.nx⟩)]) none

def drawE (E : Env) (call : CallF) (all : List Oper) (ms : T Nat) (base : Nat) : List Nat → DS → Hp → Option (List (Fr × Hp))
  | [], s, w => match lightsE E all ms base w all 0 s with
    | some s => endE all base s w
    | none => none
  | i :: r, s, w => match lightsE E all ms base w all 0 s with
    | some s => match turnE E call all ms base i s w with
      | some l => bindL (fun x => drawE E call all ms base r x.1 x.2) l
      | none => none
    | none => none

def regionA (E : Env) (call : CallF) (ops : Array Oper) (draw : Bool) (f : Fr) (w : Hp) : Option (List (Fr × Hp)) :=
  let l := ops.toList
  cond draw
    (match maskT l 0 .nil with
     | some ms => drawE E call l ms w.nx (actors l 0) ⟨0, f, [], []⟩ ⟨w.h, w.nx + l.length⟩
     | none => none)
    (seqA E call l l f w)

/-! ### Code -/
inductive Ex where
  | norm
  | exit (id : Nat)
  | ret

abbrev CR := Option (List (Ex × Fr × Hp))

abbrev CodeF := Code → Fr → Hp → CR

def thenC (rec : CodeF) (b : Code) (x : Ex × Fr × Hp) : CR :=
  match x.1 with
  | .norm => rec b x.2.1 x.2.2
  | e => some [(e, x.2)]

def bindC (l : CR) (k : Ex × Fr × Hp → CR) : CR :=
  match l with
  | some l => bindL k l
  | none => none

def unblock (id : Nat) (x : Ex × Fr × Hp) : Ex × Fr × Hp :=
  match x.1 with
  | .exit j => (cond (Nat.beq j id) .norm (.exit j), x.2)
  | e => (e, x.2)

/-- Behind the function that was ranged over. -/
def behindRange (f : Fr) (l : Nat) (x : AV × Hp) : CR :=
  match x.2.h.get l with
  | some (.loop st pend fn n tm ps a b d) => match st with
    | .busy => none
    | _ =>
      let w : Hp := ⟨x.2.h.set l (.loop .exhausted pend fn n tm ps a b d), x.2.nx⟩
      match pend with
      | none => some [(.norm, f, w)]
      | some .ret => some [(.ret, f, w)]
      | some (.exit id) => some [(.exit id, f, w)]
      | _ => none
  | _ => none

def rangeBlock (rd : Option Nat) (w : Hp) : Option (Nat × List AD × Hp) :=
  match rd with
  | none => some (w.nx, [.mark w.nx], ⟨w.h.set w.nx (.dfr false), w.nx + 1⟩)
  | some l => match w.h.get l with | some (.loop _ _ _ _ _ _ _ _ d) => some (d, [], w) | _ => none

def rangeC (call : CallF) (rd : Option Nat) (fid : FuncId) (g : Operand) (ps : Array Tmp) (assign body : Code) (f : Fr) (w : Hp) : CR :=
  match rangeBlock rd w, asFn (f.ρ g) with
  | some (d, mark, w), some (.inr (fn, first, cap)) =>
    match call (.func fn (first ++ [.yld w.nx] ++ cap)) ⟨w.h.set w.nx (.loop .ready none fid f.n f.tm ps.toList assign body d), w.nx + 1⟩ with
    | some rs => bindL (behindRange { f with df := mark ++ f.df } w.nx) rs
    | none => none
  | _, _ => none

def condC (rec : CodeF) (c : AV) (a b : Code) (f : Fr) (w : Hp) : CR :=
  match c with
  | .s (.bool true) => rec a f w
  | .s (.bool false) => rec b f w
  | _ => none

def norm1 (l : Option (List (Fr × Hp))) : CR :=
  match l with
  | some l => some (l.map fun x => (.norm, x.1, x.2))
  | none => none

def stepC (E : Env) (call : CallF) (rd : Option Nat) (fid : FuncId) (rec : CodeF) (c : Code) (f : Fr) (w : Hp) : CR :=
  match c with
  | .skip => some [(.norm, f, w)]
  | .label _ => some [(.norm, f, w)]
  | .region _ ops draw => norm1 (regionA E call ops draw f w)
  | .seq a b => bindC (rec a f w) (thenC rec b)
  | .cond c a b => condC rec (f.ρ c) a b f w
  | .block id b => bindC (rec b f w) (fun x => some [unblock id x])
  | .loop b => bindC (rec b f w) (thenC rec (.loop b))
  | .exit id => some [(.exit id, f, w)]
  | .ret => some [(.ret, f, w)]
  | .rangeFunc g ps assign body => rangeC call rd fid g ps assign body f w
  | _ => none

def codeA (E : Env) (call : CallF) (rd : Option Nat) (fid : FuncId) : Nat → CodeF
  | 0 => fun _ _ _ => none
  | k + 1 => stepC E call rd fid (codeA E call rd fid k)

/-- Parameters into a frame. -/
def bindP : List AV → Nat → Tm → Tm
  | [], _, t => t
  | v :: vs, i, t => bindP vs (i + 1) (t.set i v)

def putPs (n : Nat) : List Tmp → List AV → Tm → Option Tm
  | [], [], t => some t
  | p :: ps, v :: vs, t => cond (Nat.blt p n) (putPs n ps vs (t.set p v)) none
  | _, _, _ => none

def resultA (E : Env) (f : Fr) (w : Hp) (r : ResultVar) : Option AV :=
  match r with
  | .tmp t => some ((f.tm.get t).getD (.s undef))
  | .cell a t => match (f.tm.get a).getD (.s undef) with
    | .ptr i off => readA E w t i off
    | _ => none

def resultsA (E : Env) (f : Fr) (w : Hp) : List ResultVar → Option (List AV)
  | [] => some []
  | r :: rs => match resultA E f w r, resultsA E f w rs with
    | some v, some vs => some (v :: vs)
    | _, _ => none

def resA : List AV → AV
  | [v] => v
  | vs => .tup vs

/-- A deferred function's body: recover hands back nil, as no panic is under way. -/
def stepD (E : Env) (all : List Oper) (o : Oper) (f : Fr) (w : Hp) : Option (List (Fr × Hp)) :=
  match wantedA all f o with
  | none => none
  | some false => put1 f o.dst (.s undef) w
  | some true => match o.op with
    | .call { callee := .builtin .recover, .. } => put1 f o.dst (.s .nilIface) w
    | _ => match opA E f.ρ w o with
      | some (.val v w) => put1 f o.dst v w
      | some (.skip w) => put1 f o.dst (.s undef) w
      | _ => none

def seqD (E : Env) (all : List Oper) : List Oper → Fr → Hp → Option (List (Fr × Hp))
  | [], f, w => some [(f, w)]
  | o :: os, f, w => match stepD E all o f w with
    | some l => bindL (fun x => seqD E all os x.1 x.2) l
    | none => none

def codeD (E : Env) (call : CallF) (fid : FuncId) (k : Nat) : Code → Fr → Hp → CR
  | .region _ ops false, f, w => norm1 (seqD E ops.toList ops.toList f w)
  | .seq a b, f, w => bindC (codeD E call fid k a f w) (fun x => match x.1 with
      | .norm => codeD E call fid k b x.2.1 x.2.2
      | e => some [(e, x.2)])
  | .cond c a b, f, w => match f.ρ c with
    | .s (.bool true) => codeD E call fid k a f w
    | .s (.bool false) => codeD E call fid k b f w
    | _ => none
  | c, f, w => codeA E call none fid k c f w

/-- A deferred call's function, no panic being under way. -/
def deferA (E : Env) (call : CallF) (K : Nat) (g : FuncId) (args : List AV) (w : Hp) : Option (List Hp) :=
  match E.fn.get g with
  | some fn => match fn.body with
    | some c => cond (Nat.ble args.length fn.ntmps)
        (match (match codeA E call none g K c ⟨fn.ntmps, bindP args 0 .nil, [], false⟩ w with | some l => some l | none => codeD E call g K c ⟨fn.ntmps, bindP args 0 .nil, [], false⟩ w) with
         | some l => bindL (fun x => match x.1, x.2.1.df with
           | .exit _, _ => none
           | _, [] => match resultsA E x.2.1 x.2.2 fn.results.toList with | some _ => some [x.2.2] | none => none
           | _, _ => none) l
         | none => none) none
    | none => none
  | none => none

def leaveA (E : Env) (call : CallF) (K : Nat) (f : Fr) (rs : List ResultVar) : List AD → Hp → Option (List (AV × Hp))
  | [], w => match resultsA E f w rs with | some vs => some [(resA vs, w)] | none => none
  | .mark r :: ds, w => match w.h.get r with
    | some (.dfr false) => leaveA E call K f rs ds ⟨w.h.set r (.dfr true), w.nx⟩
    | _ => none
  | .call g args :: ds, w => match deferA E call K g args w with
    | some l => bindL (fun w => leaveA E call K f rs ds w) l
    | none => none

/-- A round of a range over a function. -/
def endRound (l : Nat) (y : Ex × Fr × Hp) : Option (List (AV × Hp)) :=
  match y.2.2.h.get l with
  | some (.loop _ _ fid nt tm ps assign body d) => match y.1 with
    | .norm => some [(boolA true, ⟨y.2.2.h.set l (.loop .ready none fid nt tm ps assign body d), y.2.2.nx⟩)]
    | .ret => some [(boolA false, ⟨y.2.2.h.set l (.loop .done (some .ret) fid nt tm ps assign body d), y.2.2.nx⟩)]
    | .exit id => some [(boolA false, ⟨y.2.2.h.set l (.loop .done (some (.exit id)) fid nt tm ps assign body d), y.2.2.nx⟩)]
  | _ => none

def beginRound (E : Env) (call : CallF) (K : Nat) (fid : FuncId) (body : Code) (l : Nat) (x : Ex × Fr × Hp) : Option (List (AV × Hp)) :=
  match x.1, x.2.2.h.get l with
  | .norm, some (.loop .ready pend fid' nt tm ps assign body' d) =>
    match codeA E call (some l) fid K body x.2.1 ⟨x.2.2.h.set l (.loop .busy pend fid' nt tm ps assign body' d), x.2.2.nx⟩ with
    | some rs => bindL (endRound l) rs
    | none => none
  | _, _ => none

def roundA (E : Env) (call : CallF) (K : Nat) (l : Nat) (args : List AV) (w : Hp) : Option (List (AV × Hp)) :=
  match w.h.get l with
  | some (.loop _ _ fid nt tm ps assign body _) => match putPs nt ps args tm with
    | some tm => match codeA E call (some l) fid K assign ⟨nt, tm, [], true⟩ w with
      | some rs => bindL (beginRound E call K fid body l) rs
      | none => none
    | none => none
  | _ => none

def leaveX (E : Env) (call : CallF) (K : Nat) (rs : List ResultVar) (x : Ex × Fr × Hp) : Option (List (AV × Hp)) :=
  match x.1 with
  | .exit _ => none
  | _ => leaveA E call K x.2.1 rs x.2.1.df x.2.2

def funcA (E : Env) (call : CallF) (K : Nat) (g : FuncId) (args : List AV) (w : Hp) : Option (List (AV × Hp)) :=
  match E.fn.get g with
  | some fn => match fn.body with
    | some c => cond (Nat.ble args.length fn.ntmps)
        (match codeA E call none g K c ⟨fn.ntmps, bindP args 0 .nil, [], false⟩ w with
         | some l => bindL (leaveX E call K fn.results.toList) l
         | none => none) none
    | none => none
  | none => none

def callS (E : Env) (K : Nat) (call : CallF) : CallF := fun c w =>
  match c with
  | .func g args => funcA E call K g args w
  | .round l args => roundA E call K l args w

def callA (E : Env) (K : Nat) : Nat → CallF
  | 0 => fun _ _ => none
  | n + 1 => callS E K (callA E K n)

end Go.Eng
