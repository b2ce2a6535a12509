/- AM, an abstract machine over plain values, and that the model does what it does: a part of the proof. -/
import Derived.CallsIn
import Derived.OrdersIn
import GoSem.Dispatch
set_option linter.unusedSimpArgs false
set_option linter.unusedVariables false
/- AM, the abstract machine: its values, its heap, and what each operation does. Values of slices that nobody writes are lists; only variables lie in the heap. -/
namespace Go.Am
open Go

/-- What is known of a slice's room: nothing; there is none; it is its own, under a number. -/
inductive Tag where
  | frozen
  | full
  | tok (id sz : Nat)
  deriving DecidableEq, Inhabited

inductive AV where
  | int (k : IntKind) (n : Int)
  | bool (b : Bool)
  | str (s : List UInt8)
  | list (es : List (List AV)) (t : Tag)
  | nilS
  | arr (id off len sz : Nat)
  | nilP
  | ptr (id off : Nat)
  | ref (cs : List AV)
  | fn (f : FuncId) (caps : List AV)
  | yld (id : Nat)
  | nilF
  | ifc (t : TypeId) (v : AV)
  | nilI
  | map (id : Nat)
  | nilM
  | agg (cs : List AV)
  | tup (vs : List AV)
  | undef
  deriving Inhabited

mutual
def AV.beq : AV → AV → Bool
  | .int k n, .int k' n' => k == k' && n == n'
  | .bool b, .bool b' => b == b'
  | .str s, .str s' => s == s'
  | .list es t, .list es' t' => beqLL es es' && t == t'
  | .nilS, .nilS => true
  | .arr a b c d, .arr a' b' c' d' => a == a' && b == b' && c == c' && d == d'
  | .nilP, .nilP => true
  | .ptr i o, .ptr i' o' => i == i' && o == o'
  | .ref cs, .ref cs' => beqL cs cs'
  | .fn f cs, .fn f' cs' => f == f' && beqL cs cs'
  | .yld i, .yld i' => i == i'
  | .nilF, .nilF => true
  | .ifc t v, .ifc t' v' => t == t' && AV.beq v v'
  | .nilI, .nilI => true
  | .map i, .map i' => i == i'
  | .nilM, .nilM => true
  | .agg cs, .agg cs' => beqL cs cs'
  | .tup cs, .tup cs' => beqL cs cs'
  | .undef, .undef => true
  | _, _ => false
def beqL : List AV → List AV → Bool
  | [], [] => true
  | a :: as, b :: bs => AV.beq a b && beqL as bs
  | _, _ => false
def beqLL : List (List AV) → List (List AV) → Bool
  | [], [] => true
  | a :: as, b :: bs => beqL a b && beqLL as bs
  | _, _ => false
end

mutual
theorem AV.beq_eq : ∀ (a b : AV), AV.beq a b = true ↔ a = b := by
  intro a b
  cases a <;> cases b <;> simp [AV.beq]
  case list.list es t es' t' => rw [beqLL_eq es es']; simp
  case ref.ref cs cs' => exact beqL_eq cs cs'
  case fn.fn f cs f' cs' => rw [beqL_eq cs cs']; simp
  case ifc.ifc t v t' v' => rw [AV.beq_eq v v']; simp
  case agg.agg cs cs' => exact beqL_eq cs cs'
  case tup.tup cs cs' => exact beqL_eq cs cs'
  case arr.arr => simp [and_assoc]
theorem beqL_eq : ∀ (a b : List AV), beqL a b = true ↔ a = b
  | [], [] => by simp [beqL]
  | [], _ :: _ => by simp [beqL]
  | _ :: _, [] => by simp [beqL]
  | a :: as, b :: bs => by simp [beqL, AV.beq_eq a b, beqL_eq as bs]
theorem beqLL_eq : ∀ (a b : List (List AV)), beqLL a b = true ↔ a = b
  | [], [] => by simp [beqLL]
  | [], _ :: _ => by simp [beqLL]
  | _ :: _, [] => by simp [beqLL]
  | a :: as, b :: bs => by simp [beqLL, beqL_eq a b, beqLL_eq as bs]
end

instance : DecidableEq AV := fun a b => if h : AV.beq a b = true then .isTrue ((AV.beq_eq a b).1 h) else .isFalse fun e => h ((AV.beq_eq a b).2 e)

/-- What lies in the heap. -/
inductive Obj where
  | cells (cs : List AV)
  | tok
  | map (es : List (AV × List AV))
  deriving DecidableEq, Inhabited

/-- The heap: newest first; number i lies at the place that has i behind it. -/
abbrev Heap := List (Option Obj)

def Heap.next (H : Heap) : Nat := List.length H
def Heap.push (H : Heap) (o : Obj) : Heap := some o :: H
def Heap.get : Heap → Nat → Option Obj
  | [], _ => none
  | o :: H, i => if i = List.length H then o else Heap.get H i
def Heap.put : Heap → Nat → Option Obj → Heap
  | [], _, _ => []
  | o :: H, i, o' => if i = List.length H then o' :: H else o :: Heap.put H i o'
/-- The heap as it was when it had so many. -/
def Heap.trunc : Heap → Nat → Heap
  | [], _ => []
  | o :: H, n => if List.length H < n then o :: H else Heap.trunc H n

/-- Numbers that are used up. -/
def Heap.skip (H : Heap) (k : Nat) : Heap := List.replicate k none ++ H

/-- Slots. -/
abbrev Tmps := Nat → AV
def Tmps.set (ρ : Tmps) (t : Nat) (v : AV) : Tmps := fun i => if i = t then v else ρ i
def Tmps.put (ρ : Tmps) : Option Nat → AV → Tmps
  | some t, v => ρ.set t v
  | none, _ => ρ

/-- A plain value as the model has it. -/
def ofVal : Value → AV
  | .int k n => .int k n
  | .bool b => .bool b
  | .string s => .str s.data.toList
  | .slice none 0 0 => .nilS
  | .pointer none => .nilP
  | .nilFunc => .nilF
  | .nilIface => .nilI
  | .map none => .nilM
  | .func (.func f) ⟨[]⟩ ⟨[]⟩ => .fn f []
  | _ => .undef
def ofConst : Value → AV
  | .agg cs => .agg (cs.toList.map ofVal)
  | v => ofVal v

/-- The cells of a value. -/
def AV.cells : AV → List AV
  | .agg cs => cs
  | v => [v]

/-- A slice's room is forgotten. -/
def AV.freeze : AV → AV
  | .list es _ => .list es .frozen
  | v => v
def freezeL (cs : List AV) : List AV := cs.map AV.freeze
def AV.freezeA : AV → AV
  | .agg cs => .agg (freezeL cs)
  | v => v.freeze

/-- One cell? -/
def AV.one : AV → Bool
  | .agg _ | .tup _ | .undef => false
  | _ => true

mutual
/-- Data alone: nothing in it leads to the heap. -/
def AV.data : AV → Bool
  | .int .. | .bool _ | .str _ | .nilS | .nilP | .nilF | .nilI | .nilM => true
  | .list es .frozen => dataLL es
  | .ref cs | .fn _ cs | .agg cs | .tup cs => dataL cs
  | .ifc _ v => v.data
  | _ => false
def dataL : List AV → Bool
  | [] => true
  | a :: as => a.data && dataL as
def dataLL : List (List AV) → Bool
  | [] => true
  | a :: as => dataL a && dataLL as
end

mutual
/-- Nothing in it leads to the heap behind a number. -/
def AV.under (N : Nat) : AV → Bool
  | .int .. | .bool _ | .str _ | .nilS | .nilP | .nilF | .nilI | .nilM | .undef => true
  | .list es (.tok id _) => decide (id < N) && underLL N es
  | .list es _ => underLL N es
  | .arr id .. | .ptr id _ | .map id => decide (id < N)
  | .ref cs | .fn _ cs | .agg cs | .tup cs => underL N cs
  | .ifc _ v => v.under N
  | .yld _ => false
def underL (N : Nat) : List AV → Bool
  | [] => true
  | a :: as => a.under N && underL N as
def underLL (N : Nat) : List (List AV) → Bool
  | [] => true
  | a :: as => underL N a && underLL N as
end

/-- A slice's own room is forgotten. -/
def AV.calm : AV → AV
  | .list es (.tok ..) => .list es .frozen
  | v => v
def AV.calmR : AV → AV
  | .tup vs => .tup (vs.map AV.calm)
  | v => v.calm

def underH (N : Nat) : Heap → Bool
  | [] => true
  | none :: H => underH N H
  | some (.cells cs) :: H => underL N cs && underH N H
  | some .tok :: H => underH N H
  | some (.map _) :: _ => false

section
variable (P : Program)

def elemOf (t : TypeId) : Option TypeId :=
  match P.underlying t with
  | some (.slice e) => some e
  | _ => none
def sizeOf (t : TypeId) : Option Nat := (P.info? t).map (·.size)
def bytesOf (t : TypeId) : Option Nat := (P.info? t).map (·.bytes)
def isAggT (t : TypeId) : Option Bool :=
  match P.underlying t with
  | some (.struct _) | some (.array _ _) => some true
  | some _ => some false
  | none => none
def zeroOf (t : TypeId) : Option AV := ((P.info? t).bind (·.zero)).map ofConst

/-- A part of a list. -/
def part (cs : List AV) (off n : Nat) : Option (List AV) := if off + n ≤ cs.length then some ((cs.drop off).take n) else none
/-- A part of a list, written over. -/
def over (cs : List AV) (off : Nat) (vs : List AV) : Option (List AV) :=
  if off + vs.length ≤ cs.length then some (cs.take off ++ vs ++ cs.drop (off + vs.length)) else none

def Heap.cells (H : Heap) (id : Nat) : Option (List AV) :=
  match H.get id with
  | some (.cells cs) => some cs
  | _ => none
/-- Cells of an object. -/
def Heap.rng (H : Heap) (id off n : Nat) : Option (List AV) := (H.cells id).bind fun cs => part cs off n

def evalOp (ng : Nat) (ρ : Tmps) : Operand → AV
  | .tmp t => ρ t
  | .const v => ofConst v
  | .global g => if g < ng then .ptr g 0 else .undef
  | .func f => .fn f []

def chunk (sz : Nat) : Nat → List AV → List (List AV)
  | 0, _ => []
  | n + 1, cs => cs.take sz :: chunk sz n (cs.drop sz)

/-- The elements of a slice or a string. -/
def elems (H : Heap) (sz : Nat) : AV → Option (List (List AV))
  | .nilS => some []
  | .list es _ => if es.all (fun e => e.length == sz) then some (es.map freezeL) else none
  | .str s => if sz = 1 then some (s.map fun b => [.int .u8 b.toNat]) else none
  | .arr id off len s => if s = sz then (H.rng id off (len * sz)).map fun cs => chunk sz len (freezeL cs) else none
  | _ => none

def fillCells (place : Nat → Option (Nat × Nat)) : List AV → List (Nat × AV) → Option (List AV)
  | cs, [] => some cs
  | cs, (i, v) :: rest =>
    match place i with
    | none => none
    | some (off, size) => if v.cells.length = size ∧ v.cells.all AV.one then (over cs off (freezeL v.cells)).bind fun cs => fillCells place cs rest else none

def rep (n : Nat) (cs : List AV) : List (List AV) := List.replicate n cs

def fillElems (sz : Nat) : List (List AV) → List (Nat × AV) → Option (List (List AV))
  | es, [] => some es
  | es, (i, v) :: rest => if i < es.length ∧ v.cells.length = sz ∧ v.cells.all AV.one then fillElems sz (es.set i (freezeL v.cells)) rest else none

def i64 (n : Int) : AV := .int .i64 n

def bytesOfElems : List (List AV) → Option (List UInt8)
  | [] => some []
  | [.int .u8 n] :: es => if 0 ≤ n ∧ n < 256 then (bytesOfElems es).map (UInt8.ofNat n.toNat :: ·) else none
  | _ => none

def cmpInt : BinOp → Int → Int → Option Bool
  | .eql, x, y => some (decide (x = y))
  | .neq, x, y => some (!decide (x = y))
  | .lss, x, y => some (decide (x < y))
  | .leq, x, y => some (decide (x ≤ y))
  | .gtr, x, y => some (decide (y < x))
  | .geq, x, y => some (decide (y ≤ x))
  | _, _, _ => none

def binA (op : BinOp) (x y : AV) : Option AV :=
  match x, y with
  | .int k a, .int k' b =>
    match op with
    | .shl => if b < 0 then none else some (.int k (k.wrap (a * 2 ^ min b.toNat k.bits)))
    | .shr => if b < 0 then none else some (.int k (a.fdiv (2 ^ min b.toNat k.bits)))
    | op =>
    if k = k' then
      match op with
      | .add => some (.int k (k.wrap (a + b)))
      | .sub => some (.int k (k.wrap (a - b)))
      | .mul => some (.int k (k.wrap (a * b)))
      | .quo => if b = 0 then none else some (.int k (k.wrap (a.tdiv b)))
      | .rem => if b = 0 then none else some (.int k (a.tmod b))
      | .and => some (.int k (k.wrap (BitVec.ofInt k.bits a &&& BitVec.ofInt k.bits b).toNat))
      | .or => some (.int k (k.wrap (BitVec.ofInt k.bits a ||| BitVec.ofInt k.bits b).toNat))
      | .xor => some (.int k (k.wrap (BitVec.ofInt k.bits a ^^^ BitVec.ofInt k.bits b).toNat))
      | .andNot => some (.int k (k.wrap (BitVec.ofInt k.bits a &&& ~~~BitVec.ofInt k.bits b).toNat))
      | op => (cmpInt op a b).map .bool
    else none
  | .str a, .str b =>
    match op with
    | .add => if a.length + b.length ≤ 9223372036854775807 then some (.str (a ++ b)) else none
    | .eql => some (.bool (decide (a = b)))
    | .neq => some (.bool (!decide (a = b)))
    | .lss => some (.bool (Op.bytesLess a b))
    | .leq => some (.bool (Op.bytesLess a b || decide (a = b)))
    | .gtr => some (.bool (!(Op.bytesLess a b || decide (a = b))))
    | .geq => some (.bool (!Op.bytesLess a b))
    | _ => none
  | _, _ => none

/-- Are two values the same, where one of them is nil, or both are bools? ('k': is an operand a constant?) -/
def eqA (d : Option TypeDesc) (k : Bool) (x y : AV) : Option Bool :=
  match d, x, y with
  | some .bool, .bool a, .bool b => some (a == b)
  | some (.slice _), .nilS, .nilS | some (.pointer _), .nilP, .nilP | some (.func ..), .nilF, .nilF | some (.map ..), .nilM, .nilM => some true
  | some (.slice _), .nilS, .list _ _ | some (.slice _), .list _ _, .nilS | some (.slice _), .nilS, .arr .. | some (.slice _), .arr .., .nilS => some false
  | some (.pointer _), .nilP, .ptr .. | some (.pointer _), .ptr .., .nilP | some (.pointer _), .nilP, .ref _ | some (.pointer _), .ref _, .nilP => some false
  | some (.func ..), .nilF, .fn .. | some (.func ..), .fn .., .nilF => some false
  | some (.map ..), .nilM, .map _ | some (.map ..), .map _, .nilM => some false
  | some (.interface _), .nilI, .ifc .. | some (.interface _), .ifc .., .nilI => some false
  | some (.interface _), .nilI, .nilI => if k then some true else none
  | _, _, _ => none

/-- Are two pointers to things of the heap, or two interface values that hold them, the same? -/
def ptrEq (P : Program) (H : Heap) (t : TypeId) (x y : AV) : Option Bool :=
  let two (t : TypeId) (i o j p : Nat) : Option Bool :=
    match P.underlying t with
    | some (.pointer e) => if (sizeOf P e).any (0 < ·) ∧ (H.rng i o 1).isSome ∧ (H.rng j p 1).isSome then some (decide (i = j ∧ o = p)) else none
    | _ => none
  match P.underlying t, x, y with
  | some (.pointer _), .ptr i o, .ptr j p => two t i o j p
  | some (.interface _), .ifc u (.ptr i o), .ifc u' (.ptr j p) =>
    if u = u' then (if (P.info? u).any (·.comparable) then two u i o j p else none) else some false
  | _, _, _ => none

def isConst : Operand → Bool
  | .const _ => true
  | _ => false

def bin (P : Program) (op : BinOp) (t : TypeId) (k : Bool) (x y : AV) : Option AV :=
  match binA op x y with
  | some v => some v
  | none =>
    match op with
    | .eql => (eqA (P.underlying t) k x y).map .bool
    | .neq => (eqA (P.underlying t) k x y).map fun b => .bool !b
    | _ => none

def un : UnOp → AV → Option AV
  | .not, .bool b => some (.bool !b)
  | .neg, .int k n => some (.int k (k.wrap (0 - n)))
  | _, _ => none

def asNat : AV → Option Nat
  | .int _ n => if 0 ≤ n then some n.toNat else none
  | _ => none

/-- A bound of a slice expression. -/
def bnd (ng : Nat) (ρ : Tmps) (o : Option Operand) (d : Nat) : Option Nat :=
  match o with
  | none => some d
  | some x => asNat (evalOp ng ρ x)

def sliceA (P : Program) (H : Heap) (t : TypeId) (x : AV) (lo hi mx : Nat → Option Nat) (three : Bool) : Option AV :=
  match x with
  | .str s =>
    if three then none else
    match P.underlying t, lo 0, hi s.length with
    | some .string, some l, some h => if l ≤ h ∧ h ≤ s.length then some (.str ((s.drop l).take (h - l))) else none
    | _, _, _ => none
  | .nilS =>
    match (elemOf P t).bind (Am.sizeOf P), lo 0, hi 0, mx 0 with
    | some _, some 0, some 0, some 0 => some .nilS
    | _, _, _, _ => none
  | .list es _ =>
    match (elemOf P t).bind (Am.sizeOf P), lo 0, hi es.length, mx es.length with
    | some sz, some l, some h, some m =>
      if l ≤ h ∧ h ≤ es.length ∧ (three = true → m = h) ∧ es.all (fun e => e.length == sz) then some (.list ((es.drop l).take (h - l)) (if three then .full else .frozen)) else none
    | _, _, _, _ => none
  | .arr id off len sz =>
    if three then none else
    match (elemOf P t).bind (Am.sizeOf P), lo 0, hi len with
    | some sz', some l, some h => if sz' = sz ∧ h ≤ len ∧ l ≤ h ∧ (l = h → l = 0) then some (.arr id (off + l * sz) (h - l) sz) else none
    | _, _, _ => none
  | _ => none

/-- The most bytes that a slice made by append may come to. -/
def room : Nat := 2 ^ 45

/-- What is copied: how many, the heap behind it. -/
def copyA (H : Heap) (sz : Nat) (xs : List (List AV)) : AV → Option (AV × Heap)
  | .nilS | .list [] _ => some (i64 0, H)
  | .arr id off len s' =>
    if s' = sz ∧ (xs.take len).flatten.all AV.one then
      (H.cells id).bind fun cs => (over cs off (xs.take len).flatten).map fun cs => (i64 ((min xs.length len : Nat) : Int), H.put id (some (.cells cs)))
    else none
  | _ => none

def appendA (mutable : Bool) (H : Heap) (sz bytes : Nat) (s : AV) (xs : List (List AV)) : Option (AV × Heap) :=
  if xs.length = 0 then
    match s with
    | .nilS | .list _ _ | .arr .. => some (s, H)
    | _ => none
  else
  match s with
  | .nilS =>
    if xs.length * bytes ≤ room ∧ xs.length ≤ room then
      if mutable then some (.arr H.next 0 xs.length sz, H.push (.cells xs.flatten)) else some (.list xs (.tok H.next sz), H.push .tok)
    else none
  | .list es t =>
    if (es.length + xs.length) * bytes ≤ room ∧ es.length + xs.length ≤ room ∧ es.all (fun e => e.length == sz) then
      match t with
      | .full => some (.list (es ++ xs) (.tok H.next sz), H.push .tok)
      | .tok id s' => if H.get id = some .tok ∧ s' = sz then some (.list (es ++ xs) (.tok H.next sz), (H.put id none).push .tok) else none
      | .frozen => none
    else none
  | .arr id off len s' =>
    match H.cells id with
    | some cs =>
      if (len + xs.length) * bytes ≤ room ∧ len + xs.length ≤ room ∧ s' = sz then
        if off + (len + xs.length) * sz ≤ cs.length then
          (over cs (off + len * sz) xs.flatten).map fun cs => (.arr id off (len + xs.length) sz, H.put id (some (.cells cs)))
        else if off = 0 ∧ len * sz = cs.length then some (.arr H.next 0 (len + xs.length) sz, (H.put id none).push (.cells (cs ++ xs.flatten)))
        else none
      else none
    | none => none
  | _ => none

/-- The kinds of operations, as to the heap. -/
inductive Kind where
  | pure
  | alloc
  | load (id off n : Nat)
  | quiet
  | loud
  deriving DecidableEq, Inhabited

/-- Does an append touch cells that are variables? -/
def appKind (c : Bool) (s x : AV) : Kind :=
  match s, x with
  | .arr .., _ | _, .arr .. => .loud
  | .nilS, _ => if c then .loud else .quiet
  | _, _ => .quiet

structure Env where
  P : Program
  /-- how many package-level variables lie at the heap's begin -/
  ng : Nat
  /-- the slots of a function whose variables nobody writes behind their beginning, or whose slices are written by element -/
  cf : FuncId → Nat → Bool
  /-- functions of the library, by what they answer -/
  ext : FuncId → List AV → Option AV
  /-- functions that leave nothing behind them -/
  pure : FuncId → Bool
  /-- functions that may be called -/
  use : FuncId → Bool
  /-- the package-level variables and what they lead to: the heap's begin -/
  base : Heap
  /-- functions that are run on the heap's begin alone, of data, to data -/
  closed : FuncId → Bool

/-- What an operation that is no call comes to: its value, the heap, how it uses the heap. -/
def aop (E : Env) (c : Bool) (o : Oper) (ρ : Tmps) (H : Heap) : Option (AV × Heap × Kind) :=
  let P := E.P
  let ev := evalOp E.ng ρ
  let ok (v : Option AV) : Option (AV × Heap × Kind) := v.map fun v => (v, H, .pure)
  match o.op with
  | .move x | .assign x => some (ev x, H, .pure)
  | .pick x a b => match ev x with
    | .bool t => some (if t then ev a else ev b, H, .pure)
    | _ => none
  | .alloc t => (zeroOf P t).bind fun z => some (.ptr H.next 0, H.push (.cells z.cells), .alloc)
  | .box _ x =>
    if (ev x).cells.all AV.one then
      if c then some (.ref (freezeL (ev x).cells), H, .pure) else some (.ptr H.next 0, H.push (.cells (ev x).cells), .alloc)
    else none
  | .build t ps =>
    match zeroOf P t, P.underlying t with
    | some z, some (.struct fs) =>
      match fs.toList.mapM fun f => (P.info? f.type).map fun i => (f.offset, i.size) with
      | some places => ok ((fillCells (fun i => places[i]?) z.cells (ps.toList.map fun (i, x) => (i, ev x))).map .agg)
      | none => none
    | _, _ => none
  | .buildSlice t n ps =>
    match (elemOf P t).bind fun e => (zeroOf P e).bind fun z => (sizeOf P e).map fun sz => (z, sz) with
    | some (z, sz) =>
      if n * sz ≤ 2 ^ 24 ∧ z.cells.length = sz ∧ 0 < n ∧ 0 < sz then
        (fillElems sz (rep n z.cells) (ps.toList.map fun (i, x) => (i, ev x))).map fun es =>
          if c then (.arr H.next 0 n sz, H.push (.cells es.flatten), .alloc) else (.list es .full, H, .pure)
      else if n = 0 ∧ ps.size = 0 then some (.list [] .full, H, .pure) else none
    | _ => none
  | .load t a =>
    match sizeOf P t, isAggT P t, ev a with
    | some n, some true, .ref cs => if n ≤ cs.length then some (.agg (cs.take n), H, .pure) else none
    | _, some false, .ref (v :: _) => some (v, H, .pure)
    | some n, some true, .ptr id off => (H.rng id off n).map fun cs => (.agg (freezeL cs), H, .load id off n)
    | _, some false, .ptr id off => match H.rng id off 1 with
      | some [v] => some (v, H, .load id off 1)
      | _ => none
    | _, _, _ => none
  | .store t a x =>
    match sizeOf P t, ev a with
    | some n, .ptr id off =>
      if (ev x).cells.length = n ∧ (ev x).cells.all AV.one then
        (H.cells id).bind fun cs => (over cs off (ev x).cells).map fun cs => (.undef, H.put id (some (.cells cs)), .loud)
      else none
    | _, _ => none
  | .nilCheck x => match ev x with
    | .ptr .. | .ref _ | .fn .. | .ifc .. => some (ev x, H, .pure)
    | _ => none
  | .binOp op t x y _ =>
    match bin P op t (isConst x || isConst y) (ev x) (ev y) with
    | some v => some (v, H, .pure)
    | none =>
      match op with
      | .eql => (ptrEq P H t (ev x) (ev y)).map fun b => (.bool b, H, .loud)
      | .neq => (ptrEq P H t (ev x) (ev y)).map fun b => (.bool !b, H, .loud)
      | _ => none
  | .unOp op _ x => ok (un op (ev x))
  | .convert s d x =>
    match P.underlying s, P.underlying d, ev x with
    | some (.int _), some (.int k), .int _ n => some (.int k (k.wrap n), H, .pure)
    | some .string, some .string, .str s => some (.str s, H, .pure)
    | some .string, some (.slice e), .str s =>
      match P.underlying e with
      | some (.int .u8) => if s.length ≤ 2 ^ 40 then some (.list (s.map fun b => [.int .u8 b.toNat]) .frozen, H, .pure) else none
      | _ => none
    | some (.slice e), some .string, x =>
      match P.underlying e, (match x with | .str _ => none | x => elems H 1 x) with
      | some (.int .u8), some es => (bytesOfElems es).map fun s => (.str s, H, match x with | .arr .. => .loud | _ => .pure)
      | _, _ => none
    | _, _, _ => none
  | .makeInterface t x => match P.underlying t with
    | some (.interface _) => none
    | none => none
    | _ => some (.ifc t (ev x).freezeA, H, .pure)
  | .makeFunc (.func f) ⟨[]⟩ caps => some (.fn f (caps.toList.map fun x => (ev x).freeze), H, .pure)
  | .makeMap _ none => some (.map H.next, H.push (.map []), .alloc)
  | .makeSlice t l cp =>
    match (elemOf P t).bind fun e => (zeroOf P e).bind fun z => (sizeOf P e).bind fun sz => (bytesOf P e).map fun b => (z, sz, b), asNat (ev l), asNat (ev cp) with
    | some (z, sz, b), some l, some cp =>
      if l ≤ cp ∧ cp * b ≤ room ∧ cp ≤ room ∧ z.cells.length = sz ∧ 0 < sz then
        if l = 0 ∧ c = false then some (.list [] (.tok H.next sz), H.push .tok, .quiet)
        else some (.arr H.next 0 l sz, H.push (.cells (rep l z.cells).flatten), .quiet)
      else none
    | _, _, _ => none
  | .slice t x lo hi mx =>
    if mx.isSome && hi.isNone then none else (sliceA P H t (ev x) (bnd E.ng ρ lo) (bnd E.ng ρ hi) (bnd E.ng ρ mx) mx.isSome).map fun v => (v, H, .pure)
  | .fieldAddr t x f =>
    match P.underlying t with
    | some (.struct fs) => match fs[f]? with
      | some f => if (sizeOf P f.type).any (0 < ·) then
          match ev x with
          | .ptr id off => some (.ptr id (off + f.offset), H, .pure)
          | .ref cs => some (.ref (cs.drop f.offset), H, .pure)
          | _ => none
        else none
      | none => none
    | _ => none
  | .indexAddr t x i =>
    match (elemOf P t).bind (sizeOf P), ev x, asNat (ev i) with
    | some sz, .list es _, some i => match es[i]? with
      | some e => if e.length = sz then some (.ref e, H, .pure) else none
      | none => none
    | some sz, .arr id off len s, some i => if i < len ∧ s = sz then some (.ptr id (off + i * sz), H, .pure) else none
    | _, _, _ => none
  | .index t x i =>
    match P.underlying t, ev x, asNat (ev i) with
    | some .string, .str s, some i => (s[i]?).map fun b => (.int .u8 b.toNat, H, .pure)
    | _, _, _ => none
  | .typeAssert x _ t okB =>
    match P.underlying t, ev x with
    | some (.interface _), _ | none, _ => none
    | _, .ifc u v => if u = t then some (if okB then .tup [v, .bool true] else v, H, .pure)
        else if okB then (zeroOf P t).map fun z => (.tup [z, .bool false], H, .pure) else none
    | _, .nilI => if okB then (zeroOf P t).map fun z => (.tup [z, .bool false], H, .pure) else none
    | _, _ => none
  | .extract x i => match ev x with
    | .tup vs => (vs[i]?).map fun v => (v, H, .pure)
    | _ => none
  | .call { callee := .builtin b, args := ⟨args⟩, argTypes := ⟨ts⟩ } =>
    match b, ts, args.map ev with
    | .len, t :: _, x :: _ =>
      match P.underlying t, x with
      | some .string, .str s => some (i64 s.length, H, .pure)
      | some (.slice _), .nilS => some (i64 0, H, .pure)
      | some (.slice _), .list es _ => some (i64 es.length, H, .pure)
      | some (.slice _), .arr _ _ n _ => some (i64 n, H, .pure)
      | some (.map _ _), .nilM => some (i64 0, H, .pure)
      | _, _ => none
    | .append, [t, u], [s, x] =>
      match (elemOf P t).bind fun e => (zeroOf P e).bind fun z => (sizeOf P e).bind fun sz => (bytesOf P e).map fun b => (z, sz, b), P.underlying u with
      | some (z, sz, b), some (.slice _) | some (z, sz, b), some .string =>
        if 0 < sz ∧ z.cells.length = sz then
          (elems H sz x).bind fun xs => if xs.flatten.all AV.one then (appendA c H sz b s xs).map fun (v, H) => (v, H, appKind c s x) else none
        else none
      | _, _ => none
    | .copy, [t, _], [d, s] => ((elemOf P t).bind (sizeOf P)).bind fun sz => (elems H sz s).bind fun xs => (copyA H sz xs d).map fun (v, H) => (v, H, .loud)
    | _, _, _ => none
  | _ => none

end

end Go.Am

/- AM: the run of a region, of code, of a function. -/
namespace Go.Am
open Go

/-- The kinds of operations, as their text tells. -/
inductive Cls where
  | pure | alloc | load | quiet | loud | call
  deriving DecidableEq, Inhabited

def clsOf (c : Bool) (o : Oper) : Cls :=
  match o.op with
  | .alloc _ | .makeMap .. => .alloc
  | .box .. => if c then .pure else .alloc
  | .buildSlice .. => if c then .alloc else .pure
  | .load .. => .load
  | .makeSlice .. => .quiet
  | .call { callee := .builtin .len, .. } => .pure
  | .call { callee := .builtin .append, .. } => if c then .loud else .quiet
  | .call { callee := .value _, .. } => .call
  | .move _ | .assign _ | .pick .. | .build .. | .nilCheck _ | .binOp .. | .unOp .. | .convert .. | .makeInterface .. | .makeFunc .. | .slice .. | .fieldAddr .. | .indexAddr ..
  | .index .. | .typeAssert .. | .extract .. => .pure
  | _ => .loud

def Cls.effect : Cls → Bool
  | .quiet | .loud | .call => true
  | _ => false

/-- Does the way an operation was carried out fit its text? -/
def fits : Cls → Kind → Bool
  | .pure, .pure => true
  | .alloc, .alloc | .alloc, .pure => true
  | .load, .load .. | .load, .pure => true
  | .quiet, .quiet | .quiet, .pure => true
  | .loud, _ => true
  | _, _ => false

/-! ### What is asked of a region's text where it draws its order -/

def slotsOf (ops : Array Oper) (o : Oper) : List Nat :=
  (o.op.operands.toList.filterMap fun | .tmp t => some t | _ => none) ++
  (match o.guard with
   | some (g, _) => ((ops[g]?).bind (·.dst)).toList
   | none => [])

/-- Which operations come up ahead of one: as a mask. -/
def maskOf (acc : List Nat) (o : Oper) : Nat := o.after.toList.foldl (fun s e => if Region.binds .any e then s ||| 2 ^ e.on ||| acc.getD e.on 0 else s) 0
def befores : List Nat → List Oper → List Nat
  | acc, [] => acc
  | acc, o :: os => befores (acc ++ [maskOf acc o]) os

/-- Two operations, the first ahead of the second in the text: one must wait for the other, or nothing is in the way. -/
def pairOk (E : Env) (f : FuncId) (ops : Array Oper) (b : List Nat) (i j : Nat) (x y : Oper) : Bool :=
  (b.getD j 0).testBit i ||
  (let cx := clsOf (x.dst.any (E.cf f)) x
   let cy := clsOf (y.dst.any (E.cf f)) y
   !(cx.effect && cy.effect) && !(cx == .load && cy == .loud) && !(cx == .loud && cy == .load) && !(cx == .alloc && cy == .loud) &&
   (match x.dst with | some d => !(slotsOf ops y).contains d && y.dst != some d | none => true) &&
   (match y.dst with | some d => !(slotsOf ops x).contains d | none => true))

def drawOk (E : Env) (f : FuncId) (ops : Array Oper) : Bool :=
  let b := befores [] ops.toList
  let l := ops.toList.zipIdx
  l.all fun (y, j) => (y.after.toList.all fun e => !Region.binds .any e || decide (e.on < j)) && !(y.op matches .select ..) &&
    l.all fun (x, i) => !decide (i < j) || pairOk E f ops b i j x y

/-- Every slot that is written is there. -/
def dstOk (n : Nat) (ops : Array Oper) : Bool := ops.all fun o => match o.dst with | some d => decide (d < n) | none => true

def codeOk (E : Env) (f : FuncId) (n : Nat) : Code → Bool
  | .region _ ops d => dstOk n ops && (!d || drawOk E f ops)
  | .seq a b => codeOk E f n a && codeOk E f n b
  | .cond _ a b => codeOk E f n a && codeOk E f n b
  | .block _ b => codeOk E f n b
  | .loop b => codeOk E f n b
  | .rangeFunc _ ps a b => (ps.all fun x => decide (x < n)) && codeOk E f n a && codeOk E f n b
  | _ => true

def funcOk (E : Env) (f : FuncId) (fn : Func) : Bool :=
  fn.name != "runtime.NumGoroutine" && decide (fn.params.size + fn.nfree ≤ fn.ntmps) && (match fn.body with | some c => codeOk E f fn.ntmps c | none => false)

/-! ### The run -/

/-- What the operation number j gave, as a test: nothing, where it was left out. -/
def yieldedA (ops : Array Oper) (ρ : Tmps) (j : Nat) : Option (Option Bool) :=
  match (ops[j]?).bind (·.dst) with
  | some t => match ρ t with
    | .bool b => some (some b)
    | .tup [] => some none
    | _ => none
  | none => some none

def wantedA (ops : Array Oper) (ρ : Tmps) (o : Oper) : Option Bool :=
  match o.guard with
  | none => some true
  | some (j, w) => (yieldedA ops ρ j).map fun y => decide (y = some w)

/-- What a region that draws must know at its end: which cells were read, how each call found and left the heap. -/
structure Tr where
  loads : List (Nat × Nat × Nat)
  allocs : List Nat
  calls : List (Heap × Heap)

def Tr.ok (t : Tr) : Bool :=
  (t.loads.all fun (id, off, n) => t.calls.all fun (H, H') => !decide (id < H.next) || decide (H.rng id off n = H'.rng id off n)) &&
  t.allocs.all fun id => t.calls.all fun (H, H') => !decide (id < H.next) || decide (H.get id = H'.get id)

abbrev Call := FuncId → List AV → Heap → Option (AV × Heap)

/-- One operation that is wanted: its value, the heap behind it, what is to be kept in mind. -/
def evalOp1 (E : Env) (call : Call) (f : FuncId) (draw : Bool) (o : Oper) (ρ : Tmps) (H : Heap) (t : Tr) : Option (AV × Heap × Tr) :=
  match o.op with
  | .call { callee := .value g, args := ⟨args⟩, argTypes := _ } =>
    match evalOp E.ng ρ g with
    | .fn k caps => (call k (args.map (evalOp E.ng ρ) ++ caps) H).map fun (v, H') => (v, H', { t with calls := (H, H') :: t.calls })
    | _ => none
  | _ =>
    (aop E (o.dst.any (E.cf f)) o ρ H).bind fun (v, H', k) =>
      if !draw || fits (clsOf (o.dst.any (E.cf f)) o) k then
        match k with
        | .load id off n => some (v, H', { t with loads := (id, off, n) :: t.loads })
        | .alloc => some (v, H', { t with allocs := H.next :: t.allocs })
        | _ => some (v, H', t)
      else none

def evalOps (E : Env) (call : Call) (f : FuncId) (draw : Bool) (ops : Array Oper) : List Oper → Tmps → Heap → Tr → Option (Tmps × Heap × Tr)
  | [], ρ, H, t => some (ρ, H, t)
  | o :: os, ρ, H, t =>
    match wantedA ops ρ o with
    | some true => (evalOp1 E call f draw o ρ H t).bind fun (v, H', t') => evalOps E call f draw ops os (ρ.put o.dst v) H' t'
    | some false => evalOps E call f draw ops os (ρ.put o.dst (.tup [])) H t
    | none => none

/-- What a call of yield does to the heap, by the loop's number. -/
abbrev Yl := Nat → List AV → Heap → Option Heap
def noY : Yl := fun _ _ _ => none

/-- One operation that is wanted, where no order is drawn: yield may be called. -/
def evalOpY (E : Env) (call : Call) (yl : Yl) (f : FuncId) (o : Oper) (ρ : Tmps) (H : Heap) : Option (AV × Heap) :=
  match o.op with
  | .call { callee := .value g, args := ⟨args⟩, argTypes := _ } =>
    match evalOp E.ng ρ g with
    | .yld id => (yl id (args.map (evalOp E.ng ρ)) H).map fun H' => (.bool true, H')
    | .fn k caps => call k (args.map (evalOp E.ng ρ) ++ caps) H
    | _ => none
  | _ => (aop E (o.dst.any (E.cf f)) o ρ H).map fun (v, H', _) => (v, H')

def evalOpsY (E : Env) (call : Call) (yl : Yl) (f : FuncId) (ops : Array Oper) : List Oper → Tmps → Heap → Option (Tmps × Heap)
  | [], ρ, H => some (ρ, H)
  | o :: os, ρ, H =>
    match wantedA ops ρ o with
    | some true => (evalOpY E call yl f o ρ H).bind fun (v, H') => evalOpsY E call yl f ops os (ρ.put o.dst v) H'
    | some false => evalOpsY E call yl f ops os (ρ.put o.dst (.tup [])) H
    | none => none

/-- Some slots, written. -/
def Tmps.setL (ρ : Tmps) : List Nat → List AV → Tmps
  | p :: ps, v :: vs => Tmps.setL (ρ.set p v) ps vs
  | _, _ => ρ

def start (args : List AV) : Tmps := fun i => (args[i]?).getD .undef

inductive AExit where
  | normal
  | ret
  | exit (id : Nat)
  deriving DecidableEq, Inhabited

/-- One round of a loop over a function: what is assigned, then the body; both end at their end. -/
def roundA (run : Code → Tmps → Heap → Option (AExit × Tmps × Heap)) (ps : List Nat) (a b : Code) (ρ : Tmps) (args : List AV) (H : Heap) : Option Heap :=
  if args.length = ps.length then
    match run a (ρ.setL ps args) H with
    | some (.normal, ρ1, H1) =>
      match run b ρ1 H1 with
      | some (.normal, _, H2) => some H2
      | _ => none
    | _ => none
  else none

/-- The text of an iterator that may be run. -/
def iterOf (E : Env) (k : FuncId) (caps : List AV) : Option Code :=
  match E.P.funcs[k]? with
  | some fn => if E.use k = true ∧ fn.params.size = 1 ∧ caps.length = fn.nfree ∧ fn.results.size = 0 then fn.body else none
  | none => none

def evalCode (E : Env) (call : Call) : Nat → Yl → Bool → FuncId → Code → Tmps → Heap → Option (AExit × Tmps × Heap)
  | 0, _, _, _, _, _, _ => none
  | n + 1, yl, rd, f, c, ρ, H =>
    match c with
    | .skip | .label _ => some (.normal, ρ, H)
    | .ret => some (.ret, ρ, H)
    | .exit id => some (.exit id, ρ, H)
    | .region _ ⟨ops⟩ true =>
      (evalOps E call f true ⟨ops⟩ ops ρ H ⟨[], [], []⟩).bind fun (ρ, H, t) => if t.ok then some (.normal, ρ, H) else none
    | .region _ ⟨ops⟩ false => (evalOpsY E call yl f ⟨ops⟩ ops ρ H).map fun (ρ, H) => (.normal, ρ, H)
    | .seq a b =>
      match evalCode E call n yl rd f a ρ H with
      | some (.normal, ρ, H) => evalCode E call n yl rd f b ρ H
      | r => r
    | .cond c a b =>
      match evalOp E.ng ρ c with
      | .bool true => evalCode E call n yl rd f a ρ H
      | .bool false => evalCode E call n yl rd f b ρ H
      | _ => none
    | .block id b =>
      match evalCode E call n yl rd f b ρ H with
      | some (.exit i, ρ, H) => if i = id then some (.normal, ρ, H) else some (.exit i, ρ, H)
      | r => r
    | .loop b =>
      match evalCode E call n yl rd f b ρ H with
      | some (.normal, ρ, H) => evalCode E call n yl rd f (.loop b) ρ H
      | r => r
    | .rangeFunc g ⟨ps⟩ a b =>
      if rd then none else
      match evalOp E.ng ρ g with
      | .fn k caps =>
        match iterOf E k caps with
        | some c =>
          match evalCode E call n (fun id args H1 => if id = H.next then roundA (evalCode E call n yl true f) ps a b ρ args H1 else none) false k c (start (.yld H.next :: caps)) (H.skip 1) with
          | some (.normal, _, H') | some (.ret, _, H') => some (.normal, ρ, H')
          | _ => none
        | none => none
      | _ => none
    | _ => none

def resultA (P : Program) (ρ : Tmps) (H : Heap) : ResultVar → Option AV
  | .tmp t => some (ρ t)
  | .cell a t =>
    match ρ a, sizeOf P t, isAggT P t with
    | .ptr id off, some n, some true => (H.rng id off n).map fun cs => .agg (freezeL cs)
    | .ptr id off, _, some false => match H.rng id off 1 with
      | some [v] => some v
      | _ => none
    | _, _, _ => none

def resultsA (P : Program) (ρ : Tmps) (H : Heap) : List ResultVar → Option (List AV)
  | [] => some []
  | r :: rs => (resultA P ρ H r).bind fun v => (resultsA P ρ H rs).map fun vs => v :: vs

def retVal (rs : List AV) : AV :=
  match rs with
  | [v] => v
  | vs => .tup vs

/-- Where a function leaves nothing behind it: the heap as it was, but for numbers used up; a slice of its own keeps its room. -/
def leave (pure : Bool) (H₀ : Heap) (v : AV) (H : Heap) : Option (AV × Heap) :=
  if pure then
    if H.trunc H₀.next = H₀ then
      match v with
      | .list es (.tok id sz) =>
        if id < H₀.next then some (.list es (.tok id sz), H₀.skip (H.next - H₀.next))
        else if H.get id = some .tok then some (.list es (.tok (H₀.skip (H.next - H₀.next)).next sz), (H₀.skip (H.next - H₀.next)).push .tok)
        else some (.list es .frozen, H₀.skip (H.next - H₀.next))
      | .tup vs => some (.tup (freezeL vs), H₀.skip (H.next - H₀.next))
      | v => some (v, H₀.skip (H.next - H₀.next))
    else none
  else some (v, H)

/-- The run of a function's text. -/
def runF (E : Env) (call : Call) (n : Nat) (f : FuncId) (args : List AV) (H : Heap) : Option (AV × Heap) :=
  match E.P.funcs[f]? with
  | some fn =>
    match fn.body with
    | some c =>
      if args.length = fn.params.size + fn.nfree then
        match evalCode E call n noY false f c (start args) H with
        | some (.normal, ρ, H') | some (.ret, ρ, H') => (resultsA E.P ρ H' fn.results.toList).map fun vs => (retVal vs, H')
        | _ => none
      else none
    | none => none
  | none => none

/-- An array that is handed back, and that is the call's own, is written no more: a list. -/
def shutV (N : Nat) (H : Heap) : AV → AV × Heap
  | .arr id off len sz =>
    if N ≤ id then
      match H.rng id off (len * sz) with
      | some cs => (.list (chunk sz len (freezeL cs)) .frozen, H.put id none)
      | none => (.arr id off len sz, H)
    else (.arr id off len sz, H)
  | v => (v, H)
def shutL (N : Nat) : Heap → List AV → List AV × Heap
  | H, [] => ([], H)
  | H, v :: vs => ((shutV N H v).1 :: (shutL N (shutV N H v).2 vs).1, (shutL N (shutV N H v).2 vs).2)
def shutR (N : Nat) (H : Heap) : AV → AV × Heap
  | .tup vs => (.tup (shutL N H vs).1, (shutL N H vs).2)
  | v => shutV N H v
def leaveS (p : Bool) (H₀ : Heap) (v : AV) (H : Heap) : Option (AV × Heap) :=
  if p then leave true H₀ (shutR H₀.next H v).1 (shutR H₀.next H v).2 else some (v, H)

/-- A run on the heap's begin alone. -/
def closedF (E : Env) (run : List AV → Heap → Option (AV × Heap)) (args : List AV) (H : Heap) : Option (AV × Heap) :=
  if underL E.base.next (args.map AV.calm) = true ∧ H.trunc E.base.next = E.base then
    match run (args.map AV.calm) E.base with
    | some (v, H1) =>
      if (shutR E.base.next H1 v).2.trunc E.base.next = E.base ∧ (shutR E.base.next H1 v).1.calmR.under E.base.next = true then some ((shutR E.base.next H1 v).1.calmR, H) else none
    | none => none
  else none

def evalF (E : Env) : Nat → Call
  | 0, _, _, _ => none
  | n + 1, f, args, H =>
    match E.ext f args with
    | some v => some (v, H)
    | none =>
      if E.use f then
        if E.closed f then closedF E (runF E (evalF E n) n f) args H
        else (runF E (evalF E n) n f args H).bind fun (v, H') => leaveS (E.pure f) H v H'
      else none

/-- A call comes to an end, with this. -/
def ACalls (E : Env) (f : FuncId) (args : List AV) (H : Heap) (R : AV → Heap → Prop) : Prop := ∃ n v H', evalF E n f args H = some (v, H') ∧ R v H'

end Go.Am

/- AM against the model: when a value, a heap of AM is one of the model's; what a step may do. -/
namespace Go.Am
open Go

/-- Where a thing of the heap lies: cells; room behind a slice; a map. -/
inductive Loc where
  | obj (b base total : Nat)
  | tok (b start n : Nat)
  | map (b : Nat)
  | loop (l : Nat)

def Loc.has : Loc → Nat → Nat → Prop
  | .obj b base total, c, k => c = b ∧ base ≤ k ∧ k < base + total
  | .tok b start n, c, k => c = b ∧ start ≤ k ∧ k < start + n
  | .map b, c, _ => c = b
  | .loop _, _, _ => False

abbrev Phi := Nat → Option Loc
abbrev Cells := Nat → Nat → Prop

/-- A cell of a world. -/
def at_ (w : World) (b k : Nat) : Option Value := w.cell? ⟨b, k, none⟩

def tagOk (φ : Phi) (b off len cap : Nat) : Tag → Nat → Prop
  | .frozen, _ => True
  | .full, _ => cap = len
  | .tok id sz, n => n = sz ∧ φ id = some (.tok b (off + len * sz) ((cap - len) * sz))

inductive V (φ : Phi) (S : Cells) (w : World) : AV → Value → Prop
  | int (k : IntKind) (n : Int) : V φ S w (.int k n) (.int k n)
  | bool (b : Bool) : V φ S w (.bool b) (.bool b)
  | str (s : ByteArray) : V φ S w (.str s.data.toList) (.string s)
  | nilS : V φ S w .nilS (.slice none 0 0)
  | list (es : List (List AV)) (t : Tag) (b off cap sz : Nat) (f : Nat → Nat → Value) (hc : es.length ≤ cap) (hz : ∀ e ∈ es, e.length = sz)
      (hs : ∀ i e j c, es[i]? = some e → e[j]? = some c → S b (off + i * sz + j) ∧ at_ w b (off + i * sz + j) = some (f i j))
      (hv : ∀ i e j c, es[i]? = some e → e[j]? = some c → V φ S w c (f i j)) (ht : tagOk φ b off es.length cap t sz) :
      V φ S w (.list es t) (.slice (some ⟨b, off, none⟩) es.length cap)
  | arr (id off len sz b base total cap : Nat) (h : φ id = some (.obj b base total)) (hc : len ≤ cap) (ht : off + cap * sz = total) :
      V φ S w (.arr id off len sz) (.slice (some ⟨b, base + off, none⟩) len cap)
  | nilP : V φ S w .nilP (.pointer none)
  | ptr (id off b base total : Nat) (h : φ id = some (.obj b base total)) : V φ S w (.ptr id off) (.pointer (some ⟨b, base + off, none⟩))
  | ref (cs : List AV) (b off : Nat) (f : Nat → Value) (hs : ∀ j c, cs[j]? = some c → S b (off + j) ∧ at_ w b (off + j) = some (f j))
      (hv : ∀ j c, cs[j]? = some c → V φ S w c (f j)) : V φ S w (.ref cs) (.pointer (some ⟨b, off, none⟩))
  | fn (f : FuncId) (cs : List AV) (vs : List Value) (hl : cs.length = vs.length) (hv : ∀ (i : Nat) c v, cs[i]? = some c → vs[i]? = some v → V φ S w c v) :
      V φ S w (.fn f cs) (.func (.func f) #[] vs.toArray)
  | yld (id l : Nat) (h : φ id = some (.loop l)) : V φ S w (.yld id) (.func (.yield l) #[] #[])
  | nilF : V φ S w .nilF .nilFunc
  | ifc (t : TypeId) (v : AV) (v' : Value) (h : V φ S w v v') : V φ S w (.ifc t v) (.iface t v')
  | nilI : V φ S w .nilI .nilIface
  | map (id b : Nat) (h : φ id = some (.map b)) : V φ S w (.map id) (.map (some b))
  | nilM : V φ S w .nilM (.map none)
  | agg (cs : List AV) (vs : List Value) (hl : cs.length = vs.length) (hv : ∀ (i : Nat) c v, cs[i]? = some c → vs[i]? = some v → V φ S w c v) :
      V φ S w (.agg cs) (.agg vs.toArray)
  | tup (cs : List AV) (vs : List Value) (hl : cs.length = vs.length) (hv : ∀ (i : Nat) c v, cs[i]? = some c → vs[i]? = some v → V φ S w c v) :
      V φ S w (.tup cs) (.tuple vs.toArray)
  | undef (v : Value) : V φ S w .undef v

/-- Two lists, value by value. -/
def VL (φ : Phi) (S : Cells) (w : World) (cs : List AV) (vs : List Value) : Prop := cs.length = vs.length ∧ ∀ (i : Nat) c v, cs[i]? = some c → vs[i]? = some v → V φ S w c v

theorem V.mono {φ φ' : Phi} {S S' : Cells} {w w' : World} (hφ : ∀ i l, φ i = some l → φ' i = some l) (hS : ∀ b k, S b k → S' b k ∧ at_ w' b k = at_ w b k)
    {a : AV} {v : Value} (h : V φ S w a v) : V φ' S' w' a v := by
  induction h with
  | int => exact .int _ _
  | bool => exact .bool _
  | str => exact .str _
  | nilS => exact .nilS
  | list es t b off cap sz f hc hz hs hv ht ih =>
    refine .list es t b off cap sz f hc hz (fun i e j c h1 h2 => ?_) ih ?_
    · obtain ⟨h3, h4⟩ := hs i e j c h1 h2
      exact ⟨(hS _ _ h3).1, (hS _ _ h3).2.trans h4⟩
    · cases t with
      | frozen => trivial
      | full => exact ht
      | tok id s => exact ⟨ht.1, hφ _ _ ht.2⟩
  | arr id off len sz b base total cap h hc ht => exact .arr id off len sz b base total cap (hφ _ _ h) hc ht
  | nilP => exact .nilP
  | ptr id off b base total h => exact .ptr id off b base total (hφ _ _ h)
  | ref cs b off f hs hv ih => exact .ref cs b off f (fun j c h => ⟨(hS _ _ (hs j c h).1).1, (hS _ _ (hs j c h).1).2.trans (hs j c h).2⟩) ih
  | fn f cs vs hl hv ih => exact .fn f cs vs hl ih
  | yld id l h => exact .yld id l (hφ _ _ h)
  | nilF => exact .nilF
  | ifc t v v' h ih => exact .ifc t v v' ih
  | nilI => exact .nilI
  | map id b h => exact .map id b (hφ _ _ h)
  | nilM => exact .nilM
  | agg cs vs hl hv ih => exact .agg cs vs hl ih
  | tup cs vs hl hv ih => exact .tup cs vs hl ih
  | undef v => exact .undef v

theorem VL.mono {φ φ' : Phi} {S S' : Cells} {w w' : World} (hφ : ∀ i l, φ i = some l → φ' i = some l) (hS : ∀ b k, S b k → S' b k ∧ at_ w' b k = at_ w b k)
    {a : List AV} {v : List Value} (h : VL φ S w a v) : VL φ' S' w' a v := ⟨h.1, fun i c v h1 h2 => (h.2 i c v h1 h2).mono hφ hS⟩

theorem dataL_get {cs : List AV} (h : dataL cs = true) (i : Nat) (c : AV) (hc : cs[i]? = some c) : c.data = true := by
  induction cs generalizing i with
  | nil => simp at hc
  | cons a as ih =>
    simp only [dataL, Bool.and_eq_true] at h
    cases i with
    | zero => simp at hc; exact hc ▸ h.1
    | succ i => exact ih h.2 i (by simpa using hc)

theorem dataLL_get {es : List (List AV)} (h : dataLL es = true) (i : Nat) (e : List AV) (hc : es[i]? = some e) : dataL e = true := by
  induction es generalizing i with
  | nil => simp at hc
  | cons a as ih =>
    simp only [dataLL, Bool.and_eq_true] at h
    cases i with
    | zero => simp at hc; exact hc ▸ h.1
    | succ i => exact ih h.2 i (by simpa using hc)

/-- Data alone is what it is wherever the heap lies. -/
theorem V.of_data {φ : Phi} {S : Cells} {w : World} {a : AV} {v : Value} (h : V φ S w a v) (φ' : Phi) (hd : a.data = true) : V φ' S w a v := by
  induction h with
  | int => exact .int _ _
  | bool => exact .bool _
  | str => exact .str _
  | nilS => exact .nilS
  | list es t b off cap sz f hc hz hs hv ht ih =>
    cases t with
    | frozen =>
      simp only [AV.data] at hd
      exact .list es _ b off cap sz f hc hz hs (fun i e j c h1 h2 => ih i e j c h1 h2 (dataL_get (dataLL_get hd i e h1) j c h2)) trivial
    | full => simp [AV.data] at hd
    | tok id s => simp [AV.data] at hd
  | arr id off len sz b base total cap h hc ht => simp [AV.data] at hd
  | nilP => exact .nilP
  | ptr id off b base total h => simp [AV.data] at hd
  | ref cs b off f hs hv ih => simp only [AV.data] at hd; exact .ref cs b off f hs fun j c h => ih j c h (dataL_get hd j c h)
  | fn f cs vs hl hv ih => simp only [AV.data] at hd; exact .fn f cs vs hl fun i c v h1 h2 => ih i c v h1 h2 (dataL_get hd i c h1)
  | yld id l h => simp [AV.data] at hd
  | nilF => exact .nilF
  | ifc t v v' h ih => simp only [AV.data] at hd; exact .ifc t v v' (ih hd)
  | nilI => exact .nilI
  | map id b h => simp [AV.data] at hd
  | nilM => exact .nilM
  | agg cs vs hl hv ih => simp only [AV.data] at hd; exact .agg cs vs hl fun i c v h1 h2 => ih i c v h1 h2 (dataL_get hd i c h1)
  | tup cs vs hl hv ih => simp only [AV.data] at hd; exact .tup cs vs hl fun i c v h1 h2 => ih i c v h1 h2 (dataL_get hd i c h1)
  | undef v => exact .undef v

theorem V.freeze {φ : Phi} {S : Cells} {w : World} {a : AV} {v : Value} (h : V φ S w a v) : V φ S w a.freeze v := by
  cases h with
  | list es t b off cap sz f hc hz hs hv ht => exact .list es _ b off cap sz f hc hz hs hv trivial
  | _ => simp only [AV.freeze]; constructor <;> assumption

theorem VL.freeze {φ : Phi} {S : Cells} {w : World} {a : List AV} {v : List Value} (h : VL φ S w a v) : VL φ S w (freezeL a) v := by
  refine ⟨by simp [freezeL, h.1], fun i c v' h1 h2 => ?_⟩
  simp only [freezeL, List.getElem?_map, Option.map_eq_some_iff] at h1
  obtain ⟨c', h3, rfl⟩ := h1
  exact (h.2 i c' v' h3 h2).freeze

theorem V.freezeA {φ : Phi} {S : Cells} {w : World} {a : AV} {v : Value} (h : V φ S w a v) : V φ S w a.freezeA v := by
  cases h with
  | agg cs vs hl hv => have := VL.freeze ⟨hl, hv⟩; exact .agg _ vs this.1 this.2
  | list es t b off cap sz f hc hz hs hv ht => exact .list es _ b off cap sz f hc hz hs hv trivial
  | _ => simp only [AV.freezeA, AV.freeze]; constructor <;> assumption

theorem V.cells {φ : Phi} {S : Cells} {w : World} {a : AV} {v : Value} (h : V φ S w a v) (hu : a ≠ .undef) : VL φ S w a.cells v.cells.toList := by
  have one : ∀ {a : AV} {v : Value}, V φ S w a v → VL φ S w [a] [v] := fun h => ⟨rfl, fun i c v h1 h2 => by
    cases i with
    | zero => simp at h1 h2; subst h1; subst h2; exact h
    | succ i => simp at h1⟩
  cases h with
  | agg cs vs hl hv => exact ⟨by simpa [AV.cells, Value.cells] using hl, by simpa [AV.cells, Value.cells] using hv⟩
  | undef v => exact absurd rfl hu
  | _ => simp only [AV.cells, Value.cells]; exact one (by constructor <;> assumption)

/-! ### A heap -/

/-- May these cells be written? -/
def Writable (w : World) (b s n : Nat) : Prop := ∃ c e, w.heap[b]? = some (.cells c e (0, 0)) ∧ s + n ≤ c.size

def EntryOk (φ : Phi) (S : Cells) (w : World) (x : AV × List AV) (m : MapEntry) : Prop :=
  V φ S w x.1 m.key ∧ VL φ S w x.2 m.val.cells.toList ∧ x.1.data = true

def ObjOk (φ : Phi) (S : Cells) (w : World) : Obj → Loc → Prop
  | .cells cs, .obj b base total => cs.length ≤ total ∧ Writable w b base total ∧ ∀ j c, cs[j]? = some c → ∃ v, at_ w b (base + j) = some v ∧ V φ S w c v
  | .tok, .tok b s n => Writable w b s n
  | .map es, .map b => ∃ ms k, w.heap[b]? = some (.map ms k) ∧ es.length = ms.size ∧ ∀ (i : Nat) x m, es[i]? = some x → ms[i]? = some m → EntryOk φ S w x m
  | _, _ => False

/-- The cells that are variables. -/
def MG (φ : Phi) (G : Nat → Option Obj) : Cells := fun b k => ∃ i o l, G i = some o ∧ φ i = some l ∧ l.has b k
abbrev M (φ : Phi) (H : Heap) : Cells := MG φ (Heap.get H)

structure StG (φ : Phi) (S : Cells) (G : Nat → Option Obj) (w : World) : Prop where
  obj : ∀ i o l, G i = some o → φ i = some l → ObjOk φ S w o l
  disj : ∀ i j oi oj li lj, i ≠ j → G i = some oi → G j = some oj → φ i = some li → φ j = some lj → ∀ b k, li.has b k → ¬ lj.has b k
  sM : ∀ b k, S b k → ¬ MG φ G b k
  sA : ∀ b k, S b k → ∃ v, at_ w b k = some v
abbrev St (φ : Phi) (S : Cells) (H : Heap) (w : World) : Prop := StG φ S (Heap.get H) w

/-- What a world keeps of another: all but the cells in a set. -/
structure Keeps (X : Cells) (w w' : World) : Prop where
  size : w.heap.size ≤ w'.heap.size
  cells : ∀ b c e fr, w.heap[b]? = some (.cells c e fr) → ∃ c', w'.heap[b]? = some (.cells c' e fr) ∧ c'.size = c.size ∧ ∀ k : Nat, ¬ X b k → c'[k]? = c[k]?
  other : ∀ (b : Nat) (o : Go.Obj), w.heap[b]? = some o → (∀ c e fr, o ≠ .cells c e fr) → (∀ k, ¬ X b k) → w'.heap[b]? = some o
  os : w'.os = w.os
  output : w'.output = w.output

structure Step (φ : Phi) (S : Cells) (H : Heap) (w : World) (φ' : Phi) (S' : Cells) (H' : Heap) (w' : World) : Prop where
  ext : ∀ i l, φ i = some l → φ' i = some l
  new : ∀ i, φ' i ≠ φ i → H.next ≤ i ∧ i < H'.next
  s : ∀ b k, S b k → S' b k
  keeps : Keeps (M φ H) w w'
  m : ∀ b k, M φ' H' b k → M φ H b k ∨ w.heap.size ≤ b
  sb : ∀ b k, S' b k → S b k ∨ M φ H b k ∨ w.heap.size ≤ b
  next : H.next ≤ H'.next

theorem at_lt {w : World} {b k : Nat} {v : Value} (h : at_ w b k = some v) : b < w.heap.size := by
  unfold at_ World.cell? at h
  rcases Nat.lt_or_ge b w.heap.size with hb | hb
  · exact hb
  · simp [Array.getElem?_eq_none hb] at h

theorem at_eq {w : World} {b k : Nat} {v : Value} (h : at_ w b k = some v) : ∃ c e fr, w.heap[b]? = some (.cells c e fr) ∧ c[k]? = some v := by
  unfold at_ World.cell? at h
  cases ho : w.heap[b]? with
  | none => simp [ho] at h
  | some o =>
    cases o <;> simp [ho] at h
    rename_i c e fr
    exact ⟨c, e, fr, rfl, h⟩

theorem at_of {w : World} {b k : Nat} {c : Array Value} {e : TypeId} {fr : Nat × Nat} (h : w.heap[b]? = some (.cells c e fr)) : at_ w b k = c[k]? := by
  simp [at_, World.cell?, h]

theorem Keeps.at {X : Cells} {w w' : World} (h : Keeps X w w') {b k : Nat} {v : Value} (hv : at_ w b k = some v) (hx : ¬ X b k) : at_ w' b k = some v := by
  obtain ⟨c, e, fr, h1, h2⟩ := at_eq hv
  obtain ⟨c', h3, -, h4⟩ := h.cells b c e fr h1
  rw [at_of h3, h4 k hx, h2]

theorem Keeps.writable {X : Cells} {w w' : World} (h : Keeps X w w') {b s n : Nat} (hw : Writable w b s n) : Writable w' b s n := by
  obtain ⟨c, e, h1, h2⟩ := hw
  obtain ⟨c', h4, h5, -⟩ := h.cells b c e _ h1
  exact ⟨c', e, h4, by omega⟩

theorem Keeps.refl (X : Cells) (w : World) : Keeps X w w := ⟨Nat.le_refl _, fun _ c _ _ h => ⟨c, h, rfl, fun _ _ => rfl⟩, fun _ _ h _ _ => h, rfl, rfl⟩

theorem lt_of_heap {w : World} {b : Nat} {o : Go.Obj} (h : w.heap[b]? = some o) : b < w.heap.size := (Array.getElem?_eq_some_iff.1 h).1

theorem Keeps.trans {X Y : Cells} {w w' w'' : World} (h : Keeps X w w') (h' : Keeps Y w' w'') (hY : ∀ b k, b < w.heap.size → Y b k → X b k) : Keeps X w w'' := by
  refine ⟨Nat.le_trans h.size h'.size, fun b c e fr hb => ?_, fun b o hb hc hx => ?_, h'.os.trans h.os, h'.output.trans h.output⟩
  · obtain ⟨c1, h1, h2, h3⟩ := h.cells b c e fr hb
    obtain ⟨c2, h4, h5, h6⟩ := h'.cells b c1 e fr h1
    exact ⟨c2, h4, h5.trans h2, fun k hk => (h6 k fun hy => hk (hY b k (lt_of_heap hb) hy)).trans (h3 k hk)⟩
  · exact h'.other b o (h.other b o hb hc hx) hc fun k hy => hx k (hY b k (lt_of_heap hb) hy)

theorem Step.refl (φ : Phi) (S : Cells) (H : Heap) (w : World) : Step φ S H w φ S H w :=
  ⟨fun _ _ h => h, fun _ h => absurd rfl h, fun _ _ h => h, .refl _ _, fun _ _ h => .inl h, fun _ _ h => .inl h, Nat.le_refl _⟩

theorem Step.trans {φ φ' φ'' : Phi} {S S' S'' : Cells} {H H' H'' : Heap} {w w' w'' : World} (h : Step φ S H w φ' S' H' w') (h' : Step φ' S' H' w' φ'' S'' H'' w'') :
    Step φ S H w φ'' S'' H'' w'' := by
  refine ⟨fun i l hl => h'.ext i l (h.ext i l hl), fun i hne => ?_, fun b k hs => h'.s b k (h.s b k hs), ?_, fun b k hm => ?_, fun b k hs => ?_, Nat.le_trans h.next h'.next⟩
  · by_cases e : φ' i = φ i
    · have := h'.new i (by rw [e]; exact hne)
      exact ⟨Nat.le_trans h.next this.1, this.2⟩
    · have := h.new i e
      exact ⟨this.1, Nat.lt_of_lt_of_le this.2 h'.next⟩
  · exact h.keeps.trans h'.keeps fun b k hb hm => (h.m b k hm).resolve_right (by omega)
  · rcases h'.m b k hm with h1 | h1
    · exact h.m b k h1
    · exact .inr (Nat.le_trans h.keeps.size h1)
  · rcases h'.sb b k hs with h1 | h1 | h1
    · exact h.sb b k h1
    · exact .inr (h.m b k h1)
    · exact .inr (.inr (Nat.le_trans h.keeps.size h1))

/-- What was said of values is so behind a step. -/
theorem Step.mono {φ φ' : Phi} {S S' : Cells} {H H' : Heap} {w w' : World} (h : Step φ S H w φ' S' H' w') (hst : St φ S H w) {a : AV} {v : Value} (hv : V φ S w a v) : V φ' S' w' a v :=
  hv.mono h.ext fun b k hs => ⟨h.s b k hs, by
    obtain ⟨v, hv⟩ := hst.sA b k hs
    rw [hv, h.keeps.at hv (hst.sM b k hs)]⟩

theorem Step.monoL {φ φ' : Phi} {S S' : Cells} {H H' : Heap} {w w' : World} (h : Step φ S H w φ' S' H' w') (hst : St φ S H w) {a : List AV} {v : List Value} (hv : VL φ S w a v) : VL φ' S' w' a v :=
  ⟨hv.1, fun i c v h1 h2 => h.mono hst (hv.2 i c v h1 h2)⟩

end Go.Am
