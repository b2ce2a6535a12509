/- AM, an abstract machine over plain values, and that the model does what it does: a part of the proof. -/
import Derived.Test.YtfmfejcoaphmoaaDoorA10
import Derived.IntWalk
set_option linter.unusedSimpArgs false
set_option linter.unusedVariables false
/- AM: the operations one by one, as rules for a run by rewriting. -/
namespace Go.Am
open Go

variable {E : Env} {c : Bool} {dst : Option Tmp} {ty : TypeId} {pos : String} {af : Array Edge} {gd : Option (Nat × Bool)} {ρ : Tmps} {H : Heap}

/-- A field's place, where it has room. -/
def fld (P : Program) (t : TypeId) (f : Nat) : Option Nat :=
  match P.underlying t with
  | some (.struct fs) => match fs[f]? with
    | some f => if (sizeOf P f.type).any (0 < ·) then some f.offset else none
    | none => none
  | _ => none
/-- What a struct is built from. -/
def bld (P : Program) (t : TypeId) : Option (List AV × List (Nat × Nat)) :=
  match zeroOf P t, P.underlying t with
  | some z, some (.struct fs) => (fs.toList.mapM fun f => (P.info? f.type).map fun i => (f.offset, i.size)).map fun ps => (z.cells, ps)
  | _, _ => none
/-- What a slice's elements are: zero, size. -/
def elt (P : Program) (t : TypeId) : Option (AV × Nat) := (elemOf P t).bind fun e => (zeroOf P e).bind fun z => (sizeOf P e).map fun sz => (z, sz)
def eltB (P : Program) (t : TypeId) : Option (AV × Nat × Nat) := (elemOf P t).bind fun e => (zeroOf P e).bind fun z => (sizeOf P e).bind fun sz => (bytesOf P e).map fun b => (z, sz, b)
def eltS (P : Program) (t : TypeId) : Option Nat := (elemOf P t).bind (sizeOf P)

theorem r_move (x : Operand) : aop E c ⟨dst, .move x, ty, pos, af, gd⟩ ρ H = some (evalOp E.ng ρ x, H, .pure) := Eq.trans rfl rfl
theorem r_assign (x : Operand) : aop E c ⟨dst, .assign x, ty, pos, af, gd⟩ ρ H = some (evalOp E.ng ρ x, H, .pure) := Eq.trans rfl rfl
theorem r_pick (x a b : Operand) : aop E c ⟨dst, .pick x a b, ty, pos, af, gd⟩ ρ H = (match evalOp E.ng ρ x with
    | .bool t => some (if t then evalOp E.ng ρ a else evalOp E.ng ρ b, H, .pure)
    | _ => none) := Eq.trans rfl rfl
theorem r_alloc (t : TypeId) : aop E c ⟨dst, .alloc t, ty, pos, af, gd⟩ ρ H = (zeroOf E.P t).bind fun z => some (.ptr H.next 0, H.push (.cells z.cells), .alloc) := Eq.trans rfl rfl
theorem r_box (t : TypeId) (x : Operand) : aop E c ⟨dst, .box t x, ty, pos, af, gd⟩ ρ H = if (evalOp E.ng ρ x).cells.all AV.one then
      if c then some (.ref (freezeL (evalOp E.ng ρ x).cells), H, .pure) else some (.ptr H.next 0, H.push (.cells (evalOp E.ng ρ x).cells), .alloc)
    else none := Eq.trans rfl rfl
theorem r_build (t : TypeId) (ps : Array (Nat × Operand)) : aop E c ⟨dst, .build t ps, ty, pos, af, gd⟩ ρ H =
    (bld E.P t).bind fun (z, places) => (fillCells (fun i => places[i]?) z (ps.toList.map fun (i, x) => (i, evalOp E.ng ρ x))).map fun cs => (.agg cs, H, .pure) := by
  simp only [aop, bld]
  split
  · rename_i z fs h1 h2
    rw [h1, h2]
    cases h : fs.toList.mapM fun f => (E.P.info? f.type).map fun i => (f.offset, i.size) with
    | none => simp [h]
    | some places => simp [h, Option.map_map, Function.comp_def]
  · rename_i h
    split
    · rename_i z fs h1 h2; exact (h z fs h1 h2).elim
    · rfl
theorem r_buildSlice (t : TypeId) (n : Nat) (ps : Array (Nat × Operand)) : aop E c ⟨dst, .buildSlice t n ps, ty, pos, af, gd⟩ ρ H = (match elt E.P t with
    | some (z, sz) =>
      if n * sz ≤ 2 ^ 24 ∧ z.cells.length = sz ∧ 0 < n ∧ 0 < sz then
        (fillElems sz (rep n z.cells) (ps.toList.map fun (i, x) => (i, evalOp E.ng ρ x))).map fun es =>
          if c then (.arr H.next 0 n sz, H.push (.cells es.flatten), .alloc) else (.list es .full, H, .pure)
      else if n = 0 ∧ ps.size = 0 then some (.list [] .full, H, .pure) else none
    | _ => none) := Eq.trans rfl rfl
theorem r_load (t : TypeId) (a : Operand) : aop E c ⟨dst, .load t a, ty, pos, af, gd⟩ ρ H = (match sizeOf E.P t, isAggT E.P t, evalOp E.ng ρ a with
    | some n, some true, .ref cs => if n ≤ cs.length then some (.agg (cs.take n), H, .pure) else none
    | _, some false, .ref (v :: _) => some (v, H, .pure)
    | some n, some true, .ptr id off => (H.rng id off n).map fun cs => (.agg (freezeL cs), H, .load id off n)
    | _, some false, .ptr id off => match H.rng id off 1 with
      | some [v] => some (v, H, .load id off 1)
      | _ => none
    | _, _, _ => none) := Eq.trans rfl rfl
theorem r_store (t : TypeId) (a x : Operand) : aop E c ⟨dst, .store t a x, ty, pos, af, gd⟩ ρ H = (match sizeOf E.P t, evalOp E.ng ρ a with
    | some n, .ptr id off =>
      if (evalOp E.ng ρ x).cells.length = n ∧ (evalOp E.ng ρ x).cells.all AV.one then
        (H.cells id).bind fun cs => (over cs off (evalOp E.ng ρ x).cells).map fun cs => (.undef, H.put id (some (.cells cs)), .loud)
      else none
    | _, _ => none) := Eq.trans rfl rfl
theorem r_nilCheck (x : Operand) : aop E c ⟨dst, .nilCheck x, ty, pos, af, gd⟩ ρ H = (match evalOp E.ng ρ x with
    | .ptr .. | .ref _ | .fn .. | .ifc .. => some (evalOp E.ng ρ x, H, .pure)
    | _ => none) := Eq.trans rfl rfl
theorem r_binOp (op : BinOp) (t u : TypeId) (x y : Operand) : aop E c ⟨dst, .binOp op t x y u, ty, pos, af, gd⟩ ρ H = (match bin E.P op t (isConst x || isConst y) (evalOp E.ng ρ x) (evalOp E.ng ρ y) with
    | some v => some (v, H, .pure)
    | none =>
      match op with
      | .eql => (ptrEq E.P H t (evalOp E.ng ρ x) (evalOp E.ng ρ y)).map fun b => (.bool b, H, .loud)
      | .neq => (ptrEq E.P H t (evalOp E.ng ρ x) (evalOp E.ng ρ y)).map fun b => (.bool !b, H, .loud)
      | _ => none) := Eq.trans rfl rfl
theorem r_unOp (op : UnOp) (t : TypeId) (x : Operand) : aop E c ⟨dst, .unOp op t x, ty, pos, af, gd⟩ ρ H = (un op (evalOp E.ng ρ x)).map fun v => (v, H, .pure) := Eq.trans rfl rfl
theorem r_makeInterface (t : TypeId) (x : Operand) : aop E c ⟨dst, .makeInterface t x, ty, pos, af, gd⟩ ρ H = (match E.P.underlying t with
    | some (.interface _) => none
    | none => none
    | _ => some (.ifc t (evalOp E.ng ρ x).freezeA, H, .pure)) := Eq.trans rfl rfl
theorem r_makeFunc (f : FuncId) (caps : Array Operand) : aop E c ⟨dst, .makeFunc (.func f) ⟨[]⟩ caps, ty, pos, af, gd⟩ ρ H = some (.fn f (caps.toList.map fun x => (evalOp E.ng ρ x).freeze), H, .pure) := Eq.trans rfl rfl
theorem r_makeSlice (t : TypeId) (l cp : Operand) : aop E c ⟨dst, .makeSlice t l cp, ty, pos, af, gd⟩ ρ H = (match eltB E.P t, asNat (evalOp E.ng ρ l), asNat (evalOp E.ng ρ cp) with
    | some (z, sz, b), some l, some cp =>
      if l ≤ cp ∧ cp * b ≤ room ∧ cp ≤ room ∧ z.cells.length = sz ∧ 0 < sz then
        if l = 0 ∧ c = false then some (.list [] (.tok H.next sz), H.push .tok, .quiet)
        else some (.arr H.next 0 l sz, H.push (.cells (rep l z.cells).flatten), .quiet)
      else none
    | _, _, _ => none) := Eq.trans rfl rfl
theorem r_slice (t : TypeId) (x : Operand) (lo hi mx : Option Operand) : aop E c ⟨dst, .slice t x lo hi mx, ty, pos, af, gd⟩ ρ H =
    if mx.isSome && hi.isNone then none else (sliceA E.P H t (evalOp E.ng ρ x) (bnd E.ng ρ lo) (bnd E.ng ρ hi) (bnd E.ng ρ mx) mx.isSome).map fun v => (v, H, .pure) := Eq.trans rfl rfl
theorem r_fieldAddr (t : TypeId) (x : Operand) (f : Nat) : aop E c ⟨dst, .fieldAddr t x f, ty, pos, af, gd⟩ ρ H = (fld E.P t f).bind fun off =>
    match evalOp E.ng ρ x with
    | .ptr id o => some (.ptr id (o + off), H, .pure)
    | .ref cs => some (.ref (cs.drop off), H, .pure)
    | _ => none := by
  simp only [aop, fld]
  repeat' split
  all_goals simp_all
theorem r_indexAddr (t : TypeId) (x i : Operand) : aop E c ⟨dst, .indexAddr t x i, ty, pos, af, gd⟩ ρ H = (match eltS E.P t, evalOp E.ng ρ x, asNat (evalOp E.ng ρ i) with
    | some sz, .list es _, some i => match es[i]? with
      | some e => if e.length = sz then some (.ref e, H, .pure) else none
      | none => none
    | some sz, .arr id off len s, some i => if i < len ∧ s = sz then some (.ptr id (off + i * sz), H, .pure) else none
    | _, _, _ => none) := Eq.trans rfl rfl
theorem r_index (t : TypeId) (x i : Operand) : aop E c ⟨dst, .index t x i, ty, pos, af, gd⟩ ρ H = (match E.P.underlying t, evalOp E.ng ρ x, asNat (evalOp E.ng ρ i) with
    | some .string, .str s, some i => (s[i]?).map fun b => (.int .u8 b.toNat, H, .pure)
    | _, _, _ => none) := Eq.trans rfl rfl
theorem r_typeAssert (x : Operand) (u t : TypeId) (okB : Bool) : aop E c ⟨dst, .typeAssert x u t okB, ty, pos, af, gd⟩ ρ H = (match E.P.underlying t, evalOp E.ng ρ x with
    | some (.interface _), _ | none, _ => none
    | _, .ifc u v => if u = t then some (if okB then .tup [v, .bool true] else v, H, .pure)
        else if okB then (zeroOf E.P t).map fun z => (.tup [z, .bool false], H, .pure) else none
    | _, .nilI => if okB then (zeroOf E.P t).map fun z => (.tup [z, .bool false], H, .pure) else none
    | _, _ => none) := Eq.trans rfl rfl
theorem r_extract (x : Operand) (i : Nat) : aop E c ⟨dst, .extract x i, ty, pos, af, gd⟩ ρ H = (match evalOp E.ng ρ x with
    | .tup vs => (vs[i]?).map fun v => (v, H, .pure)
    | _ => none) := Eq.trans rfl rfl
theorem r_convert (s d : TypeId) (x : Operand) : aop E c ⟨dst, .convert s d x, ty, pos, af, gd⟩ ρ H = (match E.P.underlying s, E.P.underlying d, evalOp E.ng ρ x with
    | some (.int _), some (.int k), .int _ n => some (.int k (k.wrap n), H, .pure)
    | some .string, some .string, .str s => some (.str s, H, .pure)
    | some .string, some (.slice e), .str s =>
      match E.P.underlying e with
      | some (.int .u8) => if s.length ≤ 2 ^ 40 then some (.list (s.map fun b => [.int .u8 b.toNat]) .frozen, H, .pure) else none
      | _ => none
    | some (.slice e), some .string, x =>
      match E.P.underlying e, (match x with | .str _ => none | x => elems H 1 x) with
      | some (.int .u8), some es => (bytesOfElems es).map fun s => (.str s, H, match x with | .arr .. => .loud | _ => .pure)
      | _, _ => none
    | _, _, _ => none) := Eq.trans rfl rfl
/-- How long a thing is. -/
def lenA (P : Program) (t : TypeId) (x : AV) : Option AV :=
  match P.underlying t, x with
  | some .string, .str s => some (i64 s.length)
  | some (.slice _), .nilS => some (i64 0)
  | some (.slice _), .list es _ => some (i64 es.length)
  | some (.slice _), .arr _ _ n _ => some (i64 n)
  | some (.map _ _), .nilM => some (i64 0)
  | _, _ => none
theorem r_len (x : Operand) (t : TypeId) : aop E c ⟨dst, .call ⟨.builtin .len, ⟨[x]⟩, ⟨[t]⟩⟩, ty, pos, af, gd⟩ ρ H = (lenA E.P t (evalOp E.ng ρ x)).map fun v => (v, H, .pure) := by
  simp only [aop, lenA, List.map_cons]
  generalize E.P.underlying t = d
  generalize evalOp E.ng ρ x = v
  rcases d with - | d
  · cases v <;> rfl
  · cases d <;> cases v <;> rfl
theorem r_append (s x : Operand) (t u : TypeId) : aop E c ⟨dst, .call ⟨.builtin .append, ⟨[s, x]⟩, ⟨[t, u]⟩⟩, ty, pos, af, gd⟩ ρ H = (match eltB E.P t, E.P.underlying u with
      | some (z, sz, b), some (.slice _) | some (z, sz, b), some .string =>
        if 0 < sz ∧ z.cells.length = sz then
          (elems H sz (evalOp E.ng ρ x)).bind fun xs => if xs.flatten.all AV.one then (appendA c H sz b (evalOp E.ng ρ s) xs).map fun (v, H) => (v, H, appKind c (evalOp E.ng ρ s) (evalOp E.ng ρ x)) else none
        else none
      | _, _ => none) := Eq.trans rfl rfl

theorem Op0_call (κ : Ctx) (g : Operand) (as : List Operand) (ts : Array TypeId) (K : AV → Heap → Prop) : Op0 E κ c ⟨dst, .call ⟨.value g, ⟨as⟩, ts⟩, ty, pos, af, gd⟩ ρ H K =
    (match evalOp E.ng ρ g with
    | .fn k caps => ACalls E k (as.map (evalOp E.ng ρ) ++ caps) H (Held K .mk)
    | .yld id => κ.yw id (as.map (evalOp E.ng ρ)) H (Held (fun H' => K (.bool true) H') .mk)
    | _ => False) := Eq.trans rfl rfl

theorem Tmps.set_apply (ρ : Tmps) (t u : Nat) (v : AV) : ρ.set t v u = if u = t then v else ρ u := Eq.trans rfl rfl
theorem Tmps.put_some (ρ : Tmps) (t : Nat) (v : AV) : ρ.put (some t) v = ρ.set t v := Eq.trans rfl rfl
theorem Tmps.put_none (ρ : Tmps) (v : AV) : ρ.put none v = ρ := Eq.trans rfl rfl

end Go.Am

/- AM: the heap, as rules for a run by rewriting. -/
namespace Go.Am
open Go

theorem next_skip (H : Heap) (k : Nat) : (H.skip k).next = H.next + k := skip_next H k
theorem put_push (H : Heap) (o x : Obj) (i : Nat) : (H.push o).put i (some x) = if i = H.next then H.push x else (H.put i (some x)).push o := rfl
theorem del_push (H : Heap) (o : Obj) (i : Nat) : (H.push o).put i none = if i = H.next then H.skip 1 else (H.put i none).push o := rfl
theorem put_skip (H : Heap) (k i : Nat) (o : Option Obj) (h : i < H.next) : (H.skip k).put i o = (H.put i o).skip k := by
  induction k with
  | zero => rfl
  | succ k ih =>
    have e : ∀ H : Heap, H.skip (k + 1) = none :: H.skip k := fun _ => rfl
    rw [e, e, ← ih]
    simp only [Heap.put]
    rw [if_neg]
    have := skip_next H k
    simp only [Heap.next] at this h
    omega
theorem skip_skip (H : Heap) (j k : Nat) : (H.skip j).skip k = H.skip (j + k) := by
  simp only [Heap.skip, ← List.append_assoc, List.replicate_append_replicate]
  rw [Nat.add_comm]
theorem trunc_push (H : Heap) (o : Obj) (n : Nat) : (H.push o).trunc n = if H.next < n then H.push o else H.trunc n := rfl
theorem trunc_skip (H : Heap) (k n : Nat) (h : n ≤ H.next) : (H.skip k).trunc n = H.trunc n := by
  induction k with
  | zero => rfl
  | succ k ih =>
    have e : H.skip (k + 1) = none :: H.skip k := rfl
    rw [e]
    simp only [Heap.trunc]
    rw [if_neg]
    · exact ih
    · have := skip_next H k
      simp only [Heap.next] at this h
      omega
theorem trunc_next (H : Heap) (n : Nat) (h : H.next ≤ n) : H.trunc n = H := by
  cases H with
  | nil => rfl
  | cons o H =>
    simp only [Heap.trunc]
    rw [if_pos]
    simp only [Heap.next, List.length_cons] at h
    omega

/-- What lies on a heap. -/
def Heap.more (H : Heap) (J : List (Option Obj)) : Heap := J ++ H
theorem next_more (H : Heap) (J : List (Option Obj)) : (H.more J).next = J.length + H.next := by simp [Heap.more, Heap.next]
theorem more_nil (H : Heap) : H.more [] = H := rfl
theorem more_more (H : Heap) (J K : List (Option Obj)) : (H.more J).more K = H.more (K ++ J) := by simp [Heap.more]
theorem push_more (H : Heap) (o : Obj) : H.push o = H.more [some o] := rfl
theorem more_push (H : Heap) (J : List (Option Obj)) (o : Obj) : (H.more J).push o = H.more (some o :: J) := rfl
theorem more_skip (H : Heap) (J : List (Option Obj)) (k : Nat) : (H.more J).skip k = H.more (List.replicate k none ++ J) := by simp [Heap.more, Heap.skip]
theorem skip_more (H : Heap) (k : Nat) : H.skip k = H.more (List.replicate k none) := rfl
theorem get_more (H : Heap) (J : List (Option Obj)) (i : Nat) (h : i < H.next) : (H.more J).get i = H.get i := by
  induction J with
  | nil => rfl
  | cons o J ih =>
    have e : H.more (o :: J) = o :: H.more J := rfl
    have := next_more H J
    simp only [Heap.next] at this h
    rw [e, Heap.get, if_neg (by omega)]; exact ih
theorem put_more (H : Heap) (J : List (Option Obj)) (i : Nat) (x : Option Obj) (h : i < H.next) : (H.more J).put i x = (H.put i x).more J := by
  induction J with
  | nil => rfl
  | cons o J ih =>
    have e : ∀ H : Heap, H.more (o :: J) = o :: H.more J := fun _ => rfl
    have := next_more H J
    simp only [Heap.next] at this h
    rw [e, e, Heap.put, if_neg (by omega), ih]
theorem trunc_more (H : Heap) (J : List (Option Obj)) (n : Nat) (h : n ≤ H.next) : (H.more J).trunc n = H.trunc n := by
  induction J with
  | nil => rfl
  | cons o J ih =>
    have e : H.more (o :: J) = o :: H.more J := rfl
    have := next_more H J
    simp only [Heap.next] at this h
    rw [e, Heap.trunc, if_neg (by omega)]; exact ih

/-- Where a list's own room has been used: what is left of it. -/
theorem over_nil (cs : List AV) (off : Nat) : over cs off [] = if off ≤ cs.length then some cs else none := by
  simp [over]

end Go.Am

/- AM: values' looks, constructor by constructor. -/
namespace Go.Am
open Go
theorem one_int (k : IntKind) (n : Int) : AV.one (.int k n) = true := Eq.trans rfl rfl
theorem freeze_int (k : IntKind) (n : Int) : AV.freeze (.int k n) = (.int k n) := Eq.trans rfl rfl
theorem calm_int (k : IntKind) (n : Int) : AV.calm (.int k n) = (.int k n) := Eq.trans rfl rfl
theorem freezeA_int (k : IntKind) (n : Int) : AV.freezeA (.int k n) = (.int k n) := Eq.trans rfl rfl
theorem calmR_int (k : IntKind) (n : Int) : AV.calmR (.int k n) = (.int k n) := Eq.trans rfl rfl
theorem under_int (N : Nat) (k : IntKind) (n : Int) : AV.under N (.int k n) = true := Eq.trans rfl rfl
theorem cells_int (k : IntKind) (n : Int) : AV.cells (.int k n) = [(.int k n)] := Eq.trans rfl rfl
theorem one_bool (b : Bool) : AV.one (.bool b) = true := Eq.trans rfl rfl
theorem freeze_bool (b : Bool) : AV.freeze (.bool b) = (.bool b) := Eq.trans rfl rfl
theorem calm_bool (b : Bool) : AV.calm (.bool b) = (.bool b) := Eq.trans rfl rfl
theorem freezeA_bool (b : Bool) : AV.freezeA (.bool b) = (.bool b) := Eq.trans rfl rfl
theorem calmR_bool (b : Bool) : AV.calmR (.bool b) = (.bool b) := Eq.trans rfl rfl
theorem under_bool (N : Nat) (b : Bool) : AV.under N (.bool b) = true := Eq.trans rfl rfl
theorem cells_bool (b : Bool) : AV.cells (.bool b) = [(.bool b)] := Eq.trans rfl rfl
theorem one_str (s : List UInt8) : AV.one (.str s) = true := Eq.trans rfl rfl
theorem freeze_str (s : List UInt8) : AV.freeze (.str s) = (.str s) := Eq.trans rfl rfl
theorem calm_str (s : List UInt8) : AV.calm (.str s) = (.str s) := Eq.trans rfl rfl
theorem freezeA_str (s : List UInt8) : AV.freezeA (.str s) = (.str s) := Eq.trans rfl rfl
theorem calmR_str (s : List UInt8) : AV.calmR (.str s) = (.str s) := Eq.trans rfl rfl
theorem under_str (N : Nat) (s : List UInt8) : AV.under N (.str s) = true := Eq.trans rfl rfl
theorem cells_str (s : List UInt8) : AV.cells (.str s) = [(.str s)] := Eq.trans rfl rfl
theorem one_list (es : List (List AV)) (t : Tag) : AV.one (.list es t) = true := Eq.trans rfl rfl
theorem freeze_list (es : List (List AV)) (t : Tag) : AV.freeze (.list es t) = .list es .frozen := Eq.trans rfl rfl
theorem freezeA_list (es : List (List AV)) (t : Tag) : AV.freezeA (.list es t) = .list es .frozen := Eq.trans rfl rfl
theorem calm_list_frozen (es : List (List AV)) : AV.calm (.list es .frozen) = .list es .frozen := Eq.trans rfl rfl
theorem calmR_list_frozen (es : List (List AV)) : AV.calmR (.list es .frozen) = .list es .frozen := Eq.trans rfl rfl
theorem under_list_frozen (N : Nat) (es : List (List AV)) : AV.under N (.list es .frozen) = underLL N es := Eq.trans rfl rfl
theorem calm_list_full (es : List (List AV)) : AV.calm (.list es .full) = .list es .full := Eq.trans rfl rfl
theorem calmR_list_full (es : List (List AV)) : AV.calmR (.list es .full) = .list es .full := Eq.trans rfl rfl
theorem under_list_full (N : Nat) (es : List (List AV)) : AV.under N (.list es .full) = underLL N es := Eq.trans rfl rfl
theorem calm_list_tok (es : List (List AV)) (i s : Nat) : AV.calm (.list es (.tok i s)) = .list es .frozen := Eq.trans rfl rfl
theorem calmR_list_tok (es : List (List AV)) (i s : Nat) : AV.calmR (.list es (.tok i s)) = .list es .frozen := Eq.trans rfl rfl
theorem cells_list (es : List (List AV)) (t : Tag) : AV.cells (.list es t) = [(.list es t)] := Eq.trans rfl rfl
theorem one_nilS  : AV.one .nilS = true := Eq.trans rfl rfl
theorem freeze_nilS  : AV.freeze .nilS = .nilS := Eq.trans rfl rfl
theorem calm_nilS  : AV.calm .nilS = .nilS := Eq.trans rfl rfl
theorem freezeA_nilS  : AV.freezeA .nilS = .nilS := Eq.trans rfl rfl
theorem calmR_nilS  : AV.calmR .nilS = .nilS := Eq.trans rfl rfl
theorem under_nilS (N : Nat)  : AV.under N .nilS = true := Eq.trans rfl rfl
theorem cells_nilS  : AV.cells .nilS = [.nilS] := Eq.trans rfl rfl
theorem one_arr (a b c d : Nat) : AV.one (.arr a b c d) = true := Eq.trans rfl rfl
theorem freeze_arr (a b c d : Nat) : AV.freeze (.arr a b c d) = (.arr a b c d) := Eq.trans rfl rfl
theorem calm_arr (a b c d : Nat) : AV.calm (.arr a b c d) = (.arr a b c d) := Eq.trans rfl rfl
theorem freezeA_arr (a b c d : Nat) : AV.freezeA (.arr a b c d) = (.arr a b c d) := Eq.trans rfl rfl
theorem calmR_arr (a b c d : Nat) : AV.calmR (.arr a b c d) = (.arr a b c d) := Eq.trans rfl rfl
theorem under_arr (N : Nat) (a b c d : Nat) : AV.under N (.arr a b c d) = decide (a < N) := Eq.trans rfl rfl
theorem cells_arr (a b c d : Nat) : AV.cells (.arr a b c d) = [(.arr a b c d)] := Eq.trans rfl rfl
theorem one_nilP  : AV.one .nilP = true := Eq.trans rfl rfl
theorem freeze_nilP  : AV.freeze .nilP = .nilP := Eq.trans rfl rfl
theorem calm_nilP  : AV.calm .nilP = .nilP := Eq.trans rfl rfl
theorem freezeA_nilP  : AV.freezeA .nilP = .nilP := Eq.trans rfl rfl
theorem calmR_nilP  : AV.calmR .nilP = .nilP := Eq.trans rfl rfl
theorem under_nilP (N : Nat)  : AV.under N .nilP = true := Eq.trans rfl rfl
theorem cells_nilP  : AV.cells .nilP = [.nilP] := Eq.trans rfl rfl
theorem one_ptr (i : Nat) (o : Nat) : AV.one (.ptr i o) = true := Eq.trans rfl rfl
theorem freeze_ptr (i : Nat) (o : Nat) : AV.freeze (.ptr i o) = (.ptr i o) := Eq.trans rfl rfl
theorem calm_ptr (i : Nat) (o : Nat) : AV.calm (.ptr i o) = (.ptr i o) := Eq.trans rfl rfl
theorem freezeA_ptr (i : Nat) (o : Nat) : AV.freezeA (.ptr i o) = (.ptr i o) := Eq.trans rfl rfl
theorem calmR_ptr (i : Nat) (o : Nat) : AV.calmR (.ptr i o) = (.ptr i o) := Eq.trans rfl rfl
theorem under_ptr (N : Nat) (i : Nat) (o : Nat) : AV.under N (.ptr i o) = decide (i < N) := Eq.trans rfl rfl
theorem cells_ptr (i : Nat) (o : Nat) : AV.cells (.ptr i o) = [(.ptr i o)] := Eq.trans rfl rfl
theorem one_ref (cs : List AV) : AV.one (.ref cs) = true := Eq.trans rfl rfl
theorem freeze_ref (cs : List AV) : AV.freeze (.ref cs) = (.ref cs) := Eq.trans rfl rfl
theorem calm_ref (cs : List AV) : AV.calm (.ref cs) = (.ref cs) := Eq.trans rfl rfl
theorem freezeA_ref (cs : List AV) : AV.freezeA (.ref cs) = (.ref cs) := Eq.trans rfl rfl
theorem calmR_ref (cs : List AV) : AV.calmR (.ref cs) = (.ref cs) := Eq.trans rfl rfl
theorem under_ref (N : Nat) (cs : List AV) : AV.under N (.ref cs) = underL N cs := Eq.trans rfl rfl
theorem cells_ref (cs : List AV) : AV.cells (.ref cs) = [(.ref cs)] := Eq.trans rfl rfl
theorem one_fn (f : FuncId) (cs : List AV) : AV.one (.fn f cs) = true := Eq.trans rfl rfl
theorem freeze_fn (f : FuncId) (cs : List AV) : AV.freeze (.fn f cs) = (.fn f cs) := Eq.trans rfl rfl
theorem calm_fn (f : FuncId) (cs : List AV) : AV.calm (.fn f cs) = (.fn f cs) := Eq.trans rfl rfl
theorem freezeA_fn (f : FuncId) (cs : List AV) : AV.freezeA (.fn f cs) = (.fn f cs) := Eq.trans rfl rfl
theorem calmR_fn (f : FuncId) (cs : List AV) : AV.calmR (.fn f cs) = (.fn f cs) := Eq.trans rfl rfl
theorem under_fn (N : Nat) (f : FuncId) (cs : List AV) : AV.under N (.fn f cs) = underL N cs := Eq.trans rfl rfl
theorem cells_fn (f : FuncId) (cs : List AV) : AV.cells (.fn f cs) = [(.fn f cs)] := Eq.trans rfl rfl
theorem one_yld (i : Nat) : AV.one (.yld i) = true := Eq.trans rfl rfl
theorem freeze_yld (i : Nat) : AV.freeze (.yld i) = (.yld i) := Eq.trans rfl rfl
theorem calm_yld (i : Nat) : AV.calm (.yld i) = (.yld i) := Eq.trans rfl rfl
theorem freezeA_yld (i : Nat) : AV.freezeA (.yld i) = (.yld i) := Eq.trans rfl rfl
theorem calmR_yld (i : Nat) : AV.calmR (.yld i) = (.yld i) := Eq.trans rfl rfl
theorem under_yld (N : Nat) (i : Nat) : AV.under N (.yld i) = false := Eq.trans rfl rfl
theorem cells_yld (i : Nat) : AV.cells (.yld i) = [(.yld i)] := Eq.trans rfl rfl
theorem one_nilF  : AV.one .nilF = true := Eq.trans rfl rfl
theorem freeze_nilF  : AV.freeze .nilF = .nilF := Eq.trans rfl rfl
theorem calm_nilF  : AV.calm .nilF = .nilF := Eq.trans rfl rfl
theorem freezeA_nilF  : AV.freezeA .nilF = .nilF := Eq.trans rfl rfl
theorem calmR_nilF  : AV.calmR .nilF = .nilF := Eq.trans rfl rfl
theorem under_nilF (N : Nat)  : AV.under N .nilF = true := Eq.trans rfl rfl
theorem cells_nilF  : AV.cells .nilF = [.nilF] := Eq.trans rfl rfl
theorem one_ifc (t : TypeId) (v : AV) : AV.one (.ifc t v) = true := Eq.trans rfl rfl
theorem freeze_ifc (t : TypeId) (v : AV) : AV.freeze (.ifc t v) = (.ifc t v) := Eq.trans rfl rfl
theorem calm_ifc (t : TypeId) (v : AV) : AV.calm (.ifc t v) = (.ifc t v) := Eq.trans rfl rfl
theorem freezeA_ifc (t : TypeId) (v : AV) : AV.freezeA (.ifc t v) = (.ifc t v) := Eq.trans rfl rfl
theorem calmR_ifc (t : TypeId) (v : AV) : AV.calmR (.ifc t v) = (.ifc t v) := Eq.trans rfl rfl
theorem under_ifc (N : Nat) (t : TypeId) (v : AV) : AV.under N (.ifc t v) = v.under N := Eq.trans rfl rfl
theorem cells_ifc (t : TypeId) (v : AV) : AV.cells (.ifc t v) = [(.ifc t v)] := Eq.trans rfl rfl
theorem one_nilI  : AV.one .nilI = true := Eq.trans rfl rfl
theorem freeze_nilI  : AV.freeze .nilI = .nilI := Eq.trans rfl rfl
theorem calm_nilI  : AV.calm .nilI = .nilI := Eq.trans rfl rfl
theorem freezeA_nilI  : AV.freezeA .nilI = .nilI := Eq.trans rfl rfl
theorem calmR_nilI  : AV.calmR .nilI = .nilI := Eq.trans rfl rfl
theorem under_nilI (N : Nat)  : AV.under N .nilI = true := Eq.trans rfl rfl
theorem cells_nilI  : AV.cells .nilI = [.nilI] := Eq.trans rfl rfl
theorem one_map (i : Nat) : AV.one (.map i) = true := Eq.trans rfl rfl
theorem freeze_map (i : Nat) : AV.freeze (.map i) = (.map i) := Eq.trans rfl rfl
theorem calm_map (i : Nat) : AV.calm (.map i) = (.map i) := Eq.trans rfl rfl
theorem freezeA_map (i : Nat) : AV.freezeA (.map i) = (.map i) := Eq.trans rfl rfl
theorem calmR_map (i : Nat) : AV.calmR (.map i) = (.map i) := Eq.trans rfl rfl
theorem under_map (N : Nat) (i : Nat) : AV.under N (.map i) = decide (i < N) := Eq.trans rfl rfl
theorem cells_map (i : Nat) : AV.cells (.map i) = [(.map i)] := Eq.trans rfl rfl
theorem one_nilM  : AV.one .nilM = true := Eq.trans rfl rfl
theorem freeze_nilM  : AV.freeze .nilM = .nilM := Eq.trans rfl rfl
theorem calm_nilM  : AV.calm .nilM = .nilM := Eq.trans rfl rfl
theorem freezeA_nilM  : AV.freezeA .nilM = .nilM := Eq.trans rfl rfl
theorem calmR_nilM  : AV.calmR .nilM = .nilM := Eq.trans rfl rfl
theorem under_nilM (N : Nat)  : AV.under N .nilM = true := Eq.trans rfl rfl
theorem cells_nilM  : AV.cells .nilM = [.nilM] := Eq.trans rfl rfl
theorem one_agg (cs : List AV) : AV.one (.agg cs) = false := Eq.trans rfl rfl
theorem freeze_agg (cs : List AV) : AV.freeze (.agg cs) = (.agg cs) := Eq.trans rfl rfl
theorem calm_agg (cs : List AV) : AV.calm (.agg cs) = (.agg cs) := Eq.trans rfl rfl
theorem freezeA_agg (cs : List AV) : AV.freezeA (.agg cs) = .agg (freezeL cs) := Eq.trans rfl rfl
theorem calmR_agg (cs : List AV) : AV.calmR (.agg cs) = (.agg cs) := Eq.trans rfl rfl
theorem under_agg (N : Nat) (cs : List AV) : AV.under N (.agg cs) = underL N cs := Eq.trans rfl rfl
theorem cells_agg (cs : List AV) : AV.cells (.agg cs) = cs := Eq.trans rfl rfl
theorem one_tup (cs : List AV) : AV.one (.tup cs) = false := Eq.trans rfl rfl
theorem freeze_tup (cs : List AV) : AV.freeze (.tup cs) = (.tup cs) := Eq.trans rfl rfl
theorem calm_tup (cs : List AV) : AV.calm (.tup cs) = (.tup cs) := Eq.trans rfl rfl
theorem freezeA_tup (cs : List AV) : AV.freezeA (.tup cs) = (.tup cs) := Eq.trans rfl rfl
theorem calmR_tup (cs : List AV) : AV.calmR (.tup cs) = .tup (cs.map AV.calm) := Eq.trans rfl rfl
theorem under_tup (N : Nat) (cs : List AV) : AV.under N (.tup cs) = underL N cs := Eq.trans rfl rfl
theorem cells_tup (cs : List AV) : AV.cells (.tup cs) = [(.tup cs)] := Eq.trans rfl rfl
theorem one_undef  : AV.one .undef = false := Eq.trans rfl rfl
theorem freeze_undef  : AV.freeze .undef = .undef := Eq.trans rfl rfl
theorem calm_undef  : AV.calm .undef = .undef := Eq.trans rfl rfl
theorem freezeA_undef  : AV.freezeA .undef = .undef := Eq.trans rfl rfl
theorem calmR_undef  : AV.calmR .undef = .undef := Eq.trans rfl rfl
theorem under_undef (N : Nat)  : AV.under N .undef = true := Eq.trans rfl rfl
theorem cells_undef  : AV.cells .undef = [.undef] := Eq.trans rfl rfl
theorem shutV_int (N : Nat) (H : Heap) (k : IntKind) (n : Int) : shutV N H (.int k n) = (.int k n, H) := Eq.trans rfl rfl
theorem shutR_int (N : Nat) (H : Heap) (k : IntKind) (n : Int) : shutR N H (.int k n) = (.int k n, H) := Eq.trans rfl rfl
theorem shutV_bool (N : Nat) (H : Heap) (b : Bool) : shutV N H (.bool b) = (.bool b, H) := Eq.trans rfl rfl
theorem shutR_bool (N : Nat) (H : Heap) (b : Bool) : shutR N H (.bool b) = (.bool b, H) := Eq.trans rfl rfl
theorem shutV_str (N : Nat) (H : Heap) (s : List UInt8) : shutV N H (.str s) = (.str s, H) := Eq.trans rfl rfl
theorem shutR_str (N : Nat) (H : Heap) (s : List UInt8) : shutR N H (.str s) = (.str s, H) := Eq.trans rfl rfl
theorem shutV_list (N : Nat) (H : Heap) (es : List (List AV)) (t : Tag) : shutV N H (.list es t) = (.list es t, H) := Eq.trans rfl rfl
theorem shutR_list (N : Nat) (H : Heap) (es : List (List AV)) (t : Tag) : shutR N H (.list es t) = (.list es t, H) := Eq.trans rfl rfl
theorem shutV_nilS (N : Nat) (H : Heap)  : shutV N H (.nilS) = (.nilS, H) := Eq.trans rfl rfl
theorem shutR_nilS (N : Nat) (H : Heap)  : shutR N H (.nilS) = (.nilS, H) := Eq.trans rfl rfl
theorem shutV_nilP (N : Nat) (H : Heap)  : shutV N H (.nilP) = (.nilP, H) := Eq.trans rfl rfl
theorem shutR_nilP (N : Nat) (H : Heap)  : shutR N H (.nilP) = (.nilP, H) := Eq.trans rfl rfl
theorem shutV_ptr (N : Nat) (H : Heap) (i : Nat) (o : Nat) : shutV N H (.ptr i o) = (.ptr i o, H) := Eq.trans rfl rfl
theorem shutR_ptr (N : Nat) (H : Heap) (i : Nat) (o : Nat) : shutR N H (.ptr i o) = (.ptr i o, H) := Eq.trans rfl rfl
theorem shutV_ref (N : Nat) (H : Heap) (cs : List AV) : shutV N H (.ref cs) = (.ref cs, H) := Eq.trans rfl rfl
theorem shutR_ref (N : Nat) (H : Heap) (cs : List AV) : shutR N H (.ref cs) = (.ref cs, H) := Eq.trans rfl rfl
theorem shutV_fn (N : Nat) (H : Heap) (f : FuncId) (cs : List AV) : shutV N H (.fn f cs) = (.fn f cs, H) := Eq.trans rfl rfl
theorem shutR_fn (N : Nat) (H : Heap) (f : FuncId) (cs : List AV) : shutR N H (.fn f cs) = (.fn f cs, H) := Eq.trans rfl rfl
theorem shutV_nilF (N : Nat) (H : Heap)  : shutV N H (.nilF) = (.nilF, H) := Eq.trans rfl rfl
theorem shutR_nilF (N : Nat) (H : Heap)  : shutR N H (.nilF) = (.nilF, H) := Eq.trans rfl rfl
theorem shutV_ifc (N : Nat) (H : Heap) (t : TypeId) (v : AV) : shutV N H (.ifc t v) = (.ifc t v, H) := Eq.trans rfl rfl
theorem shutR_ifc (N : Nat) (H : Heap) (t : TypeId) (v : AV) : shutR N H (.ifc t v) = (.ifc t v, H) := Eq.trans rfl rfl
theorem shutV_nilI (N : Nat) (H : Heap)  : shutV N H (.nilI) = (.nilI, H) := Eq.trans rfl rfl
theorem shutR_nilI (N : Nat) (H : Heap)  : shutR N H (.nilI) = (.nilI, H) := Eq.trans rfl rfl
theorem shutV_map (N : Nat) (H : Heap) (i : Nat) : shutV N H (.map i) = (.map i, H) := Eq.trans rfl rfl
theorem shutR_map (N : Nat) (H : Heap) (i : Nat) : shutR N H (.map i) = (.map i, H) := Eq.trans rfl rfl
theorem shutV_nilM (N : Nat) (H : Heap)  : shutV N H (.nilM) = (.nilM, H) := Eq.trans rfl rfl
theorem shutR_nilM (N : Nat) (H : Heap)  : shutR N H (.nilM) = (.nilM, H) := Eq.trans rfl rfl
theorem shutV_agg (N : Nat) (H : Heap) (cs : List AV) : shutV N H (.agg cs) = (.agg cs, H) := Eq.trans rfl rfl
theorem shutR_agg (N : Nat) (H : Heap) (cs : List AV) : shutR N H (.agg cs) = (.agg cs, H) := Eq.trans rfl rfl
theorem shutV_undef (N : Nat) (H : Heap)  : shutV N H (.undef) = (.undef, H) := Eq.trans rfl rfl
theorem shutR_undef (N : Nat) (H : Heap)  : shutR N H (.undef) = (.undef, H) := Eq.trans rfl rfl
theorem shutV_arr (N : Nat) (H : Heap) (id off len sz : Nat) : shutV N H (.arr id off len sz) =
    if N ≤ id then
      match H.rng id off (len * sz) with
      | some cs => (.list (chunk sz len (freezeL cs)) .frozen, H.put id none)
      | none => (.arr id off len sz, H)
    else (.arr id off len sz, H) := Eq.trans rfl rfl
theorem shutR_arr (N : Nat) (H : Heap) (id off len sz : Nat) : shutR N H (.arr id off len sz) = shutV N H (.arr id off len sz) := Eq.trans rfl rfl
theorem shutR_tup (N : Nat) (H : Heap) (vs : List AV) : shutR N H (.tup vs) = (.tup (shutL N H vs).1, (shutL N H vs).2) := Eq.trans rfl rfl
theorem shutL_nil (N : Nat) (H : Heap) : shutL N H [] = ([], H) := Eq.trans rfl rfl
theorem shutL_cons (N : Nat) (H : Heap) (v : AV) (vs : List AV) : shutL N H (v :: vs) = ((shutV N H v).1 :: (shutL N (shutV N H v).2 vs).1, (shutL N (shutV N H v).2 vs).2) := Eq.trans rfl rfl
attribute [simp] shutV_int shutR_int shutV_bool shutR_bool shutV_str shutR_str shutV_list shutR_list shutV_nilS shutR_nilS shutV_nilP shutR_nilP shutV_ptr shutR_ptr shutV_ref shutR_ref shutV_fn shutR_fn shutV_nilF shutR_nilF shutV_ifc shutR_ifc shutV_nilI shutR_nilI shutV_map shutR_map shutV_nilM shutR_nilM shutV_agg shutR_agg shutV_undef shutR_undef shutV_arr shutR_arr shutR_tup shutL_nil shutL_cons chunk leaveS
theorem freezeL_nil : freezeL [] = [] := Eq.trans rfl rfl
theorem freezeL_cons (c : AV) (cs : List AV) : freezeL (c :: cs) = c.freeze :: freezeL cs := Eq.trans rfl rfl
attribute [simp] one_int freeze_int calm_int freezeA_int calmR_int under_int cells_int one_bool freeze_bool calm_bool freezeA_bool calmR_bool under_bool cells_bool one_str freeze_str calm_str freezeA_str calmR_str under_str cells_str one_list freeze_list freezeA_list calm_list_frozen calmR_list_frozen under_list_frozen calm_list_full calmR_list_full under_list_full calm_list_tok calmR_list_tok cells_list one_nilS freeze_nilS calm_nilS freezeA_nilS calmR_nilS under_nilS cells_nilS one_arr freeze_arr calm_arr freezeA_arr calmR_arr under_arr cells_arr one_nilP freeze_nilP calm_nilP freezeA_nilP calmR_nilP under_nilP cells_nilP one_ptr freeze_ptr calm_ptr freezeA_ptr calmR_ptr under_ptr cells_ptr one_ref freeze_ref calm_ref freezeA_ref calmR_ref under_ref cells_ref one_fn freeze_fn calm_fn freezeA_fn calmR_fn under_fn cells_fn one_yld freeze_yld calm_yld freezeA_yld calmR_yld under_yld cells_yld one_nilF freeze_nilF calm_nilF freezeA_nilF calmR_nilF under_nilF cells_nilF one_ifc freeze_ifc calm_ifc freezeA_ifc calmR_ifc under_ifc cells_ifc one_nilI freeze_nilI calm_nilI freezeA_nilI calmR_nilI under_nilI cells_nilI one_map freeze_map calm_map freezeA_map calmR_map under_map cells_map one_nilM freeze_nilM calm_nilM freezeA_nilM calmR_nilM under_nilM cells_nilM one_agg freeze_agg calm_agg freezeA_agg calmR_agg under_agg cells_agg one_tup freeze_tup calm_tup freezeA_tup calmR_tup under_tup cells_tup one_undef freeze_undef calm_undef freezeA_undef calmR_undef under_undef cells_undef freezeL_nil freezeL_cons
theorem Opt_h_some {α : Type} (a : α) (K : α → Prop) (m : Mark K) : Opt (some a) (Held K m) = K a := Eq.trans rfl rfl
theorem Opt_h_none {α : Type} (K : α → Prop) (m : Mark K) : Opt none (Held K m) = False := Eq.trans rfl rfl
theorem Opt_h_bind {α β : Type} (x : Option α) (g : α → Option β) (K : β → Prop) (m : Mark K) : Opt (x.bind g) (Held K m) = Opt x (Held (fun a => Opt (g a) (Held K .mk)) .mk) := by cases x <;> rfl
theorem Opt_h_map {α β : Type} (x : Option α) (g : α → β) (K : β → Prop) (m : Mark K) : Opt (x.map g) (Held K m) = Opt x (Held (fun a => K (g a)) .mk) := by cases x <;> rfl
theorem Wants_true (A B : Prop) (m : Mark A) (m' : Mark B) : Wants (some true) (Held A m) (Held B m') = A := by simp [Wants, Held]
theorem Wants_false (A B : Prop) (m : Mark A) (m' : Mark B) : Wants (some false) (Held A m) (Held B m') = B := by simp [Wants, Held]
theorem Tests_true (A B : Prop) (m : Mark A) (m' : Mark B) : Tests (.bool true) (Held A m) (Held B m') = A := by simp [Tests, Held]
theorem Tests_false (A B : Prop) (m : Mark A) (m' : Mark B) : Tests (.bool false) (Held A m) (Held B m') = B := by simp [Tests, Held]
theorem wanted_none (ops : Array Oper) (ρ : Tmps) (d : Option Tmp) (op : Op) (ty : TypeId) (pos : String) (af : Array Edge) : wantedA ops ρ ⟨d, op, ty, pos, af, none⟩ = some true := Eq.trans rfl rfl
theorem wanted_some (ops : Array Oper) (ρ : Tmps) (d : Option Tmp) (op : Op) (ty : TypeId) (pos : String) (af : Array Edge) (j : Nat) (w : Bool) : wantedA ops ρ ⟨d, op, ty, pos, af, some (j, w)⟩ = (yieldedA ops ρ j).map fun y => decide (y = some w) := Eq.trans rfl rfl

theorem Op0_else {E : Env} {κ : Ctx} {c : Bool} {o : Oper} {ρ : Tmps} {H : Heap} {K : AV → Heap → Prop} (h : (match o.op with | .call { callee := .value _, args := _, argTypes := _ } => false | _ => true) = true) :
    Op0 E κ c o ρ H K = Opt (aop E c o ρ H) (Held (fun (v, H', _) => K v H') .mk) := by
  unfold Op0
  split
  · rename_i h1; rw [h1] at h; simp at h
  · rfl
theorem Op1_else {E : Env} {c : Bool} {o : Oper} {ρ : Tmps} {H : Heap} {t : Tr} {K : AV → Heap → Tr → Prop} (h : (match o.op with | .call { callee := .value _, args := _, argTypes := _ } => false | _ => true) = true) :
    Op1 E c o ρ H t K = Opt (aop E c o ρ H) (Held (fun (v, H', k) => fits (clsOf c o) k = true ∧ K v H' (t.add H k)) .mk) := by
  unfold Op1
  split
  · rename_i h1; rw [h1] at h; simp at h
  · rfl
theorem Op1_call {E : Env} {c : Bool} {dst : Option Tmp} {ty : TypeId} {pos : String} {af : Array Edge} {gd : Option (Nat × Bool)} {ρ : Tmps} {H : Heap} {t : Tr} (g : Operand) (as : List Operand) (ts : Array TypeId) (K : AV → Heap → Tr → Prop) :
    Op1 E c ⟨dst, .call ⟨.value g, ⟨as⟩, ts⟩, ty, pos, af, gd⟩ ρ H t K =
    (match evalOp E.ng ρ g with
    | .fn k caps => ACalls E k (as.map (evalOp E.ng ρ) ++ caps) H (Held (fun v H' => K v H' { t with calls := (H, H') :: t.calls }) .mk)
    | _ => False) := Eq.trans rfl rfl

section
variable (E : Env) (κ : Ctx) (f : FuncId) (ρ : Tmps) (H : Heap) (Q : AExit → Tmps → Heap → Prop)
theorem Wp_skip : Wp E κ f .skip ρ H Q = Q .normal ρ H := Eq.trans rfl rfl
theorem Wp_label (l : Nat) : Wp E κ f (.label l) ρ H Q = Q .normal ρ H := Eq.trans rfl rfl
theorem Wp_ret : Wp E κ f .ret ρ H Q = Q .ret ρ H := Eq.trans rfl rfl
theorem Wp_exit (id : Nat) : Wp E κ f (.exit id) ρ H Q = Q (.exit id) ρ H := Eq.trans rfl rfl
theorem Wp_region0 (id : Nat) (ops : List Oper) : Wp E κ f (.region id ⟨ops⟩ false) ρ H Q = Ops0 E κ f ⟨ops⟩ ops ρ H fun ρ H => Q .normal ρ H := Eq.trans rfl rfl
theorem Wp_region1 (id : Nat) (ops : List Oper) : Wp E κ f (.region id ⟨ops⟩ true) ρ H Q = Ops1 E f ⟨ops⟩ ops ρ H ⟨[], [], []⟩ fun ρ H t => t.ok = true ∧ Q .normal ρ H := Eq.trans rfl rfl
theorem Wp_seq (a b : Code) : Wp E κ f (.seq a b) ρ H Q = Wp E κ f a ρ H fun e ρ' H' => match e with | .normal => Wp E κ f b ρ' H' Q | e => Q e ρ' H' := Eq.trans rfl rfl
theorem Wp_cond (q : Operand) (a b : Code) : Wp E κ f (.cond q a b) ρ H Q = Tests (evalOp E.ng ρ q) (Held (Wp E κ f a ρ H Q) .mk) (Held (Wp E κ f b ρ H Q) .mk) := Eq.trans rfl rfl
theorem Wp_block (id : Nat) (b : Code) : Wp E κ f (.block id b) ρ H Q = Wp E κ f b ρ H fun e ρ' H' => match e with | .exit i => if i = id then Q .normal ρ' H' else Q (.exit i) ρ' H' | e => Q e ρ' H' := Eq.trans rfl rfl
theorem Wp_range (g : Operand) (ps : List Nat) (a b : Code) : Wp E κ f (.rangeFunc g ⟨ps⟩ a b) ρ H Q = Held (Does E κ.yl κ.rd f (.rangeFunc g ⟨ps⟩ a b) ρ H Q) .mk := Eq.trans rfl rfl
theorem Wp_loop (b : Code) : Wp E κ f (.loop b) ρ H Q = Held (Does E κ.yl κ.rd f (.loop b) ρ H Q) .mk := Eq.trans rfl rfl
end

attribute [simp ↓] Wp_skip Wp_label Wp_ret Wp_exit Wp_region0 Wp_region1 Wp_seq Wp_cond Wp_block Wp_loop Wp_range Ops0 Ops1 Op0_call Op1_call Op0_else Op1_else wanted_none wanted_some r_move r_assign r_pick r_alloc r_box r_build r_buildSlice r_load r_store r_nilCheck r_binOp r_unOp
  r_makeInterface r_makeFunc r_makeSlice r_slice r_fieldAddr r_indexAddr r_index r_typeAssert r_extract r_convert r_len r_append Tmps.set_apply Tmps.put_some Tmps.put_none evalOp
  Opt_h_some Opt_h_none Opt_h_bind Opt_h_map Wants_true Wants_false Tests_true Tests_false
attribute [simp] yieldedA Opt_h_some Opt_h_none Opt_h_bind Opt_h_map Wants_true Wants_false Tests_true Tests_false Back Tr.add fits clsOf ofConst ofVal
  fillCells fillElems rep over part Heap.cells Heap.rng next_push next_put next_skip get_push skip_get put_push del_push put_skip skip_skip trunc_push trunc_skip next_more get_more put_more trunc_more
  resultsA resultA retVal underL underLL leave start
end Go.Am

/- AM: numbers, strings, slices, as rules for a run by rewriting. -/
namespace Go.Am
open Go

theorem bin_add (P : Program) (t : TypeId) (k : Bool) (κ : IntKind) (a b : Int) : bin P .add t k (.int κ a) (.int κ b) = some (.int κ (κ.wrap (a + b))) := by simp [bin, binA]
theorem bin_sub (P : Program) (t : TypeId) (k : Bool) (κ : IntKind) (a b : Int) : bin P .sub t k (.int κ a) (.int κ b) = some (.int κ (κ.wrap (a - b))) := by simp [bin, binA]
theorem bin_mul (P : Program) (t : TypeId) (k : Bool) (κ : IntKind) (a b : Int) : bin P .mul t k (.int κ a) (.int κ b) = some (.int κ (κ.wrap (a * b))) := by simp [bin, binA]
theorem bin_quo (P : Program) (t : TypeId) (k : Bool) (κ : IntKind) (a b : Int) (h : b ≠ 0) : bin P .quo t k (.int κ a) (.int κ b) = some (.int κ (κ.wrap (a.tdiv b))) := by simp [bin, binA, h]
theorem bin_rem (P : Program) (t : TypeId) (k : Bool) (κ : IntKind) (a b : Int) (h : b ≠ 0) : bin P .rem t k (.int κ a) (.int κ b) = some (.int κ (a.tmod b)) := by simp [bin, binA, h]
theorem bin_lss (P : Program) (t : TypeId) (k : Bool) (κ : IntKind) (a b : Int) : bin P .lss t k (.int κ a) (.int κ b) = some (.bool (decide (a < b))) := by simp [bin, binA, cmpInt]
theorem bin_leq (P : Program) (t : TypeId) (k : Bool) (κ : IntKind) (a b : Int) : bin P .leq t k (.int κ a) (.int κ b) = some (.bool (decide (a ≤ b))) := by simp [bin, binA, cmpInt]
theorem bin_gtr (P : Program) (t : TypeId) (k : Bool) (κ : IntKind) (a b : Int) : bin P .gtr t k (.int κ a) (.int κ b) = some (.bool (decide (b < a))) := by simp [bin, binA, cmpInt]
theorem bin_geq (P : Program) (t : TypeId) (k : Bool) (κ : IntKind) (a b : Int) : bin P .geq t k (.int κ a) (.int κ b) = some (.bool (decide (b ≤ a))) := by simp [bin, binA, cmpInt]
theorem bin_eql (P : Program) (t : TypeId) (k : Bool) (κ : IntKind) (a b : Int) : bin P .eql t k (.int κ a) (.int κ b) = some (.bool (decide (a = b))) := by simp [bin, binA, cmpInt]
theorem bin_neq (P : Program) (t : TypeId) (k : Bool) (κ : IntKind) (a b : Int) : bin P .neq t k (.int κ a) (.int κ b) = some (.bool (!decide (a = b))) := by simp [bin, binA, cmpInt]
theorem bin_sadd (P : Program) (t : TypeId) (k : Bool) (a b : List UInt8) (h : a.length + b.length ≤ 9223372036854775807) : bin P .add t k (.str a) (.str b) = some (.str (a ++ b)) := by simp [bin, binA, h]
theorem bin_seql (P : Program) (t : TypeId) (k : Bool) (a b : List UInt8) : bin P .eql t k (.str a) (.str b) = some (.bool (decide (a = b))) := by simp [bin, binA]
theorem bin_sneq (P : Program) (t : TypeId) (k : Bool) (a b : List UInt8) : bin P .neq t k (.str a) (.str b) = some (.bool (!decide (a = b))) := by simp [bin, binA]
theorem bin_slss (P : Program) (t : TypeId) (k : Bool) (a b : List UInt8) : bin P .lss t k (.str a) (.str b) = some (.bool (Op.bytesLess a b)) := by simp [bin, binA]
theorem bin_beql (P : Program) (t : TypeId) (k : Bool) (a b : Bool) (h : P.underlying t = some .bool) : bin P .eql t k (.bool a) (.bool b) = some (.bool (a == b)) := by simp [bin, binA, h, eqA]
theorem bin_bneq (P : Program) (t : TypeId) (k : Bool) (a b : Bool) (h : P.underlying t = some .bool) : bin P .neq t k (.bool a) (.bool b) = some (.bool !(a == b)) := by simp [bin, binA, h, eqA]

theorem asNat_cast (κ : IntKind) (n : Nat) : asNat (.int κ (n : Int)) = some n := by simp [asNat]
theorem asNat_lit (κ : IntKind) (n : Nat) : asNat (.int κ (no_index (OfNat.ofNat n : Int))) = some (OfNat.ofNat n) := asNat_cast κ n
theorem asNat_add (κ : IntKind) (n m : Nat) : asNat (.int κ ((n : Int) + (m : Int))) = some (n + m) := by rw [← Int.natCast_add]; exact asNat_cast κ _
theorem asNat_add1 (κ : IntKind) (n : Nat) : asNat (.int κ ((n : Int) + 1)) = some (n + 1) := asNat_cast κ (n + 1)

/-- A slice's tag as a callee has it. -/
def Tag.calm : Tag → Tag
  | .tok .. => .frozen
  | t => t
theorem calm_list (es : List (List AV)) (t : Tag) : AV.calm (.list es t) = .list es t.calm := by cases t <;> rfl
theorem calmR_list (es : List (List AV)) (t : Tag) : AV.calmR (.list es t) = .list es t.calm := by cases t <;> rfl
theorem under_list_calm (N : Nat) (es : List (List AV)) (t : Tag) : AV.under N (.list es t.calm) = underLL N es := by cases t <;> rfl
theorem calm_calm (t : Tag) : t.calm.calm = t.calm := by cases t <;> rfl
theorem calm_frozen : Tag.calm .frozen = .frozen := rfl
theorem calm_full : Tag.calm .full = .full := rfl
theorem calm_tok (i s : Nat) : Tag.calm (.tok i s) = .frozen := rfl

/-- Elements of so many cells, all of them data. -/
def Elz (N sz : Nat) (es : List (List AV)) : Prop := ∀ e ∈ es, e.length = sz ∧ ∀ c ∈ e, c.one = true ∧ c.freeze = c ∧ c.under N = true

theorem freezeL_id {cs : List AV} (h : ∀ c ∈ cs, c.freeze = c) : freezeL cs = cs := by
  induction cs with
  | nil => rfl
  | cons c cs ih => rw [freezeL_cons, h c (by simp), ih fun c hc => h c (by simp [hc])]
theorem underL_of {N : Nat} {cs : List AV} (h : ∀ c ∈ cs, c.under N = true) : underL N cs = true := by
  induction cs with
  | nil => rfl
  | cons c cs ih => simp only [underL, Bool.and_eq_true]; exact ⟨h c (by simp), ih fun c hc => h c (by simp [hc])⟩
theorem Elz.under {N sz : Nat} {es : List (List AV)} (h : Elz N sz es) : underLL N es = true := by
  induction es with
  | nil => rfl
  | cons e es ih => simp only [underLL, Bool.and_eq_true]; exact ⟨underL_of fun c hc => ((h e (by simp)).2 c hc).2.2, ih fun e he => h e (by simp [he])⟩
theorem Elz.elems {N sz : Nat} {es : List (List AV)} (h : Elz N sz es) (H : Heap) (t : Tag) : elems H sz (.list es t) = some es := by
  have h1 : (es.all fun e => e.length == sz) = true := by simp only [List.all_eq_true, beq_iff_eq]; exact fun e he => (h e he).1
  have h2 : es.map freezeL = es := by
    conv => rhs; rw [← List.map_id es]
    exact List.map_congr_left fun e he => freezeL_id fun c hc => ((h e he).2 c hc).2.1
  simp only [Am.elems, h1, ↓reduceIte, h2]
theorem Elz.all {N sz : Nat} {es : List (List AV)} (h : Elz N sz es) : (es.all fun e => e.length == sz) = true := by simp only [List.all_eq_true, beq_iff_eq]; exact fun e he => (h e he).1
theorem Elz.nil {N sz : Nat} : Elz N sz [] := fun _ h => by simp at h
theorem Elz.cons {N sz : Nat} {e : List AV} {es : List (List AV)} : Elz N sz (e :: es) ↔ (e.length = sz ∧ ∀ c ∈ e, c.one = true ∧ c.freeze = c ∧ c.under N = true) ∧ Elz N sz es := by simp [Elz]
theorem Elz.append {N sz : Nat} {es fs : List (List AV)} : Elz N sz (es ++ fs) ↔ Elz N sz es ∧ Elz N sz fs := by
  simp only [Elz, List.mem_append]
  exact ⟨fun h => ⟨fun e he => h e (.inl he), fun e he => h e (.inr he)⟩, fun h e he => he.elim (h.1 e) (h.2 e)⟩
theorem Elz.at {N sz : Nat} {es : List (List AV)} (h : Elz N sz es) {i : Nat} {e : List AV} (hi : es[i]? = some e) : e.length = sz ∧ ∀ c ∈ e, c.one = true ∧ c.freeze = c ∧ c.under N = true := h e (List.mem_of_getElem? hi)

attribute [simp] bin_add bin_sub bin_mul bin_quo bin_rem bin_lss bin_leq bin_gtr bin_geq bin_eql bin_neq bin_sadd bin_seql bin_sneq bin_slss bin_beql bin_bneq asNat_cast asNat_lit asNat_add asNat_add1
  calm_list calmR_list under_list_calm calm_calm calm_frozen calm_full calm_tok i64 un
section
variable (P : Program) (t : TypeId)
theorem lenA_str (s : List UInt8) : lenA P t (.str s) = (match P.underlying t with | some .string => some (i64 s.length) | _ => none) := by
  unfold lenA; cases P.underlying t with | none => rfl | some d => cases d <;> rfl
theorem lenA_nilS : lenA P t .nilS = (match P.underlying t with | some (.slice _) => some (i64 0) | _ => none) := by
  unfold lenA; cases P.underlying t with | none => rfl | some d => cases d <;> rfl
theorem lenA_list (es : List (List AV)) (g : Tag) : lenA P t (.list es g) = (match P.underlying t with | some (.slice _) => some (i64 es.length) | _ => none) := by
  unfold lenA; cases P.underlying t with | none => rfl | some d => cases d <;> rfl
theorem lenA_arr (a b n d : Nat) : lenA P t (.arr a b n d) = (match P.underlying t with | some (.slice _) => some (i64 n) | _ => none) := by
  unfold lenA; cases P.underlying t with | none => rfl | some d => cases d <;> rfl
end
attribute [simp] lenA_str lenA_nilS lenA_list lenA_arr
section
variable (P : Program) (t : TypeId) (k : Bool)
theorem bin_eql_nilS_nilS : bin P .eql t k (.nilS) (.nilS) = (eqA (P.underlying t) k (.nilS) (.nilS)).map (AV.bool) := Eq.trans rfl rfl
theorem bin_neq_nilS_nilS : bin P .neq t k (.nilS) (.nilS) = (eqA (P.underlying t) k (.nilS) (.nilS)).map (fun b => .bool !b) := Eq.trans rfl rfl
theorem bin_eql_nilS_list (es : List (List AV)) (g : Tag) : bin P .eql t k (.nilS) (.list es g) = (eqA (P.underlying t) k (.nilS) (.list es g)).map (AV.bool) := Eq.trans rfl rfl
theorem bin_neq_nilS_list (es : List (List AV)) (g : Tag) : bin P .neq t k (.nilS) (.list es g) = (eqA (P.underlying t) k (.nilS) (.list es g)).map (fun b => .bool !b) := Eq.trans rfl rfl
theorem bin_eql_list_nilS (es : List (List AV)) (g : Tag) : bin P .eql t k (.list es g) (.nilS) = (eqA (P.underlying t) k (.list es g) (.nilS)).map (AV.bool) := Eq.trans rfl rfl
theorem bin_neq_list_nilS (es : List (List AV)) (g : Tag) : bin P .neq t k (.list es g) (.nilS) = (eqA (P.underlying t) k (.list es g) (.nilS)).map (fun b => .bool !b) := Eq.trans rfl rfl
theorem bin_eql_nilS_arr (a b c d : Nat) : bin P .eql t k (.nilS) (.arr a b c d) = (eqA (P.underlying t) k (.nilS) (.arr a b c d)).map (AV.bool) := Eq.trans rfl rfl
theorem bin_neq_nilS_arr (a b c d : Nat) : bin P .neq t k (.nilS) (.arr a b c d) = (eqA (P.underlying t) k (.nilS) (.arr a b c d)).map (fun b => .bool !b) := Eq.trans rfl rfl
theorem bin_eql_arr_nilS (a b c d : Nat) : bin P .eql t k (.arr a b c d) (.nilS) = (eqA (P.underlying t) k (.arr a b c d) (.nilS)).map (AV.bool) := Eq.trans rfl rfl
theorem bin_neq_arr_nilS (a b c d : Nat) : bin P .neq t k (.arr a b c d) (.nilS) = (eqA (P.underlying t) k (.arr a b c d) (.nilS)).map (fun b => .bool !b) := Eq.trans rfl rfl
theorem bin_eql_nilP_nilP : bin P .eql t k (.nilP) (.nilP) = (eqA (P.underlying t) k (.nilP) (.nilP)).map (AV.bool) := Eq.trans rfl rfl
theorem bin_neq_nilP_nilP : bin P .neq t k (.nilP) (.nilP) = (eqA (P.underlying t) k (.nilP) (.nilP)).map (fun b => .bool !b) := Eq.trans rfl rfl
theorem bin_eql_nilP_ptr (a b : Nat) : bin P .eql t k (.nilP) (.ptr a b) = (eqA (P.underlying t) k (.nilP) (.ptr a b)).map (AV.bool) := Eq.trans rfl rfl
theorem bin_neq_nilP_ptr (a b : Nat) : bin P .neq t k (.nilP) (.ptr a b) = (eqA (P.underlying t) k (.nilP) (.ptr a b)).map (fun b => .bool !b) := Eq.trans rfl rfl
theorem bin_eql_ptr_nilP (a b : Nat) : bin P .eql t k (.ptr a b) (.nilP) = (eqA (P.underlying t) k (.ptr a b) (.nilP)).map (AV.bool) := Eq.trans rfl rfl
theorem bin_neq_ptr_nilP (a b : Nat) : bin P .neq t k (.ptr a b) (.nilP) = (eqA (P.underlying t) k (.ptr a b) (.nilP)).map (fun b => .bool !b) := Eq.trans rfl rfl
theorem bin_eql_nilP_ref (cs : List AV) : bin P .eql t k (.nilP) (.ref cs) = (eqA (P.underlying t) k (.nilP) (.ref cs)).map (AV.bool) := Eq.trans rfl rfl
theorem bin_neq_nilP_ref (cs : List AV) : bin P .neq t k (.nilP) (.ref cs) = (eqA (P.underlying t) k (.nilP) (.ref cs)).map (fun b => .bool !b) := Eq.trans rfl rfl
theorem bin_eql_ref_nilP (cs : List AV) : bin P .eql t k (.ref cs) (.nilP) = (eqA (P.underlying t) k (.ref cs) (.nilP)).map (AV.bool) := Eq.trans rfl rfl
theorem bin_neq_ref_nilP (cs : List AV) : bin P .neq t k (.ref cs) (.nilP) = (eqA (P.underlying t) k (.ref cs) (.nilP)).map (fun b => .bool !b) := Eq.trans rfl rfl
theorem bin_eql_nilF_nilF : bin P .eql t k (.nilF) (.nilF) = (eqA (P.underlying t) k (.nilF) (.nilF)).map (AV.bool) := Eq.trans rfl rfl
theorem bin_neq_nilF_nilF : bin P .neq t k (.nilF) (.nilF) = (eqA (P.underlying t) k (.nilF) (.nilF)).map (fun b => .bool !b) := Eq.trans rfl rfl
theorem bin_eql_fn_nilF (f : FuncId) (cs : List AV) : bin P .eql t k (.fn f cs) (.nilF) = (eqA (P.underlying t) k (.fn f cs) (.nilF)).map (AV.bool) := Eq.trans rfl rfl
theorem bin_neq_fn_nilF (f : FuncId) (cs : List AV) : bin P .neq t k (.fn f cs) (.nilF) = (eqA (P.underlying t) k (.fn f cs) (.nilF)).map (fun b => .bool !b) := Eq.trans rfl rfl
theorem bin_eql_nilM_nilM : bin P .eql t k (.nilM) (.nilM) = (eqA (P.underlying t) k (.nilM) (.nilM)).map (AV.bool) := Eq.trans rfl rfl
theorem bin_neq_nilM_nilM : bin P .neq t k (.nilM) (.nilM) = (eqA (P.underlying t) k (.nilM) (.nilM)).map (fun b => .bool !b) := Eq.trans rfl rfl
theorem bin_eql_map_nilM (a : Nat) : bin P .eql t k (.map a) (.nilM) = (eqA (P.underlying t) k (.map a) (.nilM)).map (AV.bool) := Eq.trans rfl rfl
theorem bin_neq_map_nilM (a : Nat) : bin P .neq t k (.map a) (.nilM) = (eqA (P.underlying t) k (.map a) (.nilM)).map (fun b => .bool !b) := Eq.trans rfl rfl
theorem bin_eql_nilI_nilI : bin P .eql t k (.nilI) (.nilI) = (eqA (P.underlying t) k (.nilI) (.nilI)).map (AV.bool) := Eq.trans rfl rfl
theorem bin_neq_nilI_nilI : bin P .neq t k (.nilI) (.nilI) = (eqA (P.underlying t) k (.nilI) (.nilI)).map (fun b => .bool !b) := Eq.trans rfl rfl
theorem bin_eql_ifc_nilI (u : TypeId) (v : AV) : bin P .eql t k (.ifc u v) (.nilI) = (eqA (P.underlying t) k (.ifc u v) (.nilI)).map (AV.bool) := Eq.trans rfl rfl
theorem bin_neq_ifc_nilI (u : TypeId) (v : AV) : bin P .neq t k (.ifc u v) (.nilI) = (eqA (P.underlying t) k (.ifc u v) (.nilI)).map (fun b => .bool !b) := Eq.trans rfl rfl
theorem bin_eql_nilI_ifc (u : TypeId) (v : AV) : bin P .eql t k (.nilI) (.ifc u v) = (eqA (P.underlying t) k (.nilI) (.ifc u v)).map (AV.bool) := Eq.trans rfl rfl
theorem bin_neq_nilI_ifc (u : TypeId) (v : AV) : bin P .neq t k (.nilI) (.ifc u v) = (eqA (P.underlying t) k (.nilI) (.ifc u v)).map (fun b => .bool !b) := Eq.trans rfl rfl
theorem bin_eql_ifc_ifc (u : TypeId) (v : AV) (u' : TypeId) (v' : AV) : bin P .eql t k (.ifc u v) (.ifc u' v') = (eqA (P.underlying t) k (.ifc u v) (.ifc u' v')).map (AV.bool) := Eq.trans rfl rfl
theorem bin_neq_ifc_ifc (u : TypeId) (v : AV) (u' : TypeId) (v' : AV) : bin P .neq t k (.ifc u v) (.ifc u' v') = (eqA (P.underlying t) k (.ifc u v) (.ifc u' v')).map (fun b => .bool !b) := Eq.trans rfl rfl
theorem bin_eql_ptr_ptr (a b : Nat) (a' b' : Nat) : bin P .eql t k (.ptr a b) (.ptr a' b') = (eqA (P.underlying t) k (.ptr a b) (.ptr a' b')).map (AV.bool) := Eq.trans rfl rfl
theorem bin_neq_ptr_ptr (a b : Nat) (a' b' : Nat) : bin P .neq t k (.ptr a b) (.ptr a' b') = (eqA (P.underlying t) k (.ptr a b) (.ptr a' b')).map (fun b => .bool !b) := Eq.trans rfl rfl
end
attribute [simp] eqA isConst bin_eql_nilS_nilS bin_neq_nilS_nilS bin_eql_nilS_list bin_neq_nilS_list bin_eql_list_nilS bin_neq_list_nilS bin_eql_nilS_arr bin_neq_nilS_arr bin_eql_arr_nilS bin_neq_arr_nilS bin_eql_nilP_nilP bin_neq_nilP_nilP bin_eql_nilP_ptr bin_neq_nilP_ptr bin_eql_ptr_nilP bin_neq_ptr_nilP bin_eql_nilP_ref bin_neq_nilP_ref bin_eql_ref_nilP bin_neq_ref_nilP bin_eql_nilF_nilF bin_neq_nilF_nilF bin_eql_fn_nilF bin_neq_fn_nilF bin_eql_nilM_nilM bin_neq_nilM_nilM bin_eql_map_nilM bin_neq_map_nilM bin_eql_nilI_nilI bin_neq_nilI_nilI bin_eql_ifc_nilI bin_neq_ifc_nilI bin_eql_nilI_ifc bin_neq_nilI_ifc bin_eql_ifc_ifc bin_neq_ifc_ifc bin_eql_ptr_ptr bin_neq_ptr_ptr
section
variable (P : Program) (H : Heap) (t : TypeId) (lo hi mx : Nat → Option Nat) (three : Bool)
theorem sliceA_str (s : List UInt8) : sliceA P H t (.str s) lo hi mx false =
    (match P.underlying t, lo 0, hi s.length with
    | some .string, some l, some h => if l ≤ h ∧ h ≤ s.length then some (.str ((s.drop l).take (h - l))) else none
    | _, _, _ => none) := Eq.trans rfl rfl
theorem sliceA_nilS : sliceA P H t .nilS lo hi mx three =
    (match eltS P t, lo 0, hi 0, mx 0 with
    | some _, some 0, some 0, some 0 => some .nilS
    | _, _, _, _ => none) := Eq.trans rfl rfl
theorem sliceA_list (es : List (List AV)) (g : Tag) : sliceA P H t (.list es g) lo hi mx three =
    (match eltS P t, lo 0, hi es.length, mx es.length with
    | some sz, some l, some h, some m =>
      if l ≤ h ∧ h ≤ es.length ∧ (three = true → m = h) ∧ es.all (fun e => e.length == sz) then some (.list ((es.drop l).take (h - l)) (if three then .full else .frozen)) else none
    | _, _, _, _ => none) := Eq.trans rfl rfl
theorem sliceA_arr (id off len sz : Nat) : sliceA P H t (.arr id off len sz) lo hi mx false =
    (match eltS P t, lo 0, hi len with
    | some sz', some l, some h => if sz' = sz ∧ h ≤ len ∧ l ≤ h ∧ (l = h → l = 0) then some (.arr id (off + l * sz) (h - l) sz) else none
    | _, _, _ => none) := Eq.trans rfl rfl
end
attribute [simp] sliceA_str sliceA_nilS sliceA_list sliceA_arr
/-- A function of the closed kind, by running it. -/
theorem Fn.run {E : Env} {f : FuncId} {args : List AV} {X : AV} (n : Nat) (hx : E.ext f args = none) (hu : E.use f = true) (hc : E.closed f = true)
    (h : closedF E (runF E (evalF E n) n f) args E.base = some (X, E.base)) : Fn E f args X := fun H R m => by
  unfold closedF at h
  split at h
  · rename_i hh
    split at h
    · rename_i v H1 hr
      split at h
      · rename_i h2
        simp only [Option.some.injEq, Prod.mk.injEq, and_true] at h
        subst h
        by_cases hH : H.trunc E.base.next = E.base
        · have key : evalF E (n + 1) f args H = some ((shutR E.base.next H1 v).1.calmR, H) := by
            rw [evalF_eq, hx]
            simp only [hu, hc, ↓reduceIte, closedF, hh.1, hH, hr, h2, and_self]
          rw [ACalls_iff key]
          simp only [hH, true_and, Held]
        · constructor
          · rintro ⟨m, u, H2, h4, -⟩
            cases m with
            | zero => simp [evalF] at h4
            | succ m =>
              rw [evalF_eq, hx] at h4
              simp [hu, hc, closedF, hH] at h4
          · intro h4; exact absurd h4.1 hH
      · simp at h
    · simp at h
  · simp at h
theorem Ctx_iter_yw (E : Env) (κ : Ctx) (f : FuncId) (ps : List Nat) (a b : Code) (ρ : Tmps) (id0 id : Nat) (args : List AV) (H : Heap) (K : Heap → Prop) (m : Mark K) :
    (Ctx.iter E κ f ps a b ρ id0).yw id args H (Held K m) = (id = id0 ∧ args.length = ps.length ∧ Wp E κ.inRound f a (ρ.setL ps args) H fun e ρ1 H1 => e = .normal ∧ Wp E κ.inRound f b ρ1 H1 fun e _ H2 => e = .normal ∧ K H2) := Eq.trans rfl rfl
theorem setL_nil (ρ : Tmps) (vs : List AV) : ρ.setL [] vs = ρ := by cases vs <;> rfl
theorem setL_cons (ρ : Tmps) (p : Nat) (ps : List Nat) (v : AV) (vs : List AV) : ρ.setL (p :: ps) (v :: vs) = (ρ.set p v).setL ps vs := Eq.trans rfl rfl
attribute [simp] Ctx_iter_yw setL_nil setL_cons
theorem Wp.unroll {E : Env} {κ : Ctx} {f : FuncId} {b : Code} {ρ : Tmps} {H : Heap} {Q : AExit → Tmps → Heap → Prop} {m : Mark (Does E κ.yl κ.rd f (.loop b) ρ H Q)}
    (h : Wp E κ f b ρ H fun e ρ' H' => match e with | .normal => Held (Does E κ.yl κ.rd f (.loop b) ρ' H' Q) .mk | e => Q e ρ' H') : Held (Does E κ.yl κ.rd f (.loop b) ρ H Q) m :=
  (Does_loop ..).2 ((Wp_sound _ _ _ _ h).mono fun e _ _ h => by cases e <;> exact h)
end Go.Am
