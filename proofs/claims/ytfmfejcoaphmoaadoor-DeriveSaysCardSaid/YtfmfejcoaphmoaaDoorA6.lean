/- AM, an abstract machine over plain values, and that the model does what it does: a part of the proof. -/
import Derived.Test.YtfmfejcoaphmoaaDoorA5
set_option linter.unusedSimpArgs false
set_option linter.unusedVariables false
/- AM: what an operation looks at; what it does to the heap; which operations wait for which. -/
namespace Go.Am
open Go

variable {E : Env} {c : Bool} {o : Oper} {ρ ρ' : Tmps} {H H' : Heap} {v : AV} {kd : Kind}

theorem bnd_congr {ng : Nat} {x : Option Operand} {d : Nat} (h : ∀ y ∈ x.toList, evalOp ng ρ y = evalOp ng ρ' y) : bnd ng ρ x d = bnd ng ρ' x d := by
  cases x with
  | none => rfl
  | some y => simp only [bnd]; rw [h y (by simp)]

theorem map_congr_ops {ng : Nat} {l : List Operand} (h : ∀ y ∈ l, evalOp ng ρ y = evalOp ng ρ' y) : l.map (evalOp ng ρ) = l.map (evalOp ng ρ') := List.map_congr_left h

theorem pairs_congr_ops {ng : Nat} {l : List (Nat × Operand)} (h : ∀ y ∈ l.map (·.2), evalOp ng ρ y = evalOp ng ρ' y) : (l.map fun (i, x) => (i, evalOp ng ρ x)) = l.map fun (i, x) => (i, evalOp ng ρ' x) :=
  List.map_congr_left fun p hp => by
    obtain ⟨i, x⟩ := p
    simp only [h x (List.mem_map.2 ⟨(i, x), hp, rfl⟩)]

theorem aop_congr (h : ∀ x ∈ o.op.operands, evalOp E.ng ρ x = evalOp E.ng ρ' x) : aop E c o ρ H = aop E c o ρ' H := by
  obtain ⟨dst, op, type, pos, after, guard⟩ := o
  cases op <;> simp only [Op.operands] at h <;> simp only [aop]
  case move x => simp only [h x (by simp)]
  case assign x => simp only [h x (by simp)]
  case pick x y z => simp only [h x (by simp), h y (by simp), h z (by simp)]
  case box t x => simp only [h x (by simp)]
  case build t ps => rw [pairs_congr_ops (l := ps.toList) fun y hy => h y (by simpa using hy)]
  case buildSlice t n ps => rw [pairs_congr_ops (l := ps.toList) fun y hy => h y (by simpa using hy)]
  case load t x => simp only [h x (by simp)]
  case store t x y => simp only [h x (by simp), h y (by simp)]
  case nilCheck x => simp only [h x (by simp)]
  case binOp op t x y u => simp only [h x (by simp), h y (by simp)]
  case unOp op t x => simp only [h x (by simp)]
  case convert s d x => simp only [h x (by simp)]
  case makeInterface t x => simp only [h x (by simp)]
  case makeFunc f first caps =>
    cases f <;> try rfl
    obtain ⟨l⟩ := first
    cases l with
    | nil =>
      have : caps.toList.map (fun x => (evalOp E.ng ρ x).freeze) = caps.toList.map (fun x => (evalOp E.ng ρ' x).freeze) := List.map_congr_left fun x hx => by
        rw [h x (by simp at hx ⊢; exact hx)]
      simp only [this]
    | cons x l => rfl
  case makeSlice t l cp => simp only [h l (by simp), h cp (by simp)]
  case slice t x lo hi mx =>
    have h1 : bnd E.ng ρ lo = bnd E.ng ρ' lo := funext fun d => bnd_congr fun y hy => h y (by simp at hy; simp [hy])
    have h2 : bnd E.ng ρ hi = bnd E.ng ρ' hi := funext fun d => bnd_congr fun y hy => h y (by simp at hy; simp [hy])
    have h3 : bnd E.ng ρ mx = bnd E.ng ρ' mx := funext fun d => bnd_congr fun y hy => h y (by simp at hy; simp [hy])
    simp only [h x (by simp), h1, h2, h3]
  case fieldAddr t x f => simp only [h x (by simp)]
  case indexAddr t x i => simp only [h x (by simp), h i (by simp)]
  case index t x i => simp only [h x (by simp), h i (by simp)]
  case typeAssert x s t ok => simp only [h x (by simp)]
  case extract x i => simp only [h x (by simp)]
  case call k =>
    obtain ⟨callee, ⟨args⟩, ⟨ts⟩⟩ := k
    cases callee with
    | builtin b =>
      have : args.map (evalOp E.ng ρ) = args.map (evalOp E.ng ρ') := map_congr_ops fun y hy => h y (by simpa [Call.operands] using hy)
      simp only [this]
    | value f => rfl
    | invoke r m => rfl
  case makeMap t r => cases r <;> rfl
  all_goals rfl

theorem evalOp1_congr {call : Call} {f : FuncId} {draw : Bool} {t : Tr} (h : ∀ x ∈ o.op.operands, evalOp E.ng ρ x = evalOp E.ng ρ' x) : evalOp1 E call f draw o ρ H t = evalOp1 E call f draw o ρ' H t := by
  have h0 := fun c H => aop_congr (E := E) (c := c) (H := H) h
  obtain ⟨dst, op, type, pos, after, guard⟩ := o
  unfold evalOp1
  split
  · rename_i g args ts ho
    dsimp only at ho
    subst ho
    simp only [Op.operands, Call.operands] at h
    have h1 : evalOp E.ng ρ g = evalOp E.ng ρ' g := h g (by simp)
    have h2 : args.map (evalOp E.ng ρ) = args.map (evalOp E.ng ρ') := map_congr_ops fun y hy => h y (by simp [hy])
    rw [h1, h2]
  · rw [h0]

/-- What an operation does to the heap, by its kind. -/
def KindHeap (kd : Kind) (H H' : Heap) : Prop :=
  match kd with
  | .pure | .load .. => H' = H
  | .alloc => ∃ ob, H' = H.push ob
  | .quiet => ∀ id, id < H.next → H'.get id = H.get id ∨ (H.get id = some .tok ∧ H'.get id = none)
  | .loud => True

theorem get_push_old {H : Heap} {ob' : Obj} {id : Nat} (h : id < H.next) : (H.push ob').get id = H.get id := by
  rw [get_push, if_neg (Nat.ne_of_lt h)]

theorem appendA_kind {sz b : Nat} {s x : AV} {xs : List (List AV)} (h : appendA c H sz b s xs = some (v, H')) : KindHeap (appKind c s x) H H' := by
  unfold KindHeap
  split
  · rename_i h1; unfold appKind at h1; split at h1 <;> first | simp at h1 | (split at h1 <;> simp at h1)
  · rename_i h1; unfold appKind at h1; split at h1 <;> first | simp at h1 | (split at h1 <;> simp at h1)
  · rename_i h1; unfold appKind at h1; split at h1 <;> first | simp at h1 | (split at h1 <;> simp at h1)
  · rename_i h1
    intro id hid
    have hs : ∀ a b c d, s ≠ .arr a b c d := fun a b c d e => by subst e; simp [appKind] at h1
    unfold appendA at h
    split at h
    · split at h <;> simp only [Option.some.injEq, Prod.mk.injEq, reduceCtorEq] at h
      all_goals (rw [← h.2]; exact .inl rfl)
    · split at h
      · split at h
        · split at h
          · rename_i hc
            subst hc
            exfalso
            unfold appKind at h1
            split at h1 <;> simp_all
          · simp only [Option.some.injEq, Prod.mk.injEq] at h
            rw [← h.2]; exact .inl (get_push_old hid)
        · simp at h
      · split at h
        · split at h
          · simp only [Option.some.injEq, Prod.mk.injEq] at h
            rw [← h.2]; exact .inl (get_push_old hid)
          · split at h
            · rename_i hd
              simp only [Option.some.injEq, Prod.mk.injEq] at h
              rw [← h.2, get_push_old (by rw [next_put]; exact hid), get_put]
              split
              · rename_i e; rw [e.1]; exact .inr ⟨hd.1, rfl⟩
              · exact .inl rfl
            · simp at h
          · simp at h
        · simp at h
      · exact absurd rfl (hs _ _ _ _)
      · simp at h
  · trivial

theorem aop_kind (hs : aop E c o ρ H = some (v, H', kd)) : KindHeap kd H H' := by
  unfold aop at hs
  dsimp only at hs
  split at hs
  all_goals first
    | (simp at hs; done)
    | (simp only [Option.some.injEq, Prod.mk.injEq] at hs; obtain ⟨-, rfl, rfl⟩ := hs; first | exact rfl | exact ⟨_, rfl⟩ | exact trivial)
    | skip
  all_goals repeat' (split at hs)
  all_goals first
    | (simp at hs; done)
    | (simp only [Option.some.injEq, Prod.mk.injEq] at hs; obtain ⟨-, rfl, rfl⟩ := hs; first | exact rfl | exact ⟨_, rfl⟩ | exact trivial | exact fun id h => .inl (get_push_old h))
    | (simp only [Option.map_eq_some_iff, Prod.mk.injEq] at hs; obtain ⟨_, _, -, rfl, rfl⟩ := hs; first | exact rfl | exact ⟨_, rfl⟩ | exact trivial | (split <;> first | exact rfl | exact trivial))
    | (simp only [Option.bind_eq_some_iff, Option.some.injEq, Prod.mk.injEq] at hs; obtain ⟨_, _, -, rfl, rfl⟩ := hs; first | exact rfl | exact ⟨_, rfl⟩ | exact trivial)
    | (simp only [Option.bind_eq_some_iff, Option.map_eq_some_iff, Prod.mk.injEq] at hs; obtain ⟨_, _, _, _, -, rfl, rfl⟩ := hs; first | exact rfl | exact ⟨_, rfl⟩ | exact trivial)
    | (simp only [Option.bind_eq_some_iff, Option.map_eq_some_iff, Prod.mk.injEq] at hs; obtain ⟨_, -, _, -, _, -, -, -, rfl⟩ := hs; exact trivial)
    | skip
  all_goals
    simp only [Option.bind_eq_some_iff] at hs
    obtain ⟨xs, -, hs⟩ := hs
    split at hs
    · simp only [Option.map_eq_some_iff, Prod.mk.injEq] at hs
      obtain ⟨⟨v1, H1⟩, h3, -, rfl, rfl⟩ := hs
      exact appendA_kind h3
    · simp at hs

end Go.Am

/- AM against the model: a region that draws its order: the text's run, step by step. -/
namespace Go.Am
open Go

variable {E : Env} {c : Bool} {o : Oper} {H H' : Heap} {v : AV}

/-! ### Which operation waits for which -/

theorem befores_len : ∀ (os : List Oper) (acc : List Nat), (befores acc os).length = acc.length + os.length
  | [], acc => by simp [befores]
  | o :: os, acc => by rw [befores, befores_len os]; simp; omega

theorem befores_pre : ∀ (os : List Oper) (acc : List Nat) (i : Nat), i < acc.length → (befores acc os)[i]? = acc[i]?
  | [], acc, i, h => rfl
  | o :: os, acc, i, h => by rw [befores, befores_pre os _ i (by simp; omega), List.getElem?_append_left h]

theorem befores_at : ∀ (os : List Oper) (acc : List Nat) (j : Nat) (o : Oper), os[j]? = some o → (befores acc os)[acc.length + j]? = some (maskOf ((befores acc os).take (acc.length + j)) o)
  | [], acc, j, o, h => by simp at h
  | x :: os, acc, 0, o, h => by
    simp at h; subst h
    rw [befores, befores_pre os _ _ (by simp)]
    have : (befores (acc ++ [maskOf acc x]) os).take (acc.length + 0) = acc := by
      apply List.ext_getElem?
      intro i
      rw [List.getElem?_take]
      split
      · rename_i hi
        rw [befores_pre os _ i (by simp; omega), List.getElem?_append_left (by simpa using hi)]
      · rename_i hi
        rw [List.getElem?_eq_none (by omega)]
    rw [this]
    simp
  | x :: os, acc, j + 1, o, h => by
    have := befores_at os (acc ++ [maskOf acc x]) j o (by simpa using h)
    simp only [List.length_append, List.length_singleton] at this
    rw [befores]
    have e : acc.length + (j + 1) = acc.length + 1 + j := by omega
    rw [e]; exact this

theorem foldl_mask (acc : List Nat) (i : Nat) : ∀ (es : List Edge) (s : Nat), (es.foldl (fun s e => if Region.binds .any e then s ||| 2 ^ e.on ||| acc.getD e.on 0 else s) s).testBit i = true →
    s.testBit i = true ∨ ∃ e ∈ es, Region.binds .any e = true ∧ (e.on = i ∨ (acc.getD e.on 0).testBit i = true)
  | [], s, h => .inl h
  | e :: es, s, h => by
    simp only [List.foldl_cons] at h
    rcases foldl_mask acc i es _ h with h1 | ⟨e', he', h2⟩
    · split at h1
      · rename_i hb
        simp only [Nat.testBit_or, Bool.or_eq_true] at h1
        rcases h1 with (h1 | h1) | h1
        · exact .inl h1
        · refine .inr ⟨e, by simp, hb, .inl ?_⟩
          rw [Nat.testBit_two_pow] at h1
          simpa using h1
        · exact .inr ⟨e, by simp, hb, .inr h1⟩
      · exact .inl h1
    · exact .inr ⟨e', by simp [he'], h2⟩

/-- A mask's bits: the operations that its edges name, and those ahead of them. -/
theorem before_bit {ops : Array Oper} {i j : Nat} {o : Oper} (ho : ops[j]? = some o) (hb : ∀ e ∈ o.after, Region.binds .any e = true → e.on < j) (h : ((befores [] ops.toList).getD j 0).testBit i = true) :
    ∃ e ∈ o.after, Region.binds .any e = true ∧ e.on < j ∧ (e.on = i ∨ ((befores [] ops.toList).getD e.on 0).testBit i = true) := by
  have h1 := befores_at ops.toList [] j o (by simpa using ho)
  simp only [List.length_nil, Nat.zero_add] at h1
  rw [List.getD_eq_getElem?_getD, h1] at h
  simp only [Option.getD_some, maskOf] at h
  rcases foldl_mask _ i _ _ h with h2 | ⟨e, he, h3, h4⟩
  · simp at h2
  · have he' : e ∈ o.after := by simpa using he
    have hlt := hb e he' h3
    refine ⟨e, he', h3, hlt, h4.imp id fun h5 => ?_⟩
    rw [List.getD_eq_getElem?_getD, List.getElem?_take, if_pos hlt, ← List.getD_eq_getElem?_getD] at h5
    exact h5

/-- What is asked of the text, said plainly. -/
structure DrawOk (E : Env) (f : FuncId) (ops : Array Oper) : Prop where
  back : ∀ j o, ops[j]? = some o → ∀ e ∈ o.after, Region.binds .any e = true → e.on < j
  pair : ∀ i j x y, i < j → ops[i]? = some x → ops[j]? = some y → pairOk E f ops (befores [] ops.toList) i j x y = true

theorem drawOk_spec {f : FuncId} {ops : Array Oper} (h : drawOk E f ops = true) : DrawOk E f ops := by
  unfold drawOk at h
  simp only [List.all_eq_true, Bool.and_eq_true] at h
  have hm : ∀ j o, ops[j]? = some o → (o, j) ∈ ops.toList.zipIdx := fun j o ho => by
    rw [List.mem_zipIdx_iff_getElem?]; simpa using ho
  refine ⟨fun j o ho e he hb => ?_, fun i j x y hij hx hy => ?_⟩
  · have := (h (o, j) (hm j o ho)).1.1 e (by simpa using he)
    simpa [hb] using this
  · have := (h (y, j) (hm j y hy)).2 (x, i) (hm i x hx)
    simpa [hij] using this

/-- All that stand in a mask have come up. -/
theorem before_done {f : FuncId} {ops : Array Oper} (hd : DrawOk E f ops) {X : Nat → Prop} (hX : ∀ j o, X j → ops[j]? = some o → ∀ e ∈ o.after, Region.binds .any e = true → X e.on) (hlt : ∀ j, X j → j < ops.size) :
    ∀ (j : Nat) (o : Oper), ops[j]? = some o → (∀ e ∈ o.after, Region.binds .any e = true → X e.on) → ∀ i, ((befores [] ops.toList).getD j 0).testBit i = true → X i := by
  intro j
  induction j using Nat.strongRecOn with
  | _ j ih =>
    intro o ho hr i hb
    obtain ⟨e, he, h1, h2, h3⟩ := before_bit ho (hd.back j o ho) hb
    have hx := hr e he h1
    rcases h3 with rfl | h3
    · exact hx
    · have hl := hlt _ hx
      exact ih e.on h2 ops[e.on] (by simp [hl]) (hX e.on _ hx (by simp [hl])) i h3

/-! ### The text's run -/

def TrSub (t t' : Tr) : Prop := (∀ x ∈ t.loads, x ∈ t'.loads) ∧ (∀ x ∈ t.allocs, x ∈ t'.allocs) ∧ (∀ x ∈ t.calls, x ∈ t'.calls)
theorem TrSub.refl (t : Tr) : TrSub t t := ⟨fun _ h => h, fun _ h => h, fun _ h => h⟩
theorem TrSub.trans {t t' t'' : Tr} (h : TrSub t t') (h' : TrSub t' t'') : TrSub t t'' := ⟨fun x hx => h'.1 x (h.1 x hx), fun x hx => h'.2.1 x (h.2.1 x hx), fun x hx => h'.2.2 x (h.2.2 x hx)⟩

/-- What a step of the run was. -/
inductive StepIs (E : Env) (call : Call) (f : FuncId) (ops : Array Oper) (t' : Tr) (o : Oper) (ρ : Tmps) (H : Heap) (v : AV) (H1 : Heap) : Prop
  | skip (hw : wantedA ops ρ o = some false) (hv : v = .tup []) (hH : H1 = H)
  | call (g : Operand) (args : List Operand) (ts : Array TypeId) (k : FuncId) (caps : List AV) (hw : wantedA ops ρ o = some true) (ho : o.op = .call { callee := .value g, args := ⟨args⟩, argTypes := ts }) (hc : (H, H1) ∈ t'.calls)
      (hg : evalOp E.ng ρ g = .fn k caps) (he : call k (args.map (evalOp E.ng ρ) ++ caps) H = some (v, H1))
  | op (kd : Kind) (hw : wantedA ops ρ o = some true) (ho : ∀ g args ts, o.op ≠ .call { callee := .value g, args := args, argTypes := ts }) (hs : aop E (o.dst.any (E.cf f)) o ρ H = some (v, H1, kd)) (hf : fits (clsOf (o.dst.any (E.cf f)) o) kd = true)
      (hl : ∀ id off n, kd = .load id off n → (id, off, n) ∈ t'.loads) (ha : kd = .alloc → H.next ∈ t'.allocs)

theorem stepIs_of {call : Call} {f : FuncId} {ops : Array Oper} {ρ : Tmps} {H1 : Heap} {t t1 t' : Tr} (hw : wantedA ops ρ o = some true) (h : evalOp1 E call f true o ρ H t = some (v, H1, t1)) (ht : TrSub t1 t') : StepIs E call f ops t' o ρ H v H1 ∧ TrSub t t1 := by
  unfold evalOp1 at h
  split at h
  · rename_i g args ts ho
    split at h
    · rename_i k caps hg
      simp only [Option.map_eq_some_iff, Prod.mk.injEq] at h
      obtain ⟨⟨v1, H2⟩, h3, rfl, rfl, rfl⟩ := h
      exact ⟨.call g args ts k caps hw ho (ht.2.2 _ (by simp)) hg h3, fun _ h => h, fun _ h => h, fun _ h => by simp [h]⟩
    · simp at h
  · rename_i hno
    simp only [Option.bind_eq_some_iff] at h
    obtain ⟨⟨v1, H2, k⟩, h3, h4⟩ := h
    dsimp only at h4
    split at h4
    · rename_i hf
      simp only [Bool.not_true, Bool.false_or] at hf
      have hno' : ∀ g args ts, o.op ≠ .call { callee := .value g, args := args, argTypes := ts } := fun g args ts e => hno g args.toList ts (by rw [e])
      split at h4
      · simp only [Option.some.injEq, Prod.mk.injEq] at h4
        obtain ⟨rfl, rfl, rfl⟩ := h4
        refine ⟨.op _ hw hno' h3 hf (fun id off n e => ?_) (fun e => by simp at e), fun _ h => by simp [h], fun _ h => h, fun _ h => h⟩
        injection e with e1 e2 e3; subst e1; subst e2; subst e3
        exact ht.1 _ (by simp)
      · simp only [Option.some.injEq, Prod.mk.injEq] at h4
        obtain ⟨rfl, rfl, rfl⟩ := h4
        exact ⟨.op _ hw hno' h3 hf (fun id off n e => by simp at e) (fun _ => ht.2.1 _ (by simp)), fun _ h => h, fun _ h => by simp [h], fun _ h => h⟩
      · rename_i h5 h6
        simp only [Option.some.injEq, Prod.mk.injEq] at h4
        obtain ⟨rfl, rfl, rfl⟩ := h4
        exact ⟨.op _ hw hno' h3 hf (fun id off n e => absurd e (h5 id off n)) (fun e => absurd e h6), .refl _⟩
    · simp at h4

theorem run_of {call : Call} {f : FuncId} {ops : Array Oper} : ∀ (os : List Oper) (ρ ρ' : Tmps) (H H' : Heap) (t t' : Tr), evalOps E call f true ops os ρ H t = some (ρ', H', t') →
    TrSub t t' ∧ ∃ (ρs : Nat → Tmps) (Hs : Nat → Heap), ρs 0 = ρ ∧ Hs 0 = H ∧ ρs os.length = ρ' ∧ Hs os.length = H' ∧
      ∀ i o, os[i]? = some o → ∃ v, StepIs E call f ops t' o (ρs i) (Hs i) v (Hs (i + 1)) ∧ ρs (i + 1) = (ρs i).put o.dst v
  | [], ρ, ρ', H, H', t, t', h => by
    simp [evalOps] at h
    obtain ⟨rfl, rfl, rfl⟩ := h
    exact ⟨.refl _, fun _ => ρ, fun _ => H, rfl, rfl, rfl, rfl, fun i o h => by simp at h⟩
  | o :: os, ρ, ρ', H, H', t, t', h => by
    simp only [evalOps] at h
    have key : ∀ v H1 t1, evalOps E call f true ops os (ρ.put o.dst v) H1 t1 = some (ρ', H', t') → (TrSub t1 t' → StepIs E call f ops t' o ρ H v H1 ∧ TrSub t t1) → TrSub t t' ∧ ∃ (ρs : Nat → Tmps) (Hs : Nat → Heap), ρs 0 = ρ ∧ Hs 0 = H ∧ ρs (os.length + 1) = ρ' ∧ Hs (os.length + 1) = H' ∧
      ∀ i o', (o :: os)[i]? = some o' → ∃ v, StepIs E call f ops t' o' (ρs i) (Hs i) v (Hs (i + 1)) ∧ ρs (i + 1) = (ρs i).put o'.dst v := by
      intro v H1 t1 h1 h2
      obtain ⟨k1, ρs, Hs, k2, k3, k4, k5, k6⟩ := run_of os _ _ _ _ _ _ h1
      obtain ⟨k7, k8⟩ := h2 k1
      refine ⟨k8.trans k1, fun i => match i with | 0 => ρ | i + 1 => ρs i, fun i => match i with | 0 => H | i + 1 => Hs i, rfl, rfl, k4, k5, fun i o' ho' => ?_⟩
      cases i with
      | zero =>
        simp at ho'; subst ho'
        subst k3; exact ⟨v, k7, k2⟩
      | succ i => exact k6 i o' (by simpa using ho')
    split at h
    · rename_i hw
      simp only [Option.bind_eq_some_iff] at h
      obtain ⟨⟨v1, H1, t1⟩, h1, h2⟩ := h
      exact key v1 H1 t1 h2 fun ht => stepIs_of hw h1 ht
    · rename_i hw
      exact key (.tup []) H t h fun _ => ⟨.skip hw rfl rfl, .refl _⟩
    · simp at h

end Go.Am

/- AM against the model: a region that draws its order: what stays as it is, whatever order is drawn. -/
namespace Go.Am
open Go

variable {E : Env} {call : Call} {f : FuncId} {ops : Array Oper} {t' : Tr} {ρs : Nat → Tmps} {Hs : Nat → Heap}

/-- The text's run. -/
structure TextRun (E : Env) (call : Call) (f : FuncId) (ops : Array Oper) (t' : Tr) (ρs : Nat → Tmps) (Hs : Nat → Heap) : Prop where
  callOk : CallOk E call
  draw : DrawOk E f ops
  tok : t'.ok = true
  step : ∀ i o, ops[i]? = some o → ∃ v, StepIs E call f ops t' o (ρs i) (Hs i) v (Hs (i + 1)) ∧ ρs (i + 1) = (ρs i).put o.dst v

theorem StepIs.next {o : Oper} {ρ : Tmps} {H H1 : Heap} {v : AV} (h : StepIs E call f ops t' o ρ H v H1) (hc : CallOk E call) : H.next ≤ H1.next := by
  cases h with
  | skip hw hv hH => rw [hH]; exact Nat.le_refl _
  | call g args ts k caps hw ho hcc hg he => exact (hc _ _ _ _ _ he).2.1
  | op kd hw ho hs hf hl ha => exact aop_next hs

namespace TextRun
theorem nextLe (R : TextRun E call f ops t' ρs Hs) {i j : Nat} (hij : i ≤ j) (hj : j ≤ ops.size) : (Hs i).next ≤ (Hs j).next := by
  induction j with
  | zero => have : i = 0 := by omega
            subst this; exact Nat.le_refl _
  | succ j ih =>
    rcases Nat.lt_or_ge i (j + 1) with h | h
    · obtain ⟨v, h1, -⟩ := R.step j ops[j] (by simp)
      exact Nat.le_trans (ih (by omega) (by omega)) (h1.next R.callOk)
    · have : i = j + 1 := by omega
      subst this; exact Nat.le_refl _

def eff (E : Env) (f : FuncId) (o : Oper) : Bool := (clsOf (o.dst.any (E.cf f)) o).effect

/-- A step that is no effect keeps all that was there. -/
theorem keep (R : TextRun E call f ops t' ρs Hs) {k : Nat} {o : Oper} (ho : ops[k]? = some o) (he : eff E f o = false) {id : Nat} (hid : id < (Hs k).next) : (Hs (k + 1)).get id = (Hs k).get id := by
  obtain ⟨v, h1, -⟩ := R.step k o ho
  cases h1 with
  | skip hw hv hH => rw [hH]
  | call g args ts kk caps hw hop hcc hg hee => simp [eff, clsOf, hop, Cls.effect] at he
  | op kd hw hop hs hf hl ha =>
    have hk := aop_kind hs
    unfold eff at he
    generalize clsOf (o.dst.any (E.cf f)) o = cl at *
    cases kd with
    | pure => rw [show Hs (k + 1) = Hs k from hk]
    | load a b c => rw [show Hs (k + 1) = Hs k from hk]
    | alloc => obtain ⟨ob, hk⟩ := hk; rw [hk, get_push_old hid]
    | quiet => cases cl <;> simp [Cls.effect] at he <;> simp [fits] at hf
    | loud => cases cl <;> simp [Cls.effect] at he <;> simp [fits] at hf

/-- Two operations in the text, neither of which waits for the other. -/
def Loose (ops : Array Oper) (i j : Nat) : Prop := ((befores [] ops.toList).getD j 0).testBit i = false

/-- What a load reads is the same on both sides of an operation that may come up on either side of it. -/
theorem rngSame (R : TextRun E call f ops t' ρs Hs) {i k : Nat} {oi ok : Oper} (hi : ops[i]? = some oi) (hk : ops[k]? = some ok) (hne : i ≠ k) (hli : clsOf (oi.dst.any (E.cf f)) oi = .load) (h1 : i < k → Loose ops i k) (h2 : k < i → Loose ops k i)
    {id off n : Nat} (hld : (id, off, n) ∈ t'.loads) (hid : id < (Hs k).next) : (Hs (k + 1)).rng id off n = (Hs k).rng id off n := by
  by_cases he : eff E f ok = false
  · have := R.keep hk he hid
    simp only [Heap.rng, Heap.cells, this]
  · simp only [Bool.not_eq_false] at he
    have hloud : clsOf (ok.dst.any (E.cf f)) ok ≠ .loud := fun hlo => by
      rcases Nat.lt_or_ge i k with h | h
      · have hp := R.draw.pair i k oi ok h hi hk
        have hL := h1 h
        unfold Loose at hL
        rw [pairOk, hL] at hp; simp [hli, hlo, Cls.effect] at hp
      · have h' : k < i := by omega
        have hp := R.draw.pair k i ok oi h' hk hi
        have hL := h2 h'
        unfold Loose at hL
        rw [pairOk, hL] at hp; simp [hli, hlo, Cls.effect] at hp
    obtain ⟨v, h3, -⟩ := R.step k ok hk
    cases h3 with
    | skip hw hv hH => rw [hH]
    | call g args ts kk caps hw hop hcc hg hee =>
      have ht := R.tok
      simp only [Tr.ok, Bool.and_eq_true, List.all_eq_true] at ht
      have := ht.1 _ hld _ hcc
      simp [hid] at this
      exact this.symm
    | op kd hw hop hs hf hl ha =>
      have hkd := aop_kind hs
      cases kd with
      | pure => rw [show Hs (k + 1) = Hs k from hkd]
      | load a b c => rw [show Hs (k + 1) = Hs k from hkd]
      | alloc => obtain ⟨ob, hkd⟩ := hkd; simp only [hkd, Heap.rng, Heap.cells, get_push_old hid]
      | quiet =>
        rcases hkd id hid with h4 | ⟨h4, h5⟩
        · simp only [Heap.rng, Heap.cells, h4]
        · simp only [Heap.rng, Heap.cells, h4, h5]
      | loud =>
        unfold eff at he
        generalize clsOf (ok.dst.any (E.cf f)) ok = cl at *
        cases cl <;> simp [Cls.effect] at he <;> simp [fits] at hf <;> exact absurd rfl hloud

/-- A thing that was made is the same behind an operation that need not wait for it. -/
theorem getSame (R : TextRun E call f ops t' ρs Hs) {i k : Nat} {oi ok : Oper} (hi : ops[i]? = some oi) (hk : ops[k]? = some ok) (hik : i < k) (hli : clsOf (oi.dst.any (E.cf f)) oi = .alloc) (h1 : Loose ops i k)
    {id : Nat} (hal : id ∈ t'.allocs) (hid : id < (Hs k).next) (hnt : (Hs k).get id ≠ some .tok) : (Hs (k + 1)).get id = (Hs k).get id := by
  by_cases he : eff E f ok = false
  · exact R.keep hk he hid
  · simp only [Bool.not_eq_false] at he
    have hloud : clsOf (ok.dst.any (E.cf f)) ok ≠ .loud := fun hlo => by
      have hp := R.draw.pair i k oi ok hik hi hk
      unfold Loose at h1
      rw [pairOk, h1] at hp; simp [hli, hlo, Cls.effect] at hp
    obtain ⟨v, h3, -⟩ := R.step k ok hk
    cases h3 with
    | skip hw hv hH => rw [hH]
    | call g args ts kk caps hw hop hcc hg hee =>
      have ht := R.tok
      simp only [Tr.ok, Bool.and_eq_true, List.all_eq_true] at ht
      have := ht.2 _ hal _ hcc
      simp [hid] at this
      exact this.symm
    | op kd hw hop hs hf hl ha =>
      have hkd := aop_kind hs
      cases kd with
      | pure => rw [show Hs (k + 1) = Hs k from hkd]
      | load a b c => rw [show Hs (k + 1) = Hs k from hkd]
      | alloc => obtain ⟨ob, hkd⟩ := hkd; rw [hkd, get_push_old hid]
      | quiet =>
        rcases hkd id hid with h4 | ⟨h4, h5⟩
        · exact h4
        · exact absurd h4 hnt
      | loud =>
        unfold eff at he
        generalize clsOf (ok.dst.any (E.cf f)) ok = cl at *
        cases cl <;> simp [Cls.effect] at he <;> simp [fits] at hf <;> exact absurd rfl hloud

end TextRun

/-- What a thing that was made by an operation of the region was when it was made. -/
noncomputable def born (Hs : Nat → Heap) (n : Nat) (id : Nat) : Option Obj :=
  open Classical in
  if h : ∃ k, k < n ∧ (Hs k).next ≤ id ∧ id < (Hs (k + 1)).next then (Hs (h.choose + 1)).get id else none

theorem born_eq (R : TextRun E call f ops t' ρs Hs) {k id : Nat} (hk : k < ops.size) (h1 : (Hs k).next ≤ id) (h2 : id < (Hs (k + 1)).next) : born Hs ops.size id = (Hs (k + 1)).get id := by
  have h : ∃ k, k < ops.size ∧ (Hs k).next ≤ id ∧ id < (Hs (k + 1)).next := ⟨k, hk, h1, h2⟩
  unfold born
  rw [dif_pos h]
  obtain ⟨h3, h4, h5⟩ := h.choose_spec
  have : h.choose = k := by
    rcases Nat.lt_trichotomy h.choose k with h6 | h6 | h6
    · have := R.nextLe (i := h.choose + 1) (j := k) (by omega) (by omega); omega
    · exact h6
    · have := R.nextLe (i := k + 1) (j := h.choose) (by omega) (by omega); omega
  rw [this]

/-- The things of the region, where the effects up to p have been carried out. -/
noncomputable def GX (Hs : Nat → Heap) (n p : Nat) (id : Nat) : Option Obj :=
  open Classical in if id < (Hs p).next then (Hs p).get id else born Hs n id

theorem get_none {H : Heap} {id : Nat} (h : H.next ≤ id) : H.get id = none := by
  cases hg : H.get id with
  | none => rfl
  | some o => have := get_lt hg; omega

/-- Where no effect lies between, it is all the same. -/
theorem GX_move (R : TextRun E call f ops t' ρs Hs) {p q : Nat} (hpq : p ≤ q) (hq : q ≤ ops.size) (hne : ∀ k o, p ≤ k → k < q → ops[k]? = some o → TextRun.eff E f o = false) : GX Hs ops.size p = GX Hs ops.size q := by
  induction q with
  | zero => have : p = 0 := by omega
            subst this; rfl
  | succ q ih =>
    rcases Nat.lt_or_ge p (q + 1) with h | h
    · rw [ih (by omega) (by omega) fun k o h1 h2 => hne k o h1 (by omega)]
      funext id
      have hk := R.keep (k := q) (o := ops[q]) (by simp) (hne q ops[q] (by omega) (by omega) (by simp)) (id := id)
      unfold GX
      by_cases h1 : id < (Hs q).next
      · have := R.nextLe (i := q) (j := q + 1) (by omega) hq
        rw [if_pos h1, if_pos (by omega), hk h1]
      · rw [if_neg h1]
        by_cases h2 : id < (Hs (q + 1)).next
        · rw [if_pos h2, born_eq R (by omega) (by omega) h2]
        · rw [if_neg h2]
    · have : p = q + 1 := by omega
      subst this; rfl

end Go.Am

/- AM against the model: a region that draws its order. -/
namespace Go.Am
open Go

/-- A step, the heap as a function. -/
structure StepG (φ : Phi) (S : Cells) (G : Nat → Option Obj) (w : World) (φ' : Phi) (S' : Cells) (G' : Nat → Option Obj) (w' : World) : Prop where
  ext : ∀ i l, φ i = some l → φ' i = some l
  s : ∀ b k, S b k → S' b k
  keeps : Keeps (MG φ G) w w'
  m : ∀ b k, MG φ' G' b k → MG φ G b k ∨ w.heap.size ≤ b
  sb : ∀ b k, S' b k → S b k ∨ MG φ G b k ∨ w.heap.size ≤ b

theorem StepG.trans {φ φ' φ'' : Phi} {S S' S'' : Cells} {G G' G'' : Nat → Option Obj} {w w' w'' : World} (h : StepG φ S G w φ' S' G' w') (h' : StepG φ' S' G' w' φ'' S'' G'' w'') :
    StepG φ S G w φ'' S'' G'' w'' := by
  refine ⟨fun i l hl => h'.ext i l (h.ext i l hl), fun b k hs => h'.s b k (h.s b k hs), ?_, fun b k hm => ?_, fun b k hs => ?_⟩
  · exact h.keeps.trans h'.keeps fun b k hb hm => (h.m b k hm).resolve_right (by omega)
  · rcases h'.m b k hm with h1 | h1
    · exact h.m b k h1
    · exact .inr (Nat.le_trans h.keeps.size h1)
  · rcases h'.sb b k hs with h1 | h1 | h1
    · exact h.sb b k h1
    · exact .inr (h.m b k h1)
    · exact .inr (.inr (Nat.le_trans h.keeps.size h1))

theorem Keeps.mono {X Y : Cells} {w w' : World} (h : Keeps X w w') (hXY : ∀ b k, X b k → Y b k) : Keeps Y w w' :=
  ⟨h.size, fun b c e fr hb => let ⟨c', h1, h2, h3⟩ := h.cells b c e fr hb; ⟨c', h1, h2, fun k hk => h3 k fun hx => hk (hXY b k hx)⟩,
   fun b o hb hc hk => h.other b o hb hc fun k hx => hk k (hXY b k hx), h.os, h.output⟩

theorem StG.sub {φ : Phi} {S : Cells} {G G' : Nat → Option Obj} {w : World} (h : StG φ S G w) (hs : ∀ i o l, G' i = some o → φ i = some l → G i = some o) : StG φ S G' w :=
  ⟨fun i o l h1 h2 => h.obj i o l (hs i o l h1 h2) h2, fun i j oi oj li lj hne h1 h2 h3 h4 => h.disj i j oi oj li lj hne (hs i oi li h1 h3) (hs j oj lj h2 h4) h3 h4,
   fun b k hsb hm => by obtain ⟨i, o, l, h1, h2, h3⟩ := hm; exact h.sM b k hsb ⟨i, o, l, hs i o l h1 h2, h2, h3⟩, h.sA⟩

theorem MG_sub {φ : Phi} {G G' : Nat → Option Obj} (hs : ∀ i o l, G' i = some o → φ i = some l → G i = some o) {b k : Nat} (h : MG φ G' b k) : MG φ G b k := by
  obtain ⟨i, o, l, h1, h2, h3⟩ := h
  exact ⟨i, o, l, hs i o l h1 h2, h2, h3⟩

theorem StG.addG {φ : Phi} {S : Cells} {G : Nat → Option Obj} {w : World} (h : StG φ S G w) {id : Nat} {loc : Loc} (hn : φ id = none) (ho : ∀ ob, G id = some ob → ObjOk (φ.add id loc) S w ob loc)
    (hnew : ∀ b k, loc.has b k → ¬ S b k ∧ ¬ MG φ G b k) : StG (φ.add id loc) S G w := by
  have hφ := Phi.add_ext (l := loc) hn
  have hold : ∀ i l, φ.add id loc i = some l → (i = id ∧ l = loc) ∨ (i ≠ id ∧ φ i = some l) := fun i l h2 => by
    simp only [Phi.add] at h2
    split at h2
    · rename_i e; injection h2 with h2; exact .inl ⟨e, h2.symm⟩
    · rename_i e; exact .inr ⟨e, h2⟩
  refine ⟨fun i o l h1 h2 => ?_, fun i j oi oj li lj hne h1 h2 h3 h4 b k hb hb' => ?_, fun b k hs hm => ?_, h.sA⟩
  · rcases hold i l h2 with ⟨rfl, rfl⟩ | ⟨-, h4⟩
    · exact ho o h1
    · exact (h.obj i o l h1 h4).mono hφ (fun b k hs => ⟨hs, rfl⟩) (fun _ _ _ _ h => h) (fun _ _ _ h => h) (fun _ _ _ _ h => h)
  · rcases hold i li h3 with ⟨rfl, rfl⟩ | ⟨hi, h5⟩
    · rcases hold j lj h4 with ⟨rfl, -⟩ | ⟨-, h6⟩
      · exact hne rfl
      · exact (hnew b k hb).2 ⟨j, oj, lj, h2, h6, hb'⟩
    · rcases hold j lj h4 with ⟨rfl, rfl⟩ | ⟨-, h6⟩
      · exact (hnew b k hb').2 ⟨i, oi, li, h1, h5, hb⟩
      · exact h.disj i j oi oj li lj hne h1 h2 h5 h6 b k hb hb'
  · obtain ⟨i, o, l, h1, h2, h3⟩ := hm
    rcases hold i l h2 with ⟨rfl, rfl⟩ | ⟨-, h4⟩
    · exact (hnew b k h3).1 hs
    · exact h.sM b k hs ⟨i, o, l, h1, h4, h3⟩

theorem getD_set {listed : Array Bool} {i k : Nat} (hi : i < listed.size) : (listed.setIfInBounds i true).getD k false = if k = i then true else listed.getD k false := by
  by_cases h : k = i
  · subst h; simp [hi]
  · simp [h, Array.getElem?_setIfInBounds_ne (Ne.symm h)]

section
variable {E : Env} {call : Call} {f : FuncId} {ops : Array Oper} {t' : Tr} {ρs : Nat → Tmps} {Hs : Nat → Heap}

structure Inv (E : Env) (f : FuncId) (ops : Array Oper) (ρs : Nat → Tmps) (Hs : Nat → Heap) (φ0 : Phi) (S0 : Cells) (w0 : World) (a0 : Act) (L : Nat → Bool) (a : Act) (w : World) (φ : Phi) (S : Cells) (p : Nat) : Prop where
  closed : ∀ j o, L j = true → ops[j]? = some o → ∀ e ∈ o.after, Region.binds .any e = true → L e.on = true
  slots : ∀ t m, m ≤ ops.size → (∀ k o, k < m → ops[k]? = some o → o.dst = some t → L k = true) → (∀ k o, m ≤ k → ops[k]? = some o → o.dst = some t → L k = false) → V φ S w (ρs m t) (a.tmps.getD t Go.undef)
  ple : p ≤ ops.size
  cut1 : ∀ k o, k < p → ops[k]? = some o → TextRun.eff E f o = true → L k = true
  cut2 : ∀ k o, p ≤ k → ops[k]? = some o → TextRun.eff E f o = true → L k = false
  st : StG φ S (GX Hs ops.size p) w
  dom : ∀ k, k < ops.size → L k = false → ∀ id, (Hs k).next ≤ id → id < (Hs (k + 1)).next → φ id = none
  ext : StepG φ0 S0 (Heap.get (Hs 0)) w0 φ S (GX Hs ops.size p) w
  new : ∀ i, φ i ≠ φ0 i → (Hs 0).next ≤ i ∧ i < (Hs ops.size).next
  defers : a.defers = a0.defers
  tsize : a.tmps.size = a0.tmps.size

variable {φ0 : Phi} {S0 : Cells} {w0 : World} {a0 : Act} {L : Nat → Bool} {a : Act} {w : World} {φ : Phi} {S : Cells} {p : Nat}

/-- The operations that may come up next. -/
structure Ready (ops : Array Oper) (L : Nat → Bool) (i : Nat) (o : Oper) : Prop where
  no : L i = false
  at_ : ops[i]? = some o
  all : ∀ e ∈ o.after, Region.binds .any e = true → L e.on = true

theorem ready_done (R : TextRun E call f ops t' ρs Hs) (I : Inv E f ops ρs Hs φ0 S0 w0 a0 L a w φ S p) (hL : ∀ j, L j = true → j < ops.size) {i : Nat} {o : Oper} (hr : Ready ops L i o) :
    ∀ k, ((befores [] ops.toList).getD i 0).testBit k = true → L k = true :=
  before_done R.draw (X := fun k => L k = true) (fun j o h => I.closed j o h) hL i o hr.at_ hr.all

theorem done_done (R : TextRun E call f ops t' ρs Hs) (I : Inv E f ops ρs Hs φ0 S0 w0 a0 L a w φ S p) (hL : ∀ j, L j = true → j < ops.size) {i : Nat} (hi : L i = true) :
    ∀ k, ((befores [] ops.toList).getD i 0).testBit k = true → L k = true := by
  have hlt := hL i hi
  have ho : ops[i]? = some ops[i] := by simp
  exact before_done R.draw (X := fun k => L k = true) (fun j o h => I.closed j o h) hL i _ ho (I.closed i _ hi ho)

/-- Behind i in the text, come up ahead of it, or not come up though i has not: neither waits for the other. -/
theorem loose_after (R : TextRun E call f ops t' ρs Hs) (I : Inv E f ops ρs Hs φ0 S0 w0 a0 L a w φ S p) (hL : ∀ j, L j = true → j < ops.size) {i k : Nat} (hi : L i = false) (hk : L k = true) : TextRun.Loose ops i k := by
  unfold TextRun.Loose
  cases h : ((befores [] ops.toList).getD k 0).testBit i with
  | false => rfl
  | true => rw [done_done R I hL hk i h] at hi; simp at hi

theorem loose_before (R : TextRun E call f ops t' ρs Hs) (I : Inv E f ops ρs Hs φ0 S0 w0 a0 L a w φ S p) (hL : ∀ j, L j = true → j < ops.size) {i k : Nat} {o : Oper} (hr : Ready ops L i o) (hk : L k = false) : TextRun.Loose ops k i := by
  unfold TextRun.Loose
  cases h : ((befores [] ops.toList).getD i 0).testBit k with
  | false => rfl
  | true => rw [ready_done R I hL hr k h] at hk; simp at hk

theorem pair_slots {i j : Nat} {x y : Oper} {d : Nat} (h : pairOk E f ops (befores [] ops.toList) i j x y = true) (hL : TextRun.Loose ops i j) : (x.dst = some d → d ∉ slotsOf ops y ∧ y.dst ≠ some d) ∧ (y.dst = some d → d ∉ slotsOf ops x) := by
  unfold TextRun.Loose at hL
  rw [pairOk, hL] at h
  simp only [Bool.false_or, Bool.and_eq_true] at h
  obtain ⟨⟨-, h1⟩, h2⟩ := h
  constructor
  · intro hd
    simp [hd] at h1
    exact ⟨h1.1, h1.2⟩
  · intro hd
    simp [hd] at h2
    exact h2

theorem pair_eff {i j : Nat} {x y : Oper} (h : pairOk E f ops (befores [] ops.toList) i j x y = true) (hL : TextRun.Loose ops i j) (hx : TextRun.eff E f x = true) (hy : TextRun.eff E f y = true) : False := by
  unfold TextRun.Loose at hL
  unfold TextRun.eff at hx hy
  rw [pairOk, hL] at h
  simp [hx, hy] at h

/-- What an operation looks at is as in the text's run. -/
theorem Inv.looks (R : TextRun E call f ops t' ρs Hs) (I : Inv E f ops ρs Hs φ0 S0 w0 a0 L a w φ S p) (hL : ∀ j, L j = true → j < ops.size) {i : Nat} {o : Oper} (hr : Ready ops L i o) {t : Nat} (ht : t ∈ slotsOf ops o) :
    V φ S w (ρs i t) (a.tmps.getD t Go.undef) := by
  have hi : i < ops.size := (Array.getElem?_eq_some_iff.1 hr.at_).1
  refine I.slots t i (by omega) (fun k ok hk hok hd => ?_) (fun k ok hk hok hd => ?_)
  · cases h : L k with
    | true => rfl
    | false => exact absurd ht ((pair_slots (R.draw.pair k i ok o hk hok hr.at_) (loose_before R I hL hr h)).1 hd).1
  · rcases Nat.lt_or_ge i k with h1 | h1
    · cases h : L k with
      | false => rfl
      | true => exact absurd ht ((pair_slots (R.draw.pair i k o ok h1 hr.at_ hok) (loose_after R I hL hr.no h)).2 hd)
    · have : k = i := by omega
      subst this; exact hr.no

/-- The slots that it looks at, and nothing else. -/
def looked (ops : Array Oper) (o : Oper) (ρ : Tmps) : Tmps := fun t => if t ∈ slotsOf ops o then ρ t else .undef

theorem Inv.vt (R : TextRun E call f ops t' ρs Hs) (I : Inv E f ops ρs Hs φ0 S0 w0 a0 L a w φ S p) (hL : ∀ j, L j = true → j < ops.size) {i : Nat} {o : Oper} (hr : Ready ops L i o) : VT φ S w (looked ops o (ρs i)) a := fun t => by
  unfold looked
  split
  · exact I.looks R hL hr ‹_›
  · exact .undef _

theorem looked_ops {o : Oper} {ρ : Tmps} : ∀ x ∈ o.op.operands, evalOp E.ng (looked ops o ρ) x = evalOp E.ng ρ x := fun x hx => by
  cases x with
  | tmp t =>
    simp only [evalOp, looked]
    rw [if_pos]
    exact List.mem_append_left _ (List.mem_filterMap.2 ⟨.tmp t, by simpa using hx, rfl⟩)
  | _ => rfl

theorem looked_wanted {o : Oper} {ρ : Tmps} : wantedA ops (looked ops o ρ) o = wantedA ops ρ o := by
  unfold wantedA
  cases hg : o.guard with
  | none => rfl
  | some x =>
    obtain ⟨j, want⟩ := x
    have : yieldedA ops (looked ops o ρ) j = yieldedA ops ρ j := by
      unfold yieldedA
      cases hd : (ops[j]?).bind (·.dst) with
      | none => rfl
      | some t =>
        have : looked ops o ρ t = ρ t := by
          unfold looked
          rw [if_pos]
          simp [slotsOf, hg, hd]
        simp only [this]
    simp only [this]

/-- Behind an operation. -/
theorem Inv.next (R : TextRun E call f ops t' ρs Hs) (I : Inv E f ops ρs Hs φ0 S0 w0 a0 L a w φ S p) (hL : ∀ j, L j = true → j < ops.size) {i : Nat} {o : Oper} (hr : Ready ops L i o) (hd : ∀ t, o.dst = some t → t < a0.tmps.size)
    {L' : Nat → Bool} (hL' : ∀ k, L' k = if k = i then true else L k) {v : AV} {v' : Value} {φ' : Phi} {S' : Cells} {w' : World} {p' : Nat} (hρ : ρs (i + 1) = (ρs i).put o.dst v) (hv : V φ' S' w' v v')
    (hmono : ∀ av cv, V φ S w av cv → V φ' S' w' av cv) (hp : p' ≤ ops.size) (hc1 : ∀ k o, k < p' → ops[k]? = some o → TextRun.eff E f o = true → L' k = true) (hc2 : ∀ k o, p' ≤ k → ops[k]? = some o → TextRun.eff E f o = true → L' k = false)
    (hst : StG φ' S' (GX Hs ops.size p') w') (hdom : ∀ id, φ' id ≠ φ id → (Hs i).next ≤ id ∧ id < (Hs (i + 1)).next) (hext : StepG φ S (GX Hs ops.size p) w φ' S' (GX Hs ops.size p') w') :
    Inv E f ops ρs Hs φ0 S0 w0 a0 L' (a.put o.dst v') w' φ' S' p' := by
  have hi : i < ops.size := (Array.getElem?_eq_some_iff.1 hr.at_).1
  have hmon : ∀ k, L k = true → L' k = true := fun k h => by rw [hL']; split <;> simp [h]
  have hρo : ∀ k ok t, ops[k]? = some ok → ok.dst ≠ some t → ρs (k + 1) t = ρs k t := fun k ok t hok hdt => by
    obtain ⟨vv, -, h2⟩ := R.step k ok hok
    rw [h2]
    cases hdo : ok.dst with
    | none => rfl
    | some u =>
      simp only [Tmps.put, Tmps.set]
      rw [if_neg]
      rintro rfl
      exact hdt hdo
  refine ⟨fun j oj hj hoj e he hb => ?_, fun t m hm h1 h2 => ?_, hp, hc1, hc2, hst, fun k hk hkL id h1 h2 => ?_, I.ext.trans hext, fun j hj => ?_, ?_, ?_⟩
  · rw [hL'] at hj
    split at hj
    · rename_i e'; subst e'
      rw [hr.at_] at hoj; injection hoj with hoj; subst hoj
      exact hmon _ (hr.all e he hb)
    · exact hmon _ (I.closed j oj hj hoj e he hb)
  · by_cases hdt : o.dst = some t
    · have him : i < m := by
        rcases Nat.lt_or_ge i m with h | h
        · exact h
        · have := h2 i o h hr.at_ hdt
          rw [hL', if_pos rfl] at this; simp at this
      have hval : ∀ q, i + 1 ≤ q → q ≤ m → ρs q t = v := fun q hq1 hq2 => by
        induction q with
        | zero => omega
        | succ q ih =>
          rcases Nat.lt_or_ge i q with h3 | h3
          · rw [hρo q ops[q] t (by simp) (fun hdq => ?_), ih (by omega) (by omega)]
            have h4 := h1 q ops[q] (by omega) (by simp) hdq
            rw [hL', if_neg (by omega)] at h4
            exact ((pair_slots (R.draw.pair i q o ops[q] h3 hr.at_ (by simp)) (loose_after R I hL hr.no h4)).1 hdt).2 hdq
          · have : q = i := by omega
            subst this
            rw [hρ, hdt]
            simp [Tmps.put, Tmps.set]
      rw [hval m (by omega) (Nat.le_refl _), hdt]
      have hts : t < a.tmps.size := by rw [I.tsize]; exact hd t hdt
      simp [Act.put, hts]
      exact hv
    · have h3 := I.slots t m hm (fun k ok hk hok hdk => by
          have := h1 k ok hk hok hdk
          rw [hL'] at this
          split at this
          · rename_i e; subst e; rw [hr.at_] at hok; injection hok with hok; subst hok; exact absurd hdk hdt
          · exact this) (fun k ok hk hok hdk => by
          have := h2 k ok hk hok hdk
          rw [hL'] at this
          split at this
          · simp at this
          · exact this)
      have h4 : (a.put o.dst v').tmps.getD t Go.undef = a.tmps.getD t Go.undef := by
        cases hdo : o.dst with
        | none => rfl
        | some u =>
          have : u ≠ t := fun e => hdt (by rw [hdo, e])
          simp [Act.put, Array.getElem?_setIfInBounds_ne this]
      rw [h4]
      exact hmono _ _ h3
  · rw [hL'] at hkL
    split at hkL
    · simp at hkL
    · rename_i hne
      have h3 := I.dom k hk hkL id h1 h2
      by_cases e : φ' id = φ id
      · rw [e, h3]
      · obtain ⟨h4, h5⟩ := hdom id e
        exfalso
        rcases Nat.lt_or_ge k i with h6 | h6
        · have := R.nextLe (i := k + 1) (j := i) (by omega) (by omega); omega
        · have := R.nextLe (i := i + 1) (j := k) (by omega) (by omega); omega
  · by_cases e : φ' j = φ j
    · exact I.new j (by rw [← e]; exact hj)
    · obtain ⟨h4, h5⟩ := hdom j e
      have := R.nextLe (i := 0) (j := i) (by omega) (by omega)
      have := R.nextLe (i := i + 1) (j := ops.size) (by omega) (by omega)
      omega
  · cases hdo : o.dst <;> simp [Act.put, I.defers]
  · cases hdo : o.dst <;> simp [Act.put, I.tsize]

end

end Go.Am
