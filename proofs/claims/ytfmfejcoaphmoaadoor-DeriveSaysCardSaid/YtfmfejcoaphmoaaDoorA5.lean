/- AM, an abstract machine over plain values, and that the model does what it does: a part of the proof. -/
import Derived.Test.YtfmfejcoaphmoaaDoorA4
import Derived.RangeFuncRecord
set_option linter.unusedSimpArgs false
set_option linter.unusedVariables false
/- AM against the model: whatever operation that is no call. -/
namespace Go.Am
open Go

variable {E : Env} {c : Bool} {o : Oper} {ρ : Tmps} {H H' : Heap} {v : AV} {φ : Phi} {S : Cells} {w : World} {a : Act} {kd : Kind}

theorem rng_holds (hst : St φ S H w) {id off n b base total : Nat} {cs : List AV} (h : H.rng id off n = some cs) (hφ : φ id = some (.obj b base total)) : Holds φ S w b (base + off) cs := by
  simp only [Heap.rng, Option.bind_eq_some_iff] at h
  obtain ⟨ds, h2, h3⟩ := h
  obtain ⟨h4, -⟩ := part_get h3
  obtain ⟨-, -, h6⟩ := hst.obj id _ _ (Heap.cells_get h2) hφ
  have := Holds.sub (φ := φ) (S := S) (w := w) (b := b) (off := base) (cs := ds) h6 off n
  rw [← h4] at this
  exact this

theorem did_load2 {t : TypeId} {x : Operand} (ho : o.op = .load t x) (hs : aop E c o ρ H = some (v, H', kd)) (hr : VT φ S w ρ a) (hg : GlobOk E.ng φ) (hst : St φ S H w) : Did2 E o a φ S w H v H' := by
  cases kd with
  | pure => obtain ⟨rfl, h⟩ := did_load ho hs hr hg; exact h.did2 hst
  | load id off n =>
    obtain ⟨rfl, cs, h1, h2, h3⟩ := aop_load (by simp [clsOf, ho]) hs
    obtain ⟨v', h4, h5⟩ := h3 φ S w a hr hg fun b base total hφ => rng_holds hst h1 hφ
    exact Did.did2 (.same' h5 h4) hst
  | _ =>
    exfalso
    simp only [aop, ho] at hs
    split at hs
    · split at hs <;> simp at hs
    · simp at hs
    · simp at hs
    · split at hs <;> simp at hs
    · simp at hs

theorem aop_sound (hs : aop E c o ρ H = some (v, H', kd)) (hr : VT φ S w ρ a) (hg : GlobOk E.ng φ) (hst : St φ S H w) (hn : ∀ i, H.next ≤ i → i < H'.next → φ i = none) : Did2 E o a φ S w H v H' := by
  by_cases hk : kd = .pure
  · subst hk
    obtain ⟨rfl, h⟩ := aop_pure hs hr hg hst.sA
    exact h.did2 hst
  have made : Made E o a φ S w H v H' → Did2 E o a φ S w H v H' := fun h => h.did2 hst (by
    obtain ⟨ob, loc, v', w', rfl, -⟩ := h
    exact hn _ (Nat.le_refl _) (by rw [next_push]; omega))
  cases ho : o.op with
  | load t x => exact did_load2 ho hs hr hg hst
  | store t x y => exact did_store ho hs hr hg hst
  | slice t x lo hi mx => exact did_slice_arr ho hs hr hg hst
  | convert s d x => exact did_convert_arr ho hs hr hg hst
  | binOp op t x y u => exact did_ptrEq ho hs hr hg hst
  | makeSlice t l cp => exact made (made_makeSlice ho hs hr hg hst.sA)
  | alloc t =>
    have hk2 : kd = .alloc := by
      simp only [aop, ho, Option.bind_eq_some_iff, Option.some.injEq, Prod.mk.injEq] at hs
      obtain ⟨z, hz, -, -, h⟩ := hs
      exact h.symm
    subst hk2
    exact made (aop_alloc (c := c) (by simp [clsOf, ho]) hs hr hg hst.sA)
  | box t x =>
    have hk2 : kd = .alloc ∧ c = false := by
      simp only [aop, ho] at hs
      split at hs
      · split at hs
        · simp only [Option.some.injEq, Prod.mk.injEq] at hs; exact absurd hs.2.2.symm hk
        · rename_i hc
          simp only [Option.some.injEq, Prod.mk.injEq] at hs
          exact ⟨hs.2.2.symm, by simpa using hc⟩
      · simp at hs
    obtain ⟨rfl, rfl⟩ := hk2
    exact made (aop_alloc (c := false) (by simp [clsOf, ho]) hs hr hg hst.sA)
  | buildSlice t n ps =>
    have hk2 : kd = .alloc ∧ c = true := by
      simp only [aop, ho] at hs
      split at hs
      · split at hs
        · simp only [Option.map_eq_some_iff] at hs
          obtain ⟨es, -, h7⟩ := hs
          split at h7
          · rename_i hc
            simp only [Prod.mk.injEq] at h7
            exact ⟨h7.2.2.symm, hc⟩
          · simp only [Prod.mk.injEq] at h7; exact absurd h7.2.2.symm hk
        · split at hs
          · simp only [Option.some.injEq, Prod.mk.injEq] at hs; exact absurd hs.2.2.symm hk
          · simp at hs
      · simp at hs
    obtain ⟨rfl, rfl⟩ := hk2
    exact made (aop_alloc (c := true) (by simp [clsOf, ho]) hs hr hg hst.sA)
  | makeMap t r =>
    have hk2 : kd = .alloc := by
      cases r with
      | some x => simp [aop, ho] at hs
      | none =>
        simp only [aop, ho, Option.some.injEq, Prod.mk.injEq] at hs
        exact hs.2.2.symm
    subst hk2
    exact made (aop_alloc (c := c) (by simp [clsOf, ho]) hs hr hg hst.sA)
  | call k =>
    obtain ⟨callee, ⟨args⟩, ⟨ts⟩⟩ := k
    cases callee with
    | builtin b =>
      by_cases hb : b = .append ∨ b = .copy
      · have hlen : ∃ t u x y, ts = [t, u] ∧ args = [x, y] := by
          simp only [aop, ho] at hs
          split at hs
          · rcases hb with hb | hb <;> simp at hb
          · rename_i h2
            simp only [List.map_eq_cons_iff, List.map_eq_nil_iff] at h2
            obtain ⟨x, l, rfl, -, y, l', rfl, -, rfl⟩ := h2
            exact ⟨_, _, x, y, rfl, rfl⟩
          · rename_i h2
            simp only [List.map_eq_cons_iff, List.map_eq_nil_iff] at h2
            obtain ⟨x, l, rfl, -, y, l', rfl, -, rfl⟩ := h2
            exact ⟨_, _, x, y, rfl, rfl⟩
          · simp at hs
        obtain ⟨t, u, x, y, rfl, rfl⟩ := hlen
        rcases hb with rfl | rfl
        · exact did_append ho hs hr hg hst hn
        · exact did_copy ho hs hr hg hst
      · exfalso
        simp only [aop, ho] at hs
        split at hs
        · split at hs
          all_goals first
            | (simp only [Option.some.injEq, Prod.mk.injEq] at hs; exact hk hs.2.2.symm)
            | simp at hs
        · exact hb (.inl rfl)
        · exact hb (.inr rfl)
        · simp at hs
    | value f => simp [aop, ho] at hs
    | invoke r m => simp [aop, ho] at hs
  | move x => simp only [aop, ho, Option.some.injEq, Prod.mk.injEq] at hs; exact absurd hs.2.2.symm hk
  | assign x => simp only [aop, ho, Option.some.injEq, Prod.mk.injEq] at hs; exact absurd hs.2.2.symm hk
  | pick x y z =>
    simp only [aop, ho] at hs
    split at hs
    · simp only [Option.some.injEq, Prod.mk.injEq] at hs; exact absurd hs.2.2.symm hk
    · simp at hs
  | build t ps =>
    simp only [aop, ho] at hs
    split at hs
    · split at hs
      · simp only [Option.map_eq_some_iff, Prod.mk.injEq] at hs
        obtain ⟨u, -, -, -, h⟩ := hs
        exact absurd h.symm hk
      · simp at hs
    · simp at hs
  | nilCheck x =>
    simp only [aop, ho] at hs
    split at hs <;> first | (simp only [Option.some.injEq, Prod.mk.injEq] at hs; exact absurd hs.2.2.symm hk) | simp at hs
  | unOp op t x =>
    simp only [aop, ho, Option.map_eq_some_iff, Prod.mk.injEq] at hs
    obtain ⟨u, -, -, -, h⟩ := hs
    exact absurd h.symm hk
  | makeInterface t x =>
    simp only [aop, ho] at hs
    split at hs <;> first | (simp only [Option.some.injEq, Prod.mk.injEq] at hs; exact absurd hs.2.2.symm hk) | simp at hs
  | makeFunc f first caps =>
    cases f with
    | func f =>
      obtain ⟨l⟩ := first
      cases l with
      | nil => simp only [aop, ho, Option.some.injEq, Prod.mk.injEq] at hs; exact absurd hs.2.2.symm hk
      | cons x l => simp [aop, ho] at hs
    | _ => simp [aop, ho] at hs
  | fieldAddr t x f =>
    simp only [aop, ho] at hs
    split at hs
    · split at hs
      · split at hs
        · split at hs <;> first | (simp only [Option.some.injEq, Prod.mk.injEq] at hs; exact absurd hs.2.2.symm hk) | simp at hs
        · simp at hs
      · simp at hs
    · simp at hs
  | indexAddr t x i =>
    simp only [aop, ho] at hs
    split at hs
    · split at hs
      · split at hs <;> first | (simp only [Option.some.injEq, Prod.mk.injEq] at hs; exact absurd hs.2.2.symm hk) | simp at hs
      · simp at hs
    · split at hs <;> first | (simp only [Option.some.injEq, Prod.mk.injEq] at hs; exact absurd hs.2.2.symm hk) | simp at hs
    · simp at hs
  | index t x i =>
    simp only [aop, ho] at hs
    split at hs
    · simp only [Option.map_eq_some_iff, Prod.mk.injEq] at hs
      obtain ⟨u, -, -, -, h⟩ := hs
      exact absurd h.symm hk
    · simp at hs
  | typeAssert x s t ok =>
    simp only [aop, ho] at hs
    split at hs
    · simp at hs
    · simp at hs
    · split at hs
      · simp only [Option.some.injEq, Prod.mk.injEq] at hs; exact absurd hs.2.2.symm hk
      · split at hs
        · simp only [Option.map_eq_some_iff, Prod.mk.injEq] at hs
          obtain ⟨u, -, -, -, h⟩ := hs
          exact absurd h.symm hk
        · simp at hs
    · split at hs
      · simp only [Option.map_eq_some_iff, Prod.mk.injEq] at hs
        obtain ⟨u, -, -, -, h⟩ := hs
        exact absurd h.symm hk
      · simp at hs
    · simp at hs
  | extract x i =>
    simp only [aop, ho] at hs
    split at hs
    · simp only [Option.map_eq_some_iff, Prod.mk.injEq] at hs
      obtain ⟨u, -, -, -, h⟩ := hs
      exact absurd h.symm hk
    · simp at hs
  | _ => simp [aop, ho] at hs

end Go.Am

/- AM: the heap grows. -/
namespace Go.Am
open Go

variable {E : Env} {c : Bool} {o : Oper} {ρ : Tmps} {H H' : Heap} {v : AV} {kd : Kind}

theorem appendA_next {sz b : Nat} {s : AV} {xs : List (List AV)} (h : appendA c H sz b s xs = some (v, H')) : H.next ≤ H'.next := by
  unfold appendA at h
  have h1 := next_push
  have h2 := next_put
  repeat' (split at h)
  all_goals first
    | (simp at h; done)
    | (simp only [Option.some.injEq, Prod.mk.injEq] at h; obtain ⟨-, rfl⟩ := h; (try simp only [h1, h2]); omega)
    | (simp only [Option.map_eq_some_iff, Prod.mk.injEq] at h; obtain ⟨_, _, -, rfl⟩ := h; (try simp only [h1, h2]); omega)

theorem copyA_next {sz : Nat} {xs : List (List AV)} {d : AV} (h : copyA H sz xs d = some (v, H')) : H.next ≤ H'.next := by
  unfold copyA at h
  have h2 := next_put
  split at h
  · simp only [Option.some.injEq, Prod.mk.injEq] at h; obtain ⟨-, rfl⟩ := h; omega
  · simp only [Option.some.injEq, Prod.mk.injEq] at h; obtain ⟨-, rfl⟩ := h; omega
  · split at h
    · simp only [Option.bind_eq_some_iff, Option.map_eq_some_iff, Prod.mk.injEq] at h
      obtain ⟨_, _, _, -, -, rfl⟩ := h
      rw [h2]; omega
    · simp at h
  · simp at h

theorem aop_next (hs : aop E c o ρ H = some (v, H', kd)) : H.next ≤ H'.next := by
  have h1 := next_push
  have h2 := next_put
  unfold aop at hs
  dsimp only at hs
  split at hs
  all_goals first
    | (simp at hs; done)
    | (simp only [Option.some.injEq, Prod.mk.injEq] at hs; obtain ⟨-, rfl, -⟩ := hs; (try simp only [h1, h2]); omega)
    | skip
  all_goals repeat' (split at hs)
  all_goals first
    | (simp at hs; done)
    | (simp only [Option.some.injEq, Prod.mk.injEq] at hs; obtain ⟨-, rfl, -⟩ := hs; (try simp only [h1, h2]); omega)
    | (simp only [Option.map_eq_some_iff, Prod.mk.injEq] at hs; obtain ⟨_, _, -, rfl, -⟩ := hs; (try simp only [h1, h2]); omega)
    | (simp only [Option.bind_eq_some_iff, Option.some.injEq, Prod.mk.injEq] at hs; obtain ⟨_, _, -, rfl, -⟩ := hs; (try simp only [h1, h2]); omega)
    | (simp only [Option.bind_eq_some_iff, Option.map_eq_some_iff, Prod.mk.injEq] at hs; obtain ⟨_, _, _, _, -, rfl, -⟩ := hs; (try simp only [h1, h2]); omega)
    | (simp only [Option.bind_eq_some_iff, Option.map_eq_some_iff, Prod.mk.injEq] at hs; obtain ⟨_, -, _, -, ⟨v1, H1⟩, h3, -, rfl, -⟩ := hs; exact copyA_next h3)
    | skip
  all_goals
    simp only [Option.bind_eq_some_iff] at hs
    obtain ⟨xs, -, hs⟩ := hs
    split at hs
    · simp only [Option.map_eq_some_iff, Prod.mk.injEq] at hs
      obtain ⟨⟨v1, H1⟩, h3, -, rfl, -⟩ := hs
      exact appendA_next h3
    · simp at hs

/-! ### Calls -/

def Enterable (P : Program) (k : FuncId) : Prop := ∃ fn, P.funcs[k]? = some fn ∧ (fn.name == "runtime.NumGoroutine") = false ∧ fn.body.isNone = false

/-- A call, as the model has it. -/
def SimCall (E : Env) (k : FuncId) (args : List AV) (H : Heap) (v : AV) (H' : Heap) : Prop :=
  ∀ (φ : Phi) (S : Cells) (w : World) (vs : List Value), St φ S H w → GlobOk E.ng φ → (∀ i, H.next ≤ i → i < H'.next → φ i = none) → VL φ S w args vs →
    Calls E.P k vs.toArray w fun e w' => ∃ v' φ' S', e = .returned v' ∧ Step φ S H w φ' S' H' w' ∧ St φ' S' H' w' ∧ V φ' S' w' v v'

/-- What is asked of calls. -/
def CallOk (E : Env) (call : Call) : Prop := ∀ k args H v H', call k args H = some (v, H') → Enterable E.P k ∧ H.next ≤ H'.next ∧ SimCall E k args H v H'

theorem evalOp1_next {call : Call} {f : FuncId} {draw : Bool} {t t' : Tr} (hcall : CallOk E call) (h : evalOp1 E call f draw o ρ H t = some (v, H', t')) : H.next ≤ H'.next := by
  unfold evalOp1 at h
  split at h
  · split at h
    · simp only [Option.map_eq_some_iff, Prod.mk.injEq] at h
      obtain ⟨⟨v1, H1⟩, h3, -, rfl, -⟩ := h
      exact (hcall _ _ _ _ _ h3).2.1
    · simp at h
  · simp only [Option.bind_eq_some_iff] at h
    obtain ⟨⟨v1, H1, k⟩, h3, h4⟩ := h
    have := aop_next h3
    dsimp only at h4
    split at h4
    · split at h4
      all_goals
        simp only [Option.some.injEq, Prod.mk.injEq] at h4
        obtain ⟨-, rfl, -⟩ := h4
        exact this
    · simp at h4

theorem evalOps_next {call : Call} {f : FuncId} {draw : Bool} {ops : Array Oper} (hcall : CallOk E call) : ∀ (os : List Oper) (ρ ρ' : Tmps) (H H' : Heap) (t t' : Tr), evalOps E call f draw ops os ρ H t = some (ρ', H', t') → H.next ≤ H'.next
  | [], ρ, ρ', H, H', t, t', h => by simp [evalOps] at h; rw [h.2.1]; exact Nat.le_refl _
  | o :: os, ρ, ρ', H, H', t, t', h => by
    simp only [evalOps] at h
    split at h
    · simp only [Option.bind_eq_some_iff] at h
      obtain ⟨⟨v1, H1, t1⟩, h1, h2⟩ := h
      exact Nat.le_trans (evalOp1_next hcall h1) (evalOps_next hcall os _ _ _ _ _ _ h2)
    · exact evalOps_next hcall os _ _ _ _ _ _ h
    · simp at h

end Go.Am

/- AM against the model: a region in the order of its text. -/
namespace Go.Am
open Go

variable {E : Env} {c : Bool} {o : Oper} {ρ ρ' : Tmps} {H H' H1 : Heap} {v : AV} {φ : Phi} {S : Cells} {w : World} {a : Act} {kd : Kind}

/-- No fence; within a round, or not. -/
def Wd (r : Option Nat) : Fence := { Fence.wide with round := r }

theorem calls_wd {r : Option Nat} {n : Nat} {P : Program} {k : FuncId} {args : Array Value} {R : Ending → World → Prop} (h : Calls P k args w R) : CallsIn (Wd r) n P k args w R :=
  ⟨trivial, (callsIn_wide (n := n).2 h).2⟩

theorem semAt_eq {r : Option Nat} {ρ : Operand → Value} (h : ∀ c, o.op ≠ .defer c) : o.semAt r ρ = execOp ρ o := by
  unfold Oper.semAt
  cases r with
  | none => rfl
  | some l => cases ho : o.op <;> first | rfl | exact absurd ho (h _)

theorem aop_nodefer (hs : aop E c o ρ H = some (v, H', kd)) : ∀ c, o.op ≠ .defer c := fun k hk => by simp [aop, hk] at hs

theorem fn_inv {f : FuncId} {cs : List AV} {x : Value} (h : V φ S w (.fn f cs) x) : ∃ vs : List Value, x = .func (.func f) #[] vs.toArray ∧ VL φ S w cs vs := by
  cases h with | fn _ _ vs h1 h2 => exact ⟨vs, rfl, h1, h2⟩

theorem run_callFunc {P : Program} {k : FuncId} (h : Enterable P k) (args : Array Value) (w : World) : (callFunc k args).run P w = .ok (.enter k args) w := by
  obtain ⟨fn, h1, h2, h3⟩ := h
  simp only [callFunc, Sem.run_bind, run_program, Result.andThen, h1, h2, h3]
  simp

theorem op1_sound {call : Call} {f : FuncId} {draw : Bool} {t t1 : Tr} {r : Option Nat} {n : Nat} {next : Act → World → Prop} {Q : Exit → Act → World → Prop} (hcall : CallOk E call)
    (h : evalOp1 E call f draw o ρ H t = some (v, H1, t1)) (hst : St φ S H w) (hg : GlobOk E.ng φ) (hr : VT φ S w ρ a) (hn : ∀ i, H.next ≤ i → i < H1.next → φ i = none)
    (K : ∀ φ' S' w' v', Step φ S H w φ' S' H1 w' → St φ' S' H1 w' → V φ' S' w' v v' → next (a.put o.dst v') w') : o.wpIn (Wd r) n E.P a w next Q := by
  refine ⟨fun _ _ => trivial, ?_⟩
  unfold evalOp1 at h
  split at h
  · rename_i g args ts ho
    split at h
    · rename_i k caps he
      simp only [Option.map_eq_some_iff, Prod.mk.injEq] at h
      obtain ⟨⟨v1, H2⟩, h3, rfl, rfl, -⟩ := h
      obtain ⟨h4, h5, h6⟩ := hcall _ _ _ _ _ h3
      have hf := hr.eval hg g
      rw [he] at hf
      obtain ⟨cv, h7, h8⟩ := fn_inv hf
      have hargs := (hr.evalL hg args).append h8
      rw [semAt_eq (by simp [ho])]
      have hrun : (execOp a.eval o).run E.P w = .ok (.enter k ((args.map a.eval ++ cv).toArray)) w := by
        have e1 : (#[] ++ (⟨args⟩ : Array Operand).map a.eval ++ cv.toArray) = (args.map a.eval ++ cv).toArray := by apply Array.ext'; simp
        simp only [execOp, ho, resolve, Sem.run_bind, h7, Deferred.ofValue, Sem.run_pure, Result.andThen, invoke]
        rw [e1, run_callFunc h4]
      rw [hrun, Oper.uponIn_enter]
      refine ⟨fun h => by simp [Wd, Fence.wide] at h, calls_wd ((h6 φ S w _ hst hg hn hargs).mono ?_)⟩
      rintro e w' ⟨v', φ', S', rfl, k1, k2, k3⟩
      exact K φ' S' w' v' k1 k2 k3
    · simp at h
  · simp only [Option.bind_eq_some_iff] at h
    obtain ⟨⟨v1, H2, k⟩, h3, h4⟩ := h
    have hh : v1 = v ∧ H2 = H1 := by
      dsimp only at h4
      split at h4
      · split at h4 <;> (simp only [Option.some.injEq, Prod.mk.injEq] at h4; exact ⟨h4.1, h4.2.1⟩)
      · simp at h4
    obtain ⟨rfl, rfl⟩ := hh
    rw [semAt_eq (aop_nodefer h3)]
    obtain ⟨rr, v', φ', S', w', k1, k2, k3, k4, k5⟩ := aop_sound h3 hr hg hst hn
    rw [k1]
    rcases k2 with rfl | ⟨rfl, rfl⟩
    · rw [Oper.uponIn_value]; exact K φ' S' w' v' k3 k4 k5
    · rw [Oper.uponIn_skip]; exact K φ' S' w' _ k3 k4 k5

theorem getD_some {t : Nat} {x : Value} (h : a.tmps.getD t Go.undef = x) (hx : x ≠ Go.undef) : a.tmps[t]? = some x := by
  by_cases hlt : t < a.tmps.size
  · simp [hlt] at h ⊢; exact h
  · simp [Array.getElem?_eq_none (Nat.le_of_not_lt hlt)] at h; exact absurd h.symm hx

theorem yielded_eq {ops : Array Oper} {j : Nat} {y : Option Bool} (hr : VT φ S w ρ a) (h : yieldedA ops ρ j = some y) : yielded ops a.tmps j = y := by
  unfold yieldedA at h
  unfold yielded
  cases ho : (ops[j]?).bind (·.dst) with
  | none => simp [ho] at h; simp [h]
  | some t =>
    simp only [ho] at h
    have := hr t
    split at h
    · rename_i b' hb
      injection h with h; subst h
      rw [hb] at this
      rw [Option.bind_some, getD_some this.bool_inv (by simp [Go.undef])]
    · rename_i hb
      injection h with h; subst h
      rw [hb] at this
      obtain ⟨ys, h1, h2⟩ := this.tup_inv
      have : ys = [] := List.eq_nil_of_length_eq_zero (by simpa using h2.1.symm)
      subst this
      rw [Option.bind_some]
      by_cases hlt : t < a.tmps.size
      · have h3 : a.tmps[t]? = some (.tuple #[]) := by simp [hlt] at h1 ⊢; exact h1
        rw [h3]
      · rw [Array.getElem?_eq_none (Nat.le_of_not_lt hlt)]
    · simp at h

theorem wanted_eq {ops : Array Oper} {b : Bool} (hr : VT φ S w ρ a) (h : wantedA ops ρ o = some b) : Region.wanted o (yielded ops a.tmps) = b := by
  unfold wantedA at h
  unfold Region.wanted
  split at h
  · rename_i hg; injection h with h; subst h; simp [hg]
  · rename_i j want hg
    simp only [Option.map_eq_some_iff] at h
    obtain ⟨y, h1, h2⟩ := h
    simp only [hg, yielded_eq hr h1, ← h2]
    rw [Bool.eq_iff_iff]
    simp

theorem V_skip : V φ S w (.tup []) Go.undef := V.tup' VL.nil

/-! ### yield -/

/-- What of a world stays for a loop's body, however its iterator goes on. -/
structure Later (φ : Phi) (S : Cells) (w : World) (φ' : Phi) (S' : Cells) (w' : World) : Prop where
  ext : ∀ i l, φ i = some l → φ' i = some l
  s : ∀ b k, S b k → S' b k ∧ at_ w' b k = at_ w b k
  loops : ∀ id l r, φ id = some (.loop l) → w.heap[l]? = some (.loop r) → w'.heap[l]? = some (.loop r)

/-- yield is as it should be. -/
structure YOk (E : Env) (yl : Yl) (φ : Phi) (S : Cells) (w : World) : Prop where
  dom : ∀ id args H H', yl id args H = some H' → H.next ≤ H'.next ∧ ∃ l r, φ id = some (.loop l) ∧ w.heap[l]? = some (.loop r)
  run : ∀ φ' S' w' H' H'' id l args vs, Later φ S w φ' S' w' → St φ' S' H' w' → GlobOk E.ng φ' → φ id = some (.loop l) → yl id args H' = some H'' → (∀ i, H'.next ≤ i → i < H''.next → φ' i = none) → VL φ' S' w' args vs →
    ∃ fn tmps assign body, (Instr.yield l vs.toArray).run E.P w' = .ok (.round l fn tmps assign body) w' ∧
      RoundIn Fence.wide 0 E.P l fn tmps assign body w' fun e w'' => e = .returned (.bool true) ∧ ∃ φ'' S'', Step φ' S' H' w' φ'' S'' H'' w'' ∧ St φ'' S'' H'' w''

theorem Later.refl (φ : Phi) (S : Cells) (w : World) : Later φ S w φ S w := ⟨fun _ _ h => h, fun _ _ h => ⟨h, rfl⟩, fun _ _ _ _ h => h⟩

theorem Later.trans {φ φ' φ'' : Phi} {S S' S'' : Cells} {w w' w'' : World} (h : Later φ S w φ' S' w') (h' : Later φ' S' w' φ'' S'' w'') : Later φ S w φ'' S'' w'' :=
  ⟨fun i l hl => h'.ext i l (h.ext i l hl), fun b k hs => ⟨(h'.s b k (h.s b k hs).1).1, (h'.s b k (h.s b k hs).1).2.trans (h.s b k hs).2⟩,
    fun id l r h1 h2 => h'.loops id l r (h.ext _ _ h1) (h.loops id l r h1 h2)⟩

theorem YOk.later {yl : Yl} {φ φ' : Phi} {S S' : Cells} {w w' : World} (h : YOk E yl φ S w) (hl : Later φ S w φ' S' w') : YOk E yl φ' S' w' := by
  refine ⟨fun id args H H' hy => ?_, fun φ1 S1 w1 H1 H2 id l args vs h1 h2 h3 h4 h5 h6 h7 => ?_⟩
  · obtain ⟨h1, l, r, h2, h3⟩ := h.dom id args H H' hy
    exact ⟨h1, l, r, hl.ext _ _ h2, hl.loops id l r h2 h3⟩
  · obtain ⟨-, l', r, h8, -⟩ := h.dom id args H1 H2 h5
    have : l' = l := by have := hl.ext _ _ h8; rw [h4] at this; injection this with this; injection this with this; exact this.symm
    subst this
    exact h.run φ1 S1 w1 H1 H2 id l' args vs (hl.trans h1) h2 h3 h8 h5 h6 h7

theorem YOk.no {φ : Phi} {S : Cells} {w : World} : YOk E noY φ S w := ⟨fun _ _ _ _ h => by simp [noY] at h, fun _ _ _ _ _ _ _ _ _ _ _ _ _ h => by simp [noY] at h⟩

/-- What is of a variable is cells, or a map. -/
theorem M_kind {φ : Phi} {S : Cells} {G : Nat → Option Obj} {w : World} (h : StG φ S G w) {b k : Nat} (hm : MG φ G b k) : ∃ o, w.heap[b]? = some o ∧ ((∃ c e fr, o = .cells c e fr) ∨ ∃ ms n, o = .map ms n) := by
  obtain ⟨i, o, l, h1, h2, h3⟩ := hm
  have := h.obj i o l h1 h2
  cases o with
  | cells cs =>
    cases l with
    | obj b' base total =>
      obtain ⟨-, ⟨c, e, hb, -⟩, -⟩ := this
      rw [h3.1]; exact ⟨_, hb, .inl ⟨_, _, _, rfl⟩⟩
    | _ => exact this.elim
  | tok =>
    cases l with
    | tok b' s n =>
      obtain ⟨c, e, hb, -⟩ := this
      rw [h3.1]; exact ⟨_, hb, .inl ⟨_, _, _, rfl⟩⟩
    | _ => exact this.elim
  | map es =>
    cases l with
    | map b' =>
      obtain ⟨ms, k', hb, -⟩ := this
      have : b = b' := h3
      rw [this]; exact ⟨_, hb, .inr ⟨_, _, rfl⟩⟩
    | _ => exact this.elim

/-- What is no variable's stays through a step. -/
theorem Step.stays {φ φ' : Phi} {S S' : Cells} {w w' : World} (h : Step φ S H w φ' S' H' w') (hst : St φ S H w) {b : Nat} {o : Go.Obj} (hb : w.heap[b]? = some o) (h1 : ∀ c e fr, o ≠ .cells c e fr) (h2 : ∀ ms n, o ≠ .map ms n) : w'.heap[b]? = some o := by
  refine h.keeps.other b o hb h1 fun k hm => ?_
  obtain ⟨o', h3, h4⟩ := M_kind hst hm
  rw [hb] at h3
  injection h3 with h3
  subst h3
  rcases h4 with ⟨c, e, fr, rfl⟩ | ⟨ms, n, rfl⟩
  · exact h1 _ _ _ rfl
  · exact h2 _ _ rfl

theorem Step.later {φ φ' : Phi} {S S' : Cells} {w w' : World} (h : Step φ S H w φ' S' H' w') (hst : St φ S H w) : Later φ S w φ' S' w' := by
  refine ⟨h.ext, fun b k hs => ⟨h.s b k hs, ?_⟩, fun id l r _ h4 => h.stays hst h4 (by simp) (by simp)⟩
  obtain ⟨v, hv⟩ := hst.sA b k hs
  rw [hv, h.keeps.at hv (hst.sM b k hs)]

theorem round_wd {r : Option Nat} {n l : Nat} {P : Program} {f : FuncId} {tmps : Array Value} {a b : Code} {R : Ending → World → Prop} (h : RoundIn Fence.wide 0 P l f tmps a b w R) : RoundIn (Wd r) n P l f tmps a b w R :=
  ⟨trivial, fun c cs _ => h.2 c cs (room_wide _)⟩

theorem YOk.step {yl : Yl} {φ φ' : Phi} {S S' : Cells} {w w' : World} (hy : YOk E yl φ S w) (h : Step φ S H w φ' S' H' w') (hst : St φ S H w) : YOk E yl φ' S' w' := hy.later (h.later hst)

theorem yld_inv {id : Nat} {x : Value} (h : V φ S w (.yld id) x) : ∃ l, φ id = some (.loop l) ∧ x = .func (.yield l) #[] #[] := by
  cases h with | yld _ l h => exact ⟨l, h, rfl⟩

theorem opY_sound {call : Call} {yl : Yl} {f : FuncId} {r : Option Nat} {n : Nat} {next : Act → World → Prop} {Q : Exit → Act → World → Prop} (hcall : CallOk E call)
    (h : evalOpY E call yl f o ρ H = some (v, H1)) (hst : St φ S H w) (hg : GlobOk E.ng φ) (hr : VT φ S w ρ a) (hn : ∀ i, H.next ≤ i → i < H1.next → φ i = none) (hy : YOk E yl φ S w)
    (K : ∀ φ' S' w' v', Step φ S H w φ' S' H1 w' → St φ' S' H1 w' → V φ' S' w' v v' → next (a.put o.dst v') w') : o.wpIn (Wd r) n E.P a w next Q := by
  by_cases hyld : ∃ g args ts id, o.op = .call { callee := .value g, args := ⟨args⟩, argTypes := ts } ∧ evalOp E.ng ρ g = .yld id
  · obtain ⟨g, args, ts, id, ho, he⟩ := hyld
    simp only [evalOpY, ho, he, Option.map_eq_some_iff, Prod.mk.injEq] at h
    obtain ⟨H2, h1, rfl, rfl⟩ := h
    have hf := hr.eval hg g
    rw [he] at hf
    obtain ⟨l, h2, h3⟩ := yld_inv hf
    obtain ⟨fn, tmps, assign, body, h4, h5⟩ := hy.run φ S w H H2 id l _ _ (.refl ..) hst hg h2 h1 hn (hr.evalL hg args)
    refine ⟨fun _ _ => trivial, ?_⟩
    rw [semAt_eq (by simp [ho])]
    have hrun : (execOp a.eval o).run E.P w = .ok (.round l fn tmps assign body) w := by
      have e1 : (#[] ++ (⟨args⟩ : Array Operand).map a.eval) = (args.map a.eval).toArray := by apply Array.ext'; simp
      simp only [execOp, ho, resolve, Sem.run_bind, h3, Deferred.ofValue, Sem.run_pure, Result.andThen, invoke]
      rw [e1, h4]
    rw [hrun, Oper.uponIn_round]
    refine ⟨fun h => by simp [Wd, Fence.wide] at h, (round_wd h5).mono ?_⟩
    rintro e w' ⟨rfl, φ', S', k1, k2⟩
    exact K φ' S' w' _ k1 k2 (.bool true)
  · have : ∃ t', evalOp1 E call f false o ρ H ⟨[], [], []⟩ = some (v, H1, t') := by
      unfold evalOpY at h
      unfold evalOp1
      split at h
      · rename_i g args ts ho
        split at h
        · rename_i id he; exact absurd ⟨g, args, ts, id, ho, he⟩ hyld
        · rename_i k caps he
          simp only [ho, he, h, Option.map_some]
          exact ⟨_, rfl⟩
        · simp at h
      · rename_i hno
        simp only [Option.map_eq_some_iff, Prod.mk.injEq] at h
        obtain ⟨⟨v1, H2, k⟩, h1, rfl, rfl⟩ := h
        simp only [h1, Option.bind_some, Bool.not_false, Bool.true_or, ↓reduceIte]
        cases k <;> exact ⟨_, rfl⟩
    obtain ⟨t', h⟩ := this
    exact op1_sound hcall h hst hg hr hn K

theorem evalOpY_next {call : Call} {yl : Yl} {f : FuncId} (hcall : CallOk E call) (hy : ∀ id args H H', yl id args H = some H' → H.next ≤ H'.next) (h : evalOpY E call yl f o ρ H = some (v, H')) : H.next ≤ H'.next := by
  unfold evalOpY at h
  split at h
  · split at h
    · simp only [Option.map_eq_some_iff, Prod.mk.injEq] at h
      obtain ⟨H2, h1, -, rfl⟩ := h
      exact hy _ _ _ _ h1
    · exact (hcall _ _ _ _ _ h).2.1
    · simp at h
  · simp only [Option.map_eq_some_iff, Prod.mk.injEq] at h
    obtain ⟨⟨v1, H2, k⟩, h1, -, rfl⟩ := h
    exact aop_next h1

theorem evalOpsY_next {call : Call} {yl : Yl} {f : FuncId} {ops : Array Oper} (hcall : CallOk E call) (hy : ∀ id args H H', yl id args H = some H' → H.next ≤ H'.next) : ∀ (os : List Oper) (ρ ρ' : Tmps) (H H' : Heap), evalOpsY E call yl f ops os ρ H = some (ρ', H') → H.next ≤ H'.next
  | [], ρ, ρ', H, H', h => by simp [evalOpsY] at h; rw [h.2]; exact Nat.le_refl _
  | o :: os, ρ, ρ', H, H', h => by
    simp only [evalOpsY] at h
    split at h
    · simp only [Option.bind_eq_some_iff] at h
      obtain ⟨⟨v1, H1⟩, h1, h2⟩ := h
      exact Nat.le_trans (evalOpY_next hcall hy h1) (evalOpsY_next hcall hy os _ _ _ _ h2)
    · exact evalOpsY_next hcall hy os _ _ _ _ h
    · simp at h

theorem ops_sound {call : Call} {yl : Yl} {f : FuncId} {ops : Array Oper} {r : Option Nat} {n : Nat} {Q : Exit → Act → World → Prop} (hcall : CallOk E call) (hd : ∀ o ∈ ops, ∀ t, o.dst = some t → t < a.tmps.size) :
    ∀ (os : List Oper) (is : List Nat) (ρ ρ' : Tmps) (H H' : Heap) (φ : Phi) (S : Cells) (w : World) (a' : Act), is.map (ops[·]?) = os.map some → evalOpsY E call yl f ops os ρ H = some (ρ', H') →
      St φ S H w → GlobOk E.ng φ → VT φ S w ρ a' → (∀ i, H.next ≤ i → i < H'.next → φ i = none) → YOk E yl φ S w → a'.defers = a.defers → a'.tmps.size = a.tmps.size →
      (∀ φ' S' w' a', Step φ S H w φ' S' H' w' → St φ' S' H' w' → VT φ' S' w' ρ' a' → a'.defers = a.defers → a'.tmps.size = a.tmps.size → Q .normal a' w') → wpOpsIn (Wd r) n E.P ops Q is a' w
  | [], is, ρ, ρ', H, H', φ, S, w, a', his, h, hst, hg, hr, hn, hy, ha1, ha2, K => by
    have : is = [] := by cases is <;> simp at his ⊢
    subst this
    simp [evalOpsY] at h
    obtain ⟨rfl, rfl⟩ := h
    exact K φ S w a' (.refl _ _ _ _) hst hr ha1 ha2
  | o :: os, [], ρ, ρ', H, H', φ, S, w, a', his, h, hst, hg, hr, hn, hy, ha1, ha2, K => by simp at his
  | o :: os, i :: is, ρ, ρ', H, H', φ, S, w, a', his, h, hst, hg, hr, hn, hy, ha1, ha2, K => by
    simp only [List.map_cons, List.cons.injEq] at his
    obtain ⟨hi, his⟩ := his
    have hput : ∀ v', (a'.put o.dst v').defers = a.defers ∧ (a'.put o.dst v').tmps.size = a.tmps.size := fun v' => by
      cases ho : o.dst <;> simp [Act.put, ha1, ha2]
    have hdo : ∀ t, o.dst = some t → t < a'.tmps.size := fun t ht => by rw [ha2]; exact hd o (Array.mem_of_getElem? hi) t ht
    simp only [evalOpsY] at h
    simp only [wpOpsIn, hi]
    split at h
    · rename_i hw
      simp only [Option.bind_eq_some_iff] at h
      obtain ⟨⟨v1, H1⟩, h1, h2⟩ := h
      rw [if_pos (wanted_eq hr hw)]
      have hyn := fun id args H H' h => (hy.dom id args H H' h).1
      have hx := evalOpY_next hcall hyn h1
      have hx2 : H1.next ≤ H'.next := evalOpsY_next hcall hyn os _ _ _ _ h2
      refine opY_sound hcall h1 hst hg hr (fun i h3 h4 => hn i h3 (by omega)) hy fun φ1 S1 w1 v' k1 k2 k3 => ?_
      refine ops_sound hcall hd os is _ ρ' H1 H' φ1 S1 w1 _ his h2 k2 (fun g hg' => ?_) ((hr.mono k1.ext fun b k hs => ?_).put k3 hdo) (fun i h3 h4 => ?_) (hy.step k1 hst) (hput v').1 (hput v').2 fun φ' S' w' a'' m1 m2 m3 m4 m5 => K φ' S' w' a'' (k1.trans m1) m2 m3 m4 m5
      · obtain ⟨tt, ht⟩ := hg g hg'
        exact ⟨tt, k1.ext _ _ ht⟩
      · obtain ⟨u, hu⟩ := hst.sA b k hs
        exact ⟨k1.s b k hs, by rw [hu, k1.keeps.at hu (hst.sM b k hs)]⟩
      · by_cases e : φ1 i = φ i
        · rw [e]; exact hn i (by omega) h4
        · have := (k1.new i e).2; omega
    · rename_i hw
      rw [if_neg (by rw [wanted_eq hr hw]; simp)]
      exact ⟨fun _ _ => trivial, ops_sound hcall hd os is _ ρ' H H' φ S w _ his h hst hg (hr.put V_skip hdo) hn hy (hput _).1 (hput _).2 K⟩
    · simp at h

end Go.Am
