/- DeriveSays answers true, whatever the numbers and the word; no condition: a part of the proof. -/
import Derived.Test.YtfmfejcoaphmoaaDoorD7
set_option linter.unusedSimpArgs false
set_option linter.unusedVariables false
/- DeriveSays on AM: faults, numbers. -/
namespace Go.Am.Ds
open Go Go.Am Go.Proofs
set_option maxRecDepth 10000

/-- A run where it is called. -/
def Run (f : FuncId) (args : List AV) (H : Heap) (X : AV) (H' : Heap) : Prop := ∀ (R : AV → Heap → Prop) (m : Mark R), ACalls E f args H (Held R m) ↔ R X H'
theorem Run.of {f : FuncId} {args : List AV} {H : Heap} {S : AV → Heap → Prop} (h : ACalls E f args H (Held S .mk)) : ∃ X H', S X H' ∧ Run f args H X H' := by
  obtain ⟨n, v, H', h1, h2⟩ := h
  exact ⟨v, H', h2, fun R m => ACalls_iff h1 R⟩

def faultV (k : Int) (b : Bool) (p : Int) : AV := .agg [.int .i64 k, .bool b, .int .i64 p]
theorem none_ok : Fn E 12 [] (faultV 0 false 0) := by
  refine Fn.of Tryd.func12 rfl rfl rfl rfl rfl (by simp) ?_
  simp -dsimp [faultV]
theorem placed_ok (p : Int) : Fn E 13 [.int .i64 105, .int .i64 p] (faultV 105 true p) := by
  refine Fn.of Tryd.func13 rfl rfl rfl rfl rfl (by simp) ?_
  simp -dsimp [faultV]
theorem sameFault_ok (k : Int) (b : Bool) (p : Int) : Fn E 38 [faultV k b p, faultV k b p] (.bool true) := by
  refine Fn.of Tryd.func38 rfl rfl rfl rfl rfl (by simp [faultV]) ?_
  simp -dsimp [faultV]
/-- One of the three classes. -/
def isC (s : List UInt8) : Bool := decide (s = cEq) || decide (s = cOrd) || decide (s = cShow)
theorem isC_cases (s : List UInt8) : s = cEq ∨ s = cOrd ∨ s = cShow ∨ (¬ s = [69, 113] ∧ ¬ s = [79, 114, 100] ∧ ¬ s = [83, 104, 111, 119] ∧ ¬ [69, 113] = s ∧ ¬ [79, 114, 100] = s ∧ ¬ [83, 104, 111, 119] = s) := by
  by_cases h1 : s = cEq
  · exact Or.inl h1
  · by_cases h2 : s = cOrd
    · exact Or.inr (Or.inl h2)
    · by_cases h3 : s = cShow
      · exact Or.inr (Or.inr (Or.inl h3))
      · exact Or.inr (Or.inr (Or.inr ⟨h1, h2, h3, fun h => h1 h.symm, fun h => h2 h.symm, fun h => h3 h.symm⟩))
theorem can_ok (s : List UInt8) : Fn E 11 [.str s] (.bool (isC s)) := by
  rcases isC_cases s with rfl | rfl | rfl | ⟨h1, h2, h3, h4, h5, h6⟩ <;> refine Fn.of Tryd.func11 rfl rfl rfl rfl rfl (by simp) ?_
  · simp -dsimp [cEq, cOrd, cShow, isC]
  · simp -dsimp [cEq, cOrd, cShow, isC]
  · simp -dsimp [cEq, cOrd, cShow, isC]
  · simp -dsimp [cEq, cOrd, cShow, isC, *]
/-- The three classes. -/
def three : AV := .list [[.str [69, 113]], [.str [79, 114, 100]], [.str [83, 104, 111, 119]]] .frozen
def atC (s : List UInt8) : Int := if s = cEq then 0 else if s = cOrd then 1 else if s = cShow then 2 else -1
theorem place_ok (s : List UInt8) : Fn E 33 [three, .str s] (.int .i64 (atC s)) := by
  rcases isC_cases s with rfl | rfl | rfl | ⟨h1, h2, h3, h4, h5, h6⟩ <;> refine Fn.of Tryd.func33 rfl rfl rfl rfl rfl (by simp [three]) ?_
  · simp -dsimp [three, cEq, cOrd, cShow, atC]
    refine Wp.unroll ?_
    simp -dsimp [three, cEq, cOrd, cShow, atC]
  · simp -dsimp [three, cEq, cOrd, cShow, atC]
    refine Wp.unroll ?_
    simp -dsimp [three, cEq, cOrd, cShow, atC]
    refine Wp.unroll ?_
    simp -dsimp [three, cEq, cOrd, cShow, atC]
  · simp -dsimp [three, cEq, cOrd, cShow, atC]
    refine Wp.unroll ?_
    simp -dsimp [three, cEq, cOrd, cShow, atC]
    refine Wp.unroll ?_
    simp -dsimp [three, cEq, cOrd, cShow, atC]
    refine Wp.unroll ?_
    simp -dsimp [three, cEq, cOrd, cShow, atC]
  · simp -dsimp [three, h1, h2, h3, h4, h5, h6]
    refine Wp.unroll ?_
    simp -dsimp [three, h1, h2, h3, h4, h5, h6]
    refine Wp.unroll ?_
    simp -dsimp [three, h1, h2, h3, h4, h5, h6]
    refine Wp.unroll ?_
    simp -dsimp [three, h1, h2, h3, h4, h5, h6]
    refine Wp.unroll ?_
    simp -dsimp [three, h1, h2, h3, h4, h5, h6, atC, cEq, cOrd, cShow]
theorem has_ok (s : List UInt8) : Fn E 9 [three, .str s] (.bool (isC s)) := by
  have hp := place_ok s
  have hc : (0 ≤ atC s) = (isC s = true) := by
    simp only [atC, isC]; split
    · simp [*]
    · split
      · simp [*]
      · split <;> simp [*]
  have h3 : three.calm = three := by simp [three]
  refine Fn.of Tryd.func9 rfl rfl rfl rfl rfl (by simp [three]) ?_
  simp -dsimp [h3, hp, hc]
  done
end Go.Am.Ds

/- DeriveSays on AM: numbers, a type from them. -/
namespace Go.Am.Ds
open Go Go.Am Go.Proofs
set_option maxRecDepth 10000

/-- A number below another. -/
def numN (x m : Int) : Int := if x.tmod m < 0 then x.tmod m + m else x.tmod m
theorem numN_lt {x m : Int} (hm : 0 < m) : 0 ≤ numN x m ∧ numN x m < m := by
  unfold numN
  have h1 := Int.tmod_lt_of_pos x hm
  have h2 := Int.lt_tmod_of_pos x hm
  split <;> omega
theorem number_ok (x m : Int) (hm : 0 < m) (hb : m < 1000) : Fn E 16 [.int .i64 x, .int .i64 m] (.int .i64 (numN x m)) := by
  have h1 := Int.tmod_lt_of_pos x hm
  have h2 := Int.lt_tmod_of_pos x hm
  have h0 : m ≠ 0 := by omega
  have hw : x.tmod m < 0 → IntKind.i64.wrap (x.tmod m + m) = x.tmod m + m := fun h => IntWalk.i64_in _ (by omega)
  refine Fn.of Tryd.func16 rfl rfl rfl rfl rfl (by simp) ?_
  by_cases hl : x.tmod m < 0
  · simp -dsimp [h0, hl, hw hl, numN]
  · simp -dsimp [h0, hl, numN]

theorem put_over (H : Heap) (q : Nat) (o : Option Obj) (h : H.next ≤ q) : H.put q o = H := by
  induction H with
  | nil => rfl
  | cons x H ih =>
    simp only [Heap.next, List.length_cons] at *
    simp only [Heap.put]
    rw [if_neg (by omega), ih (by omega)]
theorem trunc_put' (H : Heap) (q N : Nat) (o : Option Obj) (h : N ≤ q) : (H.put q o).trunc N = H.trunc N := by
  induction H with
  | nil => rfl
  | cons x H ih =>
    simp only [Heap.put]
    split
    · simp only [Heap.trunc, Heap.next, List.length_cons] at *
      rw [if_neg (by omega), if_neg (by omega)]
    · simp only [Heap.trunc, Heap.put, Heap.next, List.length_cons] at *
      have : (Heap.put H q o).length = H.length := next_put H q o
      rw [this, ih]
      split
      · rw [put_over H q o (by simp only [Heap.next]; omega)]
      · rfl
/-- Numbers, as they come: none, or a slice of them. -/
abbrev Nums := Option (List Int)
def seqL : Nums → AV
  | none => .nilS
  | some L => .list (L.map fun x => [.int .i64 x]) .frozen
/-- The numbers' next one. -/
def nth (L : Nums) (i : Nat) : Int := (L.getD []).getD i 0
theorem next_ok (L : Nums) (a : Nat) (ha : a ≤ 1000000) (H : Heap) (q : Nat) (hq30 : 30 ≤ q) (m : Int) (hm : 0 < m) (hb : m < 1000) (hH : H.trunc 30 = E.base) (hq : H.get q = some (.cells [seqL L, .int .i64 a])) :
    Run 5 [.ptr q 0, .int .i64 m] H (.int .i64 (numN (nth L a) m)) (H.put q (some (.cells [seqL L, .int .i64 (a + 1 : Nat)]))) := by
  suffices h : ACalls E 5 [.ptr q 0, .int .i64 m] H (Held (fun X H' => X = .int .i64 (numN (nth L a) m) ∧ H' = (H.put q (some (.cells [seqL L, .int .i64 (a + 1 : Nat)])))) .mk) by
    obtain ⟨X, H', ⟨rfl, rfl⟩, h⟩ := Run.of h
    exact h
  have hn := fun x => number_ok x m hm hb
  have hw : IntKind.i64.wrap ((a : Int) + 1) = (a : Int) + 1 := IntWalk.i64_in _ (by omega)
  refine ACalls.of Tryd.func5 rfl rfl rfl rfl rfl ?_
  cases L with
  | none =>
    simp only [seqL] at hq ⊢
    have h0 : ¬ (a : Int) < 0 := by omega
    simp -dsimp [hq, hn, hw, h0, nth, trunc_put' _ _ _ _ hq30, hH]
  | some L =>
    simp only [seqL] at hq ⊢
    by_cases hlt : a < L.length
    · simp -dsimp [hq, hlt, hn, hw, nth, trunc_put' _ _ _ _ hq30, hH]
    · simp -dsimp [hq, hlt, hn, hw, nth, trunc_put' _ _ _ _ hq30, hH]
end Go.Am.Ds
