/- DeriveSays answers true, whatever the numbers and the word; no condition: a part of the proof. -/
import Derived.Test.YtfmfejcoaphmoaaDoorD3
set_option linter.unusedSimpArgs false
set_option linter.unusedVariables false
/- DeriveSays on AM: a type's order. -/
namespace Go.Am.Ds
open Go Go.Am Go.Proofs
set_option maxRecDepth 10000
attribute [local simp] slV_nil slV_cons cV vV sTrue sFalse casesV pairV eqArgsV ordArgsV sNil sCons sAppend sShow textV bothV shownV lamV showV conC argsV intC nmsV nms casesV'

/-- What lies ahead in the order. -/
def gtA (z : AV) (p : Int) (x : UInt8 × Nat) : List AV := (al [x.1] (if x.2 = 0 then z else .list (List.replicate x.2 [.str [95]]) .frozen) (cV p [71, 84]) p).cells
def ordIn (z : AV) (p : Int) (cs : List (UInt8 × Nat)) (i : Nat) (c : UInt8 × Nat) : List (List AV) :=
  List.take i (cs.map (gtA z p)) ++ ((al [c.1] (nmsV 98 c.2) (ordArgsV p (nms 97 c.2) (nms 98 c.2)) p).cells :: if i + 1 < cs.length then [(al [] .nilS (cV p [76, 84]) p).cells] else [])
def altOrd (z : AV) (p : Int) (cs : List (UInt8 × Nat)) (i : Nat) : List AV :=
  match cs[i]? with
  | some c => (al [c.1] (nmsV 97 c.2) (casesV p (vV p [121]) (ordIn z p cs i c)) p).cells
  | none => []
def ordV (z : AV) (p : Int) (cs : List (UInt8 × Nat)) : AV := lamV p (lamV p (casesV' p (vV p [120]) (slV ((List.range cs.length).map (altOrd z p cs)))) [121]) [120]

theorem underLL_append (l m : List (List AV)) : underLL 30 (l ++ m) = (underLL 30 l && underLL 30 m) := by
  induction l with
  | nil => simp
  | cons a l ih => simp [ih, Bool.and_assoc]
attribute [local simp] underLL_append
theorem gtA_len (z : AV) (p : Int) (c : UInt8 × Nat) : (gtA z p c).length = 10 := by simp [gtA]
theorem gtA_ok (z : AV) (hz : z.under 30 = true) (p : Int) (c : UInt8 × Nat) (hc : c.2 ≤ 3) : underL 30 (gtA z p c) = true := by
  obtain ⟨b, k⟩ := c
  match k, hc with
  | 0, _ => simp [gtA, hz]
  | 1, _ => simp [gtA]
  | 2, _ => simp [gtA]
  | 3, _ => simp [gtA]
theorem underLL_take {l : List (List AV)} (h : underLL 30 l = true) (i : Nat) : underLL 30 (l.take i) = true := by
  induction l generalizing i with
  | nil => simp
  | cons a l ih =>
    cases i with
    | zero => rfl
    | succ i => simp only [underLL, Bool.and_eq_true, List.take_succ_cons] at h ⊢; exact ⟨h.1, ih h.2 i⟩
theorem gts_ok (z : AV) (hz : z.under 30 = true) (p : Int) (cs : List (UInt8 × Nat)) (hk : ∀ c ∈ cs, c.2 ≤ 3) (i : Nat) : underLL 30 (List.take i (cs.map (gtA z p))) = true :=
  underLL_take (underLL_map fun c hc => gtA_ok z hz p c (hk c hc)) i
theorem altOrd_ok (z : AV) (hz : z.under 30 = true) (p : Int) (cs : List (UInt8 × Nat)) (hk : ∀ c ∈ cs, c.2 ≤ 3) (i : Nat) : underL 30 (altOrd z p cs i) = true := by
  unfold altOrd
  split
  · rename_i c hc
    have h := hk c (List.mem_of_getElem? hc)
    have hg := gts_ok z hz p cs hk i
    obtain ⟨b, k⟩ := c
    by_cases hm : i + 1 < cs.length
    · match k, h with
      | 0, _ => simp [ordIn, hg, hm]
      | 1, _ => simp [ordIn, hg, hm]
      | 2, _ => simp [ordIn, hg, hm]
      | 3, _ => simp [ordIn, hg, hm]
    · match k, h with
      | 0, _ => simp [ordIn, hg, hm]
      | 1, _ => simp [ordIn, hg, hm]
      | 2, _ => simp [ordIn, hg, hm]
      | 3, _ => simp [ordIn, hg, hm]
  · rfl
theorem altOrd_len (z : AV) (p : Int) (cs : List (UInt8 × Nat)) (i : Nat) (hi : i < cs.length) : (altOrd z p cs i).length = 10 := by
  simp [altOrd, hi]
theorem mul160 {i : Nat} (h : i ≤ 1000) : (i + 1) * 160 ≤ 35184372088832 := by omega
theorem mul160' {i : Nat} (h : i ≤ 1000) : (i + 1 + 1) * 160 ≤ 35184372088832 := by omega
theorem le45 {i : Nat} (h : i ≤ 1000) : i ≤ 35184372088831 := by omega
theorem le45' {i : Nat} (h : i ≤ 1000) : i + 1 ≤ 35184372088831 := by omega

noncomputable def H3 (d : List AV) (J : List (Option Obj)) (c : List AV) : Heap := (((B2 d zE).more J).push .tok).push (.cells c)
theorem m30_0 (a b : Nat) : (a + (b + 32 + 1 + 1) < 30) = False := by simp; omega
theorem m30_1 (a b : Nat) : (a + (b + 32 + 1 + 1) + 1 < 30) = False := by simp; omega
theorem m30_2 (a b : Nat) : (a + (b + 32 + 1 + 1) + 1 + 1 < 30) = False := by simp; omega
theorem m30_3 (a b : Nat) : (a + (b + 32 + 1 + 1) + 1 + 1 + 1 < 30) = False := by simp; omega
attribute [local simp] m30_0 m30_1 m30_2 m30_3
theorem p30_0 (a b : Nat) : (30 ≤ b + (a + 32 + 1 + 1)) = True := eq_true (by omega)
theorem p30_1 (a : Nat) : (30 ≤ a + 32 + 1 + 1) = True := eq_true (by omega)
theorem p30_2 (a : Nat) : (30 ≤ a + 32) = True := eq_true (by omega)
theorem p30_3 (a : Nat) : (30 ≤ a + 32 + 1) = True := eq_true (by omega)
theorem p30_4 (a : Nat) : (a + 32 < a + 32 + 1 + 1) = True := eq_true (by omega)
theorem p30_5 (a : Nat) : (a + 32 + 1 < a + 32 + 1 + 1) = True := eq_true (by omega)
theorem p30_6 (a b : Nat) : (a + 32 < b + (a + 32 + 1 + 1)) = True := eq_true (by omega)
attribute [local simp] p30_0 p30_1 p30_2 p30_3 p30_4 p30_5 p30_6
theorem le46 {i : Nat} (h : i ≤ 1000) : i ≤ 35184372088830 := by omega
theorem nn_24 (a b : Nat) : (b + (a + 32 + 1 + 1) = 24) = False := eq_false (by omega)
theorem no_24 (a : Nat) : (a + 32 = 24) = False := eq_false (by omega)
theorem nn_25 (a b : Nat) : (b + (a + 32 + 1 + 1) = 25) = False := eq_false (by omega)
theorem no_25 (a : Nat) : (a + 32 = 25) = False := eq_false (by omega)
theorem nn_26 (a b : Nat) : (b + (a + 32 + 1 + 1) = 26) = False := eq_false (by omega)
theorem no_26 (a : Nat) : (a + 32 = 26) = False := eq_false (by omega)
theorem nn_27 (a b : Nat) : (b + (a + 32 + 1 + 1) = 27) = False := eq_false (by omega)
theorem no_27 (a : Nat) : (a + 32 = 27) = False := eq_false (by omega)
theorem nn_28 (a b : Nat) : (b + (a + 32 + 1 + 1) = 28) = False := eq_false (by omega)
theorem no_28 (a : Nat) : (a + 32 = 28) = False := eq_false (by omega)
theorem nn_29 (a b : Nat) : (b + (a + 32 + 1 + 1) = 29) = False := eq_false (by omega)
theorem no_29 (a : Nat) : (a + 32 = 29) = False := eq_false (by omega)
theorem nn_30 (a b : Nat) : (b + (a + 32 + 1 + 1) = 30) = False := eq_false (by omega)
theorem no_30 (a : Nat) : (a + 32 = 30) = False := eq_false (by omega)
theorem nn_31 (a b : Nat) : (b + (a + 32 + 1 + 1) = 31) = False := eq_false (by omega)
theorem no_31 (a : Nat) : (a + 32 = 31) = False := eq_false (by omega)
theorem nn_32 (a b : Nat) : (b + (a + 32 + 1 + 1) = 32) = False := eq_false (by omega)
theorem no_32 (a : Nat) : (a + 32 = 32) = (a = 0) := propext (by omega)
theorem nn_33 (a b : Nat) : (b + (a + 32 + 1 + 1) = 33) = False := eq_false (by omega)
theorem no_33 (a : Nat) : (a + 32 = 33) = (a = 1) := propext (by omega)
attribute [local simp] nn_24 no_24 nn_25 no_25 nn_26 no_26 nn_27 no_27 nn_28 no_28 nn_29 no_29 nn_30 no_30 nn_31 no_31 nn_32 nn_33
theorem ne_0_0 (a b : Nat) : (a + 32 = b + (a + 32 + 1 + 1)) = False := eq_false (by omega)
theorem ne_0_0' (a b : Nat) : (b + (a + 32 + 1 + 1) = a + 32) = False := eq_false (by omega)
theorem ne_0_1 (a b : Nat) : (a + 32 = b + (a + 32 + 1 + 1) + 1) = False := eq_false (by omega)
theorem ne_0_1' (a b : Nat) : (b + (a + 32 + 1 + 1) + 1 = a + 32) = False := eq_false (by omega)
theorem ne_0_2 (a b : Nat) : (a + 32 = b + (a + 32 + 1 + 1) + 1 + 1) = False := eq_false (by omega)
theorem ne_0_2' (a b : Nat) : (b + (a + 32 + 1 + 1) + 1 + 1 = a + 32) = False := eq_false (by omega)
theorem ne_0_3 (a b : Nat) : (a + 32 = b + (a + 32 + 1 + 1) + 1 + 1 + 1) = False := eq_false (by omega)
theorem ne_0_3' (a b : Nat) : (b + (a + 32 + 1 + 1) + 1 + 1 + 1 = a + 32) = False := eq_false (by omega)
theorem ne_0_4 (a b : Nat) : (a + 32 = b + (a + 32 + 1 + 1) + 1 + 1 + 1 + 1) = False := eq_false (by omega)
theorem ne_0_4' (a b : Nat) : (b + (a + 32 + 1 + 1) + 1 + 1 + 1 + 1 = a + 32) = False := eq_false (by omega)
theorem ne_1_0 (a b : Nat) : (a + 32 + 1 = b + (a + 32 + 1 + 1)) = False := eq_false (by omega)
theorem ne_1_0' (a b : Nat) : (b + (a + 32 + 1 + 1) = a + 32 + 1) = False := eq_false (by omega)
theorem ne_1_1 (a b : Nat) : (a + 32 + 1 = b + (a + 32 + 1 + 1) + 1) = False := eq_false (by omega)
theorem ne_1_1' (a b : Nat) : (b + (a + 32 + 1 + 1) + 1 = a + 32 + 1) = False := eq_false (by omega)
theorem ne_1_2 (a b : Nat) : (a + 32 + 1 = b + (a + 32 + 1 + 1) + 1 + 1) = False := eq_false (by omega)
theorem ne_1_2' (a b : Nat) : (b + (a + 32 + 1 + 1) + 1 + 1 = a + 32 + 1) = False := eq_false (by omega)
theorem ne_1_3 (a b : Nat) : (a + 32 + 1 = b + (a + 32 + 1 + 1) + 1 + 1 + 1) = False := eq_false (by omega)
theorem ne_1_3' (a b : Nat) : (b + (a + 32 + 1 + 1) + 1 + 1 + 1 = a + 32 + 1) = False := eq_false (by omega)
theorem ne_1_4 (a b : Nat) : (a + 32 + 1 = b + (a + 32 + 1 + 1) + 1 + 1 + 1 + 1) = False := eq_false (by omega)
theorem ne_1_4' (a b : Nat) : (b + (a + 32 + 1 + 1) + 1 + 1 + 1 + 1 = a + 32 + 1) = False := eq_false (by omega)
attribute [local simp] ne_0_0 ne_0_0' ne_0_1 ne_0_1' ne_0_2 ne_0_2' ne_0_3 ne_0_3' ne_0_4 ne_0_4' ne_1_0 ne_1_0' ne_1_1 ne_1_1' ne_1_2 ne_1_2' ne_1_3 ne_1_3' ne_1_4 ne_1_4'
def eL : AV := .list [] .frozen
theorem eL_under : eL.under 30 = true := by simp [eL]

set_option maxHeartbeats 4000000 in
theorem ord_ok (p : Int) (n : List UInt8) (vars der : AV) (hv : Ok vars) (hd : Ok der) (pos : Int) (cs : List (UInt8 × Nat)) (hk : ∀ c ∈ cs, c.2 ≤ 3) (hl : cs.length ≤ 1000) :
    Fn E 19 [.int .i64 p, .agg [.str n, vars, consV cs, der, .int .i64 pos]] (ordV eL p cs) := by
  simp only [Ok] at hv hd
  have hcu := conC_under cs hk
  cases hcs : cs with
  | nil =>
    simp only [consV]
    refine Fn.of Tryd.func19 rfl rfl rfl rfl rfl (by simp -dsimp [*]) ?_
    simp -dsimp [*]
    refine Wp.unroll ?_
    simp -dsimp [*, v_ok, cases_ok, lam2, ordV]
  | cons c0 cs0 =>
    have hcv : consV cs = .list (cs.map conC) .frozen := by rw [hcs]; rfl
    have hne : cs ≠ [] := by simp [hcs]
    have hsl : slV ((List.range cs.length).map (altOrd eL p cs)) = .list ((List.range cs.length).map (altOrd eL p cs)) .frozen := by
      cases h : (List.range cs.length).map (altOrd eL p cs) with
      | nil => simp at h; exact absurd h hne
      | cons a l => rfl
    rw [← hcs, hcv]
    clear hcs
    have hau : underLL 30 ((List.range cs.length).map (altOrd eL p cs)) = true := underLL_map fun i hi => altOrd_ok eL eL_under p cs hk i
    refine Fn.of Tryd.func19 rfl rfl rfl rfl rfl (by simp -dsimp [*]) ?_
    simp -dsimp [*]
    refine Wp.loop (fun i ρ H => i ≤ cs.length ∧ ρ 0 = .int .i64 p ∧ ρ 3 = .ptr 30 0 ∧ ρ 4 = .ptr 31 0 ∧ ρ 14 = .list (cs.map conC) .frozen ∧ ρ 15 = .int .i64 cs.length ∧ ρ 16 = .int .i64 i ∧
      ((i = 0 ∧ ρ 5 = .nilS ∧ H = B2 [.str n, vars, .list (cs.map conC) .frozen, der, .int .i64 pos] zE) ∨
       (0 < i ∧ ∃ J, ρ 5 = .list (((List.range cs.length).map (altOrd eL p cs)).take i) (.tok (J.length + 32) 10) ∧ H = ((B2 [.str n, vars, .list (cs.map conC) .frozen, der, .int .i64 pos] zE).more J).push .tok)))
      (fun i => cs.length - i) ?_ 0 _ _ ?_
    · rintro i ρ H ⟨hi, h0, h3, h4, h12, h13, h14, hh⟩
      by_cases hlt : i < cs.length
      · obtain ⟨⟨b, k⟩, hx⟩ : ∃ x, cs[i]? = some x := ⟨cs[i], by simp -dsimp [hlt]⟩
        have hk' := hk _ (List.mem_of_getElem? hx)
        have hw : IntKind.i64.wrap ((i : Int) + 1) = (i : Int) + 1 := IntWalk.i64_in _ (by omega)
        have hx' : cs[i] = (b, k) := by rw [List.getElem?_eq_getElem hlt] at hx; exact Option.some.inj hx
        have htake := take_map_succ (altOrd eL p cs) (l := List.range cs.length) (i := i) (x := i) (by simp [hlt])
        have hile : i ≤ cs.length := hi
        rcases hh with ⟨rfl, h5, rfl⟩ | ⟨hi0, J, h5, rfl⟩
        · by_cases hm : 1 < cs.length
          · have hm' : (1 : Int) < (cs.length : Int) := by omega
            match k, hk' with
            | 0, _ =>
              simp -dsimp [h0, h3, h4, h12, h13, h14, h5, hlt, hx', hw, names0, names1, names2, names3]
              refine Wp.unroll ?_
              simp -dsimp [h0, h3, h4, h12, h13, h14, h5, hlt, hx', hw, names0, names1, names2, names3, hm, hm', ordArgs0, ordArgs1, ordArgs2, ordArgs3, alt_ok, cases_ok, c_ok, v_ok]
              refine ⟨1, by omega, by omega, rfl, by omega, [some .tok, none, some (.cells [.str [b], argsV 0])], ⟨?_, rfl⟩, rfl⟩
              rw [htake]; simp [hm, altOrd, hx, ordIn]
            | 1, _ =>
              simp -dsimp [h0, h3, h4, h12, h13, h14, h5, hlt, hx', hw, names0, names1, names2, names3]
              refine Wp.unroll ?_
              simp -dsimp [h0, h3, h4, h12, h13, h14, h5, hlt, hx', hw, names0, names1, names2, names3, hm, hm', ordArgs0, ordArgs1, ordArgs2, ordArgs3, alt_ok, cases_ok, c_ok, v_ok]
              refine ⟨1, by omega, by omega, rfl, by omega, [some .tok, none, some (.cells [.str [b], argsV 1])], ⟨?_, rfl⟩, rfl⟩
              rw [htake]; simp [hm, altOrd, hx, ordIn]
            | 2, _ =>
              simp -dsimp [h0, h3, h4, h12, h13, h14, h5, hlt, hx', hw, names0, names1, names2, names3]
              refine Wp.unroll ?_
              simp -dsimp [h0, h3, h4, h12, h13, h14, h5, hlt, hx', hw, names0, names1, names2, names3, hm, hm', ordArgs0, ordArgs1, ordArgs2, ordArgs3, alt_ok, cases_ok, c_ok, v_ok]
              refine ⟨1, by omega, by omega, rfl, by omega, [some .tok, none, some (.cells [.str [b], argsV 2])], ⟨?_, rfl⟩, rfl⟩
              rw [htake]; simp [hm, altOrd, hx, ordIn]
            | 3, _ =>
              simp -dsimp [h0, h3, h4, h12, h13, h14, h5, hlt, hx', hw, names0, names1, names2, names3]
              refine Wp.unroll ?_
              simp -dsimp [h0, h3, h4, h12, h13, h14, h5, hlt, hx', hw, names0, names1, names2, names3, hm, hm', ordArgs0, ordArgs1, ordArgs2, ordArgs3, alt_ok, cases_ok, c_ok, v_ok]
              refine ⟨1, by omega, by omega, rfl, by omega, [some .tok, none, some (.cells [.str [b], argsV 3])], ⟨?_, rfl⟩, rfl⟩
              rw [htake]; simp [hm, altOrd, hx, ordIn]
          · have hm' : ¬ (1 : Int) < (cs.length : Int) := by omega
            match k, hk' with
            | 0, _ =>
              simp -dsimp [h0, h3, h4, h12, h13, h14, h5, hlt, hx', hw, names0, names1, names2, names3]
              refine Wp.unroll ?_
              simp -dsimp [h0, h3, h4, h12, h13, h14, h5, hlt, hx', hw, names0, names1, names2, names3, hm, hm', ordArgs0, ordArgs1, ordArgs2, ordArgs3, alt_ok, cases_ok, c_ok, v_ok]
              refine ⟨1, by omega, by omega, rfl, by omega, [some .tok, some (.cells [.str [b], argsV 0])], ⟨?_, rfl⟩, rfl⟩
              rw [htake]; simp [hm, altOrd, hx, ordIn]
            | 1, _ =>
              simp -dsimp [h0, h3, h4, h12, h13, h14, h5, hlt, hx', hw, names0, names1, names2, names3]
              refine Wp.unroll ?_
              simp -dsimp [h0, h3, h4, h12, h13, h14, h5, hlt, hx', hw, names0, names1, names2, names3, hm, hm', ordArgs0, ordArgs1, ordArgs2, ordArgs3, alt_ok, cases_ok, c_ok, v_ok]
              refine ⟨1, by omega, by omega, rfl, by omega, [some .tok, some (.cells [.str [b], argsV 1])], ⟨?_, rfl⟩, rfl⟩
              rw [htake]; simp [hm, altOrd, hx, ordIn]
            | 2, _ =>
              simp -dsimp [h0, h3, h4, h12, h13, h14, h5, hlt, hx', hw, names0, names1, names2, names3]
              refine Wp.unroll ?_
              simp -dsimp [h0, h3, h4, h12, h13, h14, h5, hlt, hx', hw, names0, names1, names2, names3, hm, hm', ordArgs0, ordArgs1, ordArgs2, ordArgs3, alt_ok, cases_ok, c_ok, v_ok]
              refine ⟨1, by omega, by omega, rfl, by omega, [some .tok, some (.cells [.str [b], argsV 2])], ⟨?_, rfl⟩, rfl⟩
              rw [htake]; simp [hm, altOrd, hx, ordIn]
            | 3, _ =>
              simp -dsimp [h0, h3, h4, h12, h13, h14, h5, hlt, hx', hw, names0, names1, names2, names3]
              refine Wp.unroll ?_
              simp -dsimp [h0, h3, h4, h12, h13, h14, h5, hlt, hx', hw, names0, names1, names2, names3, hm, hm', ordArgs0, ordArgs1, ordArgs2, ordArgs3, alt_ok, cases_ok, c_ok, v_ok]
              refine ⟨1, by omega, by omega, rfl, by omega, [some .tok, some (.cells [.str [b], argsV 3])], ⟨?_, rfl⟩, rfl⟩
              rw [htake]; simp [hm, altOrd, hx, ordIn]
        · have hmin : min i cs.length = i := by omega
          have hb1 := mul160 (i := i) (by omega)
          have hb2 := le45 (i := i) (by omega)
          have hlen : (∀ x, x ∈ List.take i ((List.range cs.length).map (altOrd eL p cs)) → x.length = 10) = True := eq_true fun x hx => by
            obtain ⟨c, hc, rfl⟩ := List.mem_map.1 (List.mem_of_mem_take hx)
            exact altOrd_len _ _ _ _ (by simpa using hc)
          have hgu := gts_ok eL eL_under p cs hk
          match k, hk' with
          | 0, _ =>
            simp -dsimp [h0, h3, h4, h12, h13, h14, h5, hlt, hx', hw, names0, names1, names2, names3, hmin, hile]
            refine Wp.loop (fun j ρ H => j ≤ i ∧ ρ 0 = .int .i64 p ∧ ρ 3 = .ptr 30 0 ∧ ρ 4 = .ptr 31 0 ∧ ρ 5 = .list (((List.range cs.length).map (altOrd eL p cs)).take i) (.tok (J.length + 32) 10) ∧ ρ 6 = .int .i64 i ∧ ρ 7 = .ptr (J.length + 32 + 1) 0 ∧
              ρ 14 = .list (cs.map conC) .frozen ∧ ρ 15 = .int .i64 cs.length ∧ ρ 16 = .int .i64 i ∧ ρ 24 = .list (List.take i (cs.map conC)) .frozen ∧ ρ 25 = .int .i64 i ∧ ρ 26 = .int .i64 j ∧
              ((j = 0 ∧ ρ 8 = .nilS ∧ H = H3 [.str n, vars, .list (cs.map conC) .frozen, der, .int .i64 pos] J [.str [b], argsV 0]) ∨
               (0 < j ∧ ∃ J2, ρ 8 = .list (List.take j (cs.map (gtA eL p))) (.tok (J2.length + (J.length + 32 + 1 + 1)) 10) ∧ H = ((H3 [.str n, vars, .list (cs.map conC) .frozen, der, .int .i64 pos] J [.str [b], argsV 0]).more J2).push .tok)))
              (fun j => i - j) ?_ 0 _ _ ?_
            · rintro j ρ H ⟨hj, h0, h3, h4, h5, h6, h7, h12, h13, h14, h24, h25, h26, hh⟩
              by_cases hjt : j < i
              · have hjc : j < cs.length := by omega
                obtain ⟨⟨b', k'⟩, hy⟩ : ∃ x, cs[j]? = some x := ⟨cs[j], by simp -dsimp [hjc]⟩
                have hky := hk _ (List.mem_of_getElem? hy)
                have hwj : IntKind.i64.wrap ((j : Int) + 1) = (j : Int) + 1 := IntWalk.i64_in _ (by omega)
                have hy' : cs[j] = (b', k') := by rw [List.getElem?_eq_getElem hjc] at hy; exact Option.some.inj hy
                have htj := take_map_succ (gtA eL p) hy
                have hjm : j < min i cs.length := by omega
                rcases hh with ⟨rfl, h8, rfl⟩ | ⟨hj0, J2, h8, rfl⟩
                · match k', hky with
                  | 0, _ =>
                    simp -dsimp [h0, h3, h4, h5, h6, h7, h12, h13, h14, h24, h25, h26, h8, hjt, hjm, hjc, hy', hwj, H3, repeat0, repeat1, repeat2, repeat3, alt_ok, c_ok]
                    refine ⟨1, by omega, by omega, rfl, by omega, [some (.cells [.str [b'], argsV 0])], ⟨?_, by simp; omega⟩, rfl⟩
                    have h1 := htj; simp only [Nat.zero_add] at h1; rw [h1]; simp [gtA, eL]
                  | 1, _ =>
                    simp -dsimp [h0, h3, h4, h5, h6, h7, h12, h13, h14, h24, h25, h26, h8, hjt, hjm, hjc, hy', hwj, H3, repeat0, repeat1, repeat2, repeat3, alt_ok, c_ok]
                    refine ⟨1, by omega, by omega, rfl, by omega, [some (.cells [.str [b'], argsV 1])], ⟨?_, by simp; omega⟩, rfl⟩
                    have h1 := htj; simp only [Nat.zero_add] at h1; rw [h1]; simp [gtA, eL]
                  | 2, _ =>
                    simp -dsimp [h0, h3, h4, h5, h6, h7, h12, h13, h14, h24, h25, h26, h8, hjt, hjm, hjc, hy', hwj, H3, repeat0, repeat1, repeat2, repeat3, alt_ok, c_ok]
                    refine ⟨1, by omega, by omega, rfl, by omega, [some (.cells [.str [b'], argsV 2])], ⟨?_, by simp; omega⟩, rfl⟩
                    have h1 := htj; simp only [Nat.zero_add] at h1; rw [h1]; simp [gtA, eL]
                  | 3, _ =>
                    simp -dsimp [h0, h3, h4, h5, h6, h7, h12, h13, h14, h24, h25, h26, h8, hjt, hjm, hjc, hy', hwj, H3, repeat0, repeat1, repeat2, repeat3, alt_ok, c_ok]
                    refine ⟨1, by omega, by omega, rfl, by omega, [some (.cells [.str [b'], argsV 3])], ⟨?_, by simp; omega⟩, rfl⟩
                    have h1 := htj; simp only [Nat.zero_add] at h1; rw [h1]; simp [gtA, eL]
                · have hmj : min j cs.length = j := by omega
                  have hlj : (∀ x, x ∈ List.take j (cs.map (gtA eL p)) → x.length = 10) = True := eq_true fun x hx => by
                    obtain ⟨c, hc, rfl⟩ := List.mem_map.1 (List.mem_of_mem_take hx)
                    exact gtA_len ..
                  have hbj1 := mul160 (i := j) (by omega)
                  have hbj2 := le45 (i := j) (by omega)
                  match k', hky with
                  | 0, _ =>
                    simp -dsimp [h0, h3, h4, h5, h6, h7, h12, h13, h14, h24, h25, h26, h8, hjt, hjm, hjc, hy', hwj, H3, repeat0, repeat1, repeat2, repeat3, alt_ok, c_ok, hmj, hlj, hbj1, hbj2]
                    refine ⟨j + 1, by omega, by omega, by simp, by omega, some (.cells [.str [b'], argsV 0]) :: none :: J2, ⟨?_, by simp; omega⟩, rfl⟩
                    rw [htj]; simp [gtA, eL]
                  | 1, _ =>
                    simp -dsimp [h0, h3, h4, h5, h6, h7, h12, h13, h14, h24, h25, h26, h8, hjt, hjm, hjc, hy', hwj, H3, repeat0, repeat1, repeat2, repeat3, alt_ok, c_ok, hmj, hlj, hbj1, hbj2]
                    refine ⟨j + 1, by omega, by omega, by simp, by omega, some (.cells [.str [b'], argsV 1]) :: none :: J2, ⟨?_, by simp; omega⟩, rfl⟩
                    rw [htj]; simp [gtA, eL]
                  | 2, _ =>
                    simp -dsimp [h0, h3, h4, h5, h6, h7, h12, h13, h14, h24, h25, h26, h8, hjt, hjm, hjc, hy', hwj, H3, repeat0, repeat1, repeat2, repeat3, alt_ok, c_ok, hmj, hlj, hbj1, hbj2]
                    refine ⟨j + 1, by omega, by omega, by simp, by omega, some (.cells [.str [b'], argsV 2]) :: none :: J2, ⟨?_, by simp; omega⟩, rfl⟩
                    rw [htj]; simp [gtA, eL]
                  | 3, _ =>
                    simp -dsimp [h0, h3, h4, h5, h6, h7, h12, h13, h14, h24, h25, h26, h8, hjt, hjm, hjc, hy', hwj, H3, repeat0, repeat1, repeat2, repeat3, alt_ok, c_ok, hmj, hlj, hbj1, hbj2]
                    refine ⟨j + 1, by omega, by omega, by simp, by omega, some (.cells [.str [b'], argsV 3]) :: none :: J2, ⟨?_, by simp; omega⟩, rfl⟩
                    rw [htj]; simp [gtA, eL]
              · have hje : j = i := by omega
                subst hje
                rcases hh with ⟨h, -, -⟩ | ⟨hj0, J2, h8, rfl⟩
                · omega
                · have hmj : min j cs.length = j := by omega
                  have hlj : (∀ x, x ∈ List.take j (cs.map (gtA eL p)) → x.length = 10) = True := eq_true fun x hx => by
                    obtain ⟨c, hc, rfl⟩ := List.mem_map.1 (List.mem_of_mem_take hx)
                    exact gtA_len ..
                  have hbj1 := mul160 (i := j) (by omega)
                  have hbj2 := le45 (i := j) (by omega)
                  have hbj3 := mul160' (i := j) (by omega)
                  have hbj4 := le46 (i := j) (by omega)
                  by_cases hm : j + 1 < cs.length
                  · have hm' : (j : Int) + 1 < (cs.length : Int) := by omega
                    simp -dsimp [h0, h3, h4, h5, h6, h7, h12, h13, h14, h24, h25, h26, h8, H3, hmj, hlj, hbj1, hbj2, hbj3, hbj4, hm, hm', hgu, hw, hlen, hb1, hb2, hmin, names0, names1, names2, names3, ordArgs0, ordArgs1, ordArgs2, ordArgs3, alt_ok, cases_ok, c_ok, v_ok]
                    refine ⟨j + 1, by omega, by omega, by simp, by omega, some .tok :: none :: none :: (J2 ++ some (.cells [.str [b], argsV 0]) :: none :: J), ⟨?_, by simp; omega⟩, by simp only [more_push, more_skip, more_more]; simp [List.replicate]⟩
                    rw [htake]; simp [altOrd, hx, ordIn, hm]
                  · have hm' : ¬ (j : Int) + 1 < (cs.length : Int) := by omega
                    simp -dsimp [h0, h3, h4, h5, h6, h7, h12, h13, h14, h24, h25, h26, h8, H3, hmj, hlj, hbj1, hbj2, hbj3, hbj4, hm, hm', hgu, hw, hlen, hb1, hb2, hmin, names0, names1, names2, names3, ordArgs0, ordArgs1, ordArgs2, ordArgs3, alt_ok, cases_ok, c_ok, v_ok]
                    refine ⟨j + 1, by omega, by omega, by simp, by omega, some .tok :: none :: (J2 ++ some (.cells [.str [b], argsV 0]) :: none :: J), ⟨?_, by simp; omega⟩, by simp only [more_push, more_skip, more_more]; simp [List.replicate]⟩
                    rw [htake]; simp [altOrd, hx, ordIn, hm]
            · refine ⟨by omega, ?_⟩
              simp -dsimp [h0, h3, h4, h12, h13, h14, h5, hlt, hx', hw, hmin, hile, H3]
          | 1, _ =>
            simp -dsimp [h0, h3, h4, h12, h13, h14, h5, hlt, hx', hw, names0, names1, names2, names3, hmin, hile]
            refine Wp.loop (fun j ρ H => j ≤ i ∧ ρ 0 = .int .i64 p ∧ ρ 3 = .ptr 30 0 ∧ ρ 4 = .ptr 31 0 ∧ ρ 5 = .list (((List.range cs.length).map (altOrd eL p cs)).take i) (.tok (J.length + 32) 10) ∧ ρ 6 = .int .i64 i ∧ ρ 7 = .ptr (J.length + 32 + 1) 0 ∧
              ρ 14 = .list (cs.map conC) .frozen ∧ ρ 15 = .int .i64 cs.length ∧ ρ 16 = .int .i64 i ∧ ρ 24 = .list (List.take i (cs.map conC)) .frozen ∧ ρ 25 = .int .i64 i ∧ ρ 26 = .int .i64 j ∧
              ((j = 0 ∧ ρ 8 = .nilS ∧ H = H3 [.str n, vars, .list (cs.map conC) .frozen, der, .int .i64 pos] J [.str [b], argsV 1]) ∨
               (0 < j ∧ ∃ J2, ρ 8 = .list (List.take j (cs.map (gtA eL p))) (.tok (J2.length + (J.length + 32 + 1 + 1)) 10) ∧ H = ((H3 [.str n, vars, .list (cs.map conC) .frozen, der, .int .i64 pos] J [.str [b], argsV 1]).more J2).push .tok)))
              (fun j => i - j) ?_ 0 _ _ ?_
            · rintro j ρ H ⟨hj, h0, h3, h4, h5, h6, h7, h12, h13, h14, h24, h25, h26, hh⟩
              by_cases hjt : j < i
              · have hjc : j < cs.length := by omega
                obtain ⟨⟨b', k'⟩, hy⟩ : ∃ x, cs[j]? = some x := ⟨cs[j], by simp -dsimp [hjc]⟩
                have hky := hk _ (List.mem_of_getElem? hy)
                have hwj : IntKind.i64.wrap ((j : Int) + 1) = (j : Int) + 1 := IntWalk.i64_in _ (by omega)
                have hy' : cs[j] = (b', k') := by rw [List.getElem?_eq_getElem hjc] at hy; exact Option.some.inj hy
                have htj := take_map_succ (gtA eL p) hy
                have hjm : j < min i cs.length := by omega
                rcases hh with ⟨rfl, h8, rfl⟩ | ⟨hj0, J2, h8, rfl⟩
                · match k', hky with
                  | 0, _ =>
                    simp -dsimp [h0, h3, h4, h5, h6, h7, h12, h13, h14, h24, h25, h26, h8, hjt, hjm, hjc, hy', hwj, H3, repeat0, repeat1, repeat2, repeat3, alt_ok, c_ok]
                    refine ⟨1, by omega, by omega, rfl, by omega, [some (.cells [.str [b'], argsV 0])], ⟨?_, by simp; omega⟩, rfl⟩
                    have h1 := htj; simp only [Nat.zero_add] at h1; rw [h1]; simp [gtA, eL]
                  | 1, _ =>
                    simp -dsimp [h0, h3, h4, h5, h6, h7, h12, h13, h14, h24, h25, h26, h8, hjt, hjm, hjc, hy', hwj, H3, repeat0, repeat1, repeat2, repeat3, alt_ok, c_ok]
                    refine ⟨1, by omega, by omega, rfl, by omega, [some (.cells [.str [b'], argsV 1])], ⟨?_, by simp; omega⟩, rfl⟩
                    have h1 := htj; simp only [Nat.zero_add] at h1; rw [h1]; simp [gtA, eL]
                  | 2, _ =>
                    simp -dsimp [h0, h3, h4, h5, h6, h7, h12, h13, h14, h24, h25, h26, h8, hjt, hjm, hjc, hy', hwj, H3, repeat0, repeat1, repeat2, repeat3, alt_ok, c_ok]
                    refine ⟨1, by omega, by omega, rfl, by omega, [some (.cells [.str [b'], argsV 2])], ⟨?_, by simp; omega⟩, rfl⟩
                    have h1 := htj; simp only [Nat.zero_add] at h1; rw [h1]; simp [gtA, eL]
                  | 3, _ =>
                    simp -dsimp [h0, h3, h4, h5, h6, h7, h12, h13, h14, h24, h25, h26, h8, hjt, hjm, hjc, hy', hwj, H3, repeat0, repeat1, repeat2, repeat3, alt_ok, c_ok]
                    refine ⟨1, by omega, by omega, rfl, by omega, [some (.cells [.str [b'], argsV 3])], ⟨?_, by simp; omega⟩, rfl⟩
                    have h1 := htj; simp only [Nat.zero_add] at h1; rw [h1]; simp [gtA, eL]
                · have hmj : min j cs.length = j := by omega
                  have hlj : (∀ x, x ∈ List.take j (cs.map (gtA eL p)) → x.length = 10) = True := eq_true fun x hx => by
                    obtain ⟨c, hc, rfl⟩ := List.mem_map.1 (List.mem_of_mem_take hx)
                    exact gtA_len ..
                  have hbj1 := mul160 (i := j) (by omega)
                  have hbj2 := le45 (i := j) (by omega)
                  match k', hky with
                  | 0, _ =>
                    simp -dsimp [h0, h3, h4, h5, h6, h7, h12, h13, h14, h24, h25, h26, h8, hjt, hjm, hjc, hy', hwj, H3, repeat0, repeat1, repeat2, repeat3, alt_ok, c_ok, hmj, hlj, hbj1, hbj2]
                    refine ⟨j + 1, by omega, by omega, by simp, by omega, some (.cells [.str [b'], argsV 0]) :: none :: J2, ⟨?_, by simp; omega⟩, rfl⟩
                    rw [htj]; simp [gtA, eL]
                  | 1, _ =>
                    simp -dsimp [h0, h3, h4, h5, h6, h7, h12, h13, h14, h24, h25, h26, h8, hjt, hjm, hjc, hy', hwj, H3, repeat0, repeat1, repeat2, repeat3, alt_ok, c_ok, hmj, hlj, hbj1, hbj2]
                    refine ⟨j + 1, by omega, by omega, by simp, by omega, some (.cells [.str [b'], argsV 1]) :: none :: J2, ⟨?_, by simp; omega⟩, rfl⟩
                    rw [htj]; simp [gtA, eL]
                  | 2, _ =>
                    simp -dsimp [h0, h3, h4, h5, h6, h7, h12, h13, h14, h24, h25, h26, h8, hjt, hjm, hjc, hy', hwj, H3, repeat0, repeat1, repeat2, repeat3, alt_ok, c_ok, hmj, hlj, hbj1, hbj2]
                    refine ⟨j + 1, by omega, by omega, by simp, by omega, some (.cells [.str [b'], argsV 2]) :: none :: J2, ⟨?_, by simp; omega⟩, rfl⟩
                    rw [htj]; simp [gtA, eL]
                  | 3, _ =>
                    simp -dsimp [h0, h3, h4, h5, h6, h7, h12, h13, h14, h24, h25, h26, h8, hjt, hjm, hjc, hy', hwj, H3, repeat0, repeat1, repeat2, repeat3, alt_ok, c_ok, hmj, hlj, hbj1, hbj2]
                    refine ⟨j + 1, by omega, by omega, by simp, by omega, some (.cells [.str [b'], argsV 3]) :: none :: J2, ⟨?_, by simp; omega⟩, rfl⟩
                    rw [htj]; simp [gtA, eL]
              · have hje : j = i := by omega
                subst hje
                rcases hh with ⟨h, -, -⟩ | ⟨hj0, J2, h8, rfl⟩
                · omega
                · have hmj : min j cs.length = j := by omega
                  have hlj : (∀ x, x ∈ List.take j (cs.map (gtA eL p)) → x.length = 10) = True := eq_true fun x hx => by
                    obtain ⟨c, hc, rfl⟩ := List.mem_map.1 (List.mem_of_mem_take hx)
                    exact gtA_len ..
                  have hbj1 := mul160 (i := j) (by omega)
                  have hbj2 := le45 (i := j) (by omega)
                  have hbj3 := mul160' (i := j) (by omega)
                  have hbj4 := le46 (i := j) (by omega)
                  by_cases hm : j + 1 < cs.length
                  · have hm' : (j : Int) + 1 < (cs.length : Int) := by omega
                    simp -dsimp [h0, h3, h4, h5, h6, h7, h12, h13, h14, h24, h25, h26, h8, H3, hmj, hlj, hbj1, hbj2, hbj3, hbj4, hm, hm', hgu, hw, hlen, hb1, hb2, hmin, names0, names1, names2, names3, ordArgs0, ordArgs1, ordArgs2, ordArgs3, alt_ok, cases_ok, c_ok, v_ok]
                    refine ⟨j + 1, by omega, by omega, by simp, by omega, some .tok :: none :: none :: (J2 ++ some (.cells [.str [b], argsV 1]) :: none :: J), ⟨?_, by simp; omega⟩, by simp only [more_push, more_skip, more_more]; simp [List.replicate]⟩
                    rw [htake]; simp [altOrd, hx, ordIn, hm]
                  · have hm' : ¬ (j : Int) + 1 < (cs.length : Int) := by omega
                    simp -dsimp [h0, h3, h4, h5, h6, h7, h12, h13, h14, h24, h25, h26, h8, H3, hmj, hlj, hbj1, hbj2, hbj3, hbj4, hm, hm', hgu, hw, hlen, hb1, hb2, hmin, names0, names1, names2, names3, ordArgs0, ordArgs1, ordArgs2, ordArgs3, alt_ok, cases_ok, c_ok, v_ok]
                    refine ⟨j + 1, by omega, by omega, by simp, by omega, some .tok :: none :: (J2 ++ some (.cells [.str [b], argsV 1]) :: none :: J), ⟨?_, by simp; omega⟩, by simp only [more_push, more_skip, more_more]; simp [List.replicate]⟩
                    rw [htake]; simp [altOrd, hx, ordIn, hm]
            · refine ⟨by omega, ?_⟩
              simp -dsimp [h0, h3, h4, h12, h13, h14, h5, hlt, hx', hw, hmin, hile, H3]
          | 2, _ =>
            simp -dsimp [h0, h3, h4, h12, h13, h14, h5, hlt, hx', hw, names0, names1, names2, names3, hmin, hile]
            refine Wp.loop (fun j ρ H => j ≤ i ∧ ρ 0 = .int .i64 p ∧ ρ 3 = .ptr 30 0 ∧ ρ 4 = .ptr 31 0 ∧ ρ 5 = .list (((List.range cs.length).map (altOrd eL p cs)).take i) (.tok (J.length + 32) 10) ∧ ρ 6 = .int .i64 i ∧ ρ 7 = .ptr (J.length + 32 + 1) 0 ∧
              ρ 14 = .list (cs.map conC) .frozen ∧ ρ 15 = .int .i64 cs.length ∧ ρ 16 = .int .i64 i ∧ ρ 24 = .list (List.take i (cs.map conC)) .frozen ∧ ρ 25 = .int .i64 i ∧ ρ 26 = .int .i64 j ∧
              ((j = 0 ∧ ρ 8 = .nilS ∧ H = H3 [.str n, vars, .list (cs.map conC) .frozen, der, .int .i64 pos] J [.str [b], argsV 2]) ∨
               (0 < j ∧ ∃ J2, ρ 8 = .list (List.take j (cs.map (gtA eL p))) (.tok (J2.length + (J.length + 32 + 1 + 1)) 10) ∧ H = ((H3 [.str n, vars, .list (cs.map conC) .frozen, der, .int .i64 pos] J [.str [b], argsV 2]).more J2).push .tok)))
              (fun j => i - j) ?_ 0 _ _ ?_
            · rintro j ρ H ⟨hj, h0, h3, h4, h5, h6, h7, h12, h13, h14, h24, h25, h26, hh⟩
              by_cases hjt : j < i
              · have hjc : j < cs.length := by omega
                obtain ⟨⟨b', k'⟩, hy⟩ : ∃ x, cs[j]? = some x := ⟨cs[j], by simp -dsimp [hjc]⟩
                have hky := hk _ (List.mem_of_getElem? hy)
                have hwj : IntKind.i64.wrap ((j : Int) + 1) = (j : Int) + 1 := IntWalk.i64_in _ (by omega)
                have hy' : cs[j] = (b', k') := by rw [List.getElem?_eq_getElem hjc] at hy; exact Option.some.inj hy
                have htj := take_map_succ (gtA eL p) hy
                have hjm : j < min i cs.length := by omega
                rcases hh with ⟨rfl, h8, rfl⟩ | ⟨hj0, J2, h8, rfl⟩
                · match k', hky with
                  | 0, _ =>
                    simp -dsimp [h0, h3, h4, h5, h6, h7, h12, h13, h14, h24, h25, h26, h8, hjt, hjm, hjc, hy', hwj, H3, repeat0, repeat1, repeat2, repeat3, alt_ok, c_ok]
                    refine ⟨1, by omega, by omega, rfl, by omega, [some (.cells [.str [b'], argsV 0])], ⟨?_, by simp; omega⟩, rfl⟩
                    have h1 := htj; simp only [Nat.zero_add] at h1; rw [h1]; simp [gtA, eL]
                  | 1, _ =>
                    simp -dsimp [h0, h3, h4, h5, h6, h7, h12, h13, h14, h24, h25, h26, h8, hjt, hjm, hjc, hy', hwj, H3, repeat0, repeat1, repeat2, repeat3, alt_ok, c_ok]
                    refine ⟨1, by omega, by omega, rfl, by omega, [some (.cells [.str [b'], argsV 1])], ⟨?_, by simp; omega⟩, rfl⟩
                    have h1 := htj; simp only [Nat.zero_add] at h1; rw [h1]; simp [gtA, eL]
                  | 2, _ =>
                    simp -dsimp [h0, h3, h4, h5, h6, h7, h12, h13, h14, h24, h25, h26, h8, hjt, hjm, hjc, hy', hwj, H3, repeat0, repeat1, repeat2, repeat3, alt_ok, c_ok]
                    refine ⟨1, by omega, by omega, rfl, by omega, [some (.cells [.str [b'], argsV 2])], ⟨?_, by simp; omega⟩, rfl⟩
                    have h1 := htj; simp only [Nat.zero_add] at h1; rw [h1]; simp [gtA, eL]
                  | 3, _ =>
                    simp -dsimp [h0, h3, h4, h5, h6, h7, h12, h13, h14, h24, h25, h26, h8, hjt, hjm, hjc, hy', hwj, H3, repeat0, repeat1, repeat2, repeat3, alt_ok, c_ok]
                    refine ⟨1, by omega, by omega, rfl, by omega, [some (.cells [.str [b'], argsV 3])], ⟨?_, by simp; omega⟩, rfl⟩
                    have h1 := htj; simp only [Nat.zero_add] at h1; rw [h1]; simp [gtA, eL]
                · have hmj : min j cs.length = j := by omega
                  have hlj : (∀ x, x ∈ List.take j (cs.map (gtA eL p)) → x.length = 10) = True := eq_true fun x hx => by
                    obtain ⟨c, hc, rfl⟩ := List.mem_map.1 (List.mem_of_mem_take hx)
                    exact gtA_len ..
                  have hbj1 := mul160 (i := j) (by omega)
                  have hbj2 := le45 (i := j) (by omega)
                  match k', hky with
                  | 0, _ =>
                    simp -dsimp [h0, h3, h4, h5, h6, h7, h12, h13, h14, h24, h25, h26, h8, hjt, hjm, hjc, hy', hwj, H3, repeat0, repeat1, repeat2, repeat3, alt_ok, c_ok, hmj, hlj, hbj1, hbj2]
                    refine ⟨j + 1, by omega, by omega, by simp, by omega, some (.cells [.str [b'], argsV 0]) :: none :: J2, ⟨?_, by simp; omega⟩, rfl⟩
                    rw [htj]; simp [gtA, eL]
                  | 1, _ =>
                    simp -dsimp [h0, h3, h4, h5, h6, h7, h12, h13, h14, h24, h25, h26, h8, hjt, hjm, hjc, hy', hwj, H3, repeat0, repeat1, repeat2, repeat3, alt_ok, c_ok, hmj, hlj, hbj1, hbj2]
                    refine ⟨j + 1, by omega, by omega, by simp, by omega, some (.cells [.str [b'], argsV 1]) :: none :: J2, ⟨?_, by simp; omega⟩, rfl⟩
                    rw [htj]; simp [gtA, eL]
                  | 2, _ =>
                    simp -dsimp [h0, h3, h4, h5, h6, h7, h12, h13, h14, h24, h25, h26, h8, hjt, hjm, hjc, hy', hwj, H3, repeat0, repeat1, repeat2, repeat3, alt_ok, c_ok, hmj, hlj, hbj1, hbj2]
                    refine ⟨j + 1, by omega, by omega, by simp, by omega, some (.cells [.str [b'], argsV 2]) :: none :: J2, ⟨?_, by simp; omega⟩, rfl⟩
                    rw [htj]; simp [gtA, eL]
                  | 3, _ =>
                    simp -dsimp [h0, h3, h4, h5, h6, h7, h12, h13, h14, h24, h25, h26, h8, hjt, hjm, hjc, hy', hwj, H3, repeat0, repeat1, repeat2, repeat3, alt_ok, c_ok, hmj, hlj, hbj1, hbj2]
                    refine ⟨j + 1, by omega, by omega, by simp, by omega, some (.cells [.str [b'], argsV 3]) :: none :: J2, ⟨?_, by simp; omega⟩, rfl⟩
                    rw [htj]; simp [gtA, eL]
              · have hje : j = i := by omega
                subst hje
                rcases hh with ⟨h, -, -⟩ | ⟨hj0, J2, h8, rfl⟩
                · omega
                · have hmj : min j cs.length = j := by omega
                  have hlj : (∀ x, x ∈ List.take j (cs.map (gtA eL p)) → x.length = 10) = True := eq_true fun x hx => by
                    obtain ⟨c, hc, rfl⟩ := List.mem_map.1 (List.mem_of_mem_take hx)
                    exact gtA_len ..
                  have hbj1 := mul160 (i := j) (by omega)
                  have hbj2 := le45 (i := j) (by omega)
                  have hbj3 := mul160' (i := j) (by omega)
                  have hbj4 := le46 (i := j) (by omega)
                  by_cases hm : j + 1 < cs.length
                  · have hm' : (j : Int) + 1 < (cs.length : Int) := by omega
                    simp -dsimp [h0, h3, h4, h5, h6, h7, h12, h13, h14, h24, h25, h26, h8, H3, hmj, hlj, hbj1, hbj2, hbj3, hbj4, hm, hm', hgu, hw, hlen, hb1, hb2, hmin, names0, names1, names2, names3, ordArgs0, ordArgs1, ordArgs2, ordArgs3, alt_ok, cases_ok, c_ok, v_ok]
                    refine ⟨j + 1, by omega, by omega, by simp, by omega, some .tok :: none :: none :: (J2 ++ some (.cells [.str [b], argsV 2]) :: none :: J), ⟨?_, by simp; omega⟩, by simp only [more_push, more_skip, more_more]; simp [List.replicate]⟩
                    rw [htake]; simp [altOrd, hx, ordIn, hm]
                  · have hm' : ¬ (j : Int) + 1 < (cs.length : Int) := by omega
                    simp -dsimp [h0, h3, h4, h5, h6, h7, h12, h13, h14, h24, h25, h26, h8, H3, hmj, hlj, hbj1, hbj2, hbj3, hbj4, hm, hm', hgu, hw, hlen, hb1, hb2, hmin, names0, names1, names2, names3, ordArgs0, ordArgs1, ordArgs2, ordArgs3, alt_ok, cases_ok, c_ok, v_ok]
                    refine ⟨j + 1, by omega, by omega, by simp, by omega, some .tok :: none :: (J2 ++ some (.cells [.str [b], argsV 2]) :: none :: J), ⟨?_, by simp; omega⟩, by simp only [more_push, more_skip, more_more]; simp [List.replicate]⟩
                    rw [htake]; simp [altOrd, hx, ordIn, hm]
            · refine ⟨by omega, ?_⟩
              simp -dsimp [h0, h3, h4, h12, h13, h14, h5, hlt, hx', hw, hmin, hile, H3]
          | 3, _ =>
            simp -dsimp [h0, h3, h4, h12, h13, h14, h5, hlt, hx', hw, names0, names1, names2, names3, hmin, hile]
            refine Wp.loop (fun j ρ H => j ≤ i ∧ ρ 0 = .int .i64 p ∧ ρ 3 = .ptr 30 0 ∧ ρ 4 = .ptr 31 0 ∧ ρ 5 = .list (((List.range cs.length).map (altOrd eL p cs)).take i) (.tok (J.length + 32) 10) ∧ ρ 6 = .int .i64 i ∧ ρ 7 = .ptr (J.length + 32 + 1) 0 ∧
              ρ 14 = .list (cs.map conC) .frozen ∧ ρ 15 = .int .i64 cs.length ∧ ρ 16 = .int .i64 i ∧ ρ 24 = .list (List.take i (cs.map conC)) .frozen ∧ ρ 25 = .int .i64 i ∧ ρ 26 = .int .i64 j ∧
              ((j = 0 ∧ ρ 8 = .nilS ∧ H = H3 [.str n, vars, .list (cs.map conC) .frozen, der, .int .i64 pos] J [.str [b], argsV 3]) ∨
               (0 < j ∧ ∃ J2, ρ 8 = .list (List.take j (cs.map (gtA eL p))) (.tok (J2.length + (J.length + 32 + 1 + 1)) 10) ∧ H = ((H3 [.str n, vars, .list (cs.map conC) .frozen, der, .int .i64 pos] J [.str [b], argsV 3]).more J2).push .tok)))
              (fun j => i - j) ?_ 0 _ _ ?_
            · rintro j ρ H ⟨hj, h0, h3, h4, h5, h6, h7, h12, h13, h14, h24, h25, h26, hh⟩
              by_cases hjt : j < i
              · have hjc : j < cs.length := by omega
                obtain ⟨⟨b', k'⟩, hy⟩ : ∃ x, cs[j]? = some x := ⟨cs[j], by simp -dsimp [hjc]⟩
                have hky := hk _ (List.mem_of_getElem? hy)
                have hwj : IntKind.i64.wrap ((j : Int) + 1) = (j : Int) + 1 := IntWalk.i64_in _ (by omega)
                have hy' : cs[j] = (b', k') := by rw [List.getElem?_eq_getElem hjc] at hy; exact Option.some.inj hy
                have htj := take_map_succ (gtA eL p) hy
                have hjm : j < min i cs.length := by omega
                rcases hh with ⟨rfl, h8, rfl⟩ | ⟨hj0, J2, h8, rfl⟩
                · match k', hky with
                  | 0, _ =>
                    simp -dsimp [h0, h3, h4, h5, h6, h7, h12, h13, h14, h24, h25, h26, h8, hjt, hjm, hjc, hy', hwj, H3, repeat0, repeat1, repeat2, repeat3, alt_ok, c_ok]
                    refine ⟨1, by omega, by omega, rfl, by omega, [some (.cells [.str [b'], argsV 0])], ⟨?_, by simp; omega⟩, rfl⟩
                    have h1 := htj; simp only [Nat.zero_add] at h1; rw [h1]; simp [gtA, eL]
                  | 1, _ =>
                    simp -dsimp [h0, h3, h4, h5, h6, h7, h12, h13, h14, h24, h25, h26, h8, hjt, hjm, hjc, hy', hwj, H3, repeat0, repeat1, repeat2, repeat3, alt_ok, c_ok]
                    refine ⟨1, by omega, by omega, rfl, by omega, [some (.cells [.str [b'], argsV 1])], ⟨?_, by simp; omega⟩, rfl⟩
                    have h1 := htj; simp only [Nat.zero_add] at h1; rw [h1]; simp [gtA, eL]
                  | 2, _ =>
                    simp -dsimp [h0, h3, h4, h5, h6, h7, h12, h13, h14, h24, h25, h26, h8, hjt, hjm, hjc, hy', hwj, H3, repeat0, repeat1, repeat2, repeat3, alt_ok, c_ok]
                    refine ⟨1, by omega, by omega, rfl, by omega, [some (.cells [.str [b'], argsV 2])], ⟨?_, by simp; omega⟩, rfl⟩
                    have h1 := htj; simp only [Nat.zero_add] at h1; rw [h1]; simp [gtA, eL]
                  | 3, _ =>
                    simp -dsimp [h0, h3, h4, h5, h6, h7, h12, h13, h14, h24, h25, h26, h8, hjt, hjm, hjc, hy', hwj, H3, repeat0, repeat1, repeat2, repeat3, alt_ok, c_ok]
                    refine ⟨1, by omega, by omega, rfl, by omega, [some (.cells [.str [b'], argsV 3])], ⟨?_, by simp; omega⟩, rfl⟩
                    have h1 := htj; simp only [Nat.zero_add] at h1; rw [h1]; simp [gtA, eL]
                · have hmj : min j cs.length = j := by omega
                  have hlj : (∀ x, x ∈ List.take j (cs.map (gtA eL p)) → x.length = 10) = True := eq_true fun x hx => by
                    obtain ⟨c, hc, rfl⟩ := List.mem_map.1 (List.mem_of_mem_take hx)
                    exact gtA_len ..
                  have hbj1 := mul160 (i := j) (by omega)
                  have hbj2 := le45 (i := j) (by omega)
                  match k', hky with
                  | 0, _ =>
                    simp -dsimp [h0, h3, h4, h5, h6, h7, h12, h13, h14, h24, h25, h26, h8, hjt, hjm, hjc, hy', hwj, H3, repeat0, repeat1, repeat2, repeat3, alt_ok, c_ok, hmj, hlj, hbj1, hbj2]
                    refine ⟨j + 1, by omega, by omega, by simp, by omega, some (.cells [.str [b'], argsV 0]) :: none :: J2, ⟨?_, by simp; omega⟩, rfl⟩
                    rw [htj]; simp [gtA, eL]
                  | 1, _ =>
                    simp -dsimp [h0, h3, h4, h5, h6, h7, h12, h13, h14, h24, h25, h26, h8, hjt, hjm, hjc, hy', hwj, H3, repeat0, repeat1, repeat2, repeat3, alt_ok, c_ok, hmj, hlj, hbj1, hbj2]
                    refine ⟨j + 1, by omega, by omega, by simp, by omega, some (.cells [.str [b'], argsV 1]) :: none :: J2, ⟨?_, by simp; omega⟩, rfl⟩
                    rw [htj]; simp [gtA, eL]
                  | 2, _ =>
                    simp -dsimp [h0, h3, h4, h5, h6, h7, h12, h13, h14, h24, h25, h26, h8, hjt, hjm, hjc, hy', hwj, H3, repeat0, repeat1, repeat2, repeat3, alt_ok, c_ok, hmj, hlj, hbj1, hbj2]
                    refine ⟨j + 1, by omega, by omega, by simp, by omega, some (.cells [.str [b'], argsV 2]) :: none :: J2, ⟨?_, by simp; omega⟩, rfl⟩
                    rw [htj]; simp [gtA, eL]
                  | 3, _ =>
                    simp -dsimp [h0, h3, h4, h5, h6, h7, h12, h13, h14, h24, h25, h26, h8, hjt, hjm, hjc, hy', hwj, H3, repeat0, repeat1, repeat2, repeat3, alt_ok, c_ok, hmj, hlj, hbj1, hbj2]
                    refine ⟨j + 1, by omega, by omega, by simp, by omega, some (.cells [.str [b'], argsV 3]) :: none :: J2, ⟨?_, by simp; omega⟩, rfl⟩
                    rw [htj]; simp [gtA, eL]
              · have hje : j = i := by omega
                subst hje
                rcases hh with ⟨h, -, -⟩ | ⟨hj0, J2, h8, rfl⟩
                · omega
                · have hmj : min j cs.length = j := by omega
                  have hlj : (∀ x, x ∈ List.take j (cs.map (gtA eL p)) → x.length = 10) = True := eq_true fun x hx => by
                    obtain ⟨c, hc, rfl⟩ := List.mem_map.1 (List.mem_of_mem_take hx)
                    exact gtA_len ..
                  have hbj1 := mul160 (i := j) (by omega)
                  have hbj2 := le45 (i := j) (by omega)
                  have hbj3 := mul160' (i := j) (by omega)
                  have hbj4 := le46 (i := j) (by omega)
                  by_cases hm : j + 1 < cs.length
                  · have hm' : (j : Int) + 1 < (cs.length : Int) := by omega
                    simp -dsimp [h0, h3, h4, h5, h6, h7, h12, h13, h14, h24, h25, h26, h8, H3, hmj, hlj, hbj1, hbj2, hbj3, hbj4, hm, hm', hgu, hw, hlen, hb1, hb2, hmin, names0, names1, names2, names3, ordArgs0, ordArgs1, ordArgs2, ordArgs3, alt_ok, cases_ok, c_ok, v_ok]
                    refine ⟨j + 1, by omega, by omega, by simp, by omega, some .tok :: none :: none :: (J2 ++ some (.cells [.str [b], argsV 3]) :: none :: J), ⟨?_, by simp; omega⟩, by simp only [more_push, more_skip, more_more]; simp [List.replicate]⟩
                    rw [htake]; simp [altOrd, hx, ordIn, hm]
                  · have hm' : ¬ (j : Int) + 1 < (cs.length : Int) := by omega
                    simp -dsimp [h0, h3, h4, h5, h6, h7, h12, h13, h14, h24, h25, h26, h8, H3, hmj, hlj, hbj1, hbj2, hbj3, hbj4, hm, hm', hgu, hw, hlen, hb1, hb2, hmin, names0, names1, names2, names3, ordArgs0, ordArgs1, ordArgs2, ordArgs3, alt_ok, cases_ok, c_ok, v_ok]
                    refine ⟨j + 1, by omega, by omega, by simp, by omega, some .tok :: none :: (J2 ++ some (.cells [.str [b], argsV 3]) :: none :: J), ⟨?_, by simp; omega⟩, by simp only [more_push, more_skip, more_more]; simp [List.replicate]⟩
                    rw [htake]; simp [altOrd, hx, ordIn, hm]
            · refine ⟨by omega, ?_⟩
              simp -dsimp [h0, h3, h4, h12, h13, h14, h5, hlt, hx', hw, hmin, hile, H3]
      · have hie : i = cs.length := by omega
        subst hie
        rcases hh with ⟨h, -, -⟩ | ⟨hi0, J, h5, rfl⟩
        · exact absurd (List.eq_nil_of_length_eq_zero h) hne
        · have ht : List.take cs.length ((List.range cs.length).map (altOrd eL p cs)) = (List.range cs.length).map (altOrd eL p cs) := by
            rw [List.take_of_length_le]; simp
          rw [ht] at h5
          simp -dsimp [h0, h3, h4, h12, h13, h14, h5, v_ok, cases_ok, lam2, hau, ordV, hsl, zE]
    · simp -dsimp [zE]
end Go.Am.Ds
