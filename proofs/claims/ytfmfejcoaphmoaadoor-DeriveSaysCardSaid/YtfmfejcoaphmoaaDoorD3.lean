/- DeriveSays answers true, whatever the numbers and the word; no condition: a part of the proof. -/
import Derived.Test.YtfmfejcoaphmoaaDoorD2
set_option linter.unusedSimpArgs false
set_option linter.unusedVariables false
/- DeriveSays on AM: a type's equality, order, text: loops over its constructors. -/
namespace Go.Am.Ds
open Go Go.Am Go.Proofs
set_option maxRecDepth 10000

/-- A slice of these. -/
def slV (es : List (List AV)) : AV := match es with | [] => .nilS | es => .list es .frozen
theorem slV_nil : slV [] = .nilS := Eq.trans rfl rfl
theorem slV_cons (e : List AV) (es : List (List AV)) : slV (e :: es) = .list (e :: es) .frozen := Eq.trans rfl rfl
theorem slV_freeze {es : List (List AV)} (h : es ≠ []) (t : Tag) : (AV.list es t).freeze = slV es := by cases es with | nil => simp at h | cons a b => simp [slV_cons]
attribute [local simp] slV_nil slV_cons

/-- The arguments' types, of so many. -/
def intC : List AV := [.int .i64 2, .str [73, 110, 116], .nilS]
def argsV (k : Nat) : AV := slV (List.replicate k intC)
/-- Names with numbers. -/
def nms (c : UInt8) (k : Nat) : List (List UInt8) := [[c, 49], [c, 50], [c, 51]].take k
def nmsV (c : UInt8) (k : Nat) : AV := slV ((nms c k).map fun s => [.str s])
/-- A constructor. -/
def conC (c : UInt8 × Nat) : List AV := [.str [c.1], argsV c.2]
def consV (cs : List (UInt8 × Nat)) : AV := slV (cs.map conC)

/-- An alternative of (==). -/
def altEq (p : Int) (many : Nat) (c : UInt8 × Nat) : List AV :=
  (al [c.1] (nmsV 97 c.2) (casesV p (vV p [121]) ((al [c.1] (nmsV 98 c.2) (eqArgsV p (nms 97 c.2) (nms 98 c.2)) p).cells :: if 1 < many then [(al [] .nilS (cV p sFalse) p).cells] else [])) p).cells
def casesV' (p : Int) (e : AV) (l : AV) : AV := ex 8 p [] 0 (.list [e.cells] .frozen) l .nilS
def eqV (p : Int) (cs : List (UInt8 × Nat)) : AV := lamV p (lamV p (casesV' p (vV p [120]) (slV (cs.map (altEq p cs.length)))) [121]) [120]

theorem map_conC_at {cs : List (UInt8 × Nat)} {i : Nat} {c : UInt8 × Nat} (h : cs[i]? = some c) : (cs.map conC)[i]? = some (conC c) := by simp [h]

attribute [local simp] cV vV sTrue sFalse casesV pairV eqArgsV ordArgsV sNil sCons sAppend sShow textV bothV shownV lamV showV conC argsV intC nmsV nms altEq casesV'

theorem altEq_ok (p : Int) (m : Nat) (c : UInt8 × Nat) (hc : c.2 ≤ 3) : underL 30 (altEq p m c) = true := by
  obtain ⟨b, k⟩ := c
  match k, hc with
  | 0, _ => by_cases h : 1 < m <;> simp [h]
  | 1, _ => by_cases h : 1 < m <;> simp [h]
  | 2, _ => by_cases h : 1 < m <;> simp [h]
  | 3, _ => by_cases h : 1 < m <;> simp [h]
theorem underLL_map {α : Type} {f : α → List AV} {l : List α} (h : ∀ a ∈ l, underL 30 (f a) = true) : underLL 30 (l.map f) = true := by
  induction l with
  | nil => rfl
  | cons a l ih => simp only [List.map_cons, underLL, Bool.and_eq_true]; exact ⟨h a (by simp), ih fun b hb => h b (by simp [hb])⟩
theorem conC_len (cs : List (UInt8 × Nat)) : (cs.map conC).all (fun e => e.length == 2) = true := by simp
theorem conC_under (cs : List (UInt8 × Nat)) (hk : ∀ c ∈ cs, c.2 ≤ 3) : underLL 30 (cs.map conC) = true := underLL_map fun c hc => by
  have := hk c hc
  obtain ⟨b, k⟩ := c
  match k, this with
  | 0, _ | 1, _ | 2, _ | 3, _ => simp

theorem altEq_len (p : Int) (m : Nat) (c : UInt8 × Nat) : (altEq p m c).length = 10 := by simp
theorem n30_0 (a : Nat) : (a + 32 < 30) = False := by simp
theorem n30_1 (a : Nat) : (a + 32 + 1 < 30) = False := by simp
theorem n30_2 (a : Nat) : (a + 32 + 1 + 1 < 30) = False := by simp
theorem n30_3 (a : Nat) : (a + 32 + 1 + 1 + 1 < 30) = False := by simp
theorem n30_4 (a : Nat) : (a + 32 + 1 + 1 + 1 + 1 < 30) = False := by simp
attribute [simp] n30_0 n30_1 n30_2 n30_3 n30_4
theorem take_map_succ {α β : Type} (f : α → β) {l : List α} {i : Nat} {x : α} (h : l[i]? = some x) : List.take (i + 1) (l.map f) = List.take i (l.map f) ++ [f x] := by
  rw [List.take_add_one]; simp [h]
noncomputable abbrev B2 (d z : List AV) : Heap := (E.base.push (.cells d)).push (.cells z)
def zE : List AV := [.int .i64 0, .int .i64 0, .str [], .int .i64 0, .nilS, .nilS, .nilS]

set_option maxHeartbeats 1000000 in
theorem eq_ok (p : Int) (n : List UInt8) (vars der : AV) (hv : Ok vars) (hd : Ok der) (pos : Int) (cs : List (UInt8 × Nat)) (hk : ∀ c ∈ cs, c.2 ≤ 3) (hl : cs.length ≤ 1000) :
    Fn E 18 [.int .i64 p, .agg [.str n, vars, consV cs, der, .int .i64 pos]] (eqV p cs) := by
  simp only [Ok] at hv hd
  have hcu := conC_under cs hk
  cases hcs : cs with
  | nil =>
    simp only [consV]
    refine Fn.of Tryd.func18 rfl rfl rfl rfl rfl (by simp -dsimp [*]) ?_
    simp -dsimp [*]
    refine Wp.unroll ?_
    simp -dsimp [*, v_ok, cases_ok, lam2, eqV]
  | cons c0 cs0 =>
    have hcv : consV cs = .list (cs.map conC) .frozen := by rw [hcs]; rfl
    have hsl : slV (cs.map (altEq p cs.length)) = .list (cs.map (altEq p cs.length)) .frozen := by rw [hcs]; rfl
    rw [← hcs, hcv]
    have hne : cs ≠ [] := by simp [hcs]
    clear hcs
    have hau : underLL 30 (cs.map (altEq p cs.length)) = true := underLL_map fun c hc => altEq_ok p _ c (hk c hc)
    refine Fn.of Tryd.func18 rfl rfl rfl rfl rfl (by simp -dsimp [*]) ?_
    simp -dsimp [*]
    refine Wp.loop (fun i ρ H => i ≤ cs.length ∧ ρ 0 = .int .i64 p ∧ ρ 3 = .ptr 30 0 ∧ ρ 4 = .ptr 31 0 ∧ ρ 12 = .list (cs.map conC) .frozen ∧ ρ 13 = .int .i64 cs.length ∧ ρ 14 = .int .i64 i ∧
      ((i = 0 ∧ ρ 5 = .nilS ∧ H = B2 [.str n, vars, .list (cs.map conC) .frozen, der, .int .i64 pos] zE) ∨
       (0 < i ∧ ∃ J, ρ 5 = .list ((cs.map (altEq p cs.length)).take i) (.tok (J.length + 32) 10) ∧ H = ((B2 [.str n, vars, .list (cs.map conC) .frozen, der, .int .i64 pos] zE).more J).push .tok)))
      (fun i => cs.length - i) ?_ 0 _ _ ?_
    · rintro i ρ H ⟨hi, h0, h3, h4, h12, h13, h14, hh⟩
      by_cases hlt : i < cs.length
      · obtain ⟨⟨b, k⟩, hx⟩ : ∃ x, cs[i]? = some x := ⟨cs[i], by simp -dsimp [hlt]⟩
        have hk' := hk _ (List.mem_of_getElem? hx)
        have hw : IntKind.i64.wrap ((i : Int) + 1) = (i : Int) + 1 := IntWalk.i64_in _ (by omega)
        have hx' : cs[i] = (b, k) := by rw [List.getElem?_eq_getElem hlt] at hx; exact Option.some.inj hx
        have htake := take_map_succ (altEq p cs.length) hx
        rcases hh with ⟨rfl, h5, rfl⟩ | ⟨hi0, J, h5, rfl⟩
        · by_cases hm : 1 < cs.length
          · have hm' : (1 : Int) < (cs.length : Int) := by omega
            match k, hk' with
            | 0, _ =>
              simp -dsimp [h0, h3, h4, h12, h13, h14, h5, hlt, hx', hw, hm, hm', names0, names1, names2, names3, eqArgs0, eqArgs1, eqArgs2, eqArgs3, alt_ok, cases_ok, c_ok, v_ok]
              refine ⟨1, by omega, by omega, rfl, by omega, [some .tok, some (.cells [.str [b], argsV 0])], ⟨?_, rfl⟩, rfl⟩
              rw [htake]; simp [hm]
            | 1, _ =>
              simp -dsimp [h0, h3, h4, h12, h13, h14, h5, hlt, hx', hw, hm, hm', names0, names1, names2, names3, eqArgs0, eqArgs1, eqArgs2, eqArgs3, alt_ok, cases_ok, c_ok, v_ok]
              refine ⟨1, by omega, by omega, rfl, by omega, [some .tok, some (.cells [.str [b], argsV 1])], ⟨?_, rfl⟩, rfl⟩
              rw [htake]; simp [hm]
            | 2, _ =>
              simp -dsimp [h0, h3, h4, h12, h13, h14, h5, hlt, hx', hw, hm, hm', names0, names1, names2, names3, eqArgs0, eqArgs1, eqArgs2, eqArgs3, alt_ok, cases_ok, c_ok, v_ok]
              refine ⟨1, by omega, by omega, rfl, by omega, [some .tok, some (.cells [.str [b], argsV 2])], ⟨?_, rfl⟩, rfl⟩
              rw [htake]; simp [hm]
            | 3, _ =>
              simp -dsimp [h0, h3, h4, h12, h13, h14, h5, hlt, hx', hw, hm, hm', names0, names1, names2, names3, eqArgs0, eqArgs1, eqArgs2, eqArgs3, alt_ok, cases_ok, c_ok, v_ok]
              refine ⟨1, by omega, by omega, rfl, by omega, [some .tok, some (.cells [.str [b], argsV 3])], ⟨?_, rfl⟩, rfl⟩
              rw [htake]; simp [hm]
          · have hm' : ¬ (1 : Int) < (cs.length : Int) := by omega
            match k, hk' with
            | 0, _ =>
              simp -dsimp [h0, h3, h4, h12, h13, h14, h5, hlt, hx', hw, hm, hm', names0, names1, names2, names3, eqArgs0, eqArgs1, eqArgs2, eqArgs3, alt_ok, cases_ok, c_ok, v_ok]
              refine ⟨1, by omega, by omega, rfl, by omega, [some (.cells [.str [b], argsV 0])], ⟨?_, rfl⟩, rfl⟩
              rw [htake]; simp [hm]
            | 1, _ =>
              simp -dsimp [h0, h3, h4, h12, h13, h14, h5, hlt, hx', hw, hm, hm', names0, names1, names2, names3, eqArgs0, eqArgs1, eqArgs2, eqArgs3, alt_ok, cases_ok, c_ok, v_ok]
              refine ⟨1, by omega, by omega, rfl, by omega, [some (.cells [.str [b], argsV 1])], ⟨?_, rfl⟩, rfl⟩
              rw [htake]; simp [hm]
            | 2, _ =>
              simp -dsimp [h0, h3, h4, h12, h13, h14, h5, hlt, hx', hw, hm, hm', names0, names1, names2, names3, eqArgs0, eqArgs1, eqArgs2, eqArgs3, alt_ok, cases_ok, c_ok, v_ok]
              refine ⟨1, by omega, by omega, rfl, by omega, [some (.cells [.str [b], argsV 2])], ⟨?_, rfl⟩, rfl⟩
              rw [htake]; simp [hm]
            | 3, _ =>
              simp -dsimp [h0, h3, h4, h12, h13, h14, h5, hlt, hx', hw, hm, hm', names0, names1, names2, names3, eqArgs0, eqArgs1, eqArgs2, eqArgs3, alt_ok, cases_ok, c_ok, v_ok]
              refine ⟨1, by omega, by omega, rfl, by omega, [some (.cells [.str [b], argsV 3])], ⟨?_, rfl⟩, rfl⟩
              rw [htake]; simp [hm]
        · have hm : 1 < cs.length := by omega
          have hm' : (1 : Int) < (cs.length : Int) := by omega
          have hmin : min i cs.length = i := by omega
          have hb1 : (i + 1) * 160 ≤ 35184372088832 := by omega
          have hb2 : i ≤ 35184372088831 := by omega
          have hlen : (∀ x, x ∈ List.take i (List.map (altEq p cs.length) cs) → x.length = 10) = True := eq_true fun x hx => by
            obtain ⟨c, -, rfl⟩ := List.mem_map.1 (List.mem_of_mem_take hx)
            exact altEq_len ..
          match k, hk' with
          | 0, _ =>
            simp -dsimp [h0, h3, h4, h12, h13, h14, h5, hlt, hx', hw, hm, hm', names0, names1, names2, names3, eqArgs0, eqArgs1, eqArgs2, eqArgs3, alt_ok, cases_ok, c_ok, v_ok, hmin, hb1, hb2, hlen]
            refine ⟨i + 1, by omega, by omega, by simp, by omega, some .tok :: some (.cells [.str [b], argsV 0]) :: none :: J, ⟨?_, by simp⟩, rfl⟩
            rw [htake]; simp [hm]
          | 1, _ =>
            simp -dsimp [h0, h3, h4, h12, h13, h14, h5, hlt, hx', hw, hm, hm', names0, names1, names2, names3, eqArgs0, eqArgs1, eqArgs2, eqArgs3, alt_ok, cases_ok, c_ok, v_ok, hmin, hb1, hb2, hlen]
            refine ⟨i + 1, by omega, by omega, by simp, by omega, some .tok :: some (.cells [.str [b], argsV 1]) :: none :: J, ⟨?_, by simp⟩, rfl⟩
            rw [htake]; simp [hm]
          | 2, _ =>
            simp -dsimp [h0, h3, h4, h12, h13, h14, h5, hlt, hx', hw, hm, hm', names0, names1, names2, names3, eqArgs0, eqArgs1, eqArgs2, eqArgs3, alt_ok, cases_ok, c_ok, v_ok, hmin, hb1, hb2, hlen]
            refine ⟨i + 1, by omega, by omega, by simp, by omega, some .tok :: some (.cells [.str [b], argsV 2]) :: none :: J, ⟨?_, by simp⟩, rfl⟩
            rw [htake]; simp [hm]
          | 3, _ =>
            simp -dsimp [h0, h3, h4, h12, h13, h14, h5, hlt, hx', hw, hm, hm', names0, names1, names2, names3, eqArgs0, eqArgs1, eqArgs2, eqArgs3, alt_ok, cases_ok, c_ok, v_ok, hmin, hb1, hb2, hlen]
            refine ⟨i + 1, by omega, by omega, by simp, by omega, some .tok :: some (.cells [.str [b], argsV 3]) :: none :: J, ⟨?_, by simp⟩, rfl⟩
            rw [htake]; simp [hm]
      · have hie : i = cs.length := by omega
        subst hie
        rcases hh with ⟨h, -, -⟩ | ⟨hi0, J, h5, rfl⟩
        · exact absurd (List.eq_nil_of_length_eq_zero h) hne
        · have ht : List.take cs.length (cs.map (altEq p cs.length)) = cs.map (altEq p cs.length) := by
            rw [List.take_of_length_le]; simp
          rw [ht] at h5
          simp -dsimp [h0, h3, h4, h12, h13, h14, h5, v_ok, cases_ok, lam2, hau, eqV, hsl, zE]
    · simp -dsimp [zE]
end Go.Am.Ds

/- DeriveSays on AM: a type's text, its order. -/
namespace Go.Am.Ds
open Go Go.Am Go.Proofs
set_option maxRecDepth 10000
attribute [local simp] slV_nil slV_cons cV vV sTrue sFalse casesV pairV eqArgsV ordArgsV sNil sCons sAppend sShow textV bothV shownV lamV showV conC argsV intC nmsV nms casesV'

/-- An alternative of show. -/
def altShow (p : Int) (c : UInt8 × Nat) : List AV := (al [c.1] (nmsV 97 c.2) (showV p c.1 (nms 97 c.2)) p).cells
def showsV (p : Int) (cs : List (UInt8 × Nat)) : AV := lamV p (casesV' p (vV p [120]) (slV (cs.map (altShow p)))) [120]
attribute [local simp] altShow

theorem altShow_ok (p : Int) (c : UInt8 × Nat) (hc : c.2 ≤ 3) : underL 30 (altShow p c) = true := by
  obtain ⟨b, k⟩ := c
  match k, hc with
  | 0, _ => simp
  | 1, _ => simp
  | 2, _ => simp
  | 3, _ => simp
theorem altShow_len (p : Int) (c : UInt8 × Nat) (hc : c.2 ≤ 3) : (altShow p c).length = 10 := by
  obtain ⟨b, k⟩ := c
  match k, hc with
  | 0, _ => simp
  | 1, _ => simp
  | 2, _ => simp
  | 3, _ => simp

set_option maxHeartbeats 1000000 in
theorem show_ok (p : Int) (n : List UInt8) (vars der : AV) (hv : Ok vars) (hd : Ok der) (pos : Int) (cs : List (UInt8 × Nat)) (hk : ∀ c ∈ cs, c.2 ≤ 3) (hl : cs.length ≤ 1000) :
    Fn E 20 [.int .i64 p, .agg [.str n, vars, consV cs, der, .int .i64 pos]] (showsV p cs) := by
  simp only [Ok] at hv hd
  have hcu := conC_under cs hk
  cases hcs : cs with
  | nil =>
    simp only [consV]
    refine Fn.of Tryd.func20 rfl rfl rfl rfl rfl (by simp -dsimp [*]) ?_
    simp -dsimp [*]
    refine Wp.unroll ?_
    simp -dsimp [*, v_ok, cases_ok, lam1, showsV]
  | cons c0 cs0 =>
    have hcv : consV cs = .list (cs.map conC) .frozen := by rw [hcs]; rfl
    have hsl : slV (cs.map (altShow p)) = .list (cs.map (altShow p)) .frozen := by rw [hcs]; rfl
    rw [← hcs, hcv]
    have hne : cs ≠ [] := by simp [hcs]
    clear hcs
    have hau : underLL 30 (cs.map (altShow p)) = true := underLL_map fun c hc => altShow_ok p c (hk c hc)
    refine Fn.of Tryd.func20 rfl rfl rfl rfl rfl (by simp -dsimp [*]) ?_
    simp -dsimp [*]
    refine Wp.loop (fun i ρ H => i ≤ cs.length ∧ ρ 0 = .int .i64 p ∧ ρ 3 = .ptr 30 0 ∧ ρ 4 = .ptr 31 0 ∧ ρ 11 = .list (cs.map conC) .frozen ∧ ρ 12 = .int .i64 cs.length ∧ ρ 13 = .int .i64 i ∧
      ((i = 0 ∧ ρ 5 = .nilS ∧ H = B2 [.str n, vars, .list (cs.map conC) .frozen, der, .int .i64 pos] zE) ∨
       (0 < i ∧ ∃ J, ρ 5 = .list ((cs.map (altShow p)).take i) (.tok (J.length + 32) 10) ∧ H = ((B2 [.str n, vars, .list (cs.map conC) .frozen, der, .int .i64 pos] zE).more J).push .tok)))
      (fun i => cs.length - i) ?_ 0 _ _ ?_
    · rintro i ρ H ⟨hi, h0, h3, h4, h12, h13, h14, hh⟩
      by_cases hlt : i < cs.length
      · obtain ⟨⟨b, k⟩, hx⟩ : ∃ x, cs[i]? = some x := ⟨cs[i], by simp -dsimp [hlt]⟩
        have hk' := hk _ (List.mem_of_getElem? hx)
        have hw : IntKind.i64.wrap ((i : Int) + 1) = (i : Int) + 1 := IntWalk.i64_in _ (by omega)
        have hx' : cs[i] = (b, k) := by rw [List.getElem?_eq_getElem hlt] at hx; exact Option.some.inj hx
        have htake := take_map_succ (altShow p) hx
        rcases hh with ⟨rfl, h5, rfl⟩ | ⟨hi0, J, h5, rfl⟩
        · match k, hk' with
          | 0, _ =>
            simp -dsimp [h0, h3, h4, h12, h13, h14, h5, hlt, hx', hw, names0, names1, names2, names3, text1_ok, text3_ok, shown1_ok, shown2_ok, shown3_ok, both_ok, alt_ok]
            refine ⟨1, by omega, by omega, rfl, by omega, [some (.cells _), some (.cells [.str [b], argsV 0])], ⟨?_, rfl⟩, rfl⟩
            rw [htake]; simp
          | 1, _ =>
            simp -dsimp [h0, h3, h4, h12, h13, h14, h5, hlt, hx', hw, names0, names1, names2, names3, text1_ok, text3_ok, shown1_ok, shown2_ok, shown3_ok, both_ok, alt_ok]
            refine ⟨1, by omega, by omega, rfl, by omega, [some (.cells _), some (.cells [.str [b], argsV 1])], ⟨?_, rfl⟩, rfl⟩
            rw [htake]; simp
          | 2, _ =>
            simp -dsimp [h0, h3, h4, h12, h13, h14, h5, hlt, hx', hw, names0, names1, names2, names3, text1_ok, text3_ok, shown1_ok, shown2_ok, shown3_ok, both_ok, alt_ok]
            refine ⟨1, by omega, by omega, rfl, by omega, [some (.cells _), some (.cells [.str [b], argsV 2])], ⟨?_, rfl⟩, rfl⟩
            rw [htake]; simp
          | 3, _ =>
            simp -dsimp [h0, h3, h4, h12, h13, h14, h5, hlt, hx', hw, names0, names1, names2, names3, text1_ok, text3_ok, shown1_ok, shown2_ok, shown3_ok, both_ok, alt_ok]
            refine ⟨1, by omega, by omega, rfl, by omega, [some (.cells _), some (.cells [.str [b], argsV 3])], ⟨?_, rfl⟩, rfl⟩
            rw [htake]; simp
        · have hmin : min i cs.length = i := by omega
          have hb1 : (i + 1) * 160 ≤ 35184372088832 := by omega
          have hb2 : i ≤ 35184372088831 := by omega
          have hlen : (∀ x, x ∈ List.take i (List.map (altShow p) cs) → x.length = 10) = True := eq_true fun x hx => by
            obtain ⟨c, hc, rfl⟩ := List.mem_map.1 (List.mem_of_mem_take hx)
            exact altShow_len _ _ (hk c hc)
          match k, hk' with
          | 0, _ =>
            simp -dsimp [h0, h3, h4, h12, h13, h14, h5, hlt, hx', hw, names0, names1, names2, names3, text1_ok, text3_ok, shown1_ok, shown2_ok, shown3_ok, both_ok, alt_ok, hmin, hb1, hb2, hlen]
            refine ⟨i + 1, by omega, by omega, by simp, by omega, some (.cells _) :: some (.cells [.str [b], argsV 0]) :: none :: J, ⟨?_, by simp⟩, rfl⟩
            rw [htake]; simp
          | 1, _ =>
            simp -dsimp [h0, h3, h4, h12, h13, h14, h5, hlt, hx', hw, names0, names1, names2, names3, text1_ok, text3_ok, shown1_ok, shown2_ok, shown3_ok, both_ok, alt_ok, hmin, hb1, hb2, hlen]
            refine ⟨i + 1, by omega, by omega, by simp, by omega, some (.cells _) :: some (.cells [.str [b], argsV 1]) :: none :: J, ⟨?_, by simp⟩, rfl⟩
            rw [htake]; simp
          | 2, _ =>
            simp -dsimp [h0, h3, h4, h12, h13, h14, h5, hlt, hx', hw, names0, names1, names2, names3, text1_ok, text3_ok, shown1_ok, shown2_ok, shown3_ok, both_ok, alt_ok, hmin, hb1, hb2, hlen]
            refine ⟨i + 1, by omega, by omega, by simp, by omega, some (.cells _) :: some (.cells [.str [b], argsV 2]) :: none :: J, ⟨?_, by simp⟩, rfl⟩
            rw [htake]; simp
          | 3, _ =>
            simp -dsimp [h0, h3, h4, h12, h13, h14, h5, hlt, hx', hw, names0, names1, names2, names3, text1_ok, text3_ok, shown1_ok, shown2_ok, shown3_ok, both_ok, alt_ok, hmin, hb1, hb2, hlen]
            refine ⟨i + 1, by omega, by omega, by simp, by omega, some (.cells _) :: some (.cells [.str [b], argsV 3]) :: none :: J, ⟨?_, by simp⟩, rfl⟩
            rw [htake]; simp
      · have hie : i = cs.length := by omega
        subst hie
        rcases hh with ⟨h, -, -⟩ | ⟨hi0, J, h5, rfl⟩
        · exact absurd (List.eq_nil_of_length_eq_zero h) hne
        · have ht : List.take cs.length (cs.map (altShow p)) = cs.map (altShow p) := by
            rw [List.take_of_length_le]; simp
          rw [ht] at h5
          simp -dsimp [h0, h3, h4, h12, h13, h14, h5, v_ok, cases_ok, lam1, hau, showsV, hsl, zE]
    · simp -dsimp [zE]
end Go.Am.Ds
