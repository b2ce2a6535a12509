/- DeriveSays answers true, whatever the numbers and the word; no condition: a part of the proof. -/
import Derived.Test.YtfmfejcoaphmoaaDoorD4
set_option linter.unusedSimpArgs false
set_option linter.unusedVariables false
/- DeriveSays on AM: the program's Derive. -/
namespace Go.Am.Ds
open Go Go.Am Go.Proofs
set_option maxRecDepth 10000
attribute [local simp] slV_nil slV_cons cV vV sTrue sFalse casesV pairV eqArgsV ordArgsV sNil sCons sAppend sShow textV bothV shownV lamV showV conC argsV intC nmsV nms casesV'

def varsV (vs : List (List UInt8)) : AV := slV (vs.map fun s => [.str s])
def dV (n : List UInt8) (vs : List (List UInt8)) (cs : List (UInt8 × Nat)) (der : AV) (pos : Int) : AV := .agg [.str n, varsV vs, consV cs, der, .int .i64 pos]
def predC (cls s : List UInt8) : List AV := [.str cls, .int .i64 1, .str s, .nilS]
def ctxV (cls : List UInt8) (vs : List (List UInt8)) : AV := slV (vs.map (predC cls))
def bindC (name : List UInt8) (body : AV) (pos : Int) : List AV := [.str name, .bool false, .nilS, .nilS, .int .i64 0, .str [], .nilS] ++ body.cells ++ [.int .i64 pos]
def instV (cls n : List UInt8) (vs : List (List UInt8)) (pos : Int) (name : List UInt8) (body : AV) : AV :=
  .agg [.str cls, .str n, varsV vs, ctxV cls vs, .list [bindC name body pos] .frozen, .int .i64 pos]
def inst0 : AV := .agg [.str [], .str [], .nilS, .nilS, .nilS, .int .i64 0]
def cEq : List UInt8 := [69, 113]
def cOrd : List UInt8 := [79, 114, 100]
def cShow : List UInt8 := [83, 104, 111, 119]
attribute [local simp] varsV dV predC ctxV bindC instV inst0 cEq cOrd cShow

theorem slV_under (es : List (List AV)) : (slV es).under 30 = underLL 30 es := by cases es with | nil => simp | cons a b => simp
theorem slV_one (es : List (List AV)) : (slV es).one = true := by cases es with | nil => simp | cons a b => simp
theorem slV_frz (es : List (List AV)) : (slV es).freeze = slV es := by cases es with | nil => simp | cons a b => simp
theorem consV_Ok (cs : List (UInt8 × Nat)) (hk : ∀ c ∈ cs, c.2 ≤ 3) : Ok (consV cs) := ⟨slV_one _, slV_frz _, by rw [consV, slV_under]; exact conC_under cs hk⟩

theorem clone0 : Fn E 21 [.nilS] .nilS := by
  refine Fn.of Tryd.func21 rfl rfl rfl rfl rfl (by simp) ?_
  simp -dsimp
theorem clone1 (a : List UInt8) : Fn E 21 [.list [[.str a]] .frozen] (.list [[.str a]] .frozen) := by
  refine Fn.of Tryd.func21 rfl rfl rfl rfl rfl (by simp) ?_
  simp -dsimp
theorem clone2 (a b : List UInt8) : Fn E 21 [.list [[.str a], [.str b]] .frozen] (.list [[.str a], [.str b]] .frozen) := by
  refine Fn.of Tryd.func21 rfl rfl rfl rfl rfl (by simp) ?_
  simp -dsimp

section
set_option maxHeartbeats 1000000 in
theorem derive_cEq (n : List UInt8) (vs : List (List UInt8)) (hvs : vs.length ≤ 2) (cs : List (UInt8 × Nat)) (hk : ∀ c ∈ cs, c.2 ≤ 3) (hl : cs.length ≤ 1000) (der : AV) (hd : Ok der) (pos : Int) : Fn E 7 [dV n vs cs der pos, .str cEq] (.tup [instV cEq n vs pos [61, 61] (eqV pos cs), .bool true]) := by
  have hcv := consV_Ok cs hk
  simp only [Ok] at hcv hd
  have hau : underLL 30 (cs.map (altEq pos cs.length)) = true := underLL_map fun c hc => altEq_ok pos cs.length c (hk c hc)
  match vs, hvs with
  | [], _ =>
    refine Fn.of Tryd.func7 rfl rfl rfl rfl rfl (by simp -dsimp [hcv, hd]) ?_
    have h1 := fun (u d : AV) (hu : u.one = true ∧ u.freeze = u ∧ u.under 30 = true) (hd : d.one = true ∧ d.freeze = d ∧ d.under 30 = true) => eq_ok pos n u d hu hd pos cs hk hl
    simp -dsimp [hcv, hd, h1, eqV, clone0, clone1, clone2, slV_under, hau, var_ok]
    refine Wp.unroll ?_
    simp -dsimp [hcv, hd, var_ok, slV_under, hau, eqV]
  | [a], _ =>
    refine Fn.of Tryd.func7 rfl rfl rfl rfl rfl (by simp -dsimp [hcv, hd]) ?_
    have h1 := fun (u d : AV) (hu : u.one = true ∧ u.freeze = u ∧ u.under 30 = true) (hd : d.one = true ∧ d.freeze = d ∧ d.under 30 = true) => eq_ok pos n u d hu hd pos cs hk hl
    simp -dsimp [hcv, hd, h1, eqV, clone0, clone1, clone2, slV_under, hau, var_ok]
    refine Wp.unroll ?_
    simp -dsimp [hcv, hd, var_ok, slV_under, hau, eqV]
    refine Wp.unroll ?_
    simp -dsimp [hcv, hd, var_ok, slV_under, hau, eqV]
  | [a, b], _ =>
    refine Fn.of Tryd.func7 rfl rfl rfl rfl rfl (by simp -dsimp [hcv, hd]) ?_
    have h1 := fun (u d : AV) (hu : u.one = true ∧ u.freeze = u ∧ u.under 30 = true) (hd : d.one = true ∧ d.freeze = d ∧ d.under 30 = true) => eq_ok pos n u d hu hd pos cs hk hl
    simp -dsimp [hcv, hd, h1, eqV, clone0, clone1, clone2, slV_under, hau, var_ok]
    refine Wp.unroll ?_
    simp -dsimp [hcv, hd, var_ok, slV_under, hau, eqV]
    refine Wp.unroll ?_
    simp -dsimp [hcv, hd, var_ok, slV_under, hau, eqV]
    refine Wp.unroll ?_
    simp -dsimp [hcv, hd, var_ok, slV_under, hau, eqV]

set_option maxHeartbeats 1000000 in
theorem derive_cOrd (n : List UInt8) (vs : List (List UInt8)) (hvs : vs.length ≤ 2) (cs : List (UInt8 × Nat)) (hk : ∀ c ∈ cs, c.2 ≤ 3) (hl : cs.length ≤ 1000) (der : AV) (hd : Ok der) (pos : Int) : Fn E 7 [dV n vs cs der pos, .str cOrd] (.tup [instV cOrd n vs pos [99, 111, 109, 112, 97, 114, 101] (ordV eL pos cs), .bool true]) := by
  have hcv := consV_Ok cs hk
  simp only [Ok] at hcv hd
  have hau : underLL 30 ((List.range cs.length).map (altOrd eL pos cs)) = true := underLL_map fun i _ => altOrd_ok eL eL_under pos cs hk i
  match vs, hvs with
  | [], _ =>
    refine Fn.of Tryd.func7 rfl rfl rfl rfl rfl (by simp -dsimp [hcv, hd]) ?_
    have h1 := fun (u d : AV) (hu : u.one = true ∧ u.freeze = u ∧ u.under 30 = true) (hd : d.one = true ∧ d.freeze = d ∧ d.under 30 = true) => ord_ok pos n u d hu hd pos cs hk hl
    simp -dsimp [hcv, hd, h1, ordV, clone0, clone1, clone2, slV_under, hau, var_ok]
    refine Wp.unroll ?_
    simp -dsimp [hcv, hd, var_ok, slV_under, hau, ordV]
  | [a], _ =>
    refine Fn.of Tryd.func7 rfl rfl rfl rfl rfl (by simp -dsimp [hcv, hd]) ?_
    have h1 := fun (u d : AV) (hu : u.one = true ∧ u.freeze = u ∧ u.under 30 = true) (hd : d.one = true ∧ d.freeze = d ∧ d.under 30 = true) => ord_ok pos n u d hu hd pos cs hk hl
    simp -dsimp [hcv, hd, h1, ordV, clone0, clone1, clone2, slV_under, hau, var_ok]
    refine Wp.unroll ?_
    simp -dsimp [hcv, hd, var_ok, slV_under, hau, ordV]
    refine Wp.unroll ?_
    simp -dsimp [hcv, hd, var_ok, slV_under, hau, ordV]
  | [a, b], _ =>
    refine Fn.of Tryd.func7 rfl rfl rfl rfl rfl (by simp -dsimp [hcv, hd]) ?_
    have h1 := fun (u d : AV) (hu : u.one = true ∧ u.freeze = u ∧ u.under 30 = true) (hd : d.one = true ∧ d.freeze = d ∧ d.under 30 = true) => ord_ok pos n u d hu hd pos cs hk hl
    simp -dsimp [hcv, hd, h1, ordV, clone0, clone1, clone2, slV_under, hau, var_ok]
    refine Wp.unroll ?_
    simp -dsimp [hcv, hd, var_ok, slV_under, hau, ordV]
    refine Wp.unroll ?_
    simp -dsimp [hcv, hd, var_ok, slV_under, hau, ordV]
    refine Wp.unroll ?_
    simp -dsimp [hcv, hd, var_ok, slV_under, hau, ordV]

set_option maxHeartbeats 1000000 in
theorem derive_cShow (n : List UInt8) (vs : List (List UInt8)) (hvs : vs.length ≤ 2) (cs : List (UInt8 × Nat)) (hk : ∀ c ∈ cs, c.2 ≤ 3) (hl : cs.length ≤ 1000) (der : AV) (hd : Ok der) (pos : Int) : Fn E 7 [dV n vs cs der pos, .str cShow] (.tup [instV cShow n vs pos [115, 104, 111, 119] (showsV pos cs), .bool true]) := by
  have hcv := consV_Ok cs hk
  simp only [Ok] at hcv hd
  have hau : underLL 30 (cs.map (altShow pos)) = true := underLL_map fun c hc => altShow_ok pos c (hk c hc)
  match vs, hvs with
  | [], _ =>
    refine Fn.of Tryd.func7 rfl rfl rfl rfl rfl (by simp -dsimp [hcv, hd]) ?_
    have h1 := fun (u d : AV) (hu : u.one = true ∧ u.freeze = u ∧ u.under 30 = true) (hd : d.one = true ∧ d.freeze = d ∧ d.under 30 = true) => show_ok pos n u d hu hd pos cs hk hl
    simp -dsimp [hcv, hd, h1, showsV, clone0, clone1, clone2, slV_under, hau, var_ok]
    refine Wp.unroll ?_
    simp -dsimp [hcv, hd, var_ok, slV_under, hau, showsV]
  | [a], _ =>
    refine Fn.of Tryd.func7 rfl rfl rfl rfl rfl (by simp -dsimp [hcv, hd]) ?_
    have h1 := fun (u d : AV) (hu : u.one = true ∧ u.freeze = u ∧ u.under 30 = true) (hd : d.one = true ∧ d.freeze = d ∧ d.under 30 = true) => show_ok pos n u d hu hd pos cs hk hl
    simp -dsimp [hcv, hd, h1, showsV, clone0, clone1, clone2, slV_under, hau, var_ok]
    refine Wp.unroll ?_
    simp -dsimp [hcv, hd, var_ok, slV_under, hau, showsV]
    refine Wp.unroll ?_
    simp -dsimp [hcv, hd, var_ok, slV_under, hau, showsV]
  | [a, b], _ =>
    refine Fn.of Tryd.func7 rfl rfl rfl rfl rfl (by simp -dsimp [hcv, hd]) ?_
    have h1 := fun (u d : AV) (hu : u.one = true ∧ u.freeze = u ∧ u.under 30 = true) (hd : d.one = true ∧ d.freeze = d ∧ d.under 30 = true) => show_ok pos n u d hu hd pos cs hk hl
    simp -dsimp [hcv, hd, h1, showsV, clone0, clone1, clone2, slV_under, hau, var_ok]
    refine Wp.unroll ?_
    simp -dsimp [hcv, hd, var_ok, slV_under, hau, showsV]
    refine Wp.unroll ?_
    simp -dsimp [hcv, hd, var_ok, slV_under, hau, showsV]
    refine Wp.unroll ?_
    simp -dsimp [hcv, hd, var_ok, slV_under, hau, showsV]

theorem derive_no (n : List UInt8) (vs : List (List UInt8)) (hvs : vs.length ≤ 2) (cs : List (UInt8 × Nat)) (hk : ∀ c ∈ cs, c.2 ≤ 3) (hl : cs.length ≤ 1000) (der : AV) (hd : Ok der) (pos : Int) (cls : List UInt8) (h1 : cls ≠ cEq) (h2 : cls ≠ cOrd) (h3 : cls ≠ cShow) : Fn E 7 [dV n vs cs der pos, .str cls] (.tup [inst0, .bool false]) := by
  have hcv := consV_Ok cs hk
  simp only [Ok] at hcv hd
  simp only [cEq, cOrd, cShow, ne_eq] at h1 h2 h3
  match vs, hvs with
  | [], _ =>
    refine Fn.of Tryd.func7 rfl rfl rfl rfl rfl (by simp -dsimp [hcv, hd]) ?_
    simp -dsimp [hcv, hd, h1, h2, h3]
  | [a], _ =>
    refine Fn.of Tryd.func7 rfl rfl rfl rfl rfl (by simp -dsimp [hcv, hd]) ?_
    simp -dsimp [hcv, hd, h1, h2, h3]
  | [a, b], _ =>
    refine Fn.of Tryd.func7 rfl rfl rfl rfl rfl (by simp -dsimp [hcv, hd]) ?_
    simp -dsimp [hcv, hd, h1, h2, h3]
end
end Go.Am.Ds

/- DeriveSays on AM: the document's Derive: a type's variables. -/
namespace Go.Am.Ds
open Go Go.Am Go.Proofs
set_option maxRecDepth 10000
attribute [local simp] slV_nil slV_cons cV vV sTrue sFalse casesV pairV eqArgsV ordArgsV sNil sCons sAppend sShow textV bothV shownV lamV showV conC argsV intC nmsV nms casesV' varsV dV predC bindC instV inst0

noncomputable def B3 (d z x : List AV) : Heap := ((E.base.push (.cells d)).push (.cells z)).push (.cells x)
theorem B3_next (d z x : List AV) : (B3 d z x).next = 33 := Eq.trans rfl rfl
theorem B3_trunc (d z x : List AV) : (B3 d z x).trunc 30 = E.base := by simp [B3]
theorem B3_get30 (d z x : List AV) : (B3 d z x).get 30 = some (.cells d) := by simp [B3]
theorem B3_get31 (d z x : List AV) : (B3 d z x).get 31 = some (.cells z) := by simp [B3]
theorem B3_get32 (d z x : List AV) : (B3 d z x).get 32 = some (.cells x) := by simp [B3]
theorem B3_put31 (d z x : List AV) (o : List AV) : (B3 d z x).put 31 (some (.cells o)) = B3 d o x := by simp [B3]
theorem B3_put32 (d z x : List AV) (o : List AV) : (B3 d z x).put 32 (some (.cells o)) = B3 d z o := by simp [B3]
attribute [simp] B3_next B3_trunc B3_get30 B3_get31 B3_get32 B3_put31 B3_put32
theorem cEq_Eq : (cEq = [69, 113]) = True := Eq.trans rfl (eq_true rfl)
theorem cOrd_Eq : (cOrd = [69, 113]) = False := eq_false (by decide)
theorem cOrd_Ord : (cOrd = [79, 114, 100]) = True := Eq.trans rfl (eq_true rfl)
theorem cEq_Ord : (cEq = [79, 114, 100]) = False := eq_false (by decide)
theorem cEq_Show : (cEq = [83, 104, 111, 119]) = False := eq_false (by decide)
theorem cShow_Eq : (cShow = [69, 113]) = False := eq_false (by decide)
theorem cShow_Ord : (cShow = [79, 114, 100]) = False := eq_false (by decide)
theorem cShow_Show : (cShow = [83, 104, 111, 119]) = True := Eq.trans rfl (eq_true rfl)
theorem cOrd_Show : (cOrd = [83, 104, 111, 119]) = False := eq_false (by decide)
attribute [simp] cEq_Eq cOrd_Eq cOrd_Ord cEq_Ord cEq_Show cShow_Eq cShow_Ord cShow_Show cOrd_Show
def zI : List AV := [.str [], .str [], .nilS, .nilS, .nilS, .int .i64 0]
attribute [local simp] zI
theorem o30_0 (a : Nat) : (a + 33 < 30) = False := eq_false (by omega)
theorem o31_0 (a : Nat) : (30 ≤ a + 33) = True := eq_true (by omega)
theorem o30_1 (a : Nat) : (a + 33 + 1 < 30) = False := eq_false (by omega)
theorem o31_1 (a : Nat) : (30 ≤ a + 33 + 1) = True := eq_true (by omega)
theorem o30_2 (a : Nat) : (a + 33 + 1 + 1 < 30) = False := eq_false (by omega)
theorem o31_2 (a : Nat) : (30 ≤ a + 33 + 1 + 1) = True := eq_true (by omega)
theorem o30_3 (a : Nat) : (a + 33 + 1 + 1 + 1 < 30) = False := eq_false (by omega)
theorem o31_3 (a : Nat) : (30 ≤ a + 33 + 1 + 1 + 1) = True := eq_true (by omega)
theorem o30_4 (a : Nat) : (a + 33 + 1 + 1 + 1 + 1 < 30) = False := eq_false (by omega)
theorem o31_4 (a : Nat) : (30 ≤ a + 33 + 1 + 1 + 1 + 1) = True := eq_true (by omega)
theorem o30_5 (a : Nat) : (a + 33 + 1 + 1 + 1 + 1 + 1 < 30) = False := eq_false (by omega)
theorem o31_5 (a : Nat) : (30 ≤ a + 33 + 1 + 1 + 1 + 1 + 1) = True := eq_true (by omega)
theorem o33_24 (a : Nat) : (a + 33 = 24) = False := eq_false (by omega)
theorem o33_25 (a : Nat) : (a + 33 = 25) = False := eq_false (by omega)
theorem o33_26 (a : Nat) : (a + 33 = 26) = False := eq_false (by omega)
theorem o33_27 (a : Nat) : (a + 33 = 27) = False := eq_false (by omega)
theorem o33_28 (a : Nat) : (a + 33 = 28) = False := eq_false (by omega)
theorem o33_29 (a : Nat) : (a + 33 = 29) = False := eq_false (by omega)
theorem o33_30 (a : Nat) : (a + 33 = 30) = False := eq_false (by omega)
theorem o33_31 (a : Nat) : (a + 33 = 31) = False := eq_false (by omega)
theorem o33_32 (a : Nat) : (a + 33 = 32) = False := eq_false (by omega)
attribute [simp] o30_0 o31_0 o30_1 o31_1 o30_2 o31_2 o30_3 o31_3 o30_4 o31_4 o30_5 o31_5 o33_24 o33_25 o33_26 o33_27 o33_28 o33_29 o33_30 o33_31 o33_32

theorem mul4 {i : Nat} (h : i ≤ 1000) : (i + 1) * 64 ≤ 35184372088832 := by omega
theorem cells_of_one {v : AV} (h : v.one = true) : v.cells = [v] := by cases v <;> simp at h ⊢
theorem predC_len (cls s : List UInt8) : (predC cls s).length = 4 := by simp
theorem slV_of {es : List (List AV)} (h : es ≠ []) : slV es = .list es .frozen := by cases es with | nil => simp at h | cons a b => rfl

end Go.Am.Ds

/- DeriveSays on AM: the document's Derive: Eq. -/
namespace Go.Am.Ds
open Go Go.Am Go.Proofs
set_option maxRecDepth 10000
attribute [local simp] slV_nil slV_cons cV vV sTrue sFalse casesV pairV eqArgsV ordArgsV sNil sCons sAppend sShow textV bothV shownV lamV showV conC argsV intC nmsV nms casesV' varsV dV predC bindC instV inst0

set_option maxHeartbeats 4000000 in
theorem rderive_cEq (n : List UInt8) (vs : List (List UInt8)) (hvs : vs.length ≤ 2) (cs : List (UInt8 × Nat)) (hk : ∀ c ∈ cs, c.2 ≤ 3) (hl : cs.length ≤ 1000) (der : AV) (hd : Ok der) (pos : Int) :
    Fn E 8 [dV n vs cs der pos, .str cEq] (.tup [instV cEq n vs pos [61, 61] (eqV pos cs), .bool true]) := by
  have hcv := consV_Ok cs hk
  have hvv : Ok (varsV vs) := ⟨slV_one _, slV_frz _, by rw [varsV, slV_under]; exact underLL_map fun a _ => by simp⟩
  simp only [Ok] at hcv hd hvv
  have hpu : ∀ i, underLL 30 (List.take i (vs.map (predC cEq))) = true := fun i => underLL_take (underLL_map fun a _ => by simp) i
  have hau : underLL 30 (cs.map (altEq pos cs.length)) = true := underLL_map fun c hc => altEq_ok pos _ c (hk c hc)
  show Fn E 8 [.agg [.str n, varsV vs, consV cs, der, .int .i64 pos], _] _
  generalize hvg : varsV vs = va at *
  generalize hcg : consV cs = ca at *
  have hvc := cells_of_one hvv.1
  have hcc := cells_of_one hcv.1
  have hdc := cells_of_one hd.1
  refine Fn.of Tryd.func8 rfl rfl rfl rfl rfl (by simp -dsimp [hcv, hd, hvv]) ?_
  simp -dsimp [hcv, hd, hvv, hvc, hcc, hdc]
  refine Wp.loop (fun i ρ H => i ≤ vs.length ∧ ρ 1 = .str cEq ∧ ρ 2 = .ptr 30 0 ∧ ρ 4 = .ptr 31 0 ∧ ρ 5 = .bool false ∧ ρ 6 = .ptr 32 0 ∧ ρ 7 = .int .i64 i ∧
      ((i = 0 ∧ H = B3 [.str n, va, ca, der, .int .i64 pos] zI [.str cEq, .str n, va, .nilS, .nilS, .int .i64 pos]) ∨
       (0 < i ∧ ∃ J, H = ((B3 [.str n, va, ca, der, .int .i64 pos] zI [.str cEq, .str n, va, .list (List.take i (vs.map (predC cEq))) (.tok (J.length + 33) 4), .nilS, .int .i64 pos]).more J).push .tok)))
      (fun i => vs.length - i) ?_ 0 _ _ ?_
  · rintro i ρ H ⟨hi, h1, h2, h4, h5, h6, h7, hh⟩
    by_cases hlt : i < vs.length
    · obtain ⟨a, hx⟩ : ∃ x, vs[i]? = some x := ⟨vs[i], by simp -dsimp [hlt]⟩
      have hw : IntKind.i64.wrap ((i : Int) + 1) = (i : Int) + 1 := IntWalk.i64_in _ (by omega)
      have hx' : vs[i] = a := by rw [List.getElem?_eq_getElem hlt] at hx; exact Option.some.inj hx
      have htake := take_map_succ (predC cEq) hx
      have hva : va = .list (vs.map fun s => [.str s]) .frozen := by
        rw [← hvg, varsV, slV_of]
        intro h; simp only [List.map_eq_nil_iff] at h; subst h; simp at hlt
      rcases hh with ⟨rfl, rfl⟩ | ⟨hi0, J, rfl⟩
      · simp -dsimp [h1, h2, h4, h5, h6, h7, hva, hlt, hx', hw, rvar_ok]
        refine ⟨1, by omega, by omega, rfl, .inr ⟨by omega, [], ?_⟩⟩
        have ht1 : List.take 1 (vs.map (predC cEq)) = [predC cEq a] := by simpa using htake
        simp only [ht1]; simp [Heap.more]
      · have hmin : min i vs.length = i := by omega
        have hb1 := mul4 (i := i) (by omega)
        have hb2 := le45 (i := i) (by omega)
        have hlen : (∀ x, x ∈ List.take i (vs.map (predC cEq)) → x.length = 4) = True := eq_true fun x hx => by
          obtain ⟨c, hc, rfl⟩ := List.mem_map.1 (List.mem_of_mem_take hx)
          exact predC_len ..
        simp -dsimp [h1, h2, h4, h5, h6, h7, hva, hlt, hx', hw, rvar_ok, hmin, hb1, hb2, hlen]
        refine ⟨i + 1, by omega, by omega, by simp, .inr ⟨by omega, none :: J, ?_⟩⟩
        rw [htake]; simp [more_push, more_skip]
    · obtain ⟨ctx, L, hc1, hc2, hc3, rfl⟩ : ∃ ctx L, ctx.one = true ∧ ctx.freeze = ctxV cEq vs ∧ (ctxV cEq vs).under 30 = true ∧ H = (B3 [.str n, va, ca, der, .int .i64 pos] zI [.str cEq, .str n, va, ctx, .nilS, .int .i64 pos]).more L := by
        have hie : i = vs.length := by omega
        subst hie
        have hct : (ctxV cEq vs).under 30 = true := by
          have := hpu vs.length
          rw [List.take_of_length_le (by simp)] at this
          rw [ctxV, slV_under]; exact this
        rcases hh with ⟨h, rfl⟩ | ⟨hi0, J, rfl⟩
        · have := List.eq_nil_of_length_eq_zero h
          subst this
          exact ⟨.nilS, [], by simp, by simp [ctxV], hct, by simp [Heap.more]⟩
        · refine ⟨_, some .tok :: J, ?_, ?_, hct, more_push ..⟩
          · simp
          · rw [List.take_of_length_le (by simp), ctxV, slV_of]
            · simp
            · intro h; simp only [List.map_eq_nil_iff] at h; subst h; simp at hi0
      clear hh
      have hxl : (va = .nilS ∧ vs.length = 0) ∨ va = .list (vs.map fun s => [.str s]) .frozen := by
        cases hvs0 : vs with
        | nil => left; rw [← hvg, hvs0]; simp
        | cons a l => right; rw [← hvg, hvs0]; rfl
      have hco : (ctxV cEq vs).one = true := slV_one _
      have hcz := cells_of_one hco
      have hcf : (ctxV cEq vs).freeze = ctxV cEq vs := slV_frz _
      have hlv : lenA P 29 va = some (.int .i64 vs.length) := by rcases hxl with ⟨h, h'⟩ | h <;> simp [h, *]
      simp -dsimp [h1, h2, h4, h5, h6, h7, hlt, hlv]
      refine Wp.loop (fun i ρ H => i ≤ cs.length ∧ ρ 1 = .str cEq ∧ ρ 2 = .ptr 30 0 ∧ ρ 4 = .ptr 31 0 ∧ ρ 5 = .bool false ∧ ρ 6 = .ptr 32 0 ∧ ρ 8 = .int .i64 pos ∧ ρ 10 = .int .i64 i ∧
          ((i = 0 ∧ ρ 9 = .nilS ∧ H = (B3 [.str n, va, ca, der, .int .i64 pos] zI [.str cEq, .str n, va, ctx, .nilS, .int .i64 pos]).more L) ∨
           (0 < i ∧ ∃ J, ρ 9 = .list (List.take i (cs.map (altEq pos cs.length))) (.tok (J.length + 33) 10) ∧ H = ((B3 [.str n, va, ca, der, .int .i64 pos] zI [.str cEq, .str n, va, ctx, .nilS, .int .i64 pos]).more J).push .tok)))
          (fun i => cs.length - i) ?_ 0 _ _ ?_
      · clear hlt hi h1 h2 h4 h5 h6 h7
        rintro i ρ H ⟨hi, h1, h2, h4, h5, h6, h8, h10, hh⟩
        by_cases hlt : i < cs.length
        · obtain ⟨⟨b, k⟩, hx⟩ : ∃ x, cs[i]? = some x := ⟨cs[i], by simp -dsimp [hlt]⟩
          have hk' := hk _ (List.mem_of_getElem? hx)
          have hw : IntKind.i64.wrap ((i : Int) + 1) = (i : Int) + 1 := IntWalk.i64_in _ (by omega)
          have hx' : cs[i] = (b, k) := by rw [List.getElem?_eq_getElem hlt] at hx; exact Option.some.inj hx
          have htake := take_map_succ (altEq pos cs.length) hx
          have hca : ca = .list (cs.map conC) .frozen := by
            rw [← hcg, consV, slV_of]
            intro h; simp only [List.map_eq_nil_iff] at h; subst h; simp at hlt
          rcases hh with ⟨rfl, h9, rfl⟩ | ⟨hi0, J, h9, rfl⟩
          · by_cases hm : 1 < cs.length
            · have hm' : (1 : Int) < (cs.length : Int) := by omega
              match k, hk' with
              | 0, _ =>
                simp -dsimp [h1, h2, h4, h5, h6, h8, h9, h10, hca, hlt, hx', hw, rnames0, rnames1, rnames2, rnames3, rc_ok, rv_ok, cs_ok, equal10, equal11, equal12, equal13, hm, hm']
                refine ⟨1, by omega, by omega, rfl, by omega, some .tok :: some (.cells _) :: L, ⟨?_, by simp⟩, rfl⟩
                have ht1 := htake; simp only [Nat.zero_add, List.take_zero, List.nil_append] at ht1; simp only [ht1]; simp [altEq, hm]
              | 1, _ =>
                simp -dsimp [h1, h2, h4, h5, h6, h8, h9, h10, hca, hlt, hx', hw, rnames0, rnames1, rnames2, rnames3, rc_ok, rv_ok, cs_ok, equal10, equal11, equal12, equal13, hm, hm']
                refine ⟨1, by omega, by omega, rfl, by omega, some .tok :: some (.cells _) :: L, ⟨?_, by simp⟩, rfl⟩
                have ht1 := htake; simp only [Nat.zero_add, List.take_zero, List.nil_append] at ht1; simp only [ht1]; simp [altEq, hm]
              | 2, _ =>
                simp -dsimp [h1, h2, h4, h5, h6, h8, h9, h10, hca, hlt, hx', hw, rnames0, rnames1, rnames2, rnames3, rc_ok, rv_ok, cs_ok, equal10, equal11, equal12, equal13, hm, hm']
                refine ⟨1, by omega, by omega, rfl, by omega, some .tok :: some (.cells _) :: L, ⟨?_, by simp⟩, rfl⟩
                have ht1 := htake; simp only [Nat.zero_add, List.take_zero, List.nil_append] at ht1; simp only [ht1]; simp [altEq, hm]
              | 3, _ =>
                simp -dsimp [h1, h2, h4, h5, h6, h8, h9, h10, hca, hlt, hx', hw, rnames0, rnames1, rnames2, rnames3, rc_ok, rv_ok, cs_ok, equal10, equal11, equal12, equal13, hm, hm']
                refine ⟨1, by omega, by omega, rfl, by omega, some .tok :: some (.cells _) :: L, ⟨?_, by simp⟩, rfl⟩
                have ht1 := htake; simp only [Nat.zero_add, List.take_zero, List.nil_append] at ht1; simp only [ht1]; simp [altEq, hm]
            · have hm' : ¬ (1 : Int) < (cs.length : Int) := by omega
              match k, hk' with
              | 0, _ =>
                simp -dsimp [h1, h2, h4, h5, h6, h8, h9, h10, hca, hlt, hx', hw, rnames0, rnames1, rnames2, rnames3, rc_ok, rv_ok, cs_ok, equal10, equal11, equal12, equal13, hm, hm']
                refine ⟨1, by omega, by omega, rfl, by omega, some (.cells _) :: L, ⟨?_, by simp⟩, rfl⟩
                have ht1 := htake; simp only [Nat.zero_add, List.take_zero, List.nil_append] at ht1; simp only [ht1]; simp [altEq, hm]
              | 1, _ =>
                simp -dsimp [h1, h2, h4, h5, h6, h8, h9, h10, hca, hlt, hx', hw, rnames0, rnames1, rnames2, rnames3, rc_ok, rv_ok, cs_ok, equal10, equal11, equal12, equal13, hm, hm']
                refine ⟨1, by omega, by omega, rfl, by omega, some (.cells _) :: L, ⟨?_, by simp⟩, rfl⟩
                have ht1 := htake; simp only [Nat.zero_add, List.take_zero, List.nil_append] at ht1; simp only [ht1]; simp [altEq, hm]
              | 2, _ =>
                simp -dsimp [h1, h2, h4, h5, h6, h8, h9, h10, hca, hlt, hx', hw, rnames0, rnames1, rnames2, rnames3, rc_ok, rv_ok, cs_ok, equal10, equal11, equal12, equal13, hm, hm']
                refine ⟨1, by omega, by omega, rfl, by omega, some (.cells _) :: L, ⟨?_, by simp⟩, rfl⟩
                have ht1 := htake; simp only [Nat.zero_add, List.take_zero, List.nil_append] at ht1; simp only [ht1]; simp [altEq, hm]
              | 3, _ =>
                simp -dsimp [h1, h2, h4, h5, h6, h8, h9, h10, hca, hlt, hx', hw, rnames0, rnames1, rnames2, rnames3, rc_ok, rv_ok, cs_ok, equal10, equal11, equal12, equal13, hm, hm']
                refine ⟨1, by omega, by omega, rfl, by omega, some (.cells _) :: L, ⟨?_, by simp⟩, rfl⟩
                have ht1 := htake; simp only [Nat.zero_add, List.take_zero, List.nil_append] at ht1; simp only [ht1]; simp [altEq, hm]
          · have hmin : min i cs.length = i := by omega
            have hb1 := mul160 (i := i) (by omega)
            have hb2 := le45 (i := i) (by omega)
            have hlen : (∀ x, x ∈ List.take i (cs.map (altEq pos cs.length)) → x.length = 10) = True := eq_true fun x hx => by
              obtain ⟨c, hc, rfl⟩ := List.mem_map.1 (List.mem_of_mem_take hx)
              exact altEq_len ..
            have hm : 1 < cs.length := by omega
            have hm' : (1 : Int) < (cs.length : Int) := by omega
            match k, hk' with
            | 0, _ =>
              simp -dsimp [h1, h2, h4, h5, h6, h8, h9, h10, hca, hlt, hx', hw, rnames0, rnames1, rnames2, rnames3, rc_ok, rv_ok, cs_ok, equal10, equal11, equal12, equal13, hm, hm', hmin, hb1, hb2, hlen]
              refine ⟨i + 1, by omega, by omega, by simp, by omega, some .tok :: some (.cells _) :: none :: J, ⟨?_, by simp⟩, rfl⟩
              simp only [htake]; simp [altEq, hm]
            | 1, _ =>
              simp -dsimp [h1, h2, h4, h5, h6, h8, h9, h10, hca, hlt, hx', hw, rnames0, rnames1, rnames2, rnames3, rc_ok, rv_ok, cs_ok, equal10, equal11, equal12, equal13, hm, hm', hmin, hb1, hb2, hlen]
              refine ⟨i + 1, by omega, by omega, by simp, by omega, some .tok :: some (.cells _) :: none :: J, ⟨?_, by simp⟩, rfl⟩
              simp only [htake]; simp [altEq, hm]
            | 2, _ =>
              simp -dsimp [h1, h2, h4, h5, h6, h8, h9, h10, hca, hlt, hx', hw, rnames0, rnames1, rnames2, rnames3, rc_ok, rv_ok, cs_ok, equal10, equal11, equal12, equal13, hm, hm', hmin, hb1, hb2, hlen]
              refine ⟨i + 1, by omega, by omega, by simp, by omega, some .tok :: some (.cells _) :: none :: J, ⟨?_, by simp⟩, rfl⟩
              simp only [htake]; simp [altEq, hm]
            | 3, _ =>
              simp -dsimp [h1, h2, h4, h5, h6, h8, h9, h10, hca, hlt, hx', hw, rnames0, rnames1, rnames2, rnames3, rc_ok, rv_ok, cs_ok, equal10, equal11, equal12, equal13, hm, hm', hmin, hb1, hb2, hlen]
              refine ⟨i + 1, by omega, by omega, by simp, by omega, some .tok :: some (.cells _) :: none :: J, ⟨?_, by simp⟩, rfl⟩
              simp only [htake]; simp [altEq, hm]
        · have hie : i = cs.length := by omega
          subst hie
          have hlc : lenA P 30 ca = some (.int .i64 cs.length) := by
            rw [← hcg]
            cases cs with
            | nil => simp [consV]
            | cons a l => simp [consV]
          rcases hh with ⟨h, h9, rfl⟩ | ⟨hi0, J, h9, rfl⟩
          · have hcs0 := List.eq_nil_of_length_eq_zero h
            subst hcs0
            simp -dsimp [h1, h2, h4, h5, h6, h8, h9, h10, hlc, rv_ok, cs_nil_ok, rlam2, hc1, hc2, hc3, hvg, hvv, hvc, hco, hcz, hcf, zI, eqV]
            exact hvg.symm
          · have ht : List.take cs.length (cs.map (altEq pos cs.length)) = (cs.map (altEq pos cs.length)) := by
              rw [List.take_of_length_le]; simp
            rw [ht] at h9
            have hsl : slV (cs.map (altEq pos cs.length)) = .list (cs.map (altEq pos cs.length)) .frozen := slV_of (by
              intro h; have := congrArg List.length h; simp at this; subst this; simp at hi0)
            simp -dsimp [h1, h2, h4, h5, h6, h8, h9, h10, hlc, rv_ok, cs_ok, hau, rlam2, hc1, hc2, hc3, hvg, hvv, hvc, hco, hcz, hcf, zI, eqV, hsl]
            exact hvg.symm
      · refine ⟨by omega, ?_⟩
        simp -dsimp [h1, h2, h4, h5, h6]
  · refine ⟨by omega, ?_⟩
    simp -dsimp [B3, zI]
end Go.Am.Ds

/- DeriveSays on AM: the document's Derive: Show. -/
namespace Go.Am.Ds
open Go Go.Am Go.Proofs
set_option maxRecDepth 10000
attribute [local simp] slV_nil slV_cons cV vV sTrue sFalse casesV pairV eqArgsV ordArgsV sNil sCons sAppend sShow textV bothV shownV lamV showV conC argsV intC nmsV nms casesV' varsV dV predC bindC instV inst0

set_option maxHeartbeats 4000000 in
theorem rderive_cShow (n : List UInt8) (vs : List (List UInt8)) (hvs : vs.length ≤ 2) (cs : List (UInt8 × Nat)) (hk : ∀ c ∈ cs, c.2 ≤ 3) (hl : cs.length ≤ 1000) (der : AV) (hd : Ok der) (pos : Int) :
    Fn E 8 [dV n vs cs der pos, .str cShow] (.tup [instV cShow n vs pos [115, 104, 111, 119] (showsV pos cs), .bool true]) := by
  have hcv := consV_Ok cs hk
  have hvv : Ok (varsV vs) := ⟨slV_one _, slV_frz _, by rw [varsV, slV_under]; exact underLL_map fun a _ => by simp⟩
  simp only [Ok] at hcv hd hvv
  have hpu : ∀ i, underLL 30 (List.take i (vs.map (predC cShow))) = true := fun i => underLL_take (underLL_map fun a _ => by simp) i
  have hau : underLL 30 (cs.map (altShow pos)) = true := underLL_map fun c hc => altShow_ok pos c (hk c hc)
  show Fn E 8 [.agg [.str n, varsV vs, consV cs, der, .int .i64 pos], _] _
  generalize hvg : varsV vs = va at *
  generalize hcg : consV cs = ca at *
  have hvc := cells_of_one hvv.1
  have hcc := cells_of_one hcv.1
  have hdc := cells_of_one hd.1
  refine Fn.of Tryd.func8 rfl rfl rfl rfl rfl (by simp -dsimp [hcv, hd, hvv]) ?_
  simp -dsimp [hcv, hd, hvv, hvc, hcc, hdc]
  refine Wp.loop (fun i ρ H => i ≤ vs.length ∧ ρ 1 = .str cShow ∧ ρ 2 = .ptr 30 0 ∧ ρ 4 = .ptr 31 0 ∧ ρ 5 = .bool false ∧ ρ 6 = .ptr 32 0 ∧ ρ 7 = .int .i64 i ∧
      ((i = 0 ∧ H = B3 [.str n, va, ca, der, .int .i64 pos] zI [.str cShow, .str n, va, .nilS, .nilS, .int .i64 pos]) ∨
       (0 < i ∧ ∃ J, H = ((B3 [.str n, va, ca, der, .int .i64 pos] zI [.str cShow, .str n, va, .list (List.take i (vs.map (predC cShow))) (.tok (J.length + 33) 4), .nilS, .int .i64 pos]).more J).push .tok)))
      (fun i => vs.length - i) ?_ 0 _ _ ?_
  · rintro i ρ H ⟨hi, h1, h2, h4, h5, h6, h7, hh⟩
    by_cases hlt : i < vs.length
    · obtain ⟨a, hx⟩ : ∃ x, vs[i]? = some x := ⟨vs[i], by simp -dsimp [hlt]⟩
      have hw : IntKind.i64.wrap ((i : Int) + 1) = (i : Int) + 1 := IntWalk.i64_in _ (by omega)
      have hx' : vs[i] = a := by rw [List.getElem?_eq_getElem hlt] at hx; exact Option.some.inj hx
      have htake := take_map_succ (predC cShow) hx
      have hva : va = .list (vs.map fun s => [.str s]) .frozen := by
        rw [← hvg, varsV, slV_of]
        intro h; simp only [List.map_eq_nil_iff] at h; subst h; simp at hlt
      rcases hh with ⟨rfl, rfl⟩ | ⟨hi0, J, rfl⟩
      · simp -dsimp [h1, h2, h4, h5, h6, h7, hva, hlt, hx', hw, rvar_ok]
        refine ⟨1, by omega, by omega, rfl, .inr ⟨by omega, [], ?_⟩⟩
        have ht1 : List.take 1 (vs.map (predC cShow)) = [predC cShow a] := by simpa using htake
        simp only [ht1]; simp [Heap.more]
      · have hmin : min i vs.length = i := by omega
        have hb1 := mul4 (i := i) (by omega)
        have hb2 := le45 (i := i) (by omega)
        have hlen : (∀ x, x ∈ List.take i (vs.map (predC cShow)) → x.length = 4) = True := eq_true fun x hx => by
          obtain ⟨c, hc, rfl⟩ := List.mem_map.1 (List.mem_of_mem_take hx)
          exact predC_len ..
        simp -dsimp [h1, h2, h4, h5, h6, h7, hva, hlt, hx', hw, rvar_ok, hmin, hb1, hb2, hlen]
        refine ⟨i + 1, by omega, by omega, by simp, .inr ⟨by omega, none :: J, ?_⟩⟩
        rw [htake]; simp [more_push, more_skip]
    · obtain ⟨ctx, L, hc1, hc2, hc3, rfl⟩ : ∃ ctx L, ctx.one = true ∧ ctx.freeze = ctxV cShow vs ∧ (ctxV cShow vs).under 30 = true ∧ H = (B3 [.str n, va, ca, der, .int .i64 pos] zI [.str cShow, .str n, va, ctx, .nilS, .int .i64 pos]).more L := by
        have hie : i = vs.length := by omega
        subst hie
        have hct : (ctxV cShow vs).under 30 = true := by
          have := hpu vs.length
          rw [List.take_of_length_le (by simp)] at this
          rw [ctxV, slV_under]; exact this
        rcases hh with ⟨h, rfl⟩ | ⟨hi0, J, rfl⟩
        · have := List.eq_nil_of_length_eq_zero h
          subst this
          exact ⟨.nilS, [], by simp, by simp [ctxV], hct, by simp [Heap.more]⟩
        · refine ⟨_, some .tok :: J, ?_, ?_, hct, more_push ..⟩
          · simp
          · rw [List.take_of_length_le (by simp), ctxV, slV_of]
            · simp
            · intro h; simp only [List.map_eq_nil_iff] at h; subst h; simp at hi0
      clear hh
      have hxl : (va = .nilS ∧ vs.length = 0) ∨ va = .list (vs.map fun s => [.str s]) .frozen := by
        cases hvs0 : vs with
        | nil => left; rw [← hvg, hvs0]; simp
        | cons a l => right; rw [← hvg, hvs0]; rfl
      have hco : (ctxV cShow vs).one = true := slV_one _
      have hcz := cells_of_one hco
      have hcf : (ctxV cShow vs).freeze = ctxV cShow vs := slV_frz _
      have hlv : lenA P 29 va = some (.int .i64 vs.length) := by rcases hxl with ⟨h, h'⟩ | h <;> simp [h, *]
      simp -dsimp [h1, h2, h4, h5, h6, h7, hlt, hlv]
      refine Wp.loop (fun i ρ H => i ≤ cs.length ∧ ρ 1 = .str cShow ∧ ρ 2 = .ptr 30 0 ∧ ρ 4 = .ptr 31 0 ∧ ρ 5 = .bool false ∧ ρ 6 = .ptr 32 0 ∧ ρ 8 = .int .i64 pos ∧ ρ 10 = .int .i64 i ∧
          ((i = 0 ∧ ρ 9 = .nilS ∧ H = (B3 [.str n, va, ca, der, .int .i64 pos] zI [.str cShow, .str n, va, ctx, .nilS, .int .i64 pos]).more L) ∨
           (0 < i ∧ ∃ J, ρ 9 = .list (List.take i (cs.map (altShow pos))) (.tok (J.length + 33) 10) ∧ H = ((B3 [.str n, va, ca, der, .int .i64 pos] zI [.str cShow, .str n, va, ctx, .nilS, .int .i64 pos]).more J).push .tok)))
          (fun i => cs.length - i) ?_ 0 _ _ ?_
      · clear hlt hi h1 h2 h4 h5 h6 h7
        rintro i ρ H ⟨hi, h1, h2, h4, h5, h6, h8, h10, hh⟩
        by_cases hlt : i < cs.length
        · obtain ⟨⟨b, k⟩, hx⟩ : ∃ x, cs[i]? = some x := ⟨cs[i], by simp -dsimp [hlt]⟩
          have hk' := hk _ (List.mem_of_getElem? hx)
          have hw : IntKind.i64.wrap ((i : Int) + 1) = (i : Int) + 1 := IntWalk.i64_in _ (by omega)
          have hx' : cs[i] = (b, k) := by rw [List.getElem?_eq_getElem hlt] at hx; exact Option.some.inj hx
          have htake := take_map_succ (altShow pos) hx
          have hca : ca = .list (cs.map conC) .frozen := by
            rw [← hcg, consV, slV_of]
            intro h; simp only [List.map_eq_nil_iff] at h; subst h; simp at hlt
          rcases hh with ⟨rfl, h9, rfl⟩ | ⟨hi0, J, h9, rfl⟩
          · match k, hk' with
            | 0, _ =>
              simp -dsimp [h1, h2, h4, h5, h6, h8, h9, h10, hca, hlt, hx', hw, rnames0, rnames1, rnames2, rnames3, rc_ok, rv_ok, cs_ok, rshown0, rshown1, rshown2, rshown3]
              refine ⟨1, by omega, by omega, rfl, by omega, some (.cells _) :: L, ⟨?_, by simp⟩, rfl⟩
              have ht1 := htake; simp only [Nat.zero_add, List.take_zero, List.nil_append] at ht1; simp only [ht1]; simp [altShow]
            | 1, _ =>
              simp -dsimp [h1, h2, h4, h5, h6, h8, h9, h10, hca, hlt, hx', hw, rnames0, rnames1, rnames2, rnames3, rc_ok, rv_ok, cs_ok, rshown0, rshown1, rshown2, rshown3]
              refine ⟨1, by omega, by omega, rfl, by omega, some (.cells _) :: L, ⟨?_, by simp⟩, rfl⟩
              have ht1 := htake; simp only [Nat.zero_add, List.take_zero, List.nil_append] at ht1; simp only [ht1]; simp [altShow]
            | 2, _ =>
              simp -dsimp [h1, h2, h4, h5, h6, h8, h9, h10, hca, hlt, hx', hw, rnames0, rnames1, rnames2, rnames3, rc_ok, rv_ok, cs_ok, rshown0, rshown1, rshown2, rshown3]
              refine ⟨1, by omega, by omega, rfl, by omega, some (.cells _) :: L, ⟨?_, by simp⟩, rfl⟩
              have ht1 := htake; simp only [Nat.zero_add, List.take_zero, List.nil_append] at ht1; simp only [ht1]; simp [altShow]
            | 3, _ =>
              simp -dsimp [h1, h2, h4, h5, h6, h8, h9, h10, hca, hlt, hx', hw, rnames0, rnames1, rnames2, rnames3, rc_ok, rv_ok, cs_ok, rshown0, rshown1, rshown2, rshown3]
              refine ⟨1, by omega, by omega, rfl, by omega, some (.cells _) :: L, ⟨?_, by simp⟩, rfl⟩
              have ht1 := htake; simp only [Nat.zero_add, List.take_zero, List.nil_append] at ht1; simp only [ht1]; simp [altShow]
          · have hmin : min i cs.length = i := by omega
            have hb1 := mul160 (i := i) (by omega)
            have hb2 := le45 (i := i) (by omega)
            have hlen : (∀ x, x ∈ List.take i (cs.map (altShow pos)) → x.length = 10) = True := eq_true fun x hx => by
              obtain ⟨c, hc, rfl⟩ := List.mem_map.1 (List.mem_of_mem_take hx)
              exact altShow_len _ _ (hk c hc)
            match k, hk' with
            | 0, _ =>
              simp -dsimp [h1, h2, h4, h5, h6, h8, h9, h10, hca, hlt, hx', hw, rnames0, rnames1, rnames2, rnames3, rc_ok, rv_ok, cs_ok, rshown0, rshown1, rshown2, rshown3, hmin, hb1, hb2, hlen]
              refine ⟨i + 1, by omega, by omega, by simp, by omega, some (.cells _) :: none :: J, ⟨?_, by simp⟩, rfl⟩
              simp only [htake]; simp [altShow]
            | 1, _ =>
              simp -dsimp [h1, h2, h4, h5, h6, h8, h9, h10, hca, hlt, hx', hw, rnames0, rnames1, rnames2, rnames3, rc_ok, rv_ok, cs_ok, rshown0, rshown1, rshown2, rshown3, hmin, hb1, hb2, hlen]
              refine ⟨i + 1, by omega, by omega, by simp, by omega, some (.cells _) :: none :: J, ⟨?_, by simp⟩, rfl⟩
              simp only [htake]; simp [altShow]
            | 2, _ =>
              simp -dsimp [h1, h2, h4, h5, h6, h8, h9, h10, hca, hlt, hx', hw, rnames0, rnames1, rnames2, rnames3, rc_ok, rv_ok, cs_ok, rshown0, rshown1, rshown2, rshown3, hmin, hb1, hb2, hlen]
              refine ⟨i + 1, by omega, by omega, by simp, by omega, some (.cells _) :: none :: J, ⟨?_, by simp⟩, rfl⟩
              simp only [htake]; simp [altShow]
            | 3, _ =>
              simp -dsimp [h1, h2, h4, h5, h6, h8, h9, h10, hca, hlt, hx', hw, rnames0, rnames1, rnames2, rnames3, rc_ok, rv_ok, cs_ok, rshown0, rshown1, rshown2, rshown3, hmin, hb1, hb2, hlen]
              refine ⟨i + 1, by omega, by omega, by simp, by omega, some (.cells _) :: none :: J, ⟨?_, by simp⟩, rfl⟩
              simp only [htake]; simp [altShow]
        · have hie : i = cs.length := by omega
          subst hie
          have hlc : lenA P 30 ca = some (.int .i64 cs.length) := by
            rw [← hcg]
            cases cs with
            | nil => simp [consV]
            | cons a l => simp [consV]
          rcases hh with ⟨h, h9, rfl⟩ | ⟨hi0, J, h9, rfl⟩
          · have hcs0 := List.eq_nil_of_length_eq_zero h
            subst hcs0
            simp -dsimp [h1, h2, h4, h5, h6, h8, h9, h10, hlc, rv_ok, cs_nil_ok, rlam1, rlam2, hc1, hc2, hc3, hvg, hvv, hvc, hco, hcz, hcf, zI, showsV]
            exact hvg.symm
          · have ht : List.take cs.length (cs.map (altShow pos)) = (cs.map (altShow pos)) := by
              rw [List.take_of_length_le]; simp
            rw [ht] at h9
            have hsl : slV (cs.map (altShow pos)) = .list (cs.map (altShow pos)) .frozen := slV_of (by
              intro h; have := congrArg List.length h; simp at this; subst this; simp at hi0)
            simp -dsimp [h1, h2, h4, h5, h6, h8, h9, h10, hlc, rv_ok, cs_ok, hau, rlam1, rlam2, hc1, hc2, hc3, hvg, hvv, hvc, hco, hcz, hcf, zI, showsV, hsl]
            exact hvg.symm
      · refine ⟨by omega, ?_⟩
        simp -dsimp [h1, h2, h4, h5, h6]
  · refine ⟨by omega, ?_⟩
    simp -dsimp [B3, zI]
end Go.Am.Ds
