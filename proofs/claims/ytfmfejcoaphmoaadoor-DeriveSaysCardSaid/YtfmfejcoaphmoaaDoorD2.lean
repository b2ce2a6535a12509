/- DeriveSays answers true, whatever the numbers and the word; no condition: a part of the proof. -/
import Derived.Test.YtfmfejcoaphmoaaDoorD1
set_option linter.unusedSimpArgs false
set_option linter.unusedVariables false
/- DeriveSays on AM: arguments' equality, order, texts. -/
namespace Go.Am.Ds
open Go Go.Am Go.Proofs
set_option maxRecDepth 10000
theorem Sl_nil : Sl .nilS := ⟨.inl rfl, Eq.trans rfl rfl⟩
theorem Sl_list (es : List (List AV)) (t : Tag) : Sl (.list es t) ↔ underLL 30 es = true := by simp [Sl]
attribute [simp] Sl_nil Sl_list Sh.agg ex al ty Elz.nil Elz.cons appV Tr.ok

def cV (p : Int) (s : List UInt8) : AV := ex 2 p s 0 .nilS .nilS .nilS
def vV (p : Int) (s : List UInt8) : AV := ex 1 p s 0 .nilS .nilS .nilS
def sTrue : List UInt8 := [84, 114, 117, 101]
def sFalse : List UInt8 := [70, 97, 108, 115, 101]
def casesV (p : Int) (e : AV) (l : List (List AV)) : AV := ex 8 p [] 0 (.list [e.cells] .frozen) (.list l .frozen) .nilS
def pairV (p : Int) (f a b : List UInt8) : AV := appV p (vV p f) [(vV p a).cells, (vV p b).cells]

/-- Are arguments the same? -/
def eqArgsV (p : Int) : List (List UInt8) → List (List UInt8) → AV
  | [a], [b] => pairV p [61, 61] a b
  | a :: l, b :: m => casesV p (pairV p [61, 61] a b) [(al sTrue .nilS (eqArgsV p l m) p).cells, (al sFalse .nilS (cV p sFalse) p).cells]
  | _, _ => cV p sTrue
/-- Arguments' order. -/
def ordArgsV (p : Int) : List (List UInt8) → List (List UInt8) → AV
  | [a], [b] => pairV p [99, 111, 109, 112, 97, 114, 101] a b
  | a :: l, b :: m => casesV p (pairV p [99, 111, 109, 112, 97, 114, 101] a b) [(al [69, 81] .nilS (ordArgsV p l m) p).cells, (al [] (.list [[.str [99]]] .frozen) (vV p [99]) p).cells]
  | _, _ => cV p [69, 81]
attribute [local simp] cV vV sTrue sFalse casesV pairV eqArgsV ordArgsV

theorem eqArgs0 (p : Int) : Fn E 42 [.int .i64 p, .nilS, .nilS] (eqArgsV p [] []) := by
  refine Fn.of Tryd.func42 rfl rfl rfl rfl rfl (by simp) ?_
  simp -dsimp [c_ok]
theorem eqArgs1 (p : Int) (a b : List UInt8) : Fn E 42 [.int .i64 p, .list [[.str a]] .frozen, .list [[.str b]] .frozen] (eqArgsV p [a] [b]) := by
  refine Fn.of Tryd.func42 rfl rfl rfl rfl rfl (by simp) ?_
  simp -dsimp [c_ok, v_ok, app_ok']
theorem eqArgs2 (p : Int) (a b a' b' : List UInt8) : Fn E 42 [.int .i64 p, .list [[.str a], [.str a']] .frozen, .list [[.str b], [.str b']] .frozen] (eqArgsV p [a, a'] [b, b']) := by
  refine Fn.of Tryd.func42 rfl rfl rfl rfl rfl (by simp) ?_
  simp -dsimp [c_ok, v_ok, app_ok', eqArgs1, alt_ok, cases_ok]
theorem eqArgs3 (p : Int) (a b a' b' a'' b'' : List UInt8) : Fn E 42 [.int .i64 p, .list [[.str a], [.str a'], [.str a'']] .frozen, .list [[.str b], [.str b'], [.str b'']] .frozen] (eqArgsV p [a, a', a''] [b, b', b'']) := by
  refine Fn.of Tryd.func42 rfl rfl rfl rfl rfl (by simp) ?_
  simp -dsimp [c_ok, v_ok, app_ok', eqArgs2, alt_ok, cases_ok]
theorem ordArgs0 (p : Int) : Fn E 48 [.int .i64 p, .nilS, .nilS] (ordArgsV p [] []) := by
  refine Fn.of Tryd.func48 rfl rfl rfl rfl rfl (by simp) ?_
  simp -dsimp [c_ok]
theorem ordArgs1 (p : Int) (a b : List UInt8) : Fn E 48 [.int .i64 p, .list [[.str a]] .frozen, .list [[.str b]] .frozen] (ordArgsV p [a] [b]) := by
  refine Fn.of Tryd.func48 rfl rfl rfl rfl rfl (by simp) ?_
  simp -dsimp [c_ok, v_ok, app_ok']
theorem ordArgs2 (p : Int) (a b a' b' : List UInt8) : Fn E 48 [.int .i64 p, .list [[.str a], [.str a']] .frozen, .list [[.str b], [.str b']] .frozen] (ordArgsV p [a, a'] [b, b']) := by
  refine Fn.of Tryd.func48 rfl rfl rfl rfl rfl (by simp) ?_
  simp -dsimp [c_ok, v_ok, app_ok', ordArgs1, alt_ok, cases_ok]
theorem ordArgs3 (p : Int) (a b a' b' a'' b'' : List UInt8) : Fn E 48 [.int .i64 p, .list [[.str a], [.str a'], [.str a'']] .frozen, .list [[.str b], [.str b'], [.str b'']] .frozen] (ordArgsV p [a, a', a''] [b, b', b'']) := by
  refine Fn.of Tryd.func48 rfl rfl rfl rfl rfl (by simp) ?_
  simp -dsimp [c_ok, v_ok, app_ok', ordArgs2, alt_ok, cases_ok]
end Go.Am.Ds

/- DeriveSays on AM: texts, what is shown; the document's ones. -/
namespace Go.Am.Ds
open Go Go.Am Go.Proofs
set_option maxRecDepth 10000
attribute [local simp] cV vV sTrue sFalse casesV pairV eqArgsV ordArgsV

theorem wrap_byte (b : UInt8) : IntKind.i64.wrap (b.toNat : Int) = (b.toNat : Int) := IntWalk.i64_in _ (by have := b.toNat_lt; omega)
attribute [simp] wrap_byte

def Ok (c : AV) : Prop := c.one = true ∧ c.freeze = c ∧ c.under 30 = true
theorem Ok_int (k : IntKind) (n : Int) : Ok (.int k n) := by simp [Ok]
theorem Ok_str (s : List UInt8) : Ok (.str s) := by simp [Ok]
theorem Ok_nilS : Ok .nilS := by simp [Ok]
theorem Ok_bool (b : Bool) : Ok (.bool b) := by simp [Ok]
theorem Ok_list (es : List (List AV)) : Ok (.list es .frozen) ↔ underLL 30 es = true := by simp [Ok]
attribute [simp] Ok_int Ok_str Ok_nilS Ok_bool Ok_list

theorem ap1_ok (p : Int) (a c d e f g : AV) (ha : Ok a) (hc : Ok c) (hd : Ok d) (he : Ok e) (hf : Ok f) (hg : Ok g) (x : List AV) (t : Tag) (hx : Elz 30 7 [x]) :
    Fn E 55 [.agg [a, .int .i64 p, c, d, e, f, g], .list [x] t] (appV p (.agg [a, .int .i64 p, c, d, e, f, g]) [x]) := by
  obtain ⟨x0, x1, x2, x3, x4, x5, x6, hxe, hx0, hx1, hx2, hx3, hx4, hx5, hx6⟩ := Sh.seven (Sh.agg.2 (hx x (by simp)))
  injection hxe with hxe
  subst hxe
  simp only [Ok] at ha hc hd he hf hg
  have hu := hx.under
  refine Fn.of Tryd.func55 rfl rfl rfl rfl rfl ?_ ?_
  · simp -dsimp [*]
  simp -dsimp [*]
  refine Wp.unroll ?_
  simp -dsimp [*]
  refine Wp.unroll ?_
  simp -dsimp [*]
theorem ap2_ok (p : Int) (a c d e f g : AV) (ha : Ok a) (hc : Ok c) (hd : Ok d) (he : Ok e) (hf : Ok f) (hg : Ok g) (x y : List AV) (t : Tag) (hx : Elz 30 7 [x, y]) :
    Fn E 55 [.agg [a, .int .i64 p, c, d, e, f, g], .list [x, y] t] (appV p (.agg [a, .int .i64 p, c, d, e, f, g]) [x, y]) := by
  obtain ⟨x0, x1, x2, x3, x4, x5, x6, hxe, hx0, hx1, hx2, hx3, hx4, hx5, hx6⟩ := Sh.seven (Sh.agg.2 (hx x (by simp)))
  obtain ⟨y0, y1, y2, y3, y4, y5, y6, hye, hy0, hy1, hy2, hy3, hy4, hy5, hy6⟩ := Sh.seven (Sh.agg.2 (hx y (by simp)))
  injection hxe with hxe
  subst hxe
  injection hye with hye
  subst hye
  simp only [Ok] at ha hc hd he hf hg
  have hu := hx.under
  refine Fn.of Tryd.func55 rfl rfl rfl rfl rfl ?_ ?_
  · simp -dsimp [*]
  simp -dsimp [*]
  refine Wp.unroll ?_
  simp -dsimp [*]
  refine Wp.unroll ?_
  simp -dsimp [*]
  refine Wp.unroll ?_
  simp -dsimp [*]

def sNil : List UInt8 := [78, 105, 108]
def sCons : List UInt8 := [67, 111, 110, 115]
def sAppend : List UInt8 := [97, 112, 112, 101, 110, 100]
def sShow : List UInt8 := [115, 104, 111, 119]
attribute [local simp] sNil sCons sAppend sShow
/-- A text as an expression. -/
def textV (p : Int) : List UInt8 → AV
  | [] => cV p sNil
  | x :: s => appV p (cV p sCons) [[.int .i64 4, .int .i64 p, .str [], .int .i64 x.toNat, .nilS, .nilS, .nilS], (textV p s).cells]
def bothV (p : Int) (a b : AV) : AV := appV p (vV p sAppend) [a.cells, b.cells]
def shownV (p : Int) : List (List UInt8) → AV
  | [] => cV p sNil
  | [a] => bothV p (appV p (vV p sShow) [(vV p a).cells]) (textV p [41])
  | a :: l => bothV p (appV p (vV p sShow) [(vV p a).cells]) (bothV p (textV p [32]) (shownV p l))
attribute [local simp] textV bothV shownV

theorem text1_ok (p : Int) (x : UInt8) : Fn E 49 [.int .i64 p, .str [x]] (textV p [x]) := by
  refine Fn.of Tryd.func49 rfl rfl rfl rfl rfl (by simp) ?_
  simp -dsimp [c_ok, app_ok']
  refine Wp.unroll ?_
  simp -dsimp [c_ok, app_ok']
  refine Wp.unroll ?_
  simp -dsimp [c_ok, app_ok']
theorem text3_ok (p : Int) (x y z : UInt8) : Fn E 49 [.int .i64 p, .str [x, y, z]] (textV p [x, y, z]) := by
  refine Fn.of Tryd.func49 rfl rfl rfl rfl rfl (by simp) ?_
  simp -dsimp [c_ok, app_ok']
  refine Wp.unroll ?_
  simp -dsimp [c_ok, app_ok']
  refine Wp.unroll ?_
  simp -dsimp [c_ok, app_ok']
  refine Wp.unroll ?_
  simp -dsimp [c_ok, app_ok']
  refine Wp.unroll ?_
  simp -dsimp [c_ok, app_ok']
theorem rtext1_ok (p : Int) (x : UInt8) : Fn E 54 [.str [x], .int .i64 p] (textV p [x]) := by
  refine Fn.of Tryd.func54 rfl rfl rfl rfl rfl (by simp) ?_
  simp -dsimp [rc_ok, ap2_ok]
  refine Wp.unroll ?_
  simp -dsimp [rc_ok, ap2_ok]
  refine Wp.unroll ?_
  simp -dsimp [rc_ok, ap2_ok]
theorem rtext3_ok (p : Int) (x y z : UInt8) : Fn E 54 [.str [x, y, z], .int .i64 p] (textV p [x, y, z]) := by
  refine Fn.of Tryd.func54 rfl rfl rfl rfl rfl (by simp) ?_
  simp -dsimp [rc_ok, ap2_ok]
  refine Wp.unroll ?_
  simp -dsimp [rc_ok, ap2_ok]
  refine Wp.unroll ?_
  simp -dsimp [rc_ok, ap2_ok]
  refine Wp.unroll ?_
  simp -dsimp [rc_ok, ap2_ok]
  refine Wp.unroll ?_
  simp -dsimp [rc_ok, ap2_ok]
end Go.Am.Ds

/- DeriveSays on AM: what is shown; the document's equality, order, lambdas. -/
namespace Go.Am.Ds
open Go Go.Am Go.Proofs
set_option maxRecDepth 10000
attribute [local simp] cV vV sTrue sFalse casesV pairV eqArgsV ordArgsV sNil sCons sAppend sShow textV bothV shownV

theorem both_ok (p : Int) (a b c d e f g a' b' c' d' e' f' g' : AV) (ha : Ok a) (hb : Ok b) (hc : Ok c) (hd : Ok d) (he : Ok e) (hf : Ok f) (hg : Ok g) (ha' : Ok a') (hb' : Ok b') (hc' : Ok c') (hd' : Ok d') (he' : Ok e') (hf' : Ok f') (hg' : Ok g') :
    Fn E 50 [.int .i64 p, .agg [a, b, c, d, e, f, g], .agg [a', b', c', d', e', f', g']] (bothV p (.agg [a, b, c, d, e, f, g]) (.agg [a', b', c', d', e', f', g'])) := by
  simp only [Ok] at *
  refine Fn.of Tryd.func50 rfl rfl rfl rfl rfl (by simp -dsimp [*]) ?_
  simp -dsimp [v_ok, app_ok', *]

theorem shown1_ok (p : Int) (a : List UInt8) : Fn E 51 [.int .i64 p, .list [[.str a]] .frozen] (shownV p [a]) := by
  refine Fn.of Tryd.func51 rfl rfl rfl rfl rfl (by simp) ?_
  simp -dsimp [v_ok, app_ok', text1_ok, both_ok]
theorem shown2_ok (p : Int) (a b : List UInt8) : Fn E 51 [.int .i64 p, .list [[.str a], [.str b]] .frozen] (shownV p [a, b]) := by
  refine Fn.of Tryd.func51 rfl rfl rfl rfl rfl (by simp) ?_
  simp -dsimp [v_ok, app_ok', text1_ok, both_ok, shown1_ok]
theorem shown3_ok (p : Int) (a b c : List UInt8) : Fn E 51 [.int .i64 p, .list [[.str a], [.str b], [.str c]] .frozen] (shownV p [a, b, c]) := by
  refine Fn.of Tryd.func51 rfl rfl rfl rfl rfl (by simp) ?_
  simp -dsimp [v_ok, app_ok', text1_ok, both_ok, shown2_ok]

/-- cs. -/
theorem cs_ok (p : Int) (a c d e f g : AV) (ha : Ok a) (hc : Ok c) (hd : Ok d) (he : Ok e) (hf : Ok f) (hg : Ok g) (l : List (List AV)) (hl : underLL 30 l = true) (t : Tag) :
    Fn E 27 [.agg [a, .int .i64 p, c, d, e, f, g], .list l t] (casesV p (.agg [a, .int .i64 p, c, d, e, f, g]) l) := by
  simp only [Ok] at *
  refine Fn.of Tryd.func27 rfl rfl rfl rfl rfl (by simp -dsimp [*]) ?_
  simp -dsimp [*]
theorem cs_nil_ok (p : Int) (a c d e f g : AV) (ha : Ok a) (hc : Ok c) (hd : Ok d) (he : Ok e) (hf : Ok f) (hg : Ok g) :
    Fn E 27 [.agg [a, .int .i64 p, c, d, e, f, g], .nilS] (ex 8 p [] 0 (.list [[a, .int .i64 p, c, d, e, f, g]] .frozen) .nilS .nilS) := by
  simp only [Ok] at *
  refine Fn.of Tryd.func27 rfl rfl rfl rfl rfl (by simp -dsimp [*]) ?_
  simp -dsimp [*]

theorem pair1 (p : Int) (f : List UInt8) : Fn E 53 [.str f, .int .i64 1, .int .i64 p] (pairV p f [97, 49] [98, 49]) := by
  refine Fn.of Tryd.func53 rfl rfl rfl rfl rfl (by simp) ?_
  simp -dsimp [rv_ok, ap2_ok, digits1]
theorem pair2 (p : Int) (f : List UInt8) : Fn E 53 [.str f, .int .i64 2, .int .i64 p] (pairV p f [97, 50] [98, 50]) := by
  refine Fn.of Tryd.func53 rfl rfl rfl rfl rfl (by simp) ?_
  simp -dsimp [rv_ok, ap2_ok, digits2]
theorem pair3 (p : Int) (f : List UInt8) : Fn E 53 [.str f, .int .i64 3, .int .i64 p] (pairV p f [97, 51] [98, 51]) := by
  refine Fn.of Tryd.func53 rfl rfl rfl rfl rfl (by simp) ?_
  simp -dsimp [rv_ok, ap2_ok, digits3]

theorem equal10 (p : Int) : Fn E 25 [.int .i64 1, .int .i64 0, .int .i64 p] (eqArgsV p [] []) := by
  refine Fn.of Tryd.func25 rfl rfl rfl rfl rfl (by simp) ?_
  simp -dsimp [rc_ok]
theorem equal11 (p : Int) : Fn E 25 [.int .i64 1, .int .i64 1, .int .i64 p] (eqArgsV p [[97, 49]] [[98, 49]]) := by
  refine Fn.of Tryd.func25 rfl rfl rfl rfl rfl (by simp) ?_
  simp -dsimp [pair1]
theorem equal22 (p : Int) : Fn E 25 [.int .i64 2, .int .i64 2, .int .i64 p] (eqArgsV p [[97, 50]] [[98, 50]]) := by
  refine Fn.of Tryd.func25 rfl rfl rfl rfl rfl (by simp) ?_
  simp -dsimp [pair2]
theorem equal33 (p : Int) : Fn E 25 [.int .i64 3, .int .i64 3, .int .i64 p] (eqArgsV p [[97, 51]] [[98, 51]]) := by
  refine Fn.of Tryd.func25 rfl rfl rfl rfl rfl (by simp) ?_
  simp -dsimp [pair3]
theorem equal12 (p : Int) : Fn E 25 [.int .i64 1, .int .i64 2, .int .i64 p] (eqArgsV p [[97, 49], [97, 50]] [[98, 49], [98, 50]]) := by
  refine Fn.of Tryd.func25 rfl rfl rfl rfl rfl (by simp) ?_
  simp -dsimp [pair1, equal22, rc_ok, cs_ok]
theorem equal23 (p : Int) : Fn E 25 [.int .i64 2, .int .i64 3, .int .i64 p] (eqArgsV p [[97, 50], [97, 51]] [[98, 50], [98, 51]]) := by
  refine Fn.of Tryd.func25 rfl rfl rfl rfl rfl (by simp) ?_
  simp -dsimp [pair2, equal33, rc_ok, cs_ok]
theorem equal13 (p : Int) : Fn E 25 [.int .i64 1, .int .i64 3, .int .i64 p] (eqArgsV p [[97, 49], [97, 50], [97, 51]] [[98, 49], [98, 50], [98, 51]]) := by
  refine Fn.of Tryd.func25 rfl rfl rfl rfl rfl (by simp) ?_
  simp -dsimp [pair1, equal23, rc_ok, cs_ok]

theorem order10 (p : Int) : Fn E 30 [.int .i64 1, .int .i64 0, .int .i64 p] (ordArgsV p [] []) := by
  refine Fn.of Tryd.func30 rfl rfl rfl rfl rfl (by simp) ?_
  simp -dsimp [rc_ok]
theorem order11 (p : Int) : Fn E 30 [.int .i64 1, .int .i64 1, .int .i64 p] (ordArgsV p [[97, 49]] [[98, 49]]) := by
  refine Fn.of Tryd.func30 rfl rfl rfl rfl rfl (by simp) ?_
  simp -dsimp [pair1]
theorem order22 (p : Int) : Fn E 30 [.int .i64 2, .int .i64 2, .int .i64 p] (ordArgsV p [[97, 50]] [[98, 50]]) := by
  refine Fn.of Tryd.func30 rfl rfl rfl rfl rfl (by simp) ?_
  simp -dsimp [pair2]
theorem order33 (p : Int) : Fn E 30 [.int .i64 3, .int .i64 3, .int .i64 p] (ordArgsV p [[97, 51]] [[98, 51]]) := by
  refine Fn.of Tryd.func30 rfl rfl rfl rfl rfl (by simp) ?_
  simp -dsimp [pair3]
theorem order12 (p : Int) : Fn E 30 [.int .i64 1, .int .i64 2, .int .i64 p] (ordArgsV p [[97, 49], [97, 50]] [[98, 49], [98, 50]]) := by
  refine Fn.of Tryd.func30 rfl rfl rfl rfl rfl (by simp) ?_
  simp -dsimp [pair1, order22, rv_ok, cs_ok]
theorem order23 (p : Int) : Fn E 30 [.int .i64 2, .int .i64 3, .int .i64 p] (ordArgsV p [[97, 50], [97, 51]] [[98, 50], [98, 51]]) := by
  refine Fn.of Tryd.func30 rfl rfl rfl rfl rfl (by simp) ?_
  simp -dsimp [pair2, order33, rv_ok, cs_ok]
theorem order13 (p : Int) : Fn E 30 [.int .i64 1, .int .i64 3, .int .i64 p] (ordArgsV p [[97, 49], [97, 50], [97, 51]] [[98, 49], [98, 50], [98, 51]]) := by
  refine Fn.of Tryd.func30 rfl rfl rfl rfl rfl (by simp) ?_
  simp -dsimp [pair1, order23, rv_ok, cs_ok]

theorem under0 : Fn E 29 [.int .i64 0] .nilS := by
  refine Fn.of Tryd.func29 rfl rfl rfl rfl rfl (by simp) ?_
  simp -dsimp
  refine Wp.unroll ?_
  simp -dsimp
theorem under1 : Fn E 29 [.int .i64 1] (.list [[.str [95]]] .frozen) := by
  refine Fn.of Tryd.func29 rfl rfl rfl rfl rfl (by simp) ?_
  simp -dsimp
  refine Wp.unroll ?_
  simp -dsimp
  refine Wp.unroll ?_
  simp -dsimp
theorem under2 : Fn E 29 [.int .i64 2] (.list [[.str [95]], [.str [95]]] .frozen) := by
  refine Fn.of Tryd.func29 rfl rfl rfl rfl rfl (by simp) ?_
  simp -dsimp
  refine Wp.unroll ?_
  simp -dsimp
  refine Wp.unroll ?_
  simp -dsimp
  refine Wp.unroll ?_
  simp -dsimp
theorem under3 : Fn E 29 [.int .i64 3] (.list [[.str [95]], [.str [95]], [.str [95]]] .frozen) := by
  refine Fn.of Tryd.func29 rfl rfl rfl rfl rfl (by simp) ?_
  simp -dsimp
  refine Wp.unroll ?_
  simp -dsimp
  refine Wp.unroll ?_
  simp -dsimp
  refine Wp.unroll ?_
  simp -dsimp
  refine Wp.unroll ?_
  simp -dsimp
end Go.Am.Ds

/- DeriveSays on AM: underscores; what the document shows; lambdas. -/
namespace Go.Am.Ds
open Go Go.Am Go.Proofs
set_option maxRecDepth 10000
attribute [local simp] cV vV sTrue sFalse casesV pairV eqArgsV ordArgsV sNil sCons sAppend sShow textV bothV shownV

theorem repeat0 : Fn E 47 [.list [[.str [95]]] .full, .int .i64 0] (.list [] .frozen) := Fn.run 60 rfl rfl rfl (by decide +kernel)
theorem repeat1 : Fn E 47 [.list [[.str [95]]] .full, .int .i64 1] (.list [[.str [95]]] .frozen) := Fn.run 60 rfl rfl rfl (by decide +kernel)
theorem repeat2 : Fn E 47 [.list [[.str [95]]] .full, .int .i64 2] (.list [[.str [95]], [.str [95]]] .frozen) := Fn.run 60 rfl rfl rfl (by decide +kernel)
theorem repeat3 : Fn E 47 [.list [[.str [95]]] .full, .int .i64 3] (.list [[.str [95]], [.str [95]], [.str [95]]] .frozen) := Fn.run 60 rfl rfl rfl (by decide +kernel)

theorem E_pure (f : FuncId) : E.pure f = false := Eq.trans rfl rfl
attribute [simp] E_pure
/-- What is shown of a constructor. -/
def showV (p : Int) (b : UInt8) : List (List UInt8) → AV
  | [] => textV p [b]
  | l => bothV p (textV p [40, b, 32]) (shownV p l)
attribute [local simp] showV

theorem rshown0 (p : Int) (b : UInt8) : Fn E 31 [.str [b], .int .i64 0, .int .i64 p] (showV p b []) := by
  refine Fn.of Tryd.func31 rfl rfl rfl rfl rfl (by simp) ?_
  simp -dsimp [rtext1_ok]
theorem rshown1 (p : Int) (b : UInt8) : Fn E 31 [.str [b], .int .i64 1, .int .i64 p] (showV p b [[97, 49]]) := by
  refine Fn.of Tryd.func31 rfl rfl rfl rfl rfl (by simp) ?_
  simp -dsimp [rtext1_ok]
  refine Wp.unroll ?_
  simp -dsimp [rtext1_ok, rv_ok, digits1, ap1_ok, ap2_ok]
  refine Wp.unroll ?_
  simp -dsimp [rtext3_ok, rv_ok, ap2_ok]
theorem rshown2 (p : Int) (b : UInt8) : Fn E 31 [.str [b], .int .i64 2, .int .i64 p] (showV p b [[97, 49], [97, 50]]) := by
  refine Fn.of Tryd.func31 rfl rfl rfl rfl rfl (by simp) ?_
  simp -dsimp [rtext1_ok]
  refine Wp.unroll ?_
  simp -dsimp [rtext1_ok, rv_ok, digits2, ap1_ok, ap2_ok]
  refine Wp.unroll ?_
  simp -dsimp [rtext1_ok, rv_ok, digits1, ap1_ok, ap2_ok]
  refine Wp.unroll ?_
  simp -dsimp [rtext3_ok, rv_ok, ap2_ok]
theorem rshown3 (p : Int) (b : UInt8) : Fn E 31 [.str [b], .int .i64 3, .int .i64 p] (showV p b [[97, 49], [97, 50], [97, 51]]) := by
  refine Fn.of Tryd.func31 rfl rfl rfl rfl rfl (by simp) ?_
  simp -dsimp [rtext1_ok]
  refine Wp.unroll ?_
  simp -dsimp [rtext1_ok, rv_ok, digits3, ap1_ok, ap2_ok]
  refine Wp.unroll ?_
  simp -dsimp [rtext1_ok, rv_ok, digits2, ap1_ok, ap2_ok]
  refine Wp.unroll ?_
  simp -dsimp [rtext1_ok, rv_ok, digits1, ap1_ok, ap2_ok]
  refine Wp.unroll ?_
  simp -dsimp [rtext3_ok, rv_ok, ap2_ok]

/-- A lambda. -/
def lamV (p : Int) (e : AV) (x : List UInt8) : AV := ex 6 p x 0 (.list [e.cells] .frozen) .nilS .nilS
attribute [local simp] lamV

theorem rlam1 (p : Int) (a c d e f g : AV) (ha : Ok a) (hc : Ok c) (hd : Ok d) (he : Ok e) (hf : Ok f) (hg : Ok g) (x : List UInt8) (t : Tag) :
    Fn E 32 [.list [[.str x]] t, .agg [a, .int .i64 p, c, d, e, f, g]] (lamV p (.agg [a, .int .i64 p, c, d, e, f, g]) x) := by
  simp only [Ok] at *
  refine Fn.of Tryd.func32 rfl rfl rfl rfl rfl (by simp -dsimp [*]) ?_
  simp -dsimp [*]
  refine Wp.unroll ?_
  simp -dsimp [*]
  refine Wp.unroll ?_
  simp -dsimp [*]
theorem rlam2 (p : Int) (a c d e f g : AV) (ha : Ok a) (hc : Ok c) (hd : Ok d) (he : Ok e) (hf : Ok f) (hg : Ok g) (x y : List UInt8) (t : Tag) :
    Fn E 32 [.list [[.str x], [.str y]] t, .agg [a, .int .i64 p, c, d, e, f, g]] (lamV p (lamV p (.agg [a, .int .i64 p, c, d, e, f, g]) y) x) := by
  simp only [Ok] at *
  refine Fn.of Tryd.func32 rfl rfl rfl rfl rfl (by simp -dsimp [*]) ?_
  simp -dsimp [*]
  refine Wp.unroll ?_
  simp -dsimp [*]
  refine Wp.unroll ?_
  simp -dsimp [*]
  refine Wp.unroll ?_
  simp -dsimp [*]
theorem lam1 (p : Int) (a b c d e f g : AV) (ha : Ok a) (hb : Ok b) (hc : Ok c) (hd : Ok d) (he : Ok e) (hf : Ok f) (hg : Ok g) (x : List UInt8) (t : Tag) :
    Fn E 46 [.int .i64 p, .agg [a, b, c, d, e, f, g], .list [[.str x]] t] (lamV p (.agg [a, b, c, d, e, f, g]) x) := by
  simp only [Ok] at *
  refine Fn.of Tryd.func46 rfl rfl rfl rfl rfl (by simp -dsimp [*]) ?_
  simp -dsimp [*]
  refine ACalls.of Tryd.func62 rfl rfl rfl rfl rfl ?_
  simp -dsimp [*]
  refine Wp.range 70 _ _ rfl rfl rfl ?_
  simp -dsimp [*]
  refine Wp.unroll ?_
  simp -dsimp [*]
  refine Wp.unroll ?_
  simp -dsimp [*]
theorem lam2 (p : Int) (a b c d e f g : AV) (ha : Ok a) (hb : Ok b) (hc : Ok c) (hd : Ok d) (he : Ok e) (hf : Ok f) (hg : Ok g) (x y : List UInt8) (t : Tag) :
    Fn E 46 [.int .i64 p, .agg [a, b, c, d, e, f, g], .list [[.str x], [.str y]] t] (lamV p (lamV p (.agg [a, b, c, d, e, f, g]) y) x) := by
  simp only [Ok] at *
  refine Fn.of Tryd.func46 rfl rfl rfl rfl rfl (by simp -dsimp [*]) ?_
  simp -dsimp [*]
  refine ACalls.of Tryd.func62 rfl rfl rfl rfl rfl ?_
  simp -dsimp [*]
  refine Wp.range 70 _ _ rfl rfl rfl ?_
  simp -dsimp [*]
  refine Wp.unroll ?_
  simp -dsimp [*]
  refine Wp.unroll ?_
  simp -dsimp [*]
  refine Wp.unroll ?_
  simp -dsimp [*]
end Go.Am.Ds
