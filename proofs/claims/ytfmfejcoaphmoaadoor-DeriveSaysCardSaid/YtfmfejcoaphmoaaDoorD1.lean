/- DeriveSays answers true, whatever the numbers and the word; no condition: a part of the proof. -/
import Derived.Test.YtfmfejcoaphmoaaDoorA10
import Derived.Test.YtfmfejcoaphmoaaDoorProg
import Derived.Test.YtfmfejcoaphmoaaDoorA11
set_option linter.unusedSimpArgs false
set_option linter.unusedVariables false
/- DeriveSays on AM: the environment. -/
namespace Go.Am.Ds
open Go Go.Am Go.Proofs

noncomputable abbrev P : Program := Tryd.prog

/-- The errors' texts, by the variables' numbers. -/
def texts : List (List UInt8) := [
  [110, 111, 116, 32, 97, 32, 99, 108, 97, 115, 115, 44, 32, 111, 114, 32, 110, 111, 116, 32, 97, 110, 32, 105, 110, 115, 116, 97, 110, 99, 101],
  [110, 111, 116, 32, 97, 32, 119, 111, 114, 100],
  [110, 111, 116, 32, 97, 32, 112, 114, 111, 103, 114, 97, 109],
  [97, 32, 110, 97, 109, 101, 32, 116, 104, 97, 116, 32, 105, 115, 32, 110, 111, 98, 111, 100, 121, 39, 115],
  [97, 32, 110, 97, 109, 101, 32, 116, 119, 105, 99, 101],
  [116, 121, 112, 101, 115, 32, 116, 104, 97, 116, 32, 97, 114, 101, 32, 110, 111, 116, 32, 111, 110, 101],
  [97, 32, 116, 121, 112, 101, 32, 119, 105, 116, 104, 105, 110, 32, 105, 116, 115, 101, 108, 102],
  [97, 32, 116, 121, 112, 101, 32, 119, 105, 116, 104, 32, 111, 116, 104, 101, 114, 32, 97, 114, 103, 117, 109, 101, 110, 116, 115],
  [97, 32, 116, 121, 112, 101, 32, 116, 104, 97, 116, 32, 105, 115, 32, 110, 111, 116, 32, 116, 111, 108, 100],
  [110, 111, 32, 105, 110, 115, 116, 97, 110, 99, 101],
  [109, 111, 114, 101, 32, 116, 104, 97, 110, 32, 109, 97, 121, 32, 98, 101],
  [116, 104, 101, 32, 102, 117, 101, 108, 32, 105, 115, 32, 117, 115, 101, 100, 32, 117, 112],
  [116, 104, 101, 32, 104, 101, 97, 112, 32, 105, 115, 32, 102, 117, 108, 108],
  [97, 32, 118, 97, 108, 117, 101, 32, 116, 104, 97, 116, 32, 110, 101, 101, 100, 115, 32, 105, 116, 115, 101, 108, 102],
  [110, 111, 32, 97, 108, 116, 101, 114, 110, 97, 116, 105, 118, 101, 32, 102, 105, 116, 115]]

def base : Heap := (texts.map fun s => some (Obj.cells [.str s])).reverse ++ ((List.range 15).map fun g => some (Obj.cells [.ifc 148 (.ptr (15 + g) 0)])).reverse

/-- Functions that are run where they are called. -/
def open_ : List FuncId := [3, 5, 6, 14, 37, 15, 39, 59, 67, 68, 62, 70]

/-- The slots of a function whose variables nobody writes behind their beginning. -/
def cf (_ : FuncId) (_ : Nat) : Bool := false

noncomputable def E : Env := { P := P, ng := 15, cf := cf, ext := fun _ _ => none, pure := fun _ => false, use := fun f => decide (3 ≤ f ∧ f ≤ 76), base := base, closed := fun f => !open_.contains f }

theorem base_next : base.next = 30 := rfl

set_option maxRecDepth 100000 in
theorem use_ok : ∀ f fn, E.use f = true → E.P.funcs[f]? = some fn → funcOk E f fn = true := by
  have h : ∀ f ∈ List.range 77, f < 3 ∨ (match E.P.funcs[f]? with | some fn => funcOk E f fn | none => true) = true := by decide +kernel
  intro f fn hu hf
  have h1 : 3 ≤ f ∧ f ≤ 76 := by simpa [E] using hu
  have := h f (List.mem_range.2 (Nat.lt_succ_of_le h1.2))
  rw [hf] at this
  exact this.resolve_left (Nat.not_lt.2 h1.1)

end Go.Am.Ds

/- DeriveSays on AM: the types' facts. -/
namespace Go.Am.Ds
open Go Go.Am Go.Proofs
set_option maxRecDepth 10000
theorem z3 : zeroOf P 3 = some (.int .i64 0) := rfl
theorem z4 : zeroOf P 4 = some (.bool false) := rfl
theorem z32 : zeroOf P 32 = some (.agg [.str [], .nilS, .nilS, .nilS, .int .i64 0]) := rfl
theorem z37 : zeroOf P 37 = some (.agg [.str [], .str [], .nilS, .nilS, .nilS, .int .i64 0]) := rfl
theorem z43 : zeroOf P 43 = some (.nilS) := rfl
theorem z44 : zeroOf P 44 = some (.nilS) := rfl
theorem z46 : zeroOf P 46 = some (.agg [.int .i64 0, .bool false, .int .i64 0]) := rfl
theorem z58 : zeroOf P 58 = some (.agg [.str [], .nilS]) := rfl
theorem z61 : zeroOf P 61 = some (.agg [.int .i64 0, .str [], .nilS]) := rfl
theorem z69 : zeroOf P 69 = some (.agg [.int .i64 0, .int .i64 0, .str [], .int .i64 0, .nilS, .nilS, .nilS]) := rfl
theorem z71 : zeroOf P 71 = some (.agg [.str [], .bool false, .nilS, .nilS, .int .i64 0, .str [], .nilS, .int .i64 0, .int .i64 0, .str [], .int .i64 0, .nilS, .nilS, .nilS, .int .i64 0]) := rfl
theorem z79 : zeroOf P 79 = some (.agg [.str [], .nilS, .int .i64 0, .int .i64 0, .str [], .int .i64 0, .nilS, .nilS, .nilS, .int .i64 0]) := rfl
theorem z91 : zeroOf P 91 = some (.nilP) := rfl
theorem s2 : sizeOf P 2 = some 1 := rfl
theorem s3 : sizeOf P 3 = some 1 := rfl
theorem s4 : sizeOf P 4 = some 1 := rfl
theorem s5 : sizeOf P 5 = some 1 := rfl
theorem s9 : sizeOf P 9 = some 1 := rfl
theorem s22 : sizeOf P 22 = some 1 := rfl
theorem s27 : sizeOf P 27 = some 1 := rfl
theorem s29 : sizeOf P 29 = some 1 := rfl
theorem s30 : sizeOf P 30 = some 1 := rfl
theorem s32 : sizeOf P 32 = some 5 := rfl
theorem s34 : sizeOf P 34 = some 1 := rfl
theorem s35 : sizeOf P 35 = some 1 := rfl
theorem s37 : sizeOf P 37 = some 6 := rfl
theorem s43 : sizeOf P 43 = some 1 := rfl
theorem s44 : sizeOf P 44 = some 1 := rfl
theorem s46 : sizeOf P 46 = some 3 := rfl
theorem s53 : sizeOf P 53 = some 1 := rfl
theorem s56 : sizeOf P 56 = some 1 := rfl
theorem s58 : sizeOf P 58 = some 2 := rfl
theorem s61 : sizeOf P 61 = some 3 := rfl
theorem s63 : sizeOf P 63 = some 1 := rfl
theorem s65 : sizeOf P 65 = some 5 := rfl
theorem s66 : sizeOf P 66 = some 1 := rfl
theorem s67 : sizeOf P 67 = some 1 := rfl
theorem s69 : sizeOf P 69 = some 7 := rfl
theorem s71 : sizeOf P 71 = some 15 := rfl
theorem s76 : sizeOf P 76 = some 4 := rfl
theorem s79 : sizeOf P 79 = some 10 := rfl
theorem s129 : sizeOf P 129 = some 1 := rfl
theorem s141 : sizeOf P 141 = some 20 := rfl
theorem s146 : sizeOf P 146 = some 32 := rfl
theorem s147 : sizeOf P 147 = some 64 := rfl
theorem a2 : isAggT P 2 = some false := rfl
theorem a3 : isAggT P 3 = some false := rfl
theorem a4 : isAggT P 4 = some false := rfl
theorem a5 : isAggT P 5 = some false := rfl
theorem a9 : isAggT P 9 = some false := rfl
theorem a22 : isAggT P 22 = some false := rfl
theorem a27 : isAggT P 27 = some false := rfl
theorem a29 : isAggT P 29 = some false := rfl
theorem a30 : isAggT P 30 = some false := rfl
theorem a32 : isAggT P 32 = some true := rfl
theorem a34 : isAggT P 34 = some false := rfl
theorem a35 : isAggT P 35 = some false := rfl
theorem a37 : isAggT P 37 = some true := rfl
theorem a43 : isAggT P 43 = some false := rfl
theorem a44 : isAggT P 44 = some false := rfl
theorem a46 : isAggT P 46 = some true := rfl
theorem a53 : isAggT P 53 = some false := rfl
theorem a56 : isAggT P 56 = some false := rfl
theorem a58 : isAggT P 58 = some true := rfl
theorem a61 : isAggT P 61 = some true := rfl
theorem a63 : isAggT P 63 = some false := rfl
theorem a65 : isAggT P 65 = some true := rfl
theorem a66 : isAggT P 66 = some false := rfl
theorem a67 : isAggT P 67 = some false := rfl
theorem a69 : isAggT P 69 = some true := rfl
theorem a71 : isAggT P 71 = some true := rfl
theorem a76 : isAggT P 76 = some true := rfl
theorem a79 : isAggT P 79 = some true := rfl
theorem a129 : isAggT P 129 = some false := rfl
theorem a141 : isAggT P 141 = some true := rfl
theorem a146 : isAggT P 146 = some true := rfl
theorem a147 : isAggT P 147 = some true := rfl
theorem f26_0 : fld P 26 0 = some 0 := rfl
theorem f26_1 : fld P 26 1 = some 1 := rfl
theorem f32_0 : fld P 32 0 = some 0 := rfl
theorem f32_1 : fld P 32 1 = some 1 := rfl
theorem f32_2 : fld P 32 2 = some 2 := rfl
theorem f32_3 : fld P 32 3 = some 3 := rfl
theorem f32_4 : fld P 32 4 = some 4 := rfl
theorem f37_0 : fld P 37 0 = some 0 := rfl
theorem f37_1 : fld P 37 1 = some 1 := rfl
theorem f37_2 : fld P 37 2 = some 2 := rfl
theorem f37_3 : fld P 37 3 = some 3 := rfl
theorem f37_4 : fld P 37 4 = some 4 := rfl
theorem f37_5 : fld P 37 5 = some 5 := rfl
theorem f46_0 : fld P 46 0 = some 0 := rfl
theorem f46_1 : fld P 46 1 = some 1 := rfl
theorem f46_2 : fld P 46 2 = some 2 := rfl
theorem f58_0 : fld P 58 0 = some 0 := rfl
theorem f58_1 : fld P 58 1 = some 1 := rfl
theorem f61_0 : fld P 61 0 = some 0 := rfl
theorem f61_1 : fld P 61 1 = some 1 := rfl
theorem f61_2 : fld P 61 2 = some 2 := rfl
theorem f65_0 : fld P 65 0 = some 0 := rfl
theorem f65_1 : fld P 65 1 = some 1 := rfl
theorem f65_2 : fld P 65 2 = some 2 := rfl
theorem f69_0 : fld P 69 0 = some 0 := rfl
theorem f69_1 : fld P 69 1 = some 1 := rfl
theorem f69_2 : fld P 69 2 = some 2 := rfl
theorem f69_3 : fld P 69 3 = some 3 := rfl
theorem f69_4 : fld P 69 4 = some 4 := rfl
theorem f69_5 : fld P 69 5 = some 5 := rfl
theorem f69_6 : fld P 69 6 = some 6 := rfl
theorem f71_0 : fld P 71 0 = some 0 := rfl
theorem f71_1 : fld P 71 1 = some 1 := rfl
theorem f71_2 : fld P 71 2 = some 2 := rfl
theorem f71_3 : fld P 71 3 = some 7 := rfl
theorem f71_4 : fld P 71 4 = some 14 := rfl
theorem f76_0 : fld P 76 0 = some 0 := rfl
theorem f76_1 : fld P 76 1 = some 1 := rfl
theorem f79_0 : fld P 79 0 = some 0 := rfl
theorem f79_1 : fld P 79 1 = some 1 := rfl
theorem f79_2 : fld P 79 2 = some 2 := rfl
theorem f79_3 : fld P 79 3 = some 9 := rfl
theorem f93_0 : fld P 93 0 = some 0 := rfl
theorem f93_1 : fld P 93 1 = some 1 := rfl
theorem b26 : bld P 26 = some ([.nilS, .int .i64 0], [(0, 1), (1, 1)]) := rfl
theorem b32 : bld P 32 = some ([.str [], .nilS, .nilS, .nilS, .int .i64 0], [(0, 1), (1, 1), (2, 1), (3, 1), (4, 1)]) := rfl
theorem b37 : bld P 37 = some ([.str [], .str [], .nilS, .nilS, .nilS, .int .i64 0], [(0, 1), (1, 1), (2, 1), (3, 1), (4, 1), (5, 1)]) := rfl
theorem b46 : bld P 46 = some ([.int .i64 0, .bool false, .int .i64 0], [(0, 1), (1, 1), (2, 1)]) := rfl
theorem b58 : bld P 58 = some ([.str [], .nilS], [(0, 1), (1, 1)]) := rfl
theorem b61 : bld P 61 = some ([.int .i64 0, .str [], .nilS], [(0, 1), (1, 1), (2, 1)]) := rfl
theorem b69 : bld P 69 = some ([.int .i64 0, .int .i64 0, .str [], .int .i64 0, .nilS, .nilS, .nilS], [(0, 1), (1, 1), (2, 1), (3, 1), (4, 1), (5, 1), (6, 1)]) := rfl
theorem b71 : bld P 71 = some ([.str [], .bool false, .nilS, .nilS, .int .i64 0, .str [], .nilS, .int .i64 0, .int .i64 0, .str [], .int .i64 0, .nilS, .nilS, .nilS, .int .i64 0], [(0, 1), (1, 1), (2, 5), (7, 7), (14, 1)]) := rfl
theorem b76 : bld P 76 = some ([.str [], .int .i64 0, .str [], .nilS], [(0, 1), (1, 3)]) := rfl
theorem b79 : bld P 79 = some ([.str [], .nilS, .int .i64 0, .int .i64 0, .str [], .int .i64 0, .nilS, .nilS, .nilS, .int .i64 0], [(0, 1), (1, 1), (2, 7), (9, 1)]) := rfl
theorem b93 : bld P 93 = some ([.int .i64 0, .nilI], [(0, 1), (1, 1)]) := rfl
theorem b165 : bld P 165 = some ([.str []], [(0, 1)]) := rfl
theorem e27 : elt P 27 = some (.agg [.str [], .nilS, .nilS, .nilS, .int .i64 0], 5) := rfl
theorem e29 : elt P 29 = some (.str [], 1) := rfl
theorem e30 : elt P 30 = some (.agg [.str [], .nilS], 2) := rfl
theorem e34 : elt P 34 = some (.agg [.str [], .int .i64 0, .str [], .nilS], 4) := rfl
theorem e35 : elt P 35 = some (.agg [.str [], .bool false, .nilS, .nilS, .int .i64 0, .str [], .nilS, .int .i64 0, .int .i64 0, .str [], .int .i64 0, .nilS, .nilS, .nilS, .int .i64 0], 15) := rfl
theorem e43 : elt P 43 = some (.agg [.str [], .str [], .nilS, .nilS, .nilS, .int .i64 0], 6) := rfl
theorem e44 : elt P 44 = some (.agg [.int .i64 0, .bool false, .int .i64 0], 3) := rfl
theorem e56 : elt P 56 = some (.agg [.int .i64 0, .str [], .nilS], 3) := rfl
theorem e66 : elt P 66 = some (.agg [.int .i64 0, .int .i64 0, .str [], .int .i64 0, .nilS, .nilS, .nilS], 7) := rfl
theorem e67 : elt P 67 = some (.agg [.str [], .nilS, .int .i64 0, .int .i64 0, .str [], .int .i64 0, .nilS, .nilS, .nilS, .int .i64 0], 10) := rfl
theorem e118 : elt P 118 = some (.int .u8 0, 1) := rfl
theorem e122 : elt P 122 = some (.nilI, 1) := rfl
theorem eb27 : eltB P 27 = some (.agg [.str [], .nilS, .nilS, .nilS, .int .i64 0], 5, 96) := rfl
theorem eb29 : eltB P 29 = some (.str [], 1, 16) := rfl
theorem eb30 : eltB P 30 = some (.agg [.str [], .nilS], 2, 40) := rfl
theorem eb34 : eltB P 34 = some (.agg [.str [], .int .i64 0, .str [], .nilS], 4, 64) := rfl
theorem eb43 : eltB P 43 = some (.agg [.str [], .str [], .nilS, .nilS, .nilS, .int .i64 0], 6, 112) := rfl
theorem eb44 : eltB P 44 = some (.agg [.int .i64 0, .bool false, .int .i64 0], 3, 24) := rfl
theorem eb56 : eltB P 56 = some (.agg [.int .i64 0, .str [], .nilS], 3, 48) := rfl
theorem eb67 : eltB P 67 = some (.agg [.str [], .nilS, .int .i64 0, .int .i64 0, .str [], .int .i64 0, .nilS, .nilS, .nilS, .int .i64 0], 10, 160) := rfl
theorem eb118 : eltB P 118 = some (.int .u8 0, 1, 1) := rfl
theorem es22 : eltS P 22 = some 1 := rfl
theorem es27 : eltS P 27 = some 5 := rfl
theorem es29 : eltS P 29 = some 1 := rfl
theorem es30 : eltS P 30 = some 2 := rfl
theorem es34 : eltS P 34 = some 4 := rfl
theorem es35 : eltS P 35 = some 15 := rfl
theorem es43 : eltS P 43 = some 6 := rfl
theorem es44 : eltS P 44 = some 3 := rfl
theorem es56 : eltS P 56 = some 3 := rfl
theorem es66 : eltS P 66 = some 7 := rfl
theorem es67 : eltS P 67 = some 10 := rfl
theorem es118 : eltS P 118 = some 1 := rfl
theorem es122 : eltS P 122 = some 1 := rfl
theorem u2 : P.underlying 2 = some (.int (.i64)) := rfl
theorem u3 : P.underlying 3 = some (.int (.i64)) := rfl
theorem u4 : P.underlying 4 = some (.bool) := rfl
theorem u5 : P.underlying 5 = some (.int (.u8)) := rfl
theorem u9 : P.underlying 9 = some (.string) := rfl
theorem u22 : P.underlying 22 = some (.slice 3) := rfl
theorem u27 : P.underlying 27 = some (.slice 32) := rfl
theorem u29 : P.underlying 29 = some (.slice 9) := rfl
theorem u30 : P.underlying 30 = some (.slice 58) := rfl
theorem u34 : P.underlying 34 = some (.slice 76) := rfl
theorem u35 : P.underlying 35 = some (.slice 71) := rfl
theorem u43 : P.underlying 43 = some (.slice 37) := rfl
theorem u44 : P.underlying 44 = some (.slice 46) := rfl
theorem u53 : P.underlying 53 = some (.interface #[("Error", 149)]) := rfl
theorem u56 : P.underlying 56 = some (.slice 61) := rfl
theorem u66 : P.underlying 66 = some (.slice 69) := rfl
theorem u67 : P.underlying 67 = some (.slice 79) := rfl
theorem u91 : P.underlying 91 = some (.pointer 93) := rfl
theorem u115 : P.underlying 115 = some (.int (.u64)) := rfl
theorem u118 : P.underlying 118 = some (.slice 5) := rfl
theorem u122 : P.underlying 122 = some (.slice 53) := rfl
theorem u126 : P.underlying 126 = some (.int (.u32)) := rfl
theorem u129 : P.underlying 129 = some (.int (.u64)) := rfl
theorem u148 : P.underlying 148 = some (.pointer 165) := rfl
theorem E_P : E.P = P := rfl
theorem E_ng : E.ng = 15 := rfl
theorem E_cf (f : FuncId) (t : Nat) : E.cf f t = false := rfl
end Go.Am.Ds

/- DeriveSays on AM: the rules as a simp set. -/
namespace Go.Am.Ds
open Go Go.Am Go.Proofs
attribute [simp] z3 z4 z32 z37 z43 z44 z46 z58 z61 z69 z71 z79 z91 s2 s3 s4 s5 s9 s22 s27 s29 s30 s32 s34 s35 s37 s43 s44 s46 s53 s56 s58 s61 s63 s65 s66 s67 s69 s71 s76 s79 s129 s141 s146 s147 a2 a3 a4 a5 a9 a22 a27 a29 a30 a32 a34 a35 a37 a43 a44 a46 a53 a56 a58 a61 a63 a65 a66 a67 a69 a71 a76 a79 a129 a141 a146 a147 f26_0 f26_1 f32_0 f32_1 f32_2 f32_3 f32_4 f37_0 f37_1 f37_2 f37_3 f37_4 f37_5 f46_0 f46_1 f46_2 f58_0 f58_1 f61_0 f61_1 f61_2 f65_0 f65_1 f65_2 f69_0 f69_1 f69_2 f69_3 f69_4 f69_5 f69_6 f71_0 f71_1 f71_2 f71_3 f71_4 f76_0 f76_1 f79_0 f79_1 f79_2 f79_3 f93_0 f93_1 b26 b32 b37 b46 b58 b61 b69 b71 b76 b79 b93 b165 e27 e29 e30 e34 e35 e43 e44 e56 e66 e67 e118 e122 eb27 eb29 eb30 eb34 eb43 eb44 eb56 eb67 eb118 es22 es27 es29 es30 es34 es35 es43 es44 es56 es66 es67 es118 es122 u2 u3 u4 u5 u9 u22 u27 u29 u30 u34 u35 u43 u44 u53 u56 u66 u67 u91 u115 u118 u122 u126 u129 u148 E_P E_ng E_cf
theorem b_next : E.base.next = 30 := Eq.trans rfl rfl
theorem b_trunc : E.base.trunc 30 = E.base := Eq.trans rfl rfl
theorem b_trunc_skip (k : Nat) : (E.base.skip k).trunc 30 = E.base := by rw [trunc_skip _ _ _ (Nat.le_of_eq b_next.symm), b_trunc]
theorem b_trunc_more (J : List (Option Obj)) : (E.base.more J).trunc 30 = E.base := by rw [trunc_more _ _ _ (Nat.le_of_eq b_next.symm), b_trunc]
attribute [simp] b_next b_trunc b_trunc_skip b_trunc_more



/-- A struct of so many cells, all of them data. -/
def Sh (n : Nat) (v : AV) : Prop := ∃ cs, v = .agg cs ∧ cs.length = n ∧ (∀ c ∈ cs, c.one = true ∧ c.freeze = c ∧ c.under 30 = true)
theorem Sh.three {v : AV} (h : Sh 3 v) : ∃ a b c, v = .agg [a, b, c] ∧ (a.one = true ∧ a.freeze = a ∧ a.under 30 = true) ∧ (b.one = true ∧ b.freeze = b ∧ b.under 30 = true) ∧ (c.one = true ∧ c.freeze = c ∧ c.under 30 = true) := by
  obtain ⟨cs, rfl, hl, h⟩ := h
  match cs, hl with
  | [a, b, c], _ => exact ⟨a, b, c, rfl, h a (by simp), h b (by simp), h c (by simp)⟩
theorem Sh.seven {v : AV} (h : Sh 7 v) : ∃ a b c d e f g, v = .agg [a, b, c, d, e, f, g] ∧ (a.one = true ∧ a.freeze = a ∧ a.under 30 = true) ∧ (b.one = true ∧ b.freeze = b ∧ b.under 30 = true) ∧ (c.one = true ∧ c.freeze = c ∧ c.under 30 = true)
    ∧ (d.one = true ∧ d.freeze = d ∧ d.under 30 = true) ∧ (e.one = true ∧ e.freeze = e ∧ e.under 30 = true) ∧ (f.one = true ∧ f.freeze = f ∧ f.under 30 = true) ∧ (g.one = true ∧ g.freeze = g ∧ g.under 30 = true) := by
  obtain ⟨cs, rfl, hl, h⟩ := h
  match cs, hl with
  | [a, b, c, d, e, f, g], _ => exact ⟨a, b, c, d, e, f, g, rfl, h a (by simp), h b (by simp), h c (by simp), h d (by simp), h e (by simp), h f (by simp), h g (by simp)⟩

/-- A slice. -/
def Sl (v : AV) : Prop := (v = .nilS ∨ ∃ es t, v = .list es t) ∧ v.freeze.under 30 = true

/-- An expression. -/
def ex (k p : Int) (s : List UInt8) (n : Int) (l a b : AV) : AV := .agg [.int .i64 k, .int .i64 p, .str s, .int .i64 n, l, a, b]
/-- An alternative. -/
def al (con : List UInt8) (vars e : AV) (p : Int) : AV := .agg (.str con :: vars :: (e.cells ++ [.int .i64 p]))
/-- A type. -/
def ty (k : Int) (s : List UInt8) (l : AV) : AV := .agg [.int .i64 k, .str s, l]

section
attribute [local simp] ex al ty
theorem v_ok (p : Int) (s : List UInt8) : Fn E 45 [.int .i64 p, .str s] (ex 1 p s 0 .nilS .nilS .nilS) := by
  refine Fn.of Tryd.func45 rfl rfl rfl rfl rfl (by simp -dsimp) ?_
  simp -dsimp
theorem c_ok (p : Int) (s : List UInt8) : Fn E 43 [.int .i64 p, .str s] (ex 2 p s 0 .nilS .nilS .nilS) := by
  refine Fn.of Tryd.func43 rfl rfl rfl rfl rfl (by simp -dsimp) ?_
  simp -dsimp
theorem rc_ok (p : Int) (s : List UInt8) : Fn E 26 [.str s, .int .i64 p] (ex 2 p s 0 .nilS .nilS .nilS) := by
  refine Fn.of Tryd.func26 rfl rfl rfl rfl rfl (by simp -dsimp) ?_
  simp -dsimp
theorem rv_ok (p : Int) (s : List UInt8) : Fn E 28 [.str s, .int .i64 p] (ex 1 p s 0 .nilS .nilS .nilS) := by
  refine Fn.of Tryd.func28 rfl rfl rfl rfl rfl (by simp -dsimp) ?_
  simp -dsimp
theorem var_ok (s : List UInt8) : Fn E 22 [.str s] (ty 1 s .nilS) := by
  refine Fn.of Tryd.func22 rfl rfl rfl rfl rfl (by simp -dsimp) ?_
  simp -dsimp
theorem rvar_ok (s : List UInt8) : Fn E 23 [.str s] (ty 1 s .nilS) := by
  refine Fn.of Tryd.func23 rfl rfl rfl rfl rfl (by simp -dsimp) ?_
  simp -dsimp
theorem con_ok (s : List UInt8) : Fn E 17 [.str s, .nilS] (ty 2 s .nilS) := by
  refine Fn.of Tryd.func17 rfl rfl rfl rfl rfl (by simp -dsimp) ?_
  simp -dsimp
theorem alt_ok (p : Int) (e : AV) (he' : Sh 7 e) (s : List UInt8) (l : AV) (hl : Sl l) : Fn E 41 [.int .i64 p, e, .str s, l] (al s l.freeze e p) := by
  obtain ⟨a, b, c, d, e, f, g, rfl, ha, hb, hc, hd, he, hf, hg⟩ := he'.seven
  obtain ⟨rfl | ⟨es, t, rfl⟩, hu⟩ := hl
  · refine Fn.of Tryd.func41 rfl rfl rfl rfl rfl (by simp -dsimp [*]) ?_
    simp -dsimp [*]
  · simp only [freeze_list, under_list_frozen] at hu
    clear he'
    refine Fn.of Tryd.func41 rfl rfl rfl rfl rfl ?_ ?_
    · cases t <;> simp -dsimp [*]
    · cases t <;> simp -dsimp [*]
theorem cases_ok (p : Int) (e : AV) (he' : Sh 7 e) (l : AV) (hl : Sl l) : Fn E 44 [.int .i64 p, e, l] (ex 8 p [] 0 (.list [e.cells] .frozen) l.freeze .nilS) := by
  obtain ⟨a, b, c, d, e, f, g, rfl, ha, hb, hc, hd, he, hf, hg⟩ := he'.seven
  obtain ⟨rfl | ⟨es, t, rfl⟩, hu⟩ := hl
  · refine Fn.of Tryd.func44 rfl rfl rfl rfl rfl (by simp -dsimp [*]) ?_
    simp -dsimp [*]
  · simp only [freeze_list, under_list_frozen] at hu
    clear he'
    refine Fn.of Tryd.func44 rfl rfl rfl rfl rfl ?_ ?_
    · cases t <;> simp -dsimp [*]
    · cases t <;> simp -dsimp [*]
end
end Go.Am.Ds

/- DeriveSays on AM: loops. -/
namespace Go.Am.Ds
open Go Go.Am Go.Proofs

/-- An expression applied to others. -/
def appV (p : Int) (e : AV) (l : List (List AV)) : AV := l.foldl (fun f a => ex 5 p [] 0 (.list [f.cells, a] .frozen) .nilS .nilS) e

theorem Sh.agg {n : Nat} {cs : List AV} : Sh n (.agg cs) ↔ cs.length = n ∧ ∀ c ∈ cs, c.one = true ∧ c.freeze = c ∧ c.under 30 = true := by
  constructor
  · rintro ⟨ds, h, h1⟩; injection h with h; subst h; exact h1
  · intro h; exact ⟨cs, rfl, h⟩

theorem app_ok' (p : Int) (e : AV) (he' : Sh 7 e) (l : List (List AV)) (hl : Elz 30 7 l) (hb : l.length ≤ 1000) (t : Tag) : Fn E 61 [.int .i64 p, e, .list l t] (appV p e l) := by
  have hu := hl.under
  generalize he0 : e = e0
  have he0' := he'
  obtain ⟨a, b, c, d, e, f, g, rfl, ha, hb, hc, hd, he, hf, hg⟩ := he'.seven
  clear he'
  subst he0
  refine Fn.of Tryd.func61 rfl rfl rfl rfl rfl ?_ ?_
  · simp -dsimp [*]
  simp -dsimp [*]
  refine Wp.loop (fun i ρ H => i ≤ l.length ∧ ρ 0 = .int .i64 p ∧ ρ 4 = .ptr 30 0 ∧ ρ 6 = .ptr 31 0 ∧ ρ 9 = .list l t.calm ∧ ρ 10 = .int .i64 l.length ∧ ρ 11 = .int .i64 i ∧
    ∃ cs J, H = ((E.base.push (.cells cs)).push (.cells [.int .i64 0, .int .i64 0, .str [], .int .i64 0, .nilS, .nilS, .nilS])).more J ∧ appV p (.agg [a, b, c, d, e, f, g]) (l.take i) = .agg cs ∧ Sh 7 (.agg cs))
    (fun i => l.length - i) ?_ 0 _ _ ?_
  · rintro i ρ H ⟨hi, h0, h4, h6, h9, h10, h11, cs, J, rfl, hv, hs⟩
    obtain ⟨a', b', c', d', e', f', g', hcs, ha', hb', hc', hd', he', hf', hg'⟩ := hs.seven
    injection hcs with hcs
    subst hcs
    clear hs
    by_cases hlt : i < l.length
    · obtain ⟨x, hx⟩ : ∃ x, l[i]? = some x := ⟨l[i], by simp -dsimp [hlt]⟩
      have hx7 := hl.at hx
      obtain ⟨x0, x1, x2, x3, x4, x5, x6, hxe, hx0, hx1, hx2, hx3, hx4, hx5, hx6⟩ := Sh.seven (Sh.agg.2 hx7)
      injection hxe with hxe
      subst hxe
      have hw : IntKind.i64.wrap ((i : Int) + 1) = (i : Int) + 1 := IntWalk.i64_in _ (by omega)
      have hx' : l[i] = [x0, x1, x2, x3, x4, x5, x6] := by rw [List.getElem?_eq_getElem hlt] at hx; exact Option.some.inj hx
      simp -dsimp [*]
      refine ⟨i + 1, by omega, by omega, by simp, _, ⟨_, more_push _ _ _⟩, ?_, ?_⟩
      · rw [List.take_add_one, hx]
        simp only [appV, List.foldl_append, Option.toList_some, List.foldl_cons, List.foldl_nil]
        simp only [appV] at hv
        rw [hv]
        rfl
      · simp -dsimp [Sh.agg, *]
    · have : i = l.length := by omega
      subst this
      simp -dsimp [*]
      rw [← hv]; simp
  · refine ⟨by omega, ?_⟩
    simp -dsimp
    exact ⟨_, ⟨[], rfl⟩, rfl, he0'⟩
end Go.Am.Ds

/- DeriveSays on AM: names, digits. -/
namespace Go.Am.Ds
open Go Go.Am Go.Proofs

theorem wrap_small (n : Int) (h : -9223372036854775808 ≤ n ∧ n ≤ 9223372036854775807) : IntKind.i64.wrap n = n := IntWalk.i64_in n h
theorem wrap_u8 (n : Int) (h : 0 ≤ n ∧ n < 256) : IntKind.u8.wrap n = n := by
  simp [IntKind.wrap, IntKind.bits, IntKind.signed]; omega
attribute [simp] bnd wrap_small wrap_u8
set_option maxRecDepth 10000

theorem small1 : Fn E 76 [.int .i64 1] (.str [49]) := by
  refine Fn.of Tryd.func76 rfl rfl rfl rfl rfl (by simp) ?_
  simp -dsimp
theorem formatInt1 : Fn E 75 [.int .i64 1, .int .i64 10] (.str [49]) := by
  refine Fn.of Tryd.func75 rfl rfl rfl rfl rfl (by simp) ?_
  simp -dsimp [small1]
theorem iitoa1 : Fn E 69 [.int .i64 1] (.str [49]) := by
  refine Fn.of Tryd.func69 rfl rfl rfl rfl rfl (by simp) ?_
  simp -dsimp [formatInt1]
theorem itoa1 : Fn E 60 [.int .i64 1] (.str [49]) := by
  refine Fn.of Tryd.func60 rfl rfl rfl rfl rfl (by simp) ?_
  simp -dsimp [iitoa1]

theorem small2 : Fn E 76 [.int .i64 2] (.str [50]) := by
  refine Fn.of Tryd.func76 rfl rfl rfl rfl rfl (by simp) ?_
  simp -dsimp
theorem formatInt2 : Fn E 75 [.int .i64 2, .int .i64 10] (.str [50]) := by
  refine Fn.of Tryd.func75 rfl rfl rfl rfl rfl (by simp) ?_
  simp -dsimp [small2]
theorem iitoa2 : Fn E 69 [.int .i64 2] (.str [50]) := by
  refine Fn.of Tryd.func69 rfl rfl rfl rfl rfl (by simp) ?_
  simp -dsimp [formatInt2]
theorem itoa2 : Fn E 60 [.int .i64 2] (.str [50]) := by
  refine Fn.of Tryd.func60 rfl rfl rfl rfl rfl (by simp) ?_
  simp -dsimp [iitoa2]

theorem small3 : Fn E 76 [.int .i64 3] (.str [51]) := by
  refine Fn.of Tryd.func76 rfl rfl rfl rfl rfl (by simp) ?_
  simp -dsimp
theorem formatInt3 : Fn E 75 [.int .i64 3, .int .i64 10] (.str [51]) := by
  refine Fn.of Tryd.func75 rfl rfl rfl rfl rfl (by simp) ?_
  simp -dsimp [small3]
theorem iitoa3 : Fn E 69 [.int .i64 3] (.str [51]) := by
  refine Fn.of Tryd.func69 rfl rfl rfl rfl rfl (by simp) ?_
  simp -dsimp [formatInt3]
theorem itoa3 : Fn E 60 [.int .i64 3] (.str [51]) := by
  refine Fn.of Tryd.func60 rfl rfl rfl rfl rfl (by simp) ?_
  simp -dsimp [iitoa3]
end Go.Am.Ds

/- DeriveSays on AM: names. -/
namespace Go.Am.Ds
open Go Go.Am Go.Proofs
set_option maxRecDepth 10000
attribute [simp] appendA room elems appKind bytesOfElems

theorem names0 (s : List UInt8) (h : s.length ≤ 100) : Fn E 40 [.str s, .int .i64 0] .nilS := by
  refine Fn.of Tryd.func40 rfl rfl rfl rfl rfl (by simp) ?_
  have h1 : s.length + 1 ≤ 9223372036854775807 := by omega
  simp -dsimp
  refine Wp.unroll ?_
  simp -dsimp [h1]
theorem names1 (s : List UInt8) (h : s.length ≤ 100) : Fn E 40 [.str s, .int .i64 1] (.list [[.str (s ++ [49])]] .frozen) := by
  refine Fn.of Tryd.func40 rfl rfl rfl rfl rfl (by simp) ?_
  have h1 : s.length + 1 ≤ 9223372036854775807 := by omega
  simp -dsimp
  refine Wp.unroll ?_
  simp -dsimp [h1, itoa1]
  refine Wp.unroll ?_
  simp -dsimp [h1, itoa1]
theorem names2 (s : List UInt8) (h : s.length ≤ 100) : Fn E 40 [.str s, .int .i64 2] (.list [[.str (s ++ [49])], [.str (s ++ [50])]] .frozen) := by
  refine Fn.of Tryd.func40 rfl rfl rfl rfl rfl (by simp) ?_
  have h1 : s.length + 1 ≤ 9223372036854775807 := by omega
  simp -dsimp
  refine Wp.unroll ?_
  simp -dsimp [h1, itoa1, itoa2]
  refine Wp.unroll ?_
  simp -dsimp [h1, itoa1, itoa2]
  refine Wp.unroll ?_
  simp -dsimp [h1, itoa1, itoa2]
theorem names3 (s : List UInt8) (h : s.length ≤ 100) : Fn E 40 [.str s, .int .i64 3] (.list [[.str (s ++ [49])], [.str (s ++ [50])], [.str (s ++ [51])]] .frozen) := by
  refine Fn.of Tryd.func40 rfl rfl rfl rfl rfl (by simp) ?_
  have h1 : s.length + 1 ≤ 9223372036854775807 := by omega
  simp -dsimp
  refine Wp.unroll ?_
  simp -dsimp [h1, itoa1, itoa2, itoa3]
  refine Wp.unroll ?_
  simp -dsimp [h1, itoa1, itoa2, itoa3]
  refine Wp.unroll ?_
  simp -dsimp [h1, itoa1, itoa2, itoa3]
  refine Wp.unroll ?_
  simp -dsimp [h1, itoa1, itoa2, itoa3]
theorem digits1 : Fn E 52 [.int .i64 1] (.str [49]) := by
  refine Fn.of Tryd.func52 rfl rfl rfl rfl rfl (by simp) ?_
  simp -dsimp
  refine Wp.unroll ?_
  simp -dsimp
theorem digits2 : Fn E 52 [.int .i64 2] (.str [50]) := by
  refine Fn.of Tryd.func52 rfl rfl rfl rfl rfl (by simp) ?_
  simp -dsimp
  refine Wp.unroll ?_
  simp -dsimp
theorem digits3 : Fn E 52 [.int .i64 3] (.str [51]) := by
  refine Fn.of Tryd.func52 rfl rfl rfl rfl rfl (by simp) ?_
  simp -dsimp
  refine Wp.unroll ?_
  simp -dsimp
theorem rnames0 (s : List UInt8) (h : s.length ≤ 100) : Fn E 24 [.str s, .int .i64 0] .nilS := by
  refine Fn.of Tryd.func24 rfl rfl rfl rfl rfl (by simp) ?_
  have h1 : s.length + 1 ≤ 9223372036854775807 := by omega
  simp -dsimp
  refine Wp.unroll ?_
  simp -dsimp [h1]
theorem rnames1 (s : List UInt8) (h : s.length ≤ 100) : Fn E 24 [.str s, .int .i64 1] (.list [[.str (s ++ [49])]] .frozen) := by
  refine Fn.of Tryd.func24 rfl rfl rfl rfl rfl (by simp) ?_
  have h1 : s.length + 1 ≤ 9223372036854775807 := by omega
  simp -dsimp
  refine Wp.unroll ?_
  simp -dsimp [h1, digits1]
  refine Wp.unroll ?_
  simp -dsimp [h1, digits1]
theorem rnames2 (s : List UInt8) (h : s.length ≤ 100) : Fn E 24 [.str s, .int .i64 2] (.list [[.str (s ++ [49])], [.str (s ++ [50])]] .frozen) := by
  refine Fn.of Tryd.func24 rfl rfl rfl rfl rfl (by simp) ?_
  have h1 : s.length + 1 ≤ 9223372036854775807 := by omega
  simp -dsimp
  refine Wp.unroll ?_
  simp -dsimp [h1, digits1, digits2]
  refine Wp.unroll ?_
  simp -dsimp [h1, digits1, digits2]
  refine Wp.unroll ?_
  simp -dsimp [h1, digits1, digits2]
theorem rnames3 (s : List UInt8) (h : s.length ≤ 100) : Fn E 24 [.str s, .int .i64 3] (.list [[.str (s ++ [49])], [.str (s ++ [50])], [.str (s ++ [51])]] .frozen) := by
  refine Fn.of Tryd.func24 rfl rfl rfl rfl rfl (by simp) ?_
  have h1 : s.length + 1 ≤ 9223372036854775807 := by omega
  simp -dsimp
  refine Wp.unroll ?_
  simp -dsimp [h1, digits1, digits2, digits3]
  refine Wp.unroll ?_
  simp -dsimp [h1, digits1, digits2, digits3]
  refine Wp.unroll ?_
  simp -dsimp [h1, digits1, digits2, digits3]
  refine Wp.unroll ?_
  simp -dsimp [h1, digits1, digits2, digits3]
end Go.Am.Ds
