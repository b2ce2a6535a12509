/- DeriveSays answers true, whatever the numbers and the word; no condition: a part of the proof. -/
import Derived.Test.YtfmfejcoaphmoaaDoorD9
set_option linter.unusedSimpArgs false
set_option linter.unusedVariables false
/- DeriveSays on AM: the first; errors. -/
namespace Go.Am.Ds
open Go Go.Am Go.Proofs
set_option maxRecDepth 10000

theorem first_ok : Fn E 4 [] (.bool true) := Fn.run 100 rfl rfl rfl (by decide +kernel)

theorem get_trunc (H : Heap) (N i : Nat) (hi : i < N) : (H.trunc N).get i = H.get i := by
  induction H with
  | nil => rfl
  | cons o H ih =>
    simp only [Heap.trunc]
    split
    · rfl
    · rw [ih]
      rename_i h
      simp only [Heap.get]
      rw [if_neg (by omega)]
theorem base_get (B : Heap) (hB30 : B.trunc 30 = E.base) (g : Nat) (hg : g < 30) : B.get g = E.base.get g := by rw [← hB30, get_trunc _ _ _ hg]
theorem glob_get (B : Heap) (hB30 : B.trunc 30 = E.base) : B.get 0 = some (.cells [.ifc 148 (.ptr 15 0)]) ∧ B.get 1 = some (.cells [.ifc 148 (.ptr 16 0)]) ∧ B.get 2 = some (.cells [.ifc 148 (.ptr 17 0)]) ∧
    B.get 3 = some (.cells [.ifc 148 (.ptr 18 0)]) ∧ B.get 4 = some (.cells [.ifc 148 (.ptr 19 0)]) ∧ B.get 5 = some (.cells [.ifc 148 (.ptr 20 0)]) ∧ B.get 6 = some (.cells [.ifc 148 (.ptr 21 0)]) ∧
    B.get 7 = some (.cells [.ifc 148 (.ptr 22 0)]) ∧ B.get 8 = some (.cells [.ifc 148 (.ptr 23 0)]) ∧ B.get 9 = some (.cells [.ifc 148 (.ptr 24 0)]) ∧ B.get 10 = some (.cells [.ifc 148 (.ptr 25 0)]) ∧
    B.get 11 = some (.cells [.ifc 148 (.ptr 26 0)]) ∧ B.get 12 = some (.cells [.ifc 148 (.ptr 27 0)]) ∧ B.get 13 = some (.cells [.ifc 148 (.ptr 28 0)]) ∧ B.get 14 = some (.cells [.ifc 148 (.ptr 29 0)]) := by
  refine ⟨?_, ?_, ?_, ?_, ?_, ?_, ?_, ?_, ?_, ?_, ?_, ?_, ?_, ?_, ?_⟩ <;> rw [base_get B hB30 _ (by omega)] <;> rfl

theorem fault0 (B : Heap) (hB : 30 ≤ B.next) (hB30 : B.trunc 30 = E.base) : Run 39 [.nilI] B (faultV 0 false 0) (B.push (.cells [.int .i64 0, .bool false, .int .i64 0])) := by
  suffices h : ACalls E 39 [.nilI] B (Held (fun X H' => X = faultV 0 false 0 ∧ H' = (B.push (.cells [.int .i64 0, .bool false, .int .i64 0]))) .mk) by
    obtain ⟨X, H', ⟨rfl, rfl⟩, h⟩ := Run.of h
    exact h
  have hg : (B.next < 30) = False := by simp; omega
  refine ACalls.of Tryd.func39 rfl rfl rfl rfl rfl ?_
  simp -dsimp [faultV, none_ok, hB30, hg]

/-- No error is like none. -/
theorem same0 (B : Heap) (hB : 30 ≤ B.next) (hB30 : B.trunc 30 = E.base) : Run 15 [.nilI, faultV 0 false 0] B (.bool true) (B.more [some (.cells [.int .i64 0, .bool false, .int .i64 0]), some (.cells [.int .i64 0, .bool false, .int .i64 0])]) := by
  suffices h : ACalls E 15 [.nilI, faultV 0 false 0] B (Held (fun X H' => X = .bool true ∧ H' = (B.more [some (.cells [.int .i64 0, .bool false, .int .i64 0]), some (.cells [.int .i64 0, .bool false, .int .i64 0])])) .mk) by
    obtain ⟨X, H', ⟨rfl, rfl⟩, h⟩ := Run.of h
    exact h
  have hg : (B.next < 30) = False := by simp; omega
  have hf := fault0 (B.push (.cells [.int .i64 0, .bool false, .int .i64 0])) (by simp; omega) (by simp -dsimp [hB30, hg])
  have hs := sameFault_ok 0 false 0
  simp only [Run, faultV] at hf hs
  refine ACalls.of Tryd.func15 rfl rfl rfl rfl rfl ?_
  have hg1 : (B.next + 1 < 30) = False := by simp; omega
  simp -dsimp [faultV, hf, hs, hB30, hg, hg1]
  rfl

theorem ptrEq53 (H : Heap) (i j : Nat) (hi : (H.rng i 0 1).isSome = true) (hj : (H.rng j 0 1).isSome = true) : ptrEq P H 53 (.ifc 148 (.ptr i 0)) (.ifc 148 (.ptr j 0)) = some (decide (i = j)) := by
  obtain ⟨ms, h1⟩ : ∃ ms, P.underlying 53 = some (.interface ms) := ⟨_, rfl⟩
  obtain ⟨e, h2, h4⟩ : ∃ e, P.underlying 148 = some (.pointer e) ∧ (sizeOf P e).any (0 < ·) = true := ⟨_, rfl, by decide +kernel⟩
  have h3 : (P.info? 148).any (·.comparable) = true := by decide +kernel
  simp only [ptrEq, h1, h2, h3, h4, hi, hj, if_true, and_self, and_true]
theorem err_rng (B : Heap) (hB30 : B.trunc 30 = E.base) (i : Nat) (h1 : 15 ≤ i) (h2 : i < 30) : (B.rng i 0 1).isSome = true := by
  have hg := base_get B hB30 i h2
  have h3 : ∀ i ∈ List.range 30, 15 ≤ i → (E.base.rng i 0 1).isSome = true := by decide +kernel
  have := h3 i (by simp; omega) h1
  simp only [Heap.rng, Heap.cells, hg] at this ⊢
  exact this
theorem alike (B : Heap) (hB30 : B.trunc 30 = E.base) (a b : Nat) (h1 : 15 ≤ a ∧ a < 30) (h2 : 15 ≤ b ∧ b < 30) : Run 68 [.ifc 148 (.ptr a 0), .ifc 148 (.ptr b 0)] B (.bool (decide (a = b))) B := by
  suffices h : ACalls E 68 [.ifc 148 (.ptr a 0), .ifc 148 (.ptr b 0)] B (Held (fun X H' => X = .bool (decide (a = b)) ∧ H' = B) .mk) by
    obtain ⟨X, H', ⟨rfl, rfl⟩, h⟩ := Run.of h
    exact h
  refine ACalls.of Tryd.func68 rfl rfl rfl rfl rfl ?_
  have hp := ptrEq53 B a b (err_rng B hB30 a h1.1 h1.2) (err_rng B hB30 b h2.1 h2.2)
  simp -dsimp [hp]

theorem sentinel_ok (B : Heap) (hB : 30 ≤ B.next) (hB30 : B.trunc 30 = E.base) : Run 59 [.ifc 148 (.ptr 15 0)] B (.int .i64 105) B := by
  suffices h : ACalls E 59 [.ifc 148 (.ptr 15 0)] B (Held (fun X H' => X = .int .i64 105 ∧ H' = B) .mk) by
    obtain ⟨X, H', ⟨rfl, rfl⟩, h⟩ := Run.of h
    exact h
  obtain ⟨g0, g1, g2, g3, g4, g5, g6, g7, g8, g9, g10, g11, g12, g13, g14⟩ := glob_get B hB30
  refine ACalls.of Tryd.func59 rfl rfl rfl rfl rfl ?_
  simp -dsimp
  refine ACalls.of Tryd.func67 rfl rfl rfl rfl rfl ?_
  simp -dsimp [g0, g1, g2, g3, g4, g5, g6, g7, g8, g9, g10, g11, g12, g13, g14]
  have hn : (B.next < 30) = False := by simp; omega
  have hn1 : ∀ k, (B.next + k < 30) = False := by intro k; simp; omega
  have ha := fun (H : Heap) (hH : H.trunc 30 = E.base) (b : Nat) (h1 : 15 ≤ b ∧ b < 30) (R : AV → Heap → Prop) (m : Mark R) => alike H hH 15 b (by omega) h1 R m
  refine Wp.unroll ?_
  simp -dsimp [ha, hB30, hn, hn1]
  refine Wp.unroll ?_
  simp -dsimp [ha, hB30, hn, hn1]
  refine Wp.unroll ?_
  simp -dsimp [ha, hB30, hn, hn1]
  refine Wp.unroll ?_
  simp -dsimp [ha, hB30, hn, hn1]
  refine Wp.unroll ?_
  simp -dsimp [ha, hB30, hn, hn1]

/-- An error at a place is the one that was told. -/
theorem same1 (B : Heap) (hB : 30 ≤ B.next) (hB30 : B.trunc 30 = E.base) (q : Nat) (hq : 30 ≤ q) (hqB : q < B.next) (pos : Int) (hg : B.get q = some (.cells [.int .i64 pos, .ifc 148 (.ptr 15 0)])) :
    Run 15 [.ifc 91 (.ptr q 0), faultV 105 true pos] B (.bool true) (B.more [some (.cells [.int .i64 105, .bool true, .int .i64 pos]), some (.cells [.int .i64 105, .bool true, .int .i64 pos])]) := by
  suffices h : ACalls E 15 [.ifc 91 (.ptr q 0), faultV 105 true pos] B (Held (fun X H' => X = .bool true ∧ H' = (B.more [some (.cells [.int .i64 105, .bool true, .int .i64 pos]), some (.cells [.int .i64 105, .bool true, .int .i64 pos])])) .mk) by
    obtain ⟨X, H', ⟨rfl, rfl⟩, h⟩ := Run.of h
    exact h
  have hn : (B.next < 30) = False := by simp; omega
  have hn1 : ∀ k, (B.next + k < 30) = False := by intro k; simp; omega
  have hne : ∀ k, (q = B.next + k) = False := by intro k; simp; omega
  have hne0 : (q = B.next) = False := by simp; omega
  have hz : ∀ g k, g < 15 → (g = B.next + k) = False := by intro g k h; simp; omega
  have hz0 : ∀ g, g < 15 → (g = B.next) = False := by intro g h; simp; omega
  obtain ⟨g0, g1, g2, g3, g4, g5, g6, g7, g8, g9, g10, g11, g12, g13, g14⟩ := glob_get B hB30
  have hs := sameFault_ok 105 true pos
  have hpl := placed_ok pos
  simp only [faultV] at hs hpl
  refine ACalls.of Tryd.func15 rfl rfl rfl rfl rfl ?_
  simp -dsimp [faultV, hs, hB30, hn, hn1]
  refine ACalls.of Tryd.func39 rfl rfl rfl rfl rfl ?_
  simp -dsimp [faultV, hs, hB30, hn, hn1, hg, hne, hne0]
  have hJ := sentinel_ok ((B.push (.cells [.int .i64 105, .bool true, .int .i64 pos])).push (.cells [.int .i64 0, .bool false, .int .i64 0])) (by simp; omega) (by simp -dsimp [hB30, hn, hn1])
  simp only [Run] at hJ
  simp -dsimp [hJ, hs, hpl, hB30, hn, hn1, hg, hne, hne0]
  rfl
end Go.Am.Ds

/- DeriveSays on AM: a type's instance, by both. -/
namespace Go.Am.Ds
open Go Go.Am Go.Proofs
set_option maxRecDepth 10000

/-- The instance that is written, in the program and in the document. -/
def instA (z : AV) (d : Dt) (s : List UInt8) : AV :=
  if s = cEq then instV cEq [84] d.vs d.pos [61, 61] (eqV d.pos d.cs)
  else if s = cOrd then instV cOrd [84] d.vs d.pos [99, 111, 109, 112, 97, 114, 101] (ordV z d.pos d.cs)
  else if s = cShow then instV cShow [84] d.vs d.pos [115, 104, 111, 119] (showsV d.pos d.cs) else inst0
def instX (d : Dt) (s : List UInt8) : AV := instA eL d s
def instY (d : Dt) (s : List UInt8) : AV := instA .nilS d s
def valY (d : Dt) (s : List UInt8) : AV := if isC s = true then instY d s else if d.cs = [] then instV s [84] d.vs d.pos [61, 61] (eqV d.pos d.cs) else inst0
def okY (d : Dt) (s : List UInt8) : Bool := isC s || decide (d.cs = [])

theorem strsV_Ok (l : List (List UInt8)) : Ok (strsV l) := (slV_is _).ok (Elz_strs l)
theorem SV.sh {n : Nat} {u v : AV} (h : SV n u v) : Sh 7 u ∧ Sh 7 v := by
  obtain ⟨x, y, rfl, rfl, h⟩ := h
  exact ⟨⟨x, rfl, h.els.1⟩, ⟨y, rfl, h.els.2⟩⟩
theorem instV_sh {cls n : List UInt8} {vs : List (List UInt8)} {pos : Int} {name : List UInt8} {b : AV} (h : Sh 7 b) : Sh 6 (instV cls n vs pos name b) := by
  obtain ⟨a0, a1, a2, a3, a4, a5, a6, rfl, h0, h1, h2, h3, h4, h5, h6⟩ := h.seven
  refine ⟨_, rfl, rfl, ?_⟩
  have w1 : Ok (varsV vs) := (slV_is _).ok (Elz_strs vs)
  have w2 : Ok (ctxV cls vs) := (slV_is _).ok (Elz_preds cls vs)
  simp only [Ok] at w1 w2
  simp [bindC, w1, w2, h0, h1, h2, h3, h4, h5, h6]
theorem inst0_sh : Sh 6 inst0 := ⟨_, rfl, rfl, by simp⟩

section
theorem dX (d : Dt) (hd : d.good) (s : List UInt8) : Fn E 7 [d.val, .str s] (.tup [instX d s, .bool (isC s)]) := by
  obtain ⟨h1, h2, h3, h4⟩ := hd
  have hl : d.cs.length ≤ 1000 := by omega
  rcases isC_cases s with rfl | rfl | rfl | ⟨n1, n2, n3, -, -, -⟩
  · exact derive_cEq [84] d.vs h1 d.cs h3 hl _ (strsV_Ok _) d.pos
  · exact derive_cOrd [84] d.vs h1 d.cs h3 hl _ (strsV_Ok _) d.pos
  · exact derive_cShow [84] d.vs h1 d.cs h3 hl _ (strsV_Ok _) d.pos
  · have := derive_no [84] d.vs h1 d.cs h3 hl _ (strsV_Ok d.der) d.pos s n1 n2 n3
    have e1 : instX d s = inst0 := by simp only [instX, instA, cEq, cOrd, cShow, n1, n2, n3, if_false]
    have e2 : isC s = false := by simp [isC, cEq, cOrd, cShow, n1, n2, n3]
    rw [e1, e2]; exact this
theorem dY (d : Dt) (hd : d.good) (s : List UInt8) : Fn E 8 [d.val, .str s] (.tup [valY d s, .bool (okY d s)]) := by
  obtain ⟨h1, h2, h3, h4⟩ := hd
  have hl : d.cs.length ≤ 1000 := by omega
  rcases isC_cases s with rfl | rfl | rfl | ⟨n1, n2, n3, -, -, -⟩
  · exact rderive_cEq [84] d.vs h1 d.cs h3 hl _ (strsV_Ok _) d.pos
  · exact rderive_cOrd [84] d.vs h1 d.cs h3 hl _ (strsV_Ok _) d.pos
  · exact rderive_cShow [84] d.vs h1 d.cs h3 hl _ (strsV_Ok _) d.pos
  · have := rderive_no s n1 n2 n3 [84] d.vs h1 d.cs h3 hl _ (strsV_Ok d.der) d.pos
    have e2 : isC s = false := by simp [isC, cEq, cOrd, cShow, n1, n2, n3]
    simp only [valY, okY, e2, Bool.false_or, Bool.false_eq_true, if_false]
    exact this
theorem dS (d : Dt) (hd : d.good) (s : List UInt8) : Fn E 10 [instX d s, instY d s, .bool true] (.bool true) := by
  obtain ⟨h1, h2, h3, h4⟩ := hd
  have hl : d.cs.length ≤ 900 := by omega
  simp only [instX, instY, instA]
  split
  · exact same_ok _ _ d.vs (by omega) _ _ (SV.eq d.pos d.cs hl)
  · split
    · exact same_ok _ _ d.vs (by omega) _ _ (SV.ord d.pos d.cs hl h3)
    · split
      · exact same_ok _ _ d.vs (by omega) _ _ (SV.shows d.pos d.cs hl)
      · exact sameInst0
theorem shXY (d : Dt) (hd : d.good) (s : List UInt8) : Sh 6 (instX d s) ∧ Sh 6 (instY d s) := by
  obtain ⟨h1, h2, h3, h4⟩ := hd
  have hl : d.cs.length ≤ 900 := by omega
  have e1 := (SV.eq d.pos d.cs hl).sh
  have e2 := (SV.ord d.pos d.cs hl h3).sh
  have e3 := (SV.shows d.pos d.cs hl).sh
  simp only [instX, instY, instA]
  split
  · exact ⟨instV_sh e1.1, instV_sh e1.2⟩
  · split
    · exact ⟨instV_sh e2.1, instV_sh e2.2⟩
    · split
      · exact ⟨instV_sh e3.1, instV_sh e3.2⟩
      · exact ⟨inst0_sh, inst0_sh⟩
theorem shV (d : Dt) (hd : d.good) (s : List UInt8) : Sh 6 (valY d s) := by
  have h := (shXY d hd s).2
  obtain ⟨h1, h2, h3, h4⟩ := hd
  have hl : d.cs.length ≤ 900 := by omega
  have e1 := (SV.eq d.pos d.cs hl).sh
  simp only [valY]
  split
  · exact h
  · split
    · exact instV_sh e1.1
    · exact inst0_sh
end
theorem no_inst (d : Dt) (s : List UInt8) (h : isC s = false) : instX d s = inst0 ∧ instY d s = inst0 := by
  simp only [isC, Bool.or_eq_false_iff, decide_eq_false_iff_not] at h
  simp only [instX, instY, instA, h.1.1, h.1.2, h.2, if_false, and_self]
end Go.Am.Ds
