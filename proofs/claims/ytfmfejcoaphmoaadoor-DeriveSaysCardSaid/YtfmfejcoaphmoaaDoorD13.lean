/- DeriveSays: whatever the numbers and the word, the call returns true and leaves its arguments as they were: the row, and its tied card. The condition: the listed package variables hold what the text lays. -/
import Derived.Test.YtfmfejcoaphmoaaDoorD12
import Derived.ChangeSame
import Derived.ChangeVars
import Derived.JoinedOf
import Derived.RowKit
import Derived.RowKitTokens
import Derived.LaidLaws
import Derived.ChangeSlices
import Derived.ChangeMaps5
import Derived.KernelRfl
import Derived.Test.YtfmfejcoaphmoaaDoorTie
import Derived.Test.YtfmfejcoaphmoaaDoorCards
import Derived.SevenTiedAt
set_option linter.unusedSimpArgs false
set_option linter.unusedVariables false
/- DeriveSays: the row. -/
namespace Go.Proofs.YtfmfejcoaphmoaaDoor
open Go Go.ChangeShapes Go.WideShapes Go.RowKit Go.ChangeMaps

theorem tryd_own : ownKnob Tryd.prog.godebug = none := by kernel_rfl
theorem tryd_u22 : Tryd.prog.underlying 22 = some (.slice 3) := by kernel_rfl
theorem tryd_u3 : Tryd.prog.underlying 3 = some (.int .i64) := by kernel_rfl
theorem tryd_u9 : Tryd.prog.underlying 9 = some .string := by kernel_rfl
theorem tryd_u4 : Tryd.prog.underlying 4 = some .bool := by kernel_rfl
theorem tryd_c3 : Tryd.prog.cellsOf 3 = 1 := by kernel_rfl

/-- Where the errors' texts lie in the witness. -/
noncomputable def low : Nat := (World.holding Tryd.prog default ⟨#[], #[], []⟩).heap.size

def u8s (l : List Int) : Array Value := (l.map (Value.int .u8)).toArray
def u64s (l : List Int) : Array Value := (l.map (Value.int .u64)).toArray
def tab15 : Array Value := u64s [1, 10, 100, 1000, 10000, 100000, 1000000, 10000000, 100000000, 1000000000, 10000000000, 100000000000, 1000000000000, 10000000000000, 100000000000000, 1000000000000000, 10000000000000000, 100000000000000000, 1000000000000000000, 10000000000000000000]
def tab16 : Array Value := u8s [0, 1, 28, 2, 29, 14, 24, 3, 30, 22, 20, 15, 25, 17, 4, 8, 31, 27, 13, 23, 21, 19, 16, 7, 26, 12, 18, 6, 11, 5, 10, 9]
def tab17 : Array Value := u8s [0, 1, 56, 2, 57, 49, 28, 3, 61, 58, 42, 50, 38, 29, 17, 4, 62, 47, 59, 36, 45, 43, 51, 22, 53, 39, 33, 30, 24, 18, 12, 5, 63, 55, 48, 27, 60, 41, 37, 16, 46, 35, 44, 21, 52, 32, 23, 11, 54, 26, 40, 15, 34, 20, 31, 10, 25, 14, 19, 9, 13, 8, 7, 6]

def setCells (cs : Array Value) : Obj → Obj
  | .cells _ t fr => .cells cs t fr
  | o => o

noncomputable def laidHeap (h : Array Obj) : Array Obj :=
  (((List.range 15).foldl (fun h g => h.modify g (setCells #[.iface 148 (.pointer (some ⟨low + g, 0, none⟩))])) h).modify 15 (setCells tab15)).modify 16 (setCells tab16) |>.modify 17 (setCells tab17)

/-- A world in which the variables hold what the text lays. -/
noncomputable def laidWorld (os : Os) : World :=
  let w0 := World.holding Tryd.prog os ⟨(Go.Am.Ds.texts.map fun t => Obj.cells #[.string ⟨t.toArray⟩] 165).toArray, #[], []⟩
  { w0 with heap := laidHeap w0.heap }

set_option maxRecDepth 100000 in
theorem laidWorld_met (os : Os) (args : Array Value) : laidMet Tryd.prog Rows.deriveSaysRow.laid ((laidWorld os).forCall (fun _ _ => 0) ⟨#[], args, []⟩).memory :=
  laidMet_of_run' 8 (by kernel_rfl) (by kernel_rfl)

theorem tryd_nil {H : Type} (enc : TypeId × Value → H) (w : World) (b : Nat) (sp : Nat → Bool) (hd : Bool) : DataW.Trod enc Tryd.prog w b sp hd 22 (.slice none 0 0) .nil [] :=
  ⟨1, by simp [DataW.trod, Value.cells, tryd_u22]⟩

theorem same_cell {w w' : World} (h : w.keptBut w' fun _ => False) {b k : Nat} {v : Value} (hv : Go.Am.at_ w b k = some v) : Go.Am.at_ w' b k = some v := by
  have hb := Go.Am.at_lt hv
  rw [← hv]
  exact h.cell hb (fun h => h)

theorem kept_of {w w' : World} {B O : Nat → Nat} {S : Go.Am.Cells} (hb : Go.Am.Ds.Begin w B O S) (hk : Go.Am.Keeps (Go.Am.M (Go.Am.Ds.phi0 B O) Go.Am.Ds.E.base) w w')
    (hs : ∀ b k, Go.Am.M (Go.Am.Ds.phi0 B O) Go.Am.Ds.E.base b k → Go.Am.at_ w' b k = Go.Am.at_ w b k) : w.keptBut w' fun _ => False := by
  have hM : ∀ b k, Go.Am.M (Go.Am.Ds.phi0 B O) Go.Am.Ds.E.base b k → ∃ v, Go.Am.at_ w b k = some v := by
    intro b k ⟨i, o, l, ho, hl, hbk⟩
    rcases hb.has ho hl with ⟨g, hg, rfl, rfl, rfl⟩ | ⟨g, hg, rfl, rfl, rfl⟩ <;> simp only [Go.Am.Loc.has] at hbk
    · obtain ⟨rfl, h1, h2⟩ := hbk
      obtain rfl : k = 0 := by omega
      exact ⟨_, hb.g _ hg⟩
    · obtain ⟨rfl, h1, h2⟩ := hbk
      obtain rfl : k = O g := by omega
      obtain ⟨s, h3, -⟩ := hb.s _ hg
      exact ⟨_, h3⟩
  refine ⟨hk.os, hk.output, fun i hi => ?_⟩
  obtain ⟨o, ho⟩ : ∃ o, w.heap[i]? = some o := ⟨_, Array.getElem?_eq_getElem hi⟩
  rw [ho]
  by_cases hc : ∃ c e fr, o = .cells c e fr
  · obtain ⟨c, e, fr, rfl⟩ := hc
    obtain ⟨c', h1, h2, h3⟩ := hk.cells i c e fr ho
    rw [h1]
    refine ⟨rfl, rfl, h2, fun j _ => ?_⟩
    by_cases hm : Go.Am.M (Go.Am.Ds.phi0 B O) Go.Am.Ds.E.base i j
    · have := hs i j hm
      rwa [Go.Am.at_of h1, Go.Am.at_of ho] at this
    · exact h3 j hm
  · have h1 := hk.other i o ho (fun c e fr h => hc ⟨c, e, fr, h⟩) (fun k hm => by
      obtain ⟨v, hv⟩ := hM i k hm
      obtain ⟨c, e, fr, h2, -⟩ := Go.Am.at_eq hv
      exact hc ⟨c, e, fr, Option.some.inj (ho.symm.trans h2)⟩)
    rw [h1]
    cases o with
    | cells c e fr => exact absurd ⟨c, e, fr, rfl⟩ hc
    | map es clock => exact Or.inr ⟨rfl, rfl⟩
    | _ => rfl

set_option maxRecDepth 100000 in
theorem says_lifted (os : Os) (started : os.Started) (H : Type) (enc : TypeId × Value → H) :
    ReturnsInHanded {} Tryd.checked os 3 .any (fun w args => (Rows.deriveSaysSpec.pre enc Tryd.prog Tryd.f3 [] false w args ∧ laidMet Tryd.prog Rows.deriveSaysRow.laid w) ∧ sizedMet enc Tryd.prog Tryd.f3 (OpenSpec.ofChange Rows.deriveSaysSpec) false w args)
      (Rows.deriveSaysSpec.post enc Tryd.prog Tryd.f3 false true false false) := by
  refine returnsInHanded_of_change_and (C := Tryd.checked) (X := fun w _ => laidMet Tryd.prog Rows.deriveSaysRow.laid w) (fun _ _ _ hh h => h.of_heap hh) tryd_own started (by kernel_rfl) Tryd.func3
    (ChangeSpec.witness_at (enc := enc) (C := Tryd.checked) (os := os) (X := fun w _ => laidMet Tryd.prog Rows.deriveSaysRow.laid w) false (laidWorld os) #[.slice none 0 0, .string ⟨#[]⟩] 8 rfl (by kernel_rfl) (by kernel_rfl) (by kernel_rfl) (by kernel_rfl) (by kernel_rfl) (laidWorld_met os _)) ?_
  intro W base args ds gs before hval0 hW _ _ hL _
  have hval : ∀ (j : Nat) t v, Tryd.f3.params[j]? = some t → args[j]? = some v → Value.okWide Tryd.prog W .any base t v := hval0
  have hW' := hW
  obtain ⟨p, q, hA0, hV0, rfl, hfz, hnd⟩ := hW
  have hA : DataW.TrodAll enc Tryd.prog W 0 (fun _ => true) true Tryd.f3.params.toList args.toList ds p := hA0
  have hV : DataW.TrodVars enc Tryd.prog W (fun _ => true) [] gs q := hV0
  rw [Tryd.params3] at hA hval
  obtain ⟨v0, v1, d0, d1, p0, p1, rfl, rfl, rfl, h0, h1⟩ := trodAll_two hA
  obtain ⟨rfl, rfl⟩ := trodVars_none hV
  obtain ⟨s, rfl, rfl, rfl, hsz⟩ := open_string tryd_u9 (hval 1 9 v1 rfl rfl) h1
  have hv0 := hval 0 22 v0 rfl rfl
  obtain ⟨a0, len, cap, rfl⟩ := okWide_slice tryd_u22 hv0
  obtain ⟨fuel, hf⟩ := h0
  have e1 : ∀ d0 : DataW H, Rows.deriveSaysSpec.fn H ([d0, .lit (.string s.data.toList)] ++ []) = { results := [.lit (.bool true)], args := [d0, .lit (.string s.data.toList)] } := fun d0 => by simp [Rows.deriveSaysSpec]
  rcases open_ints tryd_u22 tryd_u3 tryd_c3 hf with ⟨hcs, hx⟩ | ⟨a, len', cap', zs, hcs, _, hl, hm, hz, hx, hcell, hwz⟩
  · simp [Value.cells] at hcs
    obtain ⟨rfl, rfl, rfl⟩ := hcs
    simp only [Prod.mk.injEq] at hx
    obtain ⟨rfl, rfl⟩ := hx
    obtain ⟨B, O, hb⟩ := Go.Am.Ds.begin_of hL (S := fun _ _ => False) (fun _ _ h => h.elim)
    refine (Go.Am.Ds.says_world hb none s.data.toList [.slice none 0 0, .string s] ⟨rfl, fun i c v hc hv => ?_⟩).mono fun e W' ⟨he, hk, hs⟩ => ?_
    · match i with
      | 0 => cases hc; cases hv; exact .nilS
      | 1 => cases hc; cases hv; exact .str s
      | i + 2 => simp at hc
    · have hkept := kept_of hb hk hs
      refine ⟨_, he, _, _, _, [], [] ++ [], [], hW', ?_, ?_, ?_, World.keptBut_mono (fun _ h => h.elim) hkept, fun h => by cases h⟩
      · rw [e1]; exact trodAll_mk1 (shut_bool tryd_u4 true)
      · rw [e1]; exact trodAll_mk2 (tryd_nil enc _ _ _ _) (shut_string tryd_u9 hsz)
      · rw [e1]; rfl
  · simp [Value.cells] at hcs
    obtain ⟨rfl, rfl, rfl⟩ := hcs
    simp only [Prod.mk.injEq] at hx
    obtain ⟨rfl, rfl⟩ := hx
    simp only [if_true] at hz
    have hsp : a.spot = none := by
      simp only [Value.okWide, tryd_u22, Cell.okWide, Cell.ok] at hv0
      exact hv0.2.2.2.1
    obtain ⟨b, off, spot⟩ := a
    subst hsp
    have hat : ∀ i, i < zs.length → Go.Am.at_ W b (off + i) = some (.int .i64 (zs.getD i 0)) := fun i hi => by
      have := hcell i hi
      rwa [add_plain] at this
    obtain ⟨B, O, hb⟩ := Go.Am.Ds.begin_of hL (S := fun c k => c = b ∧ off ≤ k ∧ k < off + zs.length) (fun c k ⟨h1, h2, h3⟩ => by
      subst h1
      obtain ⟨i, rfl⟩ : ∃ i, k = off + i := ⟨k - off, by omega⟩
      exact ⟨_, _, hat i (by omega)⟩)
    refine (Go.Am.Ds.says_world hb (some (zs.take len)) s.data.toList [.slice (some ⟨b, off, none⟩) len cap, .string s] ⟨rfl, fun i c v hc hv => ?_⟩).mono fun e W' ⟨he, hk, hs⟩ => ?_
    · match i with
      | 0 =>
        cases hc; cases hv
        have hlen : ((zs.take len).map fun x => [Go.Am.AV.int .i64 x]).length = len := by simp; omega
        have := Go.Am.V.list (φ := Go.Am.Ds.phi0 B O) (S := fun c k => c = b ∧ off ≤ k ∧ k < off + zs.length) (w := W) ((zs.take len).map fun x => [Go.Am.AV.int .i64 x]) .frozen b off cap 1 (fun i _ => .int .i64 (zs.getD i 0)) (by omega)
          (fun e he => by obtain ⟨x, -, rfl⟩ := List.mem_map.1 he; rfl)
          (fun i e j c he hc => by
            obtain ⟨hi, rfl⟩ := List.getElem?_eq_some_iff.1 he
            have hi' : i < len := by omega
            obtain rfl : j = 0 := by
              match j with
              | 0 => rfl
              | j + 1 => simp at hc
            refine ⟨⟨rfl, by omega, by omega⟩, ?_⟩
            have := hat i (by omega)
            rw [show off + i * 1 + 0 = off + i by omega]
            exact this)
          (fun i e j c he hc => by
            obtain ⟨hi, rfl⟩ := List.getElem?_eq_some_iff.1 he
            have hi' : i < len := by omega
            obtain rfl : j = 0 := by
              match j with
              | 0 => rfl
              | j + 1 => simp at hc
            simp only [List.getElem_map, List.getElem_take, List.getElem?_cons_zero, Option.some.injEq] at hc
            subst hc
            have e : zs.getD i 0 = zs[i] := by simp [List.getD_eq_getElem?_getD, List.getElem?_eq_getElem (show i < zs.length by omega)]
            rw [e]
            exact .int _ _)
          trivial
        rwa [hlen] at this
      | 1 => cases hc; cases hv; exact .str s
      | i + 2 => simp at hc
    · have hkept := kept_of hb hk hs
      have hr := shut_ints' (enc := enc) (P := Tryd.prog) (w := W') (base := 0) (spare := fun b => decide (b < W.heap.size)) (held := true) (b := b) (off := off) (len := len) (cap := cap) (zs := zs) 0 tryd_u22 tryd_u3 tryd_c3 (Nat.zero_le _) hl hm ?_
        (fun i hi => same_cell hkept (hat i hi)) hwz
      · refine ⟨_, he, _, _, _, [], MemPlace.row ⟨b, off, none⟩ zs.length ++ [], [], hW', ?_, ?_, ?_, World.keptBut_mono (fun _ h => h.elim) hkept, fun h => by cases h⟩
        · rw [e1]; exact trodAll_mk1 (shut_bool tryd_u4 true)
        · rw [e1]; exact trodAll_mk2 ⟨_, hr⟩ (shut_string tryd_u9 hsz)
        · rw [e1]; rfl
      · rcases Nat.lt_or_ge b W.heap.size with h | h
        · simp [h, hz]
        · simp only [decide_eq_false (Nat.not_lt.2 h), Bool.false_eq_true, if_false]
          rcases Nat.eq_zero_or_pos zs.length with h0 | h0
          · omega
          · have := Go.Am.at_lt (hat 0 h0)
            omega

theorem deriveSays_row_holds : Rows.DeriveSaysSaid :=
  OpenClaim.holds_of_wide 3 Tryd.f3 rfl rfl rfl rfl rfl rfl rfl ⟨rfl, rfl, rfl, rfl, rfl⟩ rfl rfl rfl rfl rfl (by kernel_rfl) Tryd.func3 (by kernel_rfl)
    (of_decide_eq_true (by kernel_rfl)) (by unfold Func.isWrapper; rw [if_neg (of_decide_eq_false (by kernel_rfl))]; exact ⟨rfl, rfl⟩)
    (fun os started H enc _ => says_lifted os started H enc)
end Go.Proofs.YtfmfejcoaphmoaaDoor

/- DeriveSays: the tied card. -/
namespace Go.Proofs.YtfmfejcoaphmoaaDoor
open Go

theorem deriveSays_holds : Rows.DeriveSaysCardSaid :=
  Claim7.holds_tied_plain_at .later [] [.data, .data, .data, .sentinel, .sentinel, .sentinel, .sentinel, .sentinel, .sentinel, .sentinel, .sentinel, .sentinel, .sentinel, .sentinel, .sentinel, .sentinel, .sentinel, .sentinel] true (true, "d582647f1dacd9837a87d46a6fabfc1ca3b99e9343a2a0ac5bbee1490841d812") true
    deriveSays_row_holds (fun _ h => by cases h) (by kernel_rfl) (fun _ h => by cases h) deriveSays_row_tie rfl ⟨rfl, rfl⟩ (by kernel_rfl) rfl
    (fun f fn hf hfn => by
      obtain rfl : f = 3 := Option.some.inj ((show Tryd.prog.funcNamed "paideia/paideialaw20.DeriveSays" = some 3 by kernel_rfl).symm.trans hf) |>.symm
      obtain rfl : fn = Tryd.f3 := (Option.some.inj (Tryd.func3.symm.trans hfn)).symm
      exact ⟨by kernel_rfl, fun j t ht => by
        rw [Tryd.params3] at ht
        rcases j with _ | _ | j
        · obtain rfl : 22 = t := by simpa using ht
          exact (show Tryd.prog.wantsStandIn 22 = false by kernel_rfl)
        · obtain rfl : 9 = t := by simpa using ht
          exact (show Tryd.prog.wantsStandIn 9 = false by kernel_rfl)
        · simp at ht⟩)
    (by kernel_rfl)
end Go.Proofs.YtfmfejcoaphmoaaDoor
