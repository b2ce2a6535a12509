/- AM, an abstract machine over plain values, and that the model does what it does: a part of the proof. -/
import Derived.Test.YtfmfejcoaphmoaaDoorA1
import Derived.Laws.Sem
import Derived.Laws.Cells
import Derived.Laws.Tables
import Derived.Laws.Concat
import Derived.Lib.Bytes
set_option linter.unusedSimpArgs false
set_option linter.unusedVariables false
/- AM against the model: small lemmas on lists, constants, operands; how a world grows. -/
namespace Go.Am
open Go

theorem VL.nil {φ : Phi} {S : Cells} {w : World} : VL φ S w [] [] := ⟨rfl, fun _ _ _ h => by simp at h⟩
theorem VL.cons {φ : Phi} {S : Cells} {w : World} {c : AV} {v : Value} {cs : List AV} {vs : List Value} (h : V φ S w c v) (hs : VL φ S w cs vs) : VL φ S w (c :: cs) (v :: vs) :=
  ⟨by simp [hs.1], fun i c' v' h1 h2 => by
    cases i with
    | zero => simp at h1 h2; subst h1; subst h2; exact h
    | succ i => exact hs.2 i c' v' (by simpa using h1) (by simpa using h2)⟩
theorem VL.one {φ : Phi} {S : Cells} {w : World} {c : AV} {v : Value} (h : V φ S w c v) : VL φ S w [c] [v] := .cons h .nil
theorem VL.append {φ : Phi} {S : Cells} {w : World} {cs cs' : List AV} {vs vs' : List Value} (h : VL φ S w cs vs) (h' : VL φ S w cs' vs') : VL φ S w (cs ++ cs') (vs ++ vs') := by
  refine ⟨by simp [h.1, h'.1], fun i c v h1 h2 => ?_⟩
  by_cases hi : i < cs.length
  · rw [List.getElem?_append_left hi] at h1
    rw [List.getElem?_append_left (by rw [← h.1]; exact hi)] at h2
    exact h.2 i c v h1 h2
  · rw [List.getElem?_append_right (by omega)] at h1
    rw [List.getElem?_append_right (by rw [← h.1]; omega)] at h2
    exact h'.2 _ c v h1 (by rw [h.1]; exact h2)
theorem VL.take {φ : Phi} {S : Cells} {w : World} {cs : List AV} {vs : List Value} (h : VL φ S w cs vs) (n : Nat) : VL φ S w (cs.take n) (vs.take n) := by
  refine ⟨by simp [h.1], fun i c v h1 h2 => ?_⟩
  rw [List.getElem?_take] at h1 h2
  split at h1 <;> simp_all
  exact h.2 i c v h1 h2
theorem VL.drop {φ : Phi} {S : Cells} {w : World} {cs : List AV} {vs : List Value} (h : VL φ S w cs vs) (n : Nat) : VL φ S w (cs.drop n) (vs.drop n) :=
  ⟨by simp [h.1], fun i c v h1 h2 => h.2 (n + i) c v (by simpa using h1) (by simpa using h2)⟩
theorem VL.get {φ : Phi} {S : Cells} {w : World} {cs : List AV} {vs : List Value} (h : VL φ S w cs vs) {i : Nat} {c : AV} (hc : cs[i]? = some c) : ∃ v, vs[i]? = some v ∧ V φ S w c v := by
  have hi : i < vs.length := by rw [← h.1]; exact (List.getElem?_eq_some_iff.1 hc).1
  exact ⟨vs[i], by simp [hi], h.2 i c _ hc (by simp [hi])⟩

theorem V.agg' {φ : Phi} {S : Cells} {w : World} {cs : List AV} {vs : Array Value} (h : VL φ S w cs vs.toList) : V φ S w (.agg cs) (.agg vs) := by
  have := V.agg (φ := φ) (S := S) (w := w) cs vs.toList h.1 h.2
  simpa using this
theorem V.tup' {φ : Phi} {S : Cells} {w : World} {cs : List AV} {vs : Array Value} (h : VL φ S w cs vs.toList) : V φ S w (.tup cs) (.tuple vs) := by
  have := V.tup (φ := φ) (S := S) (w := w) cs vs.toList h.1 h.2
  simpa using this

theorem V_ofVal {φ : Phi} {S : Cells} {w : World} (v : Value) : V φ S w (ofVal v) v := by
  unfold ofVal
  split <;> first | exact .int _ _ | exact .bool _ | exact .str _ | exact .nilS | exact .nilP | exact .nilF | exact .nilI | exact .nilM | exact .undef _ | skip
  rename_i f
  have := V.fn (φ := φ) (S := S) (w := w) f [] [] rfl (fun i c v h => by simp at h)
  simpa using this

theorem V_ofConst {φ : Phi} {S : Cells} {w : World} (v : Value) : V φ S w (ofConst v) v := by
  unfold ofConst
  split
  · rename_i cs
    refine V.agg' ⟨by simp, fun i c v h1 h2 => ?_⟩
    simp only [List.getElem?_map, Option.map_eq_some_iff] at h1
    obtain ⟨u, h3, rfl⟩ := h1
    rw [h2] at h3
    injection h3 with h3
    subst h3
    exact V_ofVal _
  · exact V_ofVal _

def GlobOk (ng : Nat) (φ : Phi) : Prop := ∀ g, g < ng → ∃ t, φ g = some (.obj g 0 t)

/-- The slots of a frame. -/
def VT (φ : Phi) (S : Cells) (w : World) (ρ : Tmps) (a : Act) : Prop := ∀ t, V φ S w (ρ t) (a.tmps.getD t Go.undef)

theorem VT.eval {ng : Nat} {φ : Phi} {S : Cells} {w : World} {ρ : Tmps} {a : Act} (h : VT φ S w ρ a) (hg : GlobOk ng φ) (x : Operand) : V φ S w (evalOp ng ρ x) (a.eval x) := by
  cases x with
  | tmp t => exact h t
  | const v => exact V_ofConst v
  | global g =>
    simp only [evalOp, Act.eval]
    split
    · rename_i hlt
      obtain ⟨t, ht⟩ := hg g hlt
      exact .ptr g 0 g 0 t ht
    · exact .undef _
  | func f =>
    have := V.fn (φ := φ) (S := S) (w := w) f [] [] rfl (fun i c v h => by simp at h)
    simpa [evalOp, Act.eval] using this

theorem VT.evalL {ng : Nat} {φ : Phi} {S : Cells} {w : World} {ρ : Tmps} {a : Act} (h : VT φ S w ρ a) (hg : GlobOk ng φ) (xs : List Operand) :
    VL φ S w (xs.map (evalOp ng ρ)) (xs.map a.eval) :=
  ⟨by simp, fun i c v h1 h2 => by
    simp only [List.getElem?_map, Option.map_eq_some_iff] at h1 h2
    obtain ⟨x, h3, rfl⟩ := h1
    obtain ⟨y, h4, rfl⟩ := h2
    rw [h3] at h4
    injection h4 with h4
    subst h4
    exact h.eval hg x⟩

theorem VT.mono {φ φ' : Phi} {S S' : Cells} {w w' : World} {ρ : Tmps} {a : Act} (h : VT φ S w ρ a) (hφ : ∀ i l, φ i = some l → φ' i = some l)
    (hS : ∀ b k, S b k → S' b k ∧ at_ w' b k = at_ w b k) : VT φ' S' w' ρ a := fun t => (h t).mono hφ hS

theorem VT.put {φ : Phi} {S : Cells} {w : World} {ρ : Tmps} {a : Act} (h : VT φ S w ρ a) {d : Option Nat} {v : AV} {v' : Value} (hv : V φ S w v v')
    (hd : ∀ t, d = some t → t < a.tmps.size) : VT φ S w (ρ.put d v) (a.put d v') := by
  intro t
  cases d with
  | none => exact h t
  | some u =>
    simp only [Tmps.put, Tmps.set, Act.put]
    by_cases e : t = u
    · subst e
      simp [hd t rfl, hv]
    · simp only [e, if_false]
      have := h t
      simpa [Array.getElem?_setIfInBounds_ne (Ne.symm e)] using this

/-- A world that has grown: all that was there is as it was. -/
structure Grow (S : Cells) (w : World) (S' : Cells) (w' : World) : Prop where
  old : ∀ (b : Nat) (o : Go.Obj), w.heap[b]? = some o → w'.heap[b]? = some o
  size : w.heap.size ≤ w'.heap.size
  os : w'.os = w.os
  output : w'.output = w.output
  s : ∀ b k, S b k → S' b k
  sb : ∀ b k, S' b k → S b k ∨ (w.heap.size ≤ b ∧ ∃ v, at_ w' b k = some v)

theorem Grow.refl (S : Cells) (w : World) : Grow S w S w := ⟨fun _ _ h => h, Nat.le_refl _, rfl, rfl, fun _ _ h => h, fun _ _ h => .inl h⟩

theorem Grow.at {S S' : Cells} {w w' : World} (h : Grow S w S' w') {b k : Nat} {v : Value} (hv : at_ w b k = some v) : at_ w' b k = some v := by
  obtain ⟨c, e, fr, h1, h2⟩ := at_eq hv
  rw [at_of (h.old b _ h1), h2]

theorem Grow.keeps {S S' : Cells} {w w' : World} (h : Grow S w S' w') (X : Cells) : Keeps X w w' :=
  ⟨h.size, fun b c e fr hb => ⟨c, h.old b _ hb, rfl, fun _ _ => rfl⟩, fun b o hb _ _ => h.old b o hb, h.os, h.output⟩

theorem Grow.vmono {S S' : Cells} {w w' : World} (h : Grow S w S' w') (hA : ∀ b k, S b k → ∃ v, at_ w b k = some v) : ∀ b k, S b k → S' b k ∧ at_ w' b k = at_ w b k := fun b k hs => by
  obtain ⟨v, hv⟩ := hA b k hs
  exact ⟨h.s b k hs, by rw [hv, h.at hv]⟩

theorem has_lt {φ : Phi} {S : Cells} {G : Nat → Option Obj} {w : World} (h : StG φ S G w) {b k : Nat} (hm : MG φ G b k) : b < w.heap.size := by
  obtain ⟨i, o, l, h1, h2, h3⟩ := hm
  have := h.obj i o l h1 h2
  cases o with
  | cells cs =>
    cases l with
    | obj b' base total =>
      obtain ⟨-, ⟨c, e, hb, -⟩, -⟩ := this
      rw [h3.1]; exact lt_of_heap hb
    | _ => exact this.elim
  | tok =>
    cases l with
    | tok b' s n =>
      obtain ⟨c, e, hb, -⟩ := this
      rw [h3.1]; exact lt_of_heap hb
    | _ => exact this.elim
  | map es =>
    cases l with
    | map b' =>
      obtain ⟨ms, k', hb, -⟩ := this
      have : b = b' := h3
      rw [this]; exact lt_of_heap hb
    | _ => exact this.elim

theorem ObjOk.mono {φ φ' : Phi} {S S' : Cells} {w w' : World} (hφ : ∀ i l, φ i = some l → φ' i = some l) (hS : ∀ b k, S b k → S' b k ∧ at_ w' b k = at_ w b k)
    {o : Obj} {l : Loc} (hm : ∀ b : Nat, ∀ ob : Go.Obj, (∀ c e fr, ob ≠ .cells c e fr) → l.has b 0 → w.heap[b]? = some ob → w'.heap[b]? = some ob)
    (hw : ∀ b s n, Writable w b s n → Writable w' b s n) (hc : ∀ b k v, l.has b k → at_ w b k = some v → at_ w' b k = some v)
    (h : ObjOk φ S w o l) : ObjOk φ' S' w' o l := by
  cases o with
  | cells cs =>
    cases l with
    | obj b base total =>
      obtain ⟨h1, h2, h3⟩ := h
      refine ⟨h1, hw _ _ _ h2, fun j c hj => ?_⟩
      obtain ⟨v, h4, h5⟩ := h3 j c hj
      have : j < cs.length := (List.getElem?_eq_some_iff.1 hj).1
      exact ⟨v, hc _ _ _ ⟨rfl, by omega, by omega⟩ h4, h5.mono hφ hS⟩
    | _ => exact h.elim
  | tok =>
    cases l with
    | tok b s n => exact hw _ _ _ h
    | _ => exact h.elim
  | map es =>
    cases l with
    | map b =>
      obtain ⟨ms, k, h1, h2, h3⟩ := h
      exact ⟨ms, k, hm b _ (by simp) rfl h1, h2, fun i x m h4 h5 => ⟨(h3 i x m h4 h5).1.mono hφ hS, (h3 i x m h4 h5).2.1.mono hφ hS, (h3 i x m h4 h5).2.2⟩⟩
    | _ => exact h.elim

theorem Grow.writable {S S' : Cells} {w w' : World} (h : Grow S w S' w') {b s n : Nat} (hw : Writable w b s n) : Writable w' b s n := by
  obtain ⟨c, e, h1, h2⟩ := hw
  exact ⟨c, e, h.old b _ h1, h2⟩

/-- The state behind a growth. -/
theorem StG.grow {φ : Phi} {S S' : Cells} {G : Nat → Option Obj} {w w' : World} (h : StG φ S G w) (hg : Grow S w S' w') : StG φ S' G w' := by
  refine ⟨fun i o l h1 h2 => (h.obj i o l h1 h2).mono (fun _ _ h => h) (hg.vmono h.sA) (fun b ob _ _ hb => hg.old b ob hb) (fun _ _ _ => hg.writable) (fun _ _ _ _ => hg.at),
    h.disj, fun b k hs hm => ?_, fun b k hs => ?_⟩
  · rcases hg.sb b k hs with h1 | ⟨h1, -⟩
    · exact h.sM b k h1 hm
    · have := has_lt h hm; omega
  · rcases hg.sb b k hs with h1 | ⟨-, h1⟩
    · obtain ⟨v, hv⟩ := h.sA b k h1; exact ⟨v, hg.at hv⟩
    · exact h1

theorem Grow.step {φ : Phi} {S S' : Cells} {w w' : World} (hg : Grow S w S' w') (H : Heap) : Step φ S H w φ S' H w' :=
  ⟨fun _ _ h => h, fun _ h => absurd rfl h, hg.s, hg.keeps _, fun _ _ h => .inl h, fun b k h => (hg.sb b k h).imp id fun h => .inr h.1, Nat.le_refl _⟩

/-- One block more, whose cells stay. -/
theorem grow_row (S : Cells) (w : World) (c : Array Value) (e : TypeId) (fr : Nat × Nat) :
    Grow S w (fun b k => S b k ∨ (b = w.heap.size ∧ k < c.size)) { w with heap := w.heap.push (.cells c e fr) } := by
  refine ⟨fun b o h => ?_, by simp, rfl, rfl, fun b k h => .inl h, fun b k h => ?_⟩
  · have := lt_of_heap h
    simp [Array.getElem?_push_lt this]
    simpa [Array.getElem?_eq_getElem this] using h
  · rcases h with h | ⟨h1, h2⟩
    · exact .inl h
    · subst h1
      refine .inr ⟨Nat.le_refl _, c[k], ?_⟩
      rw [at_of (c := c) (e := e) (fr := fr) (by simp)]
      simp [h2]

theorem at_push_row (w : World) (c : Array Value) (e : TypeId) (fr : Nat × Nat) (k : Nat) :
    at_ { w with heap := w.heap.push (.cells c e fr) } w.heap.size k = c[k]? := at_of (e := e) (fr := fr) (by simp)

theorem grow_draw (S : Cells) (w : World) (n : Nat) : Grow S w S { w with drawn := n } := ⟨fun _ _ h => h, Nat.le_refl _, rfl, rfl, fun _ _ h => h, fun _ _ h => .inl h⟩

theorem Grow.trans {S S' S'' : Cells} {w w' w'' : World} (h : Grow S w S' w') (h' : Grow S' w' S'' w'') : Grow S w S'' w'' := by
  refine ⟨fun b o hb => h'.old b o (h.old b o hb), Nat.le_trans h.size h'.size, h'.os.trans h.os, h'.output.trans h.output, fun b k hs => h'.s b k (h.s b k hs), fun b k hs => ?_⟩
  rcases h'.sb b k hs with h1 | ⟨h1, h2⟩
  · rcases h.sb b k h1 with h3 | ⟨h3, v, h4⟩
    · exact .inl h3
    · exact .inr ⟨h3, v, h'.at h4⟩
  · exact .inr ⟨Nat.le_trans h.size h1, h2⟩

end Go.Am

/- AM against the model: operations that leave the heap's variables alone. -/
namespace Go.Am
open Go

theorem one_ne {v : AV} (h : v.cells.all AV.one = true) : v ≠ .undef := by
  rintro rfl
  simp [AV.cells, AV.one] at h

theorem V.cells1 {φ : Phi} {S : Cells} {w : World} {a : AV} {v : Value} (h : V φ S w a v) (ho : a.cells.all AV.one = true) : VL φ S w a.cells v.cells.toList := h.cells (one_ne ho)

/-! ### build -/

theorem foldl_set (off : Nat) : ∀ (l A M B : List Value) (j : Nat) (cs : Array Value), cs.toList = A ++ M ++ B → A.length = off + j → M.length = l.length →
    ((l.zipIdx j).foldl (fun cs (p : Value × Nat) => cs.setIfInBounds (off + p.2) p.1) cs).toList = A ++ l ++ B
  | [], A, M, B, j, cs, h, _, hm => by
    have : M = [] := List.eq_nil_of_length_eq_zero (by simpa using hm)
    subst this
    simpa using h
  | x :: l, A, [], B, j, cs, h, ha, hm => by simp at hm
  | x :: l, A, m :: M, B, j, cs, h, ha, hm => by
    rw [List.zipIdx_cons, List.foldl_cons]
    have := foldl_set off l (A ++ [x]) M B (j + 1) (cs.setIfInBounds (off + j) x) (by simp [h, ← ha]) (by simp [ha]; omega) (by simpa using hm)
    simpa using this

theorem foldl_set0 (l : Array Value) (off : Nat) (cs : Array Value) (h : off + l.size ≤ cs.size) :
    (l.zipIdx.foldl (fun cs (p : Value × Nat) => cs.setIfInBounds (off + p.2) p.1) cs).toList = cs.toList.take off ++ l.toList ++ cs.toList.drop (off + l.size) := by
  have h1 : cs.toList = cs.toList.take off ++ (cs.toList.drop off).take l.size ++ cs.toList.drop (off + l.size) := by
    rw [← List.drop_drop, List.append_assoc, List.take_append_drop, List.take_append_drop]
  have := foldl_set off l.toList _ _ _ 0 cs h1 (by simp; omega) (by simp; omega)
  rw [← Array.foldl_toList, Array.toList_zipIdx]
  exact this

theorem over_sound {φ : Phi} {S : Cells} {w : World} {cs vs cs' : List AV} {ws us : List Value} {off : Nat} (h : VL φ S w cs ws) (hv : VL φ S w vs us) (ho : over cs off vs = some cs') :
    off + us.length ≤ ws.length ∧ VL φ S w cs' (ws.take off ++ us ++ ws.drop (off + us.length)) := by
  unfold over at ho
  split at ho
  · rename_i hle
    injection ho with ho
    subst ho
    refine ⟨by rw [← hv.1, ← h.1]; exact hle, ?_⟩
    rw [hv.1]
    exact ((h.take off).append hv).append (h.drop _)
  · simp at ho

theorem fill_sound {φ : Phi} {S : Cells} {w : World} {pa : Nat → Option (Nat × Nat)} {pv : Nat → Option (Nat × Nat)} (hp : ∀ i x, pa i = some x → pv i = some x) :
    ∀ (ps : List (Nat × AV)) (qs : List (Nat × Value)) (cs cs' : List AV) (ws : Array Value), ps.map (·.1) = qs.map (·.1) → VL φ S w (ps.map (·.2)) (qs.map (·.2)) →
    VL φ S w cs ws.toList → fillCells pa cs ps = some cs' → ∃ ws', Instr.fill pv ws qs = some ws' ∧ VL φ S w cs' ws'.toList
  | [], [], cs, cs', ws, _, _, hw, hf => by simp [fillCells] at hf; subst hf; exact ⟨ws, rfl, hw⟩
  | [], _ :: _, _, _, _, h, _, _, _ => by simp at h
  | _ :: _, [], _, _, _, h, _, _, _ => by simp at h
  | (i, v) :: ps, (j, u) :: qs, cs, cs', ws, hi, hv, hw, hf => by
    simp at hi
    obtain ⟨rfl, hi⟩ := hi
    have h1 : V φ S w v u := hv.2 0 v u rfl rfl
    have h2 : VL φ S w (ps.map (·.2)) (qs.map (·.2)) := ⟨by simpa using hv.1, fun k c x hc hx => hv.2 (k + 1) c x (by simpa using hc) (by simpa using hx)⟩
    simp only [fillCells] at hf
    cases hpi : pa i with
    | none => simp [hpi] at hf
    | some x =>
      obtain ⟨off, size⟩ := x
      simp only [hpi] at hf
      split at hf
      · rename_i hc
        obtain ⟨hc1, hc2⟩ := hc
        have hvc := h1.cells1 hc2
        simp only [Option.bind_eq_some_iff] at hf
        obtain ⟨cs1, ho, hf⟩ := hf
        obtain ⟨hle, hw1⟩ := over_sound hw hvc.freeze ho
        simp only [Array.length_toList] at hle
        have hsz : u.cells.size = size := by rw [← hc1, hvc.1]; simp
        have hfold := foldl_set0 u.cells off ws hle
        obtain ⟨ws', h3, h4⟩ := fill_sound hp ps qs cs1 cs' (u.cells.zipIdx.foldl (fun cs (p : Value × Nat) => cs.setIfInBounds (off + p.2) p.1) ws) hi h2
          (by rw [hfold]; simpa using hw1) hf
        refine ⟨ws', ?_, h4⟩
        simp only [Instr.fill, hp i _ hpi]
        rw [if_neg (by simp [hsz]; omega)]
        exact h3
      · simp at hf

/-! ### buildSlice -/

theorem flatten_length {es : List (List AV)} {sz : Nat} (h : ∀ e ∈ es, e.length = sz) : es.flatten.length = es.length * sz := by
  induction es with
  | nil => simp
  | cons e es ih =>
    simp only [List.flatten_cons, List.length_append, List.length_cons]
    rw [h e (by simp), ih fun x hx => h x (by simp [hx]), Nat.add_mul]
    omega

theorem flatten_get {es : List (List AV)} {sz : Nat} (h : ∀ e ∈ es, e.length = sz) {i : Nat} {e : List AV} {j : Nat} {c : AV} (he : es[i]? = some e) (hc : e[j]? = some c) :
    es.flatten[i * sz + j]? = some c := by
  induction es generalizing i with
  | nil => simp at he
  | cons x es ih =>
    have hx : x.length = sz := h x (by simp)
    cases i with
    | zero =>
      simp at he
      subst he
      have : j < x.length := (List.getElem?_eq_some_iff.1 hc).1
      simp only [List.flatten_cons, Nat.zero_mul, Nat.zero_add]
      rw [List.getElem?_append_left this, hc]
    | succ i =>
      simp only [List.getElem?_cons_succ] at he
      simp only [List.flatten_cons]
      rw [List.getElem?_append_right (by rw [hx, Nat.add_mul]; omega)]
      have e1 : (i + 1) * sz + j - x.length = i * sz + j := by rw [hx, Nat.add_mul]; omega
      rw [e1]
      exact ih (fun y hy => h y (by simp [hy])) he

theorem flatten_set {es : List (List AV)} {sz : Nat} (h : ∀ e ∈ es, e.length = sz) {i : Nat} (hi : i < es.length) (e : List AV) (he : e.length = sz) :
    (es.set i e).flatten = es.flatten.take (i * sz) ++ e ++ es.flatten.drop (i * sz + sz) := by
  induction es generalizing i with
  | nil => simp at hi
  | cons x es ih =>
    have hx : x.length = sz := h x (by simp)
    cases i with
    | zero => simp [hx]
    | succ i =>
      simp only [List.set_cons_succ, List.flatten_cons]
      rw [ih (fun y hy => h y (by simp [hy])) (by simpa using hi)]
      have e1 : (i + 1) * sz = x.length + i * sz := by rw [hx, Nat.add_mul]; omega
      rw [e1, List.take_length_add_append, Nat.add_assoc, List.drop_length_add_append]
      simp

theorem set_len {es : List (List AV)} {sz : Nat} (h : ∀ e ∈ es, e.length = sz) (i : Nat) {e : List AV} (he : e.length = sz) : ∀ x ∈ es.set i e, x.length = sz := fun x hx => by
  rcases List.mem_or_eq_of_mem_set hx with h1 | h1
  · exact h x h1
  · exact h1 ▸ he

theorem fillElems_sound {φ : Phi} {S : Cells} {w : World} {sz : Nat} :
    ∀ (ps : List (Nat × AV)) (qs : List (Nat × Value)) (es es' : List (List AV)) (ws : Array Value), ps.map (·.1) = qs.map (·.1) → VL φ S w (ps.map (·.2)) (qs.map (·.2)) →
    (∀ e ∈ es, e.length = sz) → VL φ S w es.flatten ws.toList → fillElems sz es ps = some es' →
    ∃ ws', Instr.fill (fun i => some (i * sz, sz)) ws qs = some ws' ∧ VL φ S w es'.flatten ws'.toList ∧ (∀ e ∈ es', e.length = sz) ∧ es'.length = es.length
  | [], [], es, es', ws, _, _, hz, hw, hf => by simp [fillElems] at hf; subst hf; exact ⟨ws, rfl, hw, hz, rfl⟩
  | [], _ :: _, _, _, _, h, _, _, _, _ => by simp at h
  | _ :: _, [], _, _, _, h, _, _, _, _ => by simp at h
  | (i, v) :: ps, (j, u) :: qs, es, es', ws, hi, hv, hz, hw, hf => by
    simp at hi
    obtain ⟨rfl, hi⟩ := hi
    have h1 : V φ S w v u := hv.2 0 v u rfl rfl
    have h2 : VL φ S w (ps.map (·.2)) (qs.map (·.2)) := ⟨by simpa using hv.1, fun k c x hc hx => hv.2 (k + 1) c x (by simpa using hc) (by simpa using hx)⟩
    simp only [fillElems] at hf
    split at hf
    · rename_i hc
      obtain ⟨hc0, hc1, hc2⟩ := hc
      have hvc := h1.cells1 hc2
      have hsz : u.cells.size = sz := by rw [← hc1, hvc.1]; simp
      have hlen := flatten_length hz
      have hwl : ws.size = es.length * sz := by have := hw.1; simp at this; rw [← this, ← hlen]; simp
      have hle : i * sz + u.cells.size ≤ ws.size := by
        rw [hsz, hwl]
        have : (i + 1) * sz ≤ es.length * sz := Nat.mul_le_mul_right _ hc0
        rw [Nat.add_mul] at this
        omega
      have hfz : (freezeL v.cells).length = sz := by simp [freezeL, hc1]
      have hfold := foldl_set0 u.cells (i * sz) ws hle
      have hw1 : VL φ S w (es.set i (freezeL v.cells)).flatten (u.cells.zipIdx.foldl (fun cs (p : Value × Nat) => cs.setIfInBounds (i * sz + p.2) p.1) ws).toList := by
        rw [hfold, flatten_set hz hc0 _ hfz, hsz]
        exact ((hw.take _).append hvc.freeze).append (hw.drop _)
      obtain ⟨ws', h3, h4, h5, h6⟩ := fillElems_sound ps qs (es.set i (freezeL v.cells)) es' _ hi h2 (set_len hz i hfz) hw1 hf
      refine ⟨ws', ?_, h4, h5, by simpa using h6⟩
      simp only [Instr.fill]
      rw [if_neg (by simp [hsz]; omega)]
      exact h3
    · simp at hf

theorem range_zero (z : Array Value) (n : Nat) (hz : 0 < z.size) : ((Array.range (n * z.size)).map (fun i => z[i % z.size]!)).toList = (List.replicate n z.toList).flatten := by
  induction n with
  | zero => simp
  | succ n ih =>
    rw [List.replicate_succ', List.flatten_append, ← ih]
    apply List.ext_getElem?
    intro i
    simp only [List.flatten_cons, List.flatten_nil, List.append_nil]
    by_cases h1 : i < n * z.size
    · rw [List.getElem?_append_left (by simpa using h1)]
      have h2 : i < (n + 1) * z.size := by rw [Nat.add_mul]; omega
      simp [h1, h2]
    · rw [List.getElem?_append_right (by simpa using h1)]
      by_cases h2 : i < (n + 1) * z.size
      · have h3 : i - n * z.size < z.size := by rw [Nat.add_mul] at h2; omega
        have h4 : i % z.size = i - n * z.size := by
          have e : i = (i - n * z.size) + z.size * n := by rw [Nat.mul_comm z.size n]; omega
          rw [e, Nat.add_mul_mod_self_left, Nat.mod_eq_of_lt h3]
          rw [← e]
        simp [h2, h3, h4]
      · have h3 : ¬ i - n * z.size < z.size := by rw [Nat.add_mul] at h2; omega
        simp [h2, h3]

end Go.Am

/- AM against the model: each operation that is pure. -/
namespace Go.Am
open Go

variable {E : Env} {c : Bool} {o : Oper} {ρ : Tmps} {H H' : Heap} {v : AV} {φ : Phi} {S : Cells} {w : World} {a : Act}

/-- A pure operation did it. -/
def Did (E : Env) (o : Oper) (a : Act) (φ : Phi) (S : Cells) (w : World) (v : AV) : Prop :=
  ∃ v' S' w', (execOp a.eval o).run E.P w = .ok (.value v') w' ∧ Grow S w S' w' ∧ V φ S' w' v v'

theorem Did.same {v' : Value} (h : (execOp a.eval o).run E.P w = .ok (.value v') w) (hv : V φ S w v v') : Did E o a φ S w v := ⟨v', S, w, h, .refl _ _, hv⟩

theorem Did.same' {v' : Value} (hv : V φ S w v v') (h : (execOp a.eval o).run E.P w = .ok (.value v') w) : Did E o a φ S w v := ⟨v', S, w, h, .refl _ _, hv⟩

theorem V.int_inv {k : IntKind} {n : Int} {x : Value} (h : V φ S w (.int k n) x) : x = .int k n := by cases h; rfl
theorem V.bool_inv {b : Bool} {x : Value} (h : V φ S w (.bool b) x) : x = .bool b := by cases h; rfl
theorem V.str_inv {s : List UInt8} {x : Value} (h : V φ S w (.str s) x) : ∃ b : ByteArray, x = .string b ∧ b.data.toList = s := by cases h; exact ⟨_, rfl, rfl⟩
theorem V.nilS_inv {x : Value} (h : V φ S w .nilS x) : x = .slice none 0 0 := by cases h; rfl
theorem V.ifc_inv {t : TypeId} {u : AV} {x : Value} (h : V φ S w (.ifc t u) x) : ∃ y, x = .iface t y ∧ V φ S w u y := by cases h with | ifc _ _ v' h => exact ⟨v', rfl, h⟩
theorem V.tup_inv {vs : List AV} {x : Value} (h : V φ S w (.tup vs) x) : ∃ ys : List Value, x = .tuple ys.toArray ∧ VL φ S w vs ys := by cases h with | tup _ ys h1 h2 => exact ⟨ys, rfl, h1, h2⟩

theorem asNat_inv {x : AV} {y : Value} {n : Nat} (h : asNat x = some n) (hv : V φ S w x y) : ∃ k, y = .int k n := by
  cases x <;> simp [asNat] at h
  rename_i k m
  obtain ⟨h1, rfl⟩ := h
  exact ⟨k, by rw [hv.int_inv, Int.toNat_of_nonneg h1]⟩

theorem zeroOf_inv {P : Program} {t : TypeId} {z : AV} (h : zeroOf P t = some z) : ∃ i v, P.info? t = some i ∧ i.zero = some v ∧ z = ofConst v := by
  simp only [zeroOf, Option.map_eq_some_iff, Option.bind_eq_some_iff] at h
  obtain ⟨v, ⟨i, h1, h2⟩, h3⟩ := h
  exact ⟨i, v, h1, h2, h3.symm⟩

theorem sizeOf_inv {P : Program} {t : TypeId} {n : Nat} (h : sizeOf P t = some n) : ∃ i, P.info? t = some i ∧ i.size = n := by
  simp only [sizeOf, Option.map_eq_some_iff] at h
  exact h

theorem elemOf_inv {P : Program} {t e : TypeId} (h : elemOf P t = some e) : P.underlying t = some (.slice e) := by
  unfold elemOf at h
  split at h <;> simp_all

theorem run_zeroValue {P : Program} {t : TypeId} {i : TypeInfo} {z : Value} (h : P.info? t = some i) (hz : i.zero = some z) (w : World) : (zeroValue t).run P w = .ok z w := by
  simp [zeroValue, typeInfo, h, hz, Result.andThen]
theorem run_sizeOf' {P : Program} {t : TypeId} {i : TypeInfo} (h : P.info? t = some i) (w : World) : (Go.sizeOf t).run P w = .ok i.size w := by
  simp [Go.sizeOf, typeInfo, h, Result.andThen]

theorem did_move {x : Operand} (ho : o.op = .move x ∨ o.op = .assign x) (hs : aop E c o ρ H = some (v, H', .pure)) (hr : VT φ S w ρ a) (hg : GlobOk E.ng φ) : H' = H ∧ Did E o a φ S w v := by
  have h2 := hr.eval hg x
  rcases ho with ho | ho <;>
  · simp only [aop, ho, Option.some.injEq, Prod.mk.injEq] at hs
    obtain ⟨rfl, rfl, -⟩ := hs
    exact ⟨rfl, .same (by simp [execOp, ho]) h2⟩

theorem did_pick {x y z : Operand} (ho : o.op = .pick x y z) (hs : aop E c o ρ H = some (v, H', .pure)) (hr : VT φ S w ρ a) (hg : GlobOk E.ng φ) : H' = H ∧ Did E o a φ S w v := by
  simp only [aop, ho] at hs
  have hx := hr.eval hg x
  cases hb : evalOp E.ng ρ x <;> simp only [hb] at hs <;> try (cases hs; done)
  rename_i b
  rw [hb] at hx
  simp only [Option.some.injEq, Prod.mk.injEq] at hs
  obtain ⟨rfl, rfl, -⟩ := hs
  refine ⟨rfl, .same (v' := if b then a.eval y else a.eval z) (by simp [execOp, ho, hx.bool_inv, asBool]) ?_⟩
  split
  · exact hr.eval hg y
  · exact hr.eval hg z

theorem did_box {t : TypeId} {x : Operand} (ho : o.op = .box t x) (hs : aop E c o ρ H = some (v, H', .pure)) (hr : VT φ S w ρ a) (hg : GlobOk E.ng φ)
    (hA : ∀ b k, S b k → ∃ v, at_ w b k = some v) : H' = H ∧ Did E o a φ S w v := by
  simp only [aop, ho] at hs
  have hx := hr.eval hg x
  split at hs
  · rename_i h1
    split at hs
    · simp only [Option.some.injEq, Prod.mk.injEq] at hs
      obtain ⟨rfl, rfl, -⟩ := hs
      refine ⟨rfl, .pointer (some ⟨w.heap.size, 0, none⟩), _, _, ?_, grow_row S w (a.eval x).cells t (0, 0), ?_⟩
      · simp [execOp, ho, Instr.box, newVar, newRow, Result.andThen]
      · have hc := (hx.cells1 h1).freeze.mono (fun _ _ h => h) ((grow_row S w (a.eval x).cells t (0, 0)).vmono hA)
        refine .ref _ _ _ (fun j => (a.eval x).cells.toList.getD j Go.undef) (fun j c hj => ?_) (fun j c hj => ?_)
        · obtain ⟨u, hu, -⟩ := hc.get hj
          have hlt : j < (a.eval x).cells.size := by simpa using (List.getElem?_eq_some_iff.1 hu).1
          refine ⟨.inr ⟨rfl, by simpa using hlt⟩, ?_⟩
          rw [at_push_row]
          simp [hlt]
        · obtain ⟨u, hu, hv⟩ := hc.get hj
          have : (a.eval x).cells.toList.getD j Go.undef = u := by rw [List.getD_eq_getElem?_getD, hu]; rfl
          rw [this]; exact hv
    · simp at hs
  · simp at hs

theorem parts_fst (ng : Nat) (ps : Array (Nat × Operand)) : (ps.toList.map fun (i, x) => (i, evalOp ng ρ x)).map (·.1) = (ps.map fun (i, x) => (i, a.eval x)).toList.map (·.1) := by simp [Function.comp_def]
theorem parts_snd {ng : Nat} (hr : VT φ S w ρ a) (hg : GlobOk ng φ) (ps : Array (Nat × Operand)) :
    VL φ S w ((ps.toList.map fun (i, x) => (i, evalOp ng ρ x)).map (·.2)) ((ps.map fun (i, x) => (i, a.eval x)).toList.map (·.2)) := by
  have := hr.evalL hg (ps.toList.map (·.2))
  simpa [Function.comp_def] using this

theorem V.cells0 {z : Value} (hz : z.cells.size ≠ 1 ∨ True) : ∃ l, (ofConst z).cells = l ∧ (∀ φ S w, VL φ S w l z.cells.toList) := by
  refine ⟨_, rfl, fun φ S w => ?_⟩
  by_cases h : ofConst z = .undef
  · rw [h]
    cases z <;> simp [ofConst, ofVal] at h <;> try (simp only [AV.cells, Value.cells]; exact VL.one (.undef _))
  · exact (V_ofConst z).cells h

theorem zero_cells (z : Value) : VL φ S w (ofConst z).cells z.cells.toList := by
  obtain ⟨l, rfl, h⟩ := V.cells0 (z := z) (.inr trivial)
  exact h φ S w

theorem did_build {t : TypeId} {ps : Array (Nat × Operand)} (ho : o.op = .build t ps) (hs : aop E c o ρ H = some (v, H', .pure)) (hr : VT φ S w ρ a) (hg : GlobOk E.ng φ) : H' = H ∧ Did E o a φ S w v := by
  simp only [aop, ho] at hs
  split at hs
  · rename_i z fs hz hu
    split at hs
    · rename_i places hp
      simp only [Option.map_eq_some_iff] at hs
      obtain ⟨u, ⟨cs, h1, rfl⟩, h2⟩ := hs
      simp only [Prod.mk.injEq] at h2
      obtain ⟨rfl, rfl, -⟩ := h2
      obtain ⟨it, zv, h3, h4, rfl⟩ := zeroOf_inv hz
      obtain ⟨ws, h5, h6⟩ := fill_sound (pv := (places.toArray[·]?)) (fun i x h => by simpa using h) _ _ _ _ _ (parts_fst (a := a) E.ng ps) (parts_snd hr hg ps) (zero_cells zv) h1
      have hb : E.P.built t (ps.map fun (i, x) => (i, a.eval x)).toList = some ws := by
        simp only [Program.built, h3, hu, h4, hp]
        exact h5
      exact ⟨rfl, .same (v' := .agg ws) (by simp [execOp, ho, run_build w t _ ws hb, Result.andThen]) (V.agg' h6)⟩
    · simp at hs
  · simp at hs

theorem did_buildSlice {t : TypeId} {n : Nat} {ps : Array (Nat × Operand)} (ho : o.op = .buildSlice t n ps) (hs : aop E c o ρ H = some (v, H', .pure)) (hr : VT φ S w ρ a) (hg : GlobOk E.ng φ)
    (hA : ∀ b k, S b k → ∃ v, at_ w b k = some v) : H' = H ∧ Did E o a φ S w v := by
  simp only [aop, ho] at hs
  split at hs
  · rename_i z sz hz
    simp only [Option.bind_eq_some_iff, Option.map_eq_some_iff, Prod.mk.injEq] at hz
    obtain ⟨e, he, z', hz', sz', hsz, rfl, rfl⟩ := hz
    have hu := elemOf_inv he
    obtain ⟨it, zv, h3, h4, rfl⟩ := zeroOf_inv hz'
    obtain ⟨it', h3', h5⟩ := sizeOf_inv hsz
    rw [h3] at h3'
    injection h3' with h3'
    subst h3'
    split at hs
    · rename_i hc
      obtain ⟨hc1, hc2, hc3, hc4⟩ := hc
      simp only [Option.map_eq_some_iff] at hs
      obtain ⟨es, h6, h7⟩ := hs
      split at h7
      · simp at h7
      · simp only [Prod.mk.injEq] at h7
        obtain ⟨rfl, rfl, -⟩ := h7
        have hzc := zero_cells (φ := φ) (S := S) (w := w) zv
        have hzl : zv.cells.size = sz' := by rw [← hc2, hzc.1]; simp
        have hs0 : sz' ≠ 0 := by omega
        · have hfl : VL φ S w (rep n (ofConst zv).cells).flatten (((Array.range (n * sz')).map (fun i => zv.cells[i % zv.cells.size]!)).toList) := by
            rw [← hzl, range_zero zv.cells n (by omega)]
            simp only [rep]
            clear hc1 hc3 h6 ho
            induction n with
            | zero => exact VL.nil
            | succ n ih => simp only [List.replicate_succ, List.flatten_cons]; exact hzc.append ih
          obtain ⟨ws, h8, h9, h10, h11⟩ := fillElems_sound (sz := sz') _ _ _ _ _ (parts_fst (a := a) E.ng ps) (parts_snd hr hg ps)
            (fun e he => by simp only [rep] at he; rw [List.eq_of_mem_replicate he, hc2]) hfl h6
          have hel : es.length = n := by rw [h11]; simp [rep]
          refine ⟨rfl, .slice (some ⟨w.heap.size, 0, none⟩) n n, _, _, ?_, grow_row S w ws e (0, 0), ?_⟩
          · simp only [execOp, ho, Instr.buildSlice, Sem.run_bind, run_underlying hu, Result.andThen, run_sizeOf' h3, h5]
            rw [if_neg (by omega)]
            have : n * sz' ≠ 0 := Nat.mul_ne_zero (by omega) hs0
            simp only [this, if_false]
            simp [run_zeroValue h3 h4, Result.andThen, newRow]
            have h8' := h8
            simp at h8'
            rw [h8']
            rfl
          · have hm := h9.mono (fun _ _ h => h) ((grow_row S w ws e (0, 0)).vmono hA)
            rw [← hel]
            refine .list es .full w.heap.size 0 es.length sz' (fun i j => ws.toList.getD (i * sz' + j) Go.undef) (Nat.le_refl _) h10 (fun i e j c h12 h13 => ?_) (fun i e j c h12 h13 => ?_) rfl
            · obtain ⟨u, hu, -⟩ := hm.get (flatten_get h10 h12 h13)
              have hlt : i * sz' + j < ws.size := by simpa using (List.getElem?_eq_some_iff.1 hu).1
              rw [Nat.zero_add, at_push_row]
              exact ⟨.inr ⟨rfl, hlt⟩, by simp [hlt]⟩
            · obtain ⟨u, hu, hv⟩ := hm.get (flatten_get h10 h12 h13)
              have : ws.toList.getD (i * sz' + j) Go.undef = u := by rw [List.getD_eq_getElem?_getD, hu]; rfl
              rw [this]; exact hv
    · split at hs
      · rename_i h0
        obtain ⟨rfl, hp⟩ := h0
        simp only [Option.some.injEq, Prod.mk.injEq] at hs
        obtain ⟨rfl, rfl, -⟩ := hs
        have hp' : ps = #[] := Array.eq_empty_of_size_eq_zero hp
        subst hp'
        refine ⟨rfl, .slice (some ⟨w.heap.size, 0, none⟩) 0 0, _, _, ?_, grow_row S w #[] e (0, 0), ?_⟩
        · have hr0 : ∀ (f : Nat → Value), (Array.range 0).map f = #[] := fun f => Array.eq_empty_of_size_eq_zero (by simp)
          simp [execOp, ho, Instr.buildSlice, run_underlying hu, Result.andThen, run_sizeOf' h3, Instr.fill, newRow]
          rw [hr0]
        · exact .list [] .full w.heap.size 0 0 1 (fun _ _ => Go.undef) (Nat.le_refl _) (by simp) (by simp) (by simp) rfl
      · simp at hs
  · simp at hs

theorem eqA_sound {P : Program} {t : TypeId} {x y : Operand} {ax ay : AV} {vx vy : Value} {r : Bool} (hr : eqA (P.underlying t) (isConst x || isConst y) ax ay = some r)
    (hx : V φ S w ax vx) (hy : V φ S w ay vy) : (eqGuard .eql t x y vx vy).run P w = .ok () w ∧
        (eqGuard .neq t x y vx vy).run P w = .ok () w ∧ (Op.equal t vx vy).run P w = .ok r w ∧
        (∀ op', (op' = .eql ∨ op' = .neq) → Go.binOp op' t vx vy = if op' = .eql then (do pure (.bool (← Op.equal t vx vy))) else (do pure (.bool (!(← Op.equal t vx vy))))) := by
  obtain ⟨dp, hd⟩ : ∃ d, ∀ a b, Op.equal t a b = Op.equalIn (d + 1) t a b := ⟨9999, fun _ _ => rfl⟩
  generalize hu : P.underlying t = d at hr
  unfold eqA at hr
  split at hr
  case h_20 =>
    split at hr
    · rename_i hk
      simp only [Option.some.injEq] at hr
      subst hr
      cases hx; cases hy
      refine ⟨?_, ?_, ?_, ?_⟩
      · cases x <;> cases y <;> simp_all [eqGuard, isConst]
      · cases x <;> cases y <;> simp_all [eqGuard, isConst]
      · rw [hd]; simp [Op.equalIn, run_underlying hu, Result.andThen]
      · rintro op' (rfl | rfl) <;> simp [Go.binOp]
    · simp at hr
  case h_21 => simp at hr
  all_goals
    simp only [Option.some.injEq] at hr
    subst hr
    cases hx; cases hy
    refine ⟨?_, ?_, ?_, ?_⟩
    · simp [eqGuard]
    · simp [eqGuard]
    · rw [hd]; simp [Op.equalIn, run_underlying hu, Result.andThen]
    · rintro op' (rfl | rfl) <;> simp [Go.binOp]

theorem did_binOp {op : BinOp} {t u : TypeId} {x y : Operand} (ho : o.op = .binOp op t x y u) (hs : aop E c o ρ H = some (v, H', .pure)) (hr : VT φ S w ρ a) (hg : GlobOk E.ng φ) : H' = H ∧ Did E o a φ S w v := by
  simp only [aop, ho] at hs
  have hx := hr.eval hg x
  have hy := hr.eval hg y
  generalize evalOp E.ng ρ x = ax at *
  generalize evalOp E.ng ρ y = ay at *
  split at hs
  case h_2 => split at hs <;> simp at hs
  rename_i r h1
  simp only [Option.some.injEq, Prod.mk.injEq] at hs
  obtain ⟨rfl, rfl, -⟩ := hs
  refine ⟨rfl, ?_⟩
  unfold bin at h1
  split at h1
  · rename_i r' h2
    injection h1 with h1
    subst h1
    unfold binA at h2
    split at h2
    · rename_i k n k' m
      have ex := hx.int_inv
      have ey := hy.int_inv
      split at h2
      · split at h2
        · cases h2
        · rename_i h0
          injection h2 with h2; subst h2
          exact .same' (.int _ _) (by simp [execOp, ho, ex, ey, eqGuard, Go.binOp, Op.shift, h0, Result.andThen])
      · split at h2
        · cases h2
        · rename_i h0
          injection h2 with h2; subst h2
          exact .same' (.int _ _) (by simp [execOp, ho, ex, ey, eqGuard, Go.binOp, Op.shift, h0, Result.andThen])
      · rename_i hn1 hn2
        split at h2
        · rename_i hk
          subst hk
          cases op <;> simp only [cmpInt, Option.map_some, Option.some.injEq] at h2 <;> try (cases h2; done)
          case quo =>
            split at h2
            · cases h2
            · rename_i h0
              injection h2 with h2; subst h2
              exact .same' (.int _ _) (by simp [execOp, ho, ex, ey, eqGuard, Go.binOp, Op.intDiv, h0, Result.andThen])
          case rem =>
            split at h2
            · cases h2
            · rename_i h0
              injection h2 with h2; subst h2
              exact .same' (.int _ _) (by simp [execOp, ho, ex, ey, eqGuard, Go.binOp, Op.intDiv, h0, Result.andThen])
          case add => subst h2; exact .same' (.int _ _) (by simp [execOp, ho, ex, ey, eqGuard, Go.binOp, Op.intArith, Result.andThen])
          case sub => subst h2; exact .same' (.int _ _) (by simp [execOp, ho, ex, ey, eqGuard, Go.binOp, Op.intArith, Result.andThen])
          case mul => subst h2; exact .same' (.int _ _) (by simp [execOp, ho, ex, ey, eqGuard, Go.binOp, Op.intArith, Result.andThen])
          case and => subst h2; exact .same' (.int _ _) (by simp [execOp, ho, ex, ey, eqGuard, Go.binOp, Op.intBits, Result.andThen])
          case or => subst h2; exact .same' (.int _ _) (by simp [execOp, ho, ex, ey, eqGuard, Go.binOp, Op.intBits, Result.andThen])
          case xor => subst h2; exact .same' (.int _ _) (by simp [execOp, ho, ex, ey, eqGuard, Go.binOp, Op.intBits, Result.andThen])
          case andNot => subst h2; exact .same' (.int _ _) (by simp [execOp, ho, ex, ey, eqGuard, Go.binOp, Op.intBits, Result.andThen])
          all_goals
            subst h2
            refine .same' (.bool _) ?_
            simp [execOp, ho, ex, ey, eqGuard, Go.binOp, Op.intCmp, Result.andThen]
            try rfl
        · simp at h2
    · rename_i s1 s2
      obtain ⟨b1, ex, e1⟩ := hx.str_inv
      obtain ⟨b2, ey, e2⟩ := hy.str_inv
      have hbq : (s1 == s2) = decide (s1 = s2) := by rw [Bool.eq_iff_iff]; simp
      cases op <;> simp only [Option.some.injEq] at h2 <;> try (cases h2; done)
      case add =>
        split at h2
        · rename_i hle
          injection h2 with h2; subst h2
          have hle' : b1.size + b2.size ≤ 9223372036854775807 := by
            have h3 : b1.size = s1.length := by rw [← e1]; simp
            have h4 : b2.size = s2.length := by rw [← e2]; simp
            omega
          refine .same (v' := .string (b1 ++ b2)) ?_ ?_
          · have : (Op.stringOp .add b1 b2).run E.P w = .ok (.string (b1 ++ b2)) w := run_string_add_sum (P := E.P) (w := w) b1 b2 hle'
            simp [execOp, ho, ex, ey, eqGuard, Go.binOp, Result.andThen, this]
          · have := V.str (φ := φ) (S := S) (w := w) (b1 ++ b2)
            have h5 : (b1 ++ b2).data.toList = s1 ++ s2 := by rw [← e1, ← e2]; simp [ByteArray.data_append]
            rw [h5] at this
            exact this
        · simp at h2
      all_goals
        subst h2
        refine .same' (.bool _) ?_
        simp [execOp, ho, ex, ey, eqGuard, Go.binOp, Result.andThen, Op.stringOp, ByteArray.toList_eq, e1, e2, hbq]
        try rfl
    · simp at h2
  · have key := fun r (h : eqA (E.P.underlying t) (isConst x || isConst y) ax ay = some r) => eqA_sound h hx hy
    split at h1
    · simp only [Option.map_eq_some_iff] at h1
      obtain ⟨r, h3, rfl⟩ := h1
      obtain ⟨k1, -, k2, k3⟩ := key r h3
      refine .same' (.bool _) ?_
      simp [execOp, ho, k1, k3, k2, Result.andThen]
    · simp only [Option.map_eq_some_iff] at h1
      obtain ⟨r, h3, rfl⟩ := h1
      obtain ⟨-, k1, k2, k3⟩ := key r h3
      refine .same' (.bool _) ?_
      simp [execOp, ho, k1, k3, k2, Result.andThen]
    · simp at h1

end Go.Am

/- AM against the model: the other pure operations, and all of them together. -/
namespace Go.Am
open Go

variable {E : Env} {c : Bool} {o : Oper} {ρ : Tmps} {H H' : Heap} {v : AV} {φ : Phi} {S : Cells} {w : World} {a : Act}

theorem did_unOp {op : UnOp} {t : TypeId} {x : Operand} (ho : o.op = .unOp op t x) (hs : aop E c o ρ H = some (v, H', .pure)) (hr : VT φ S w ρ a) (hg : GlobOk E.ng φ) : H' = H ∧ Did E o a φ S w v := by
  simp only [aop, ho, Option.map_eq_some_iff, Prod.mk.injEq] at hs
  obtain ⟨r, h1, rfl, rfl, -⟩ := hs
  have hx := hr.eval hg x
  generalize evalOp E.ng ρ x = ax at *
  refine ⟨rfl, ?_⟩
  unfold un at h1
  split at h1 <;> simp only [Option.some.injEq, reduceCtorEq] at h1
  · subst h1
    exact .same' (.bool _) (by simp [execOp, ho, hx.bool_inv, Op.unary])
  · subst h1
    exact .same' (.int _ _) (by simp [execOp, ho, hx.int_inv, Op.unary, Op.intArith])

theorem did_makeInterface {t : TypeId} {x : Operand} (ho : o.op = .makeInterface t x) (hs : aop E c o ρ H = some (v, H', .pure)) (hr : VT φ S w ρ a) (hg : GlobOk E.ng φ) : H' = H ∧ Did E o a φ S w v := by
  simp only [aop, ho] at hs
  have hx := hr.eval hg x
  split at hs
  · simp at hs
  · simp at hs
  · rename_i hu1 hu2
    simp only [Option.some.injEq, Prod.mk.injEq] at hs
    obtain ⟨rfl, rfl, -⟩ := hs
    cases hu : E.P.underlying t with
    | none => exact absurd hu hu2
    | some d =>
      refine ⟨rfl, .same' (.ifc t _ _ hx.freezeA) ?_⟩
      simp only [execOp, ho, Instr.makeInterface, Sem.run_bind, run_underlying hu, Result.andThen]
      cases d <;> first | (exact absurd hu (by simpa using hu1 _)) | rfl

theorem did_makeFunc {f : FuncId} {caps : Array Operand} (ho : o.op = .makeFunc (.func f) #[] caps) (hs : aop E c o ρ H = some (v, H', .pure)) (hr : VT φ S w ρ a) (hg : GlobOk E.ng φ) : H' = H ∧ Did E o a φ S w v := by
  simp only [aop, ho, Option.some.injEq, Prod.mk.injEq] at hs
  obtain ⟨rfl, rfl, -⟩ := hs
  have h1 := (hr.evalL hg caps.toList).freeze
  have h2 : freezeL (caps.toList.map (evalOp E.ng ρ)) = caps.toList.map fun x => (evalOp E.ng ρ x).freeze := by simp [freezeL, Function.comp_def]
  rw [h2] at h1
  have h3 := V.fn (φ := φ) (S := S) (w := w) f _ _ h1.1 h1.2
  refine ⟨rfl, .same' h3 ?_⟩
  have h4 : caps.map a.eval = (caps.toList.map a.eval).toArray := by apply Array.ext'; simp
  simp [execOp, ho, Instr.makeFunc, Result.andThen, h4]

theorem isAggT_run {P : Program} {t : TypeId} {r : Bool} (h : isAggT P t = some r) (w : World) : (isAgg t).run P w = .ok r w := by
  cases hu : P.underlying t with
  | none => simp [isAggT, hu] at h
  | some d =>
    unfold isAgg
    simp only [Sem.run_bind, run_underlying hu, Result.andThen]
    simp only [isAggT, hu] at h
    cases d <;> simp at h <;> subst h <;> rfl

/-- Cells that hold what a list says. -/
def Holds (φ : Phi) (S : Cells) (w : World) (b off : Nat) (cs : List AV) : Prop := ∀ j c, cs[j]? = some c → ∃ u, at_ w b (off + j) = some u ∧ V φ S w c u

theorem Holds.list {b off : Nat} {cs : List AV} (h : Holds φ S w b off cs) : ∃ vs : List Value, VL φ S w cs vs ∧ ∀ j u, vs[j]? = some u → at_ w b (off + j) = some u := by
  refine ⟨(List.range cs.length).map fun j => (at_ w b (off + j)).getD Go.undef, ⟨by simp, fun i c v h1 h2 => ?_⟩, fun j u hj => ?_⟩
  · obtain ⟨u, h3, h4⟩ := h i c h1
    have hlt := (List.getElem?_eq_some_iff.1 h1).1
    simp [List.getElem?_range hlt, h3] at h2
    exact h2 ▸ h4
  · have hlt := (List.getElem?_eq_some_iff.1 hj).1
    simp at hlt
    obtain ⟨u', h3, -⟩ := h j cs[j] (by simp [hlt])
    simp [List.getElem?_range hlt, h3] at hj
    rw [h3, hj]

theorem load_many {P : Program} {t : TypeId} {n b off : Nat} {cs : List AV} (hs : sizeOf P t = some n) (ha : isAggT P t = some true) (hn : cs.length = n) (h : Holds φ S w b off cs) :
    ∃ vs : List Value, (loadVar t ⟨b, off, none⟩).run P w = .ok (.agg vs.toArray) w ∧ VL φ S w cs vs := by
  obtain ⟨vs, h1, h2⟩ := h.list
  obtain ⟨i, hi, rfl⟩ := sizeOf_inv hs
  refine ⟨vs, ?_, h1⟩
  have := run_loadCells_list (P := P) (w := w) ⟨b, off, none⟩ vs (fun j u hj => by
    have := h2 j u hj
    simp only [Addr.add]
    split
    · rename_i e; subst e; simpa [at_] using this
    · exact this)
  simp only [loadVar, Sem.run_bind, isAggT_run ha, Result.andThen, if_true, run_sizeOf' hi]
  rw [← hn, h1.1, this]
  rfl

theorem load_one {P : Program} {t : TypeId} {b off : Nat} {c : AV} (ha : isAggT P t = some false) (h : Holds φ S w b off [c]) :
    ∃ u, (loadVar t ⟨b, off, none⟩).run P w = .ok u w ∧ V φ S w c u := by
  obtain ⟨u, h1, h2⟩ := h 0 c rfl
  refine ⟨u, ?_, h2⟩
  simp only [loadVar, Sem.run_bind, isAggT_run ha, Result.andThen]
  simp only [at_, Nat.add_zero] at h1
  simp [h1]

theorem V.ref_inv {cs : List AV} {x : Value} (h : V φ S w (.ref cs) x) : ∃ b off, x = .pointer (some ⟨b, off, none⟩) ∧ Holds φ S w b off cs ∧ ∀ j, j < cs.length → S b (off + j) := by
  cases h with
  | ref _ b off f h1 h2 =>
    exact ⟨b, off, rfl, fun j c hj => ⟨f j, (h1 j c hj).2, h2 j c hj⟩, fun j hj => (h1 j cs[j] (by simp [hj])).1⟩

theorem Holds.sub {b off : Nat} {cs : List AV} (h : Holds φ S w b off cs) (k n : Nat) : Holds φ S w b (off + k) ((cs.drop k).take n) := fun j c hj => by
  rw [List.getElem?_take] at hj
  split at hj
  · rw [List.getElem?_drop] at hj
    obtain ⟨u, h1, h2⟩ := h _ c hj
    exact ⟨u, by rw [Nat.add_assoc]; exact h1, h2⟩
  · simp at hj

theorem did_load {t : TypeId} {x : Operand} (ho : o.op = .load t x) (hs : aop E c o ρ H = some (v, H', .pure)) (hr : VT φ S w ρ a) (hg : GlobOk E.ng φ) : H' = H ∧ Did E o a φ S w v := by
  simp only [aop, ho] at hs
  have hx := hr.eval hg x
  split at hs
  · rename_i n cs hsz ha he
    split at hs
    · rename_i hn
      simp only [Option.some.injEq, Prod.mk.injEq] at hs
      obtain ⟨rfl, rfl, -⟩ := hs
      rw [he] at hx
      obtain ⟨b, off, hav, hh, -⟩ := hx.ref_inv
      obtain ⟨vs, h1, h2⟩ := load_many hsz ha (by simp [Nat.min_eq_left hn]) (hh.sub 0 n)
      refine ⟨rfl, .same' (v' := .agg vs.toArray) (V.agg' (by simpa using h2)) ?_⟩
      simp at h1
      simp [execOp, ho, hav, Instr.loadAt, Instr.sureAddr, h1, Result.andThen]
    · simp at hs
  · rename_i u cs' ha he
    simp only [Option.some.injEq, Prod.mk.injEq] at hs
    obtain ⟨rfl, rfl, -⟩ := hs
    rw [he] at hx
    obtain ⟨b, off, hav, hh, -⟩ := hx.ref_inv
    obtain ⟨u', h1, h2⟩ := load_one (P := E.P) (t := t) ha (hh.sub 0 1)
    refine ⟨rfl, .same' h2 ?_⟩
    simp at h1
    simp [execOp, ho, hav, Instr.loadAt, Instr.sureAddr, h1, Result.andThen]
  · simp at hs
  · split at hs <;> simp at hs
  · simp at hs

theorem did_nilCheck {x : Operand} (ho : o.op = .nilCheck x) (hs : aop E c o ρ H = some (v, H', .pure)) (hr : VT φ S w ρ a) (hg : GlobOk E.ng φ) : H' = H ∧ Did E o a φ S w v := by
  simp only [aop, ho] at hs
  have hx := hr.eval hg x
  generalize evalOp E.ng ρ x = ax at *
  split at hs <;> simp only [Option.some.injEq, Prod.mk.injEq, reduceCtorEq] at hs
  all_goals
    obtain ⟨rfl, rfl, -⟩ := hs
    refine ⟨rfl, .same' hx ?_⟩
    generalize hav : a.eval x = av at hx
    cases hx
    simp [execOp, ho, hav]

theorem did_extract {x : Operand} {i : Nat} (ho : o.op = .extract x i) (hs : aop E c o ρ H = some (v, H', .pure)) (hr : VT φ S w ρ a) (hg : GlobOk E.ng φ) : H' = H ∧ Did E o a φ S w v := by
  simp only [aop, ho] at hs
  have hx := hr.eval hg x
  split at hs
  · rename_i vs he
    rw [he] at hx
    simp only [Option.map_eq_some_iff, Prod.mk.injEq] at hs
    obtain ⟨u, h1, rfl, rfl, -⟩ := hs
    obtain ⟨ys, h2, h3⟩ := hx.tup_inv
    obtain ⟨y, h4, h5⟩ := h3.get h1
    exact ⟨rfl, .same' h5 (by simp [execOp, ho, h2, Instr.extract, h4, Result.andThen])⟩
  · simp at hs

theorem did_typeAssert {x : Operand} {s t : TypeId} {ok : Bool} (ho : o.op = .typeAssert x s t ok) (hs : aop E c o ρ H = some (v, H', .pure)) (hr : VT φ S w ρ a) (hg : GlobOk E.ng φ) : H' = H ∧ Did E o a φ S w v := by
  simp only [aop, ho] at hs
  have hx := hr.eval hg x
  have two : ∀ (z : AV) (v' : Value) (r : Bool), V φ S w z v' → V φ S w (.tup [z, .bool r]) (.tuple #[v', .bool r]) := fun z v' r h => V.tup' (.cons h (.one (.bool _)))
  generalize evalOp E.ng ρ x = ax at *
  cases hu : E.P.underlying t with
  | none => simp [hu] at hs
  | some d =>
    rw [hu] at hs
    have hfail : ∀ {z : AV}, zeroOf E.P t = some z → ∃ zv, (zeroValue t).run E.P w = .ok zv w ∧ V φ S w z zv := fun hz => by
      obtain ⟨i, zv, h1, h2, rfl⟩ := zeroOf_inv hz
      exact ⟨zv, run_zeroValue h1 h2 w, V_ofConst zv⟩
    cases ax <;> (try (cases d <;> simp at hs; done))
    case ifc u y =>
      obtain ⟨vy, hav, hy⟩ := hx.ifc_inv
      have hs' : (if u = t then some (if ok then AV.tup [y, .bool true] else y, H, Kind.pure) else if ok then (zeroOf E.P t).map fun z => (AV.tup [z, .bool false], H, Kind.pure) else none) = some (v, H', .pure) := by
        cases d <;> first | exact hs | simp at hs
      have hni : ∀ ms, d ≠ .interface ms := fun ms e => by subst e; simp at hs
      split at hs'
      · rename_i e
        simp only [Option.some.injEq, Prod.mk.injEq] at hs'
        obtain ⟨rfl, rfl, -⟩ := hs'
        refine ⟨rfl, .same' (v' := if ok then .tuple #[vy, .bool true] else vy) ?_ ?_⟩
        · cases ok
          · exact hy
          · exact two _ _ _ hy
        · simp only [execOp, ho, hav, Instr.typeAssert, Sem.run_bind, run_underlying hu, Result.andThen]
          cases d <;> first | (exact absurd rfl (hni _)) | simp [e, Result.andThen]
      · rename_i e
        split at hs'
        · rename_i hok
          simp only [Option.map_eq_some_iff, Prod.mk.injEq] at hs'
          obtain ⟨z, hz, rfl, rfl, -⟩ := hs'
          obtain ⟨zv, h1, h2⟩ := hfail hz
          refine ⟨rfl, .same' (two _ _ _ h2) ?_⟩
          simp only [execOp, ho, hav, Instr.typeAssert, Sem.run_bind, run_underlying hu, Result.andThen]
          cases d <;> first | (exact absurd rfl (hni _)) | simp [e, hok, h1, Result.andThen]
        · simp at hs'
    case nilI =>
      have hs' : (if ok then (zeroOf E.P t).map fun z => (AV.tup [z, .bool false], H, Kind.pure) else none) = some (v, H', .pure) := by
        cases d <;> first | exact hs | simp at hs
      have hni : ∀ ms, d ≠ .interface ms := fun ms e => by subst e; simp at hs
      generalize hav : a.eval x = av at hx
      cases hx
      split at hs'
      · rename_i hok
        simp only [Option.map_eq_some_iff, Prod.mk.injEq] at hs'
        obtain ⟨z, hz, rfl, rfl, -⟩ := hs'
        obtain ⟨zv, h1, h2⟩ := hfail hz
        refine ⟨rfl, .same' (two _ _ _ h2) ?_⟩
        simp only [execOp, ho, hav, Instr.typeAssert, Sem.run_bind, run_underlying hu, Result.andThen]
        cases d <;> first | (exact absurd rfl (hni _)) | simp [hok, h1, Result.andThen]
      · simp at hs'

theorem did_index {t : TypeId} {x i : Operand} (ho : o.op = .index t x i) (hs : aop E c o ρ H = some (v, H', .pure)) (hr : VT φ S w ρ a) (hg : GlobOk E.ng φ) : H' = H ∧ Did E o a φ S w v := by
  simp only [aop, ho] at hs
  have hx := hr.eval hg x
  have hi := hr.eval hg i
  split at hs
  · rename_i s n hu he hn
    rw [he] at hx
    simp only [Option.map_eq_some_iff, Prod.mk.injEq] at hs
    obtain ⟨b, h1, rfl, rfl, -⟩ := hs
    obtain ⟨k, h2⟩ := asNat_inv hn hi
    obtain ⟨bs, h3, h4⟩ := hx.str_inv
    refine ⟨rfl, .same' (.int _ _) ?_⟩
    have h5 : bs[n]? = some b := by
      have hlt := (List.getElem?_eq_some_iff.1 h1)
      subst h4
      obtain ⟨h6, h7⟩ := hlt
      have h6' : n < bs.size := by simpa using h6
      rw [getElem?_pos bs n h6']
      congr 1
    simp only [execOp, ho, h2, h3, Instr.index, asIntOf, Sem.run_bind, Sem.run_pure, Result.andThen, run_underlying hu]
    simp [h5, Result.andThen]
  · simp at hs

end Go.Am
