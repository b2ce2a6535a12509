/- DeriveSays answers true, whatever the numbers and the word; no condition: a part of the proof. -/
import Derived.Test.YtfmfejcoaphmoaaDoorD6
set_option linter.unusedSimpArgs false
set_option linter.unusedVariables false
/- DeriveSays on AM: the document's Derive: another class. -/
namespace Go.Am.Ds
open Go Go.Am Go.Proofs
set_option maxRecDepth 10000
attribute [local simp] slV_nil slV_cons cV vV sTrue sFalse casesV pairV eqArgsV ordArgsV sNil sCons sAppend sShow textV bothV shownV lamV showV conC argsV intC nmsV nms casesV' varsV dV predC bindC instV inst0

set_option maxHeartbeats 4000000 in
theorem rderive_no (cls : List UInt8) (hk1 : ¬cls = [69, 113]) (hk2 : ¬cls = [79, 114, 100]) (hk3 : ¬cls = [83, 104, 111, 119]) (n : List UInt8) (vs : List (List UInt8)) (hvs : vs.length ≤ 2) (cs : List (UInt8 × Nat)) (hk : ∀ c ∈ cs, c.2 ≤ 3) (hl : cs.length ≤ 1000) (der : AV) (hd : Ok der) (pos : Int) :
    Fn E 8 [dV n vs cs der pos, .str cls] (.tup [if cs = [] then instV cls n vs pos [61, 61] (eqV pos cs) else inst0, .bool (decide (cs = []))]) := by
  have hcv := consV_Ok cs hk
  have hvv : Ok (varsV vs) := ⟨slV_one _, slV_frz _, by rw [varsV, slV_under]; exact underLL_map fun a _ => by simp⟩
  simp only [Ok] at hcv hd hvv
  have hpu : ∀ i, underLL 30 (List.take i (vs.map (predC cls))) = true := fun i => underLL_take (underLL_map fun a _ => by simp) i
  have hau : True := trivial
  show Fn E 8 [.agg [.str n, varsV vs, consV cs, der, .int .i64 pos], _] _
  generalize hvg : varsV vs = va at *
  generalize hcg : consV cs = ca at *
  have hvc := cells_of_one hvv.1
  have hcc := cells_of_one hcv.1
  have hdc := cells_of_one hd.1
  refine Fn.of Tryd.func8 rfl rfl rfl rfl rfl (by simp -dsimp [hcv, hd, hvv]) ?_
  simp -dsimp [hcv, hd, hvv, hvc, hcc, hdc]
  refine Wp.loop (fun i ρ H => i ≤ vs.length ∧ ρ 1 = .str cls ∧ ρ 2 = .ptr 30 0 ∧ ρ 4 = .ptr 31 0 ∧ ρ 5 = .bool false ∧ ρ 6 = .ptr 32 0 ∧ ρ 7 = .int .i64 i ∧
      ((i = 0 ∧ H = B3 [.str n, va, ca, der, .int .i64 pos] zI [.str cls, .str n, va, .nilS, .nilS, .int .i64 pos]) ∨
       (0 < i ∧ ∃ J, H = ((B3 [.str n, va, ca, der, .int .i64 pos] zI [.str cls, .str n, va, .list (List.take i (vs.map (predC cls))) (.tok (J.length + 33) 4), .nilS, .int .i64 pos]).more J).push .tok)))
      (fun i => vs.length - i) ?_ 0 _ _ ?_
  · rintro i ρ H ⟨hi, h1, h2, h4, h5, h6, h7, hh⟩
    by_cases hlt : i < vs.length
    · obtain ⟨a, hx⟩ : ∃ x, vs[i]? = some x := ⟨vs[i], by simp -dsimp [hlt]⟩
      have hw : IntKind.i64.wrap ((i : Int) + 1) = (i : Int) + 1 := IntWalk.i64_in _ (by omega)
      have hx' : vs[i] = a := by rw [List.getElem?_eq_getElem hlt] at hx; exact Option.some.inj hx
      have htake := take_map_succ (predC cls) hx
      have hva : va = .list (vs.map fun s => [.str s]) .frozen := by
        rw [← hvg, varsV, slV_of]
        intro h; simp only [List.map_eq_nil_iff] at h; subst h; simp at hlt
      rcases hh with ⟨rfl, rfl⟩ | ⟨hi0, J, rfl⟩
      · simp -dsimp [h1, h2, h4, h5, h6, h7, hva, hlt, hx', hw, rvar_ok]
        refine ⟨1, by omega, by omega, rfl, .inr ⟨by omega, [], ?_⟩⟩
        have ht1 : List.take 1 (vs.map (predC cls)) = [predC cls a] := by simpa using htake
        simp only [ht1]; simp [Heap.more]
      · have hmin : min i vs.length = i := by omega
        have hb1 := mul4 (i := i) (by omega)
        have hb2 := le45 (i := i) (by omega)
        have hlen : (∀ x, x ∈ List.take i (vs.map (predC cls)) → x.length = 4) = True := eq_true fun x hx => by
          obtain ⟨c, hc, rfl⟩ := List.mem_map.1 (List.mem_of_mem_take hx)
          exact predC_len ..
        simp -dsimp [h1, h2, h4, h5, h6, h7, hva, hlt, hx', hw, rvar_ok, hmin, hb1, hb2, hlen]
        refine ⟨i + 1, by omega, by omega, by simp, .inr ⟨by omega, none :: J, ?_⟩⟩
        rw [htake]; simp [more_push, more_skip]
    · obtain ⟨ctx, L, hc1, hc2, hc3, rfl⟩ : ∃ ctx L, ctx.one = true ∧ ctx.freeze = ctxV cls vs ∧ (ctxV cls vs).under 30 = true ∧ H = (B3 [.str n, va, ca, der, .int .i64 pos] zI [.str cls, .str n, va, ctx, .nilS, .int .i64 pos]).more L := by
        have hie : i = vs.length := by omega
        subst hie
        have hct : (ctxV cls vs).under 30 = true := by
          have := hpu vs.length
          rw [List.take_of_length_le (by simp)] at this
          rw [ctxV, slV_under]; exact this
        rcases hh with ⟨h, rfl⟩ | ⟨hi0, J, rfl⟩
        · have := List.eq_nil_of_length_eq_zero h
          subst this
          exact ⟨.nilS, [], by simp, by simp [ctxV], hct, by simp [Heap.more]⟩
        · refine ⟨_, some .tok :: J, ?_, ?_, hct, more_push ..⟩
          · simp
          · rw [List.take_of_length_le (by simp), ctxV, slV_of]
            · simp
            · intro h; simp only [List.map_eq_nil_iff] at h; subst h; simp at hi0
      clear hh
      have hxl : (va = .nilS ∧ vs.length = 0) ∨ va = .list (vs.map fun s => [.str s]) .frozen := by
        cases hvs0 : vs with
        | nil => left; rw [← hvg, hvs0]; simp
        | cons a l => right; rw [← hvg, hvs0]; rfl
      have hco : (ctxV cls vs).one = true := slV_one _
      have hcz := cells_of_one hco
      have hcf : (ctxV cls vs).freeze = ctxV cls vs := slV_frz _
      have hlv : lenA P 29 va = some (.int .i64 vs.length) := by rcases hxl with ⟨h, h'⟩ | h <;> simp [h, *]
      simp -dsimp [h1, h2, h4, h5, h6, h7, hlt, hlv]
      rw [← hcg]
      clear hcg
      cases cs with
      | nil =>
        simp only [consV, List.map_nil, slV_nil]
        refine Wp.unroll ?_
        simp -dsimp [h1, h2, h4, h5, h6, hk1, hk2, hk3, rv_ok, cs_nil_ok, rlam2, hc1, hc2, hc3, hvg, hvv, hvc, hco, hcz, hcf, zI, eqV]
        exact hvg.symm
      | cons c l =>
        simp only [consV, List.map_cons, slV_cons]
        refine Wp.unroll ?_
        have hkc := hk c (by simp)
        obtain ⟨b, k⟩ := c
        match k, hkc with
        | 0, _ =>
          simp -dsimp [h1, h2, h4, h5, h6, hk1, hk2, hk3, rnames0, rnames1, rnames2, rnames3, zI]
        | 1, _ =>
          simp -dsimp [h1, h2, h4, h5, h6, hk1, hk2, hk3, rnames0, rnames1, rnames2, rnames3, zI]
        | 2, _ =>
          simp -dsimp [h1, h2, h4, h5, h6, hk1, hk2, hk3, rnames0, rnames1, rnames2, rnames3, zI]
        | 3, _ =>
          simp -dsimp [h1, h2, h4, h5, h6, hk1, hk2, hk3, rnames0, rnames1, rnames2, rnames3, zI]
  · refine ⟨by omega, ?_⟩
    simp -dsimp [B3, zI]
end Go.Am.Ds

/- DeriveSays on AM: the trees are the same. -/
namespace Go.Am.Ds
open Go Go.Am Go.Proofs
set_option maxRecDepth 10000

/-- This slice has these elements. -/
def IsSl (u : AV) (es : List (List AV)) : Prop := (u = .nilS ∧ es = []) ∨ u = .list es .frozen
/-- Two slices of one length, with elements that are so. -/
def SL (R : List AV → List AV → Prop) (w : Nat) (u v : AV) : Prop :=
  ∃ es fs : List (List AV), IsSl u es ∧ IsSl v fs ∧ es.length = fs.length ∧ es.length ≤ 1000 ∧ Elz 30 w es ∧ Elz 30 w fs ∧ ∀ (i : Nat) (x y : List AV), es[i]? = some x → fs[i]? = some y → R x y
def SA (R : List AV → List AV → Prop) (x y : List AV) : Prop :=
  ∃ (s : List UInt8) (vs : List (List UInt8)) (u v : AV) (e f : List AV) (p : Int), x = [.str s, u] ++ e ++ [.int .i64 p] ∧ y = [.str s, v] ++ f ++ [.int .i64 p] ∧ IsSl u (vs.map fun s => [.str s]) ∧ IsSl v (vs.map fun s => [.str s]) ∧ vs.length ≤ 1000 ∧ R e f
/-- Two expressions that are the same. -/
def SE : Nat → List AV → List AV → Prop
  | 0 => fun _ _ => False
  | n + 1 => fun x y => ∃ k p s i l l' a a', x = [.int .i64 k, .int .i64 p, .str s, .int .i64 i, l, a, .nilS] ∧ y = [.int .i64 k, .int .i64 p, .str s, .int .i64 i, l', a', .nilS] ∧ SL (SE n) 7 l l' ∧ SL (SA (SE n)) 10 a a'

theorem IsSl.ok {u : AV} {es : List (List AV)} {w : Nat} (h : IsSl u es) (he : Elz 30 w es) : Ok u := by
  rcases h with ⟨rfl, rfl⟩ | rfl
  · simp
  · simp [he.under]
theorem SL.ok {R : List AV → List AV → Prop} {w : Nat} {u v : AV} (h : SL R w u v) : Ok u ∧ Ok v := by
  obtain ⟨es, fs, h1, h2, -, -, h3, h4, -⟩ := h
  exact ⟨h1.ok h3, h2.ok h4⟩
theorem Elz_strs (vs : List (List UInt8)) : Elz 30 1 (vs.map fun s => [.str s]) := fun e he => by
  obtain ⟨s, -, rfl⟩ := List.mem_map.1 he
  simp
theorem IsSl.len {u : AV} {es : List (List AV)} (h : IsSl u es) {t e : Nat} (ht : P.underlying t = some (.slice e)) : lenA P t u = some (.int .i64 es.length) := by
  rcases h with ⟨rfl, rfl⟩ | rfl
  · rw [lenA_nilS, ht]; rfl
  · rw [lenA_list, ht]; rfl
theorem IsSl.at {u : AV} {es : List (List AV)} (h : IsSl u es) {i : Nat} (hi : i < es.length) : u = .list es .frozen := by
  rcases h with ⟨rfl, rfl⟩ | rfl
  · simp at hi
  · rfl

theorem IsSl.calm {u : AV} {es : List (List AV)} (h : IsSl u es) : u.calm = u := by
  rcases h with ⟨rfl, rfl⟩ | rfl <;> simp

theorem sameTexts (vs : List (List UInt8)) (hb : vs.length ≤ 1000) (u v : AV) (hu : IsSl u (vs.map fun s => [.str s])) (hv : IsSl v (vs.map fun s => [.str s])) : Fn E 34 [u, v] (.bool true) := by
  have h1 := hu.ok (Elz_strs vs)
  have h2 := hv.ok (Elz_strs vs)
  have l1 := hu.len u29
  have l2 := hv.len u29
  simp only [Ok] at h1 h2
  simp only [List.length_map] at l1 l2
  have c1 := hu.calm
  have c2 := hv.calm
  refine Fn.of Tryd.func34 rfl rfl rfl rfl rfl (by simp -dsimp [*]) ?_
  simp -dsimp [h1, h2, l1, l2, c1, c2]
  refine Wp.loop (fun i ρ H => i ≤ vs.length ∧ ρ 0 = u ∧ ρ 1 = v ∧ ρ 5 = .int .i64 i ∧ H = E.base) (fun i => vs.length - i) ?_ 0 _ _ ?_
  · rintro i ρ H ⟨hi, h0, h1', h5, rfl⟩
    by_cases hlt : i < vs.length
    · obtain ⟨x, hx⟩ : ∃ x, vs[i]? = some x := ⟨vs[i], by simp -dsimp [hlt]⟩
      have hw : IntKind.i64.wrap ((i : Int) + 1) = (i : Int) + 1 := IntWalk.i64_in _ (by omega)
      have hx' : vs[i] = x := by rw [List.getElem?_eq_getElem hlt] at hx; exact Option.some.inj hx
      have e1 := hu.at (i := i) (by simpa using hlt)
      have e2 := hv.at (i := i) (by simpa using hlt)
      subst e1 e2
      simp -dsimp [h0, h1', h5, hlt, hw, hx']
      refine ⟨i + 1, by omega, by omega, rfl⟩
    · have : i = vs.length := by omega
      subst this
      simp -dsimp [h0, h1', h5, l1, h1]
  · refine ⟨by omega, ?_⟩
    simp -dsimp [c1, c2]

theorem sameBinds0 (b : Bool) : Fn E 36 [.nilS, .nilS, .bool b] (.bool true) := by
  refine Fn.of Tryd.func36 rfl rfl rfl rfl rfl (by simp) ?_
  simp -dsimp
  refine Wp.unroll ?_
  simp -dsimp

theorem SE.shape {n : Nat} {x y : List AV} (h : SE n x y) : ∃ k p s i l l' a a', x = [.int .i64 k, .int .i64 p, .str s, .int .i64 i, l, a, .nilS] ∧ y = [.int .i64 k, .int .i64 p, .str s, .int .i64 i, l', a', .nilS] ∧ Ok l ∧ Ok l' ∧ Ok a ∧ Ok a' := by
  cases n with
  | zero => exact h.elim
  | succ n =>
    obtain ⟨k, p, s, i, l, l', a, a', h1, h2, h3, h4⟩ := h
    exact ⟨k, p, s, i, l, l', a, a', h1, h2, h3.ok.1, h3.ok.2, h4.ok.1, h4.ok.2⟩

theorem sameAlt (n : Nat) (ih : ∀ x y, SE n x y → Fn E 66 [.agg x, .agg y, .bool true] (.bool true)) (x y : List AV) (h : SA (SE n) x y) : Fn E 74 [.agg x, .agg y, .bool true] (.bool true) := by
  obtain ⟨s, vs, u, v, e, f, p, rfl, rfl, hu, hv, hb, he⟩ := h
  have hc := ih e f he
  obtain ⟨k, p', s', i, l, l', a, a', rfl, rfl, o1, o2, o3, o4⟩ := he.shape
  have h1 := hu.ok (Elz_strs vs)
  have h2 := hv.ok (Elz_strs vs)
  have c1 := hu.calm
  have c2 := hv.calm
  have ht := sameTexts vs hb u v hu hv
  simp only [Ok] at h1 h2 o1 o2 o3 o4
  refine Fn.of Tryd.func74 rfl rfl rfl rfl rfl (by simp -dsimp [h1, h2, o1, o2, o3, o4]) ?_
  simp -dsimp [h1, h2, o1, o2, o3, o4, c1, c2, ht, hc]

set_option maxHeartbeats 1000000 in
theorem sameExpr (n : Nat) : ∀ x y, SE n x y → Fn E 66 [.agg x, .agg y, .bool true] (.bool true) := by
  induction n with
  | zero => exact fun x y h => h.elim
  | succ n ih =>
    intro x y h
    obtain ⟨k, p, s, i0, l, l', a, a', rfl, rfl, ⟨es, fs, e1, e2, e3, e4, e5, e6, e7⟩, ⟨gs, hs, g1, g2, g3, g4, g5, g6, g7⟩⟩ := h
    have o1 := e1.ok e5
    have o2 := e2.ok e6
    have o3 := g1.ok g5
    have o4 := g2.ok g6
    have l1 := e1.len u66
    have l2 := e2.len u66
    have l3 := g1.len u67
    have l4 := g2.len u67
    rw [← e3] at l2
    rw [← g3] at l4
    simp only [Ok] at o1 o2 o3 o4
    refine Fn.of Tryd.func66 rfl rfl rfl rfl rfl (by simp -dsimp [o1, o2, o3, o4]) ?_
    simp -dsimp [o1, o2, o3, o4, l1, l2, l3, l4, sameBinds0]
    refine Wp.loop (fun i ρ H => i ≤ es.length ∧ ρ 2 = .bool true ∧ ρ 3 = .ptr 30 0 ∧ ρ 4 = .ptr 31 0 ∧ ρ 7 = .int .i64 i ∧ H = (E.base.push (.cells [.int .i64 k, .int .i64 p, .str s, .int .i64 i0, l, a, .nilS])).push (.cells [.int .i64 k, .int .i64 p, .str s, .int .i64 i0, l', a', .nilS])) (fun i => es.length - i) ?_ 0 _ _ ?_
    · rintro i ρ H ⟨hi, r2, r3, r4, r7, rfl⟩
      by_cases hlt : i < es.length
      · obtain ⟨x, hx⟩ : ∃ x, es[i]? = some x := ⟨es[i], by simp -dsimp [hlt]⟩
        have hlt' : i < fs.length := by omega
        obtain ⟨y, hy⟩ : ∃ y, fs[i]? = some y := ⟨fs[i], by simp -dsimp [hlt']⟩
        have hxy := e7 i x y hx hy
        have hc := ih x y hxy
        have hx' : es[i] = x := by rw [List.getElem?_eq_getElem hlt] at hx; exact Option.some.inj hx
        have hy' : fs[i] = y := by rw [List.getElem?_eq_getElem hlt'] at hy; exact Option.some.inj hy
        obtain ⟨k, p', s', i', l, l', a, a', rfl, rfl, q1, q2, q3, q4⟩ := hxy.shape
        have hw : IntKind.i64.wrap ((i : Int) + 1) = (i : Int) + 1 := IntWalk.i64_in _ (by omega)
        have t1 := e1.at hlt
        have t2 := e2.at hlt'
        subst t1 t2
        simp only [Ok] at q1 q2 q3 q4
        simp -dsimp [r2, r3, r4, r7, hlt, hlt', hw, hx', hy', hc, q1, q2, q3, q4, e5.under, e6.under, e5.all, e6.all, o3, o4]
        exact ⟨i + 1, by omega, by omega, rfl⟩
      · have : i = es.length := by omega
        subst this
        simp -dsimp [r2, r3, r4, r7, l1, o1, o2, o3, o4]
        refine Wp.loop (fun i ρ H => i ≤ gs.length ∧ ρ 2 = .bool true ∧ ρ 3 = .ptr 30 0 ∧ ρ 4 = .ptr 31 0 ∧ ρ 8 = .int .i64 i ∧ H = (E.base.push (.cells [.int .i64 k, .int .i64 p, .str s, .int .i64 i0, l, a, .nilS])).push (.cells [.int .i64 k, .int .i64 p, .str s, .int .i64 i0, l', a', .nilS])) (fun i => gs.length - i) ?_ 0 _ _ ?_
        · rintro i ρ' H ⟨hi, r2, r3, r4, r7, rfl⟩
          by_cases hlt : i < gs.length
          · obtain ⟨x, hx⟩ : ∃ x, gs[i]? = some x := ⟨gs[i], by simp -dsimp [hlt]⟩
            have hlt' : i < hs.length := by omega
            obtain ⟨y, hy⟩ : ∃ y, hs[i]? = some y := ⟨hs[i], by simp -dsimp [hlt']⟩
            have hxy := g7 i x y hx hy
            have hc := sameAlt n ih x y hxy
            have hx' : gs[i] = x := by rw [List.getElem?_eq_getElem hlt] at hx; exact Option.some.inj hx
            have hy' : hs[i] = y := by rw [List.getElem?_eq_getElem hlt'] at hy; exact Option.some.inj hy
            obtain ⟨s0, vs, u, v, e0, f0, p0, rfl, rfl, hu, hv, hb, he⟩ := hxy
            obtain ⟨k, p', s', i', l, l', a, a', rfl, rfl, q1, q2, q3, q4⟩ := he.shape
            have w1 := hu.ok (Elz_strs vs)
            have w2 := hv.ok (Elz_strs vs)
            have hw : IntKind.i64.wrap ((i : Int) + 1) = (i : Int) + 1 := IntWalk.i64_in _ (by omega)
            have t1 := g1.at hlt
            have t2 := g2.at hlt'
            subst t1 t2
            simp only [Ok] at q1 q2 q3 q4 w1 w2
            simp only [List.cons_append, List.nil_append] at hc hx' hy'
            simp -dsimp [r2, r3, r4, r7, hlt, hlt', hw, hx', hy', hc, q1, q2, q3, q4, w1, w2, g5.under, g6.under, g5.all, g6.all, o1, o2]
            exact ⟨i + 1, by omega, by omega, rfl⟩
          · have : i = gs.length := by omega
            subst this
            simp -dsimp [r2, r3, r4, r7, l3, o1, o2, o3, o4]
        · refine ⟨by omega, ?_⟩
          simp -dsimp [r2, r3, r4]
    · refine ⟨by omega, ?_⟩
      simp -dsimp
end Go.Am.Ds

/- DeriveSays on AM: instances are the same. -/
namespace Go.Am.Ds
open Go Go.Am Go.Proofs
set_option maxRecDepth 10000

theorem sameTexts0 : Fn E 34 [.nilS, .nilS] (.bool true) := sameTexts [] (by simp) _ _ (Or.inl ⟨rfl, rfl⟩) (Or.inl ⟨rfl, rfl⟩)
theorem sameTypes0 : Fn E 73 [.nilS, .nilS] (.bool true) := by
  refine Fn.of Tryd.func73 rfl rfl rfl rfl rfl (by simp) ?_
  simp -dsimp
  refine Wp.unroll ?_
  simp -dsimp
theorem sameType0 (k : Int) (s : List UInt8) : Fn E 64 [.agg [.int .i64 k, .str s, .nilS], .agg [.int .i64 k, .str s, .nilS]] (.bool true) := by
  refine Fn.of Tryd.func64 rfl rfl rfl rfl rfl (by simp) ?_
  simp -dsimp [sameTypes0]
theorem samePred (cls s : List UInt8) : Fn E 56 [.agg (predC cls s), .agg (predC cls s)] (.bool true) := by
  refine Fn.of Tryd.func56 rfl rfl rfl rfl rfl (by simp [predC]) ?_
  simp -dsimp [predC, sameType0]
theorem slV_is (es : List (List AV)) : IsSl (slV es) es := by cases es with | nil => exact Or.inl ⟨rfl, rfl⟩ | cons a l => exact Or.inr rfl
theorem Elz_preds (cls : List UInt8) (vs : List (List UInt8)) : Elz 30 4 (vs.map (predC cls)) := fun e he => by
  obtain ⟨s, -, rfl⟩ := List.mem_map.1 he
  simp [predC]

theorem samePreds (cls : List UInt8) (vs : List (List UInt8)) (hb : vs.length ≤ 1000) : Fn E 35 [ctxV cls vs, ctxV cls vs] (.bool true) := by
  have hu := slV_is (vs.map (predC cls))
  unfold ctxV
  generalize slV (vs.map (predC cls)) = u at *
  have h1 := hu.ok (Elz_preds cls vs)
  have l1 := hu.len u34
  have c1 := hu.calm
  simp only [Ok] at h1
  simp only [List.length_map] at l1
  refine Fn.of Tryd.func35 rfl rfl rfl rfl rfl (by simp -dsimp [*]) ?_
  simp -dsimp [h1, l1, c1]
  refine Wp.loop (fun i ρ H => i ≤ vs.length ∧ ρ 0 = u ∧ ρ 1 = u ∧ ρ 5 = .int .i64 i ∧ H = E.base) (fun i => vs.length - i) ?_ 0 _ _ ?_
  · rintro i ρ H ⟨hi, h0, h1', h5, rfl⟩
    by_cases hlt : i < vs.length
    · obtain ⟨x, hx⟩ : ∃ x, vs[i]? = some x := ⟨vs[i], by simp -dsimp [hlt]⟩
      have hw : IntKind.i64.wrap ((i : Int) + 1) = (i : Int) + 1 := IntWalk.i64_in _ (by omega)
      have hx' : vs[i] = x := by rw [List.getElem?_eq_getElem hlt] at hx; exact Option.some.inj hx
      have e1 := hu.at (i := i) (by simpa using hlt)
      have hp := samePred cls x
      subst e1
      have hE := (Elz_preds cls vs).under
      simp only [predC] at hp
      simp -dsimp [h0, h1', h5, hlt, hw, hx', predC, hp, hE]
      exact ⟨i + 1, by omega, by omega, rfl⟩
    · have : i = vs.length := by omega
      subst this
      simp -dsimp [h0, h1', h5, l1, h1]
  · refine ⟨by omega, ?_⟩
    simp -dsimp [c1]

theorem sameScheme0 : Fn E 65 [.agg [.nilS, .nilS, .int .i64 0, .str [], .nilS], .agg [.nilS, .nilS, .int .i64 0, .str [], .nilS]] (.bool true) := by
  have h := samePreds [] [] (by simp)
  simp only [ctxV, List.map_nil, slV_nil] at h
  refine Fn.of Tryd.func65 rfl rfl rfl rfl rfl (by simp) ?_
  simp -dsimp [sameTexts0, h, sameType0]

theorem sameBind (n : Nat) (name : List UInt8) (pos : Int) (x y : List AV) (h : SE n x y) : Fn E 57 [.agg (bindC name (.agg x) pos), .agg (bindC name (.agg y) pos), .bool true] (.bool true) := by
  have hc := sameExpr n x y h
  obtain ⟨k, p', s', i, l, l', a, a', rfl, rfl, o1, o2, o3, o4⟩ := h.shape
  simp only [Ok] at o1 o2 o3 o4
  refine Fn.of Tryd.func57 rfl rfl rfl rfl rfl (by simp -dsimp [bindC, o1, o2, o3, o4]) ?_
  simp -dsimp [bindC, o1, o2, o3, o4, hc, sameScheme0]

theorem sameBinds1 (n : Nat) (name : List UInt8) (pos : Int) (x y : List AV) (h : SE n x y) : Fn E 36 [.list [bindC name (.agg x) pos] .frozen, .list [bindC name (.agg y) pos] .frozen, .bool true] (.bool true) := by
  have hc := sameBind n name pos x y h
  obtain ⟨k, p', s', i, l, l', a, a', rfl, rfl, o1, o2, o3, o4⟩ := h.shape
  simp only [Ok] at o1 o2 o3 o4
  refine Fn.of Tryd.func36 rfl rfl rfl rfl rfl (by simp -dsimp [bindC, o1, o2, o3, o4]) ?_
  simp only [bindC, AV.cells, List.cons_append, List.nil_append] at hc
  simp -dsimp [bindC, o1, o2, o3, o4]
  refine Wp.unroll ?_
  simp -dsimp [bindC, o1, o2, o3, o4, hc]
  refine Wp.unroll ?_
  simp -dsimp [bindC, o1, o2, o3, o4, hc]

theorem sameInst0 : Fn E 10 [inst0, inst0, .bool true] (.bool true) := by
  have h := samePreds [] [] (by simp)
  simp only [ctxV, List.map_nil, slV_nil] at h
  refine Fn.of Tryd.func10 rfl rfl rfl rfl rfl (by simp [inst0]) ?_
  simp -dsimp [inst0, sameTexts0, h, sameBinds0]
theorem sameInst (n : Nat) (cls nm : List UInt8) (vs : List (List UInt8)) (hb : vs.length ≤ 1000) (pos : Int) (name : List UInt8) (x y : List AV) (h : SE n x y) :
    Fn E 10 [instV cls nm vs pos name (.agg x), instV cls nm vs pos name (.agg y), .bool true] (.bool true) := by
  have hc := sameBinds1 n name pos x y h
  have hp := samePreds cls vs hb
  have ht := sameTexts vs hb (varsV vs) (varsV vs) (slV_is _) (slV_is _)
  have w1 : Ok (varsV vs) := (slV_is _).ok (Elz_strs vs)
  have w2 : Ok (ctxV cls vs) := (slV_is _).ok (Elz_preds cls vs)
  have c1 : (varsV vs).calm = varsV vs := (slV_is _).calm
  have c2 : (ctxV cls vs).calm = ctxV cls vs := (slV_is _).calm
  obtain ⟨k, p', s', i, l, l', a, a', rfl, rfl, o1, o2, o3, o4⟩ := h.shape
  simp only [Ok] at o1 o2 o3 o4 w1 w2
  simp only [bindC, AV.cells, List.cons_append, List.nil_append] at hc
  refine Fn.of Tryd.func10 rfl rfl rfl rfl rfl (by simp -dsimp [instV, bindC, o1, o2, o3, o4, w1, w2, c1, c2]) ?_
  simp -dsimp [instV, bindC, o1, o2, o3, o4, w1, w2, c1, c2, hc, hp, ht]
end Go.Am.Ds

/- DeriveSays on AM: what is derived is the same, tree for tree. -/
namespace Go.Am.Ds
open Go Go.Am Go.Proofs
set_option maxRecDepth 10000

/-- Two lists, place by place. -/
def R2 (R : List AV → List AV → Prop) : List (List AV) → List (List AV) → Prop
  | [], [] => True
  | x :: xs, y :: ys => R x y ∧ R2 R xs ys
  | _, _ => False

theorem R2.len {R : List AV → List AV → Prop} : ∀ {es fs : List (List AV)}, R2 R es fs → es.length = fs.length
  | [], [], _ => rfl
  | _ :: _, _ :: _, h => by simp [R2.len h.2]
theorem R2.at {R : List AV → List AV → Prop} : ∀ {es fs : List (List AV)}, R2 R es fs → ∀ (i : Nat) (x y : List AV), es[i]? = some x → fs[i]? = some y → R x y
  | [], [], _, i, x, y, h, _ => by simp at h
  | e :: es, f :: fs, h, 0, x, y, h1, h2 => by simp at h1 h2; subst h1 h2; exact h.1
  | e :: es, f :: fs, h, i + 1, x, y, h1, h2 => R2.at h.2 i x y (by simpa using h1) (by simpa using h2)
theorem R2.elz {R : List AV → List AV → Prop} {w : Nat} (hR : ∀ x y, R x y → (x.length = w ∧ ∀ c ∈ x, Ok c) ∧ (y.length = w ∧ ∀ c ∈ y, Ok c)) : ∀ {es fs : List (List AV)}, R2 R es fs → Elz 30 w es ∧ Elz 30 w fs
  | [], [], _ => ⟨Elz.nil, Elz.nil⟩
  | e :: es, f :: fs, h => ⟨Elz.cons.2 ⟨(hR e f h.1).1, (R2.elz hR h.2).1⟩, Elz.cons.2 ⟨(hR e f h.1).2, (R2.elz hR h.2).2⟩⟩
theorem R2.append {R : List AV → List AV → Prop} : ∀ {es fs es' fs' : List (List AV)}, R2 R es fs → R2 R es' fs' → R2 R (es ++ es') (fs ++ fs')
  | [], [], _, _, _, h => h
  | _ :: _, _ :: _, _, _, h, h' => ⟨h.1, R2.append h.2 h'⟩
theorem R2.map {α : Type} {R : List AV → List AV → Prop} {f g : α → List AV} : ∀ {l : List α}, (∀ a ∈ l, R (f a) (g a)) → R2 R (l.map f) (l.map g)
  | [], _ => trivial
  | a :: l, h => ⟨h a (by simp), R2.map fun b hb => h b (by simp [hb])⟩
theorem R2.take {R : List AV → List AV → Prop} : ∀ {es fs : List (List AV)} (i : Nat), R2 R es fs → R2 R (es.take i) (fs.take i)
  | [], [], i, _ => by simp [R2]
  | _ :: _, _ :: _, 0, _ => trivial
  | _ :: _, _ :: _, i + 1, h => ⟨h.1, R2.take i h.2⟩

theorem SE.els {n : Nat} (x y : List AV) (h : SE n x y) : (x.length = 7 ∧ ∀ c ∈ x, Ok c) ∧ (y.length = 7 ∧ ∀ c ∈ y, Ok c) := by
  obtain ⟨k, p', s', i, l, l', a, a', rfl, rfl, o1, o2, o3, o4⟩ := h.shape
  simp [o1, o2, o3, o4]
theorem SA.els {n : Nat} (x y : List AV) (h : SA (SE n) x y) : (x.length = 10 ∧ ∀ c ∈ x, Ok c) ∧ (y.length = 10 ∧ ∀ c ∈ y, Ok c) := by
  obtain ⟨s, vs, u, v, e, f, p, rfl, rfl, hu, hv, hb, he⟩ := h
  obtain ⟨k, p', s', i, l, l', a, a', rfl, rfl, o1, o2, o3, o4⟩ := he.shape
  have h1 := hu.ok (Elz_strs vs)
  have h2 := hv.ok (Elz_strs vs)
  simp [o1, o2, o3, o4, h1, h2]

theorem SLE {n : Nat} {u v : AV} {es fs : List (List AV)} (hu : IsSl u es) (hv : IsSl v fs) (hb : es.length ≤ 1000) (h : R2 (SE n) es fs) : SL (SE n) 7 u v :=
  ⟨es, fs, hu, hv, h.len, hb, (h.elz SE.els).1, (h.elz SE.els).2, h.at⟩
theorem SLA {n : Nat} {u v : AV} {es fs : List (List AV)} (hu : IsSl u es) (hv : IsSl v fs) (hb : es.length ≤ 1000) (h : R2 (SA (SE n)) es fs) : SL (SA (SE n)) 10 u v :=
  ⟨es, fs, hu, hv, h.len, hb, (h.elz SA.els).1, (h.elz SA.els).2, h.at⟩
theorem SLE0 {n : Nat} : SL (SE n) 7 .nilS .nilS := SLE (Or.inl ⟨rfl, rfl⟩) (Or.inl ⟨rfl, rfl⟩) (by simp) trivial
theorem SLA0 {n : Nat} : SL (SA (SE n)) 10 .nilS .nilS := SLA (Or.inl ⟨rfl, rfl⟩) (Or.inl ⟨rfl, rfl⟩) (by simp) trivial
theorem SLE1 {n : Nat} {e f : List AV} (h : SE n e f) : SL (SE n) 7 (.list [e] .frozen) (.list [f] .frozen) := SLE (Or.inr rfl) (Or.inr rfl) (by simp) ⟨h, trivial⟩
theorem SLE2 {n : Nat} {e f e' f' : List AV} (h : SE n e f) (h' : SE n e' f') : SL (SE n) 7 (.list [e, e'] .frozen) (.list [f, f'] .frozen) := SLE (Or.inr rfl) (Or.inr rfl) (by simp) ⟨h, h', trivial⟩
theorem SLA1 {n : Nat} {e f : List AV} (h : SA (SE n) e f) : SL (SA (SE n)) 10 (.list [e] .frozen) (.list [f] .frozen) := SLA (Or.inr rfl) (Or.inr rfl) (by simp) ⟨h, trivial⟩
theorem SLA2 {n : Nat} {e f e' f' : List AV} (h : SA (SE n) e f) (h' : SA (SE n) e' f') : SL (SA (SE n)) 10 (.list [e, e'] .frozen) (.list [f, f'] .frozen) := SLA (Or.inr rfl) (Or.inr rfl) (by simp) ⟨h, h', trivial⟩
theorem SLA3 {n : Nat} {e f e' f' e'' f'' : List AV} (h : SA (SE n) e f) (h' : SA (SE n) e' f') (h'' : SA (SE n) e'' f'') : SL (SA (SE n)) 10 (.list [e, e', e''] .frozen) (.list [f, f', f''] .frozen) := SLA (Or.inr rfl) (Or.inr rfl) (by simp) ⟨h, h', h'', trivial⟩
theorem SEm {n : Nat} {k p : Int} {s : List UInt8} {i : Int} {l l' a a' : AV} (h1 : SL (SE n) 7 l l') (h2 : SL (SA (SE n)) 10 a a') : SE (n + 1) [.int .i64 k, .int .i64 p, .str s, .int .i64 i, l, a, .nilS] [.int .i64 k, .int .i64 p, .str s, .int .i64 i, l', a', .nilS] :=
  ⟨k, p, s, i, l, l', a, a', rfl, rfl, h1, h2⟩
theorem SAm {n : Nat} {s : List UInt8} {u v : AV} (vs : List (List UInt8)) {k q p : Int} {s' : List UInt8} {i : Int} {l l' a a' : AV} (hu : IsSl u (vs.map fun s => [.str s])) (hv : IsSl v (vs.map fun s => [.str s])) (hb : vs.length ≤ 1000)
    (h : SE n [.int .i64 k, .int .i64 q, .str s', .int .i64 i, l, a, .nilS] [.int .i64 k, .int .i64 q, .str s', .int .i64 i, l', a', .nilS]) :
    SA (SE n) [.str s, u, .int .i64 k, .int .i64 q, .str s', .int .i64 i, l, a, .nilS, .int .i64 p] [.str s, v, .int .i64 k, .int .i64 q, .str s', .int .i64 i, l', a', .nilS, .int .i64 p] :=
  ⟨s, vs, u, v, _, _, p, rfl, rfl, hu, hv, hb, h⟩
theorem SAv {n : Nat} {s : List UInt8} (vs : List (List UInt8)) {k q p : Int} {s' : List UInt8} {i : Int} {l l' a a' : AV} (hb : vs.length ≤ 1000)
    (h : SE n [.int .i64 k, .int .i64 q, .str s', .int .i64 i, l, a, .nilS] [.int .i64 k, .int .i64 q, .str s', .int .i64 i, l', a', .nilS]) :
    SA (SE n) [.str s, slV (vs.map fun s => [.str s]), .int .i64 k, .int .i64 q, .str s', .int .i64 i, l, a, .nilS, .int .i64 p] [.str s, slV (vs.map fun s => [.str s]), .int .i64 k, .int .i64 q, .str s', .int .i64 i, l', a', .nilS, .int .i64 p] :=
  SAm vs (slV_is _) (slV_is _) hb h
/-- Two trees that are the same. -/
def SV (n : Nat) (u v : AV) : Prop := ∃ x y, u = .agg x ∧ v = .agg y ∧ SE n x y

theorem SV.ex {n : Nat} {k p : Int} {s : List UInt8} {i : Int} {l l' a a' : AV} (h1 : SL (SE n) 7 l l') (h2 : SL (SA (SE n)) 10 a a') : SV (n + 1) (ex k p s i l a .nilS) (ex k p s i l' a' .nilS) := ⟨_, _, rfl, rfl, SEm h1 h2⟩
theorem SV.cells {n : Nat} {u v : AV} (h : SV n u v) : SE n u.cells v.cells := by obtain ⟨x, y, rfl, rfl, h⟩ := h; exact h
theorem SV.leaf {n : Nat} {k p : Int} {s : List UInt8} {i : Int} : SV (n + 1) (Ds.ex k p s i .nilS .nilS .nilS) (Ds.ex k p s i .nilS .nilS .nilS) := SV.ex SLE0 SLA0
theorem SV.c {n : Nat} {p : Int} {s : List UInt8} : SV (n + 1) (cV p s) (cV p s) := SV.leaf
theorem SV.v {n : Nat} {p : Int} {s : List UInt8} : SV (n + 1) (vV p s) (vV p s) := SV.leaf
theorem SV.lam {n : Nat} {p : Int} {e f : AV} {s : List UInt8} (h : SV n e f) : SV (n + 1) (lamV p e s) (lamV p f s) := SV.ex (SLE1 h.cells) SLA0
theorem SV.al {n : Nat} {s : List UInt8} {u v : AV} (vs : List (List UInt8)) {e f : AV} {p : Int} (hu : IsSl u (vs.map fun s => [.str s])) (hv : IsSl v (vs.map fun s => [.str s])) (hb : vs.length ≤ 1000) (h : SV n e f) :
    SA (SE n) (al s u e p).cells (al s v f p).cells := ⟨s, vs, u, v, e.cells, f.cells, p, rfl, rfl, hu, hv, hb, h.cells⟩
theorem SV.cases {n : Nat} {p : Int} {e f : AV} {l m : List (List AV)} (h : SV n e f) (hb : l.length ≤ 1000) (h2 : R2 (SA (SE n)) l m) : SV (n + 1) (casesV p e l) (casesV p f m) := SV.ex (SLE1 h.cells) (SLA (Or.inr rfl) (Or.inr rfl) hb h2)
theorem SV.cases' {n : Nat} {p : Int} {e f : AV} {l m : List (List AV)} (h : SV n e f) (hb : l.length ≤ 1000) (h2 : R2 (SA (SE n)) l m) : SV (n + 1) (casesV' p e (slV l)) (casesV' p f (slV m)) := SV.ex (SLE1 h.cells) (SLA (slV_is _) (slV_is _) hb h2)
theorem SV.app1 {n : Nat} {p : Int} {e f a b : AV} (h : SV n e f) (h1 : SV n a b) : SV (n + 1) (appV p e [a.cells]) (appV p f [b.cells]) := SV.ex (SLE2 h.cells h1.cells) SLA0
theorem SV.app2 {n : Nat} {p : Int} {e f a b a' b' : AV} (h : SV n e f) (h1 : SV n a b) (h2 : SV (n + 1) a' b') : SV (n + 2) (appV p e [a.cells, a'.cells]) (appV p f [b.cells, b'.cells]) := SV.ex (SLE2 (SV.app1 h h1).cells h2.cells) SLA0

theorem SL.mono {R R' : List AV → List AV → Prop} (h : ∀ x y, R x y → R' x y) {w : Nat} {u v : AV} (hs : SL R w u v) : SL R' w u v := by
  obtain ⟨es, fs, h1, h2, h3, h4, h5, h6, h7⟩ := hs
  exact ⟨es, fs, h1, h2, h3, h4, h5, h6, fun i x y hx hy => h x y (h7 i x y hx hy)⟩
theorem SA.mono {R R' : List AV → List AV → Prop} (h : ∀ x y, R x y → R' x y) (x y : List AV) (hs : SA R x y) : SA R' x y := by
  obtain ⟨s, vs, u, v, e, f, p, h1, h2, h3, h4, h5, h6⟩ := hs
  exact ⟨s, vs, u, v, e, f, p, h1, h2, h3, h4, h5, h _ _ h6⟩
theorem SE.step : ∀ (n : Nat) (x y : List AV), SE n x y → SE (n + 1) x y
  | 0, _, _, h => h.elim
  | n + 1, x, y, h => by
    obtain ⟨k, p, s, i, l, l', a, a', h1, h2, h3, h4⟩ := h
    exact ⟨k, p, s, i, l, l', a, a', h1, h2, h3.mono (SE.step n), h4.mono (SA.mono (SE.step n))⟩
theorem SV.mono {n m : Nat} (hm : n ≤ m) {u v : AV} (h : SV n u v) : SV m u v := by
  obtain ⟨x, y, h1, h2, h3⟩ := h
  refine ⟨x, y, h1, h2, ?_⟩
  induction hm with
  | refl => exact h3
  | step _ ih => exact SE.step _ _ _ ih

theorem SV.text (p : Int) : ∀ s : List UInt8, SV (s.length + 2) (textV p s) (textV p s)
  | [] => SV.c
  | x :: s => by
    have h := SV.text p s
    have h1 : SV (s.length + 1) (Ds.ex 4 p [] x.toNat .nilS .nilS .nilS) (Ds.ex 4 p [] x.toNat .nilS .nilS .nilS) := SV.leaf
    exact SV.app2 (n := s.length + 1) SV.c h1 h
theorem SV.both {n : Nat} {p : Int} {a b a' b' : AV} (h1 : SV (n + 1) a b) (h2 : SV (n + 2) a' b') : SV (n + 3) (bothV p a a') (bothV p b b') := SV.app2 (n := n + 1) SV.v h1 h2
theorem SV.shown (p : Int) : ∀ l : List (List UInt8), SV (l.length * 4 + 4) (shownV p l) (shownV p l)
  | [] => SV.c
  | [a] => SV.mono (by simp) (SV.both (n := 2) (SV.app1 (n := 2) SV.v SV.v) (SV.mono (by simp) (SV.text p [41])))
  | a :: b :: l => by
    have h := SV.shown p (b :: l)
    refine SV.mono (n := (b :: l).length * 4 + 6) (by simp only [List.length_cons]; omega) ?_
    refine SV.both (n := (b :: l).length * 4 + 3) (SV.app1 (n := (b :: l).length * 4 + 3) SV.v SV.v) ?_
    refine SV.mono (n := (b :: l).length * 4 + 5) (by omega) ?_
    exact SV.both (n := (b :: l).length * 4 + 2) (SV.mono (n := 3) (by omega) (SV.text p [32])) h
theorem SV.show (p : Int) (b : UInt8) (l : List (List UInt8)) (hl : l.length ≤ 3) : SV 20 (showV p b l) (showV p b l) := by
  cases l with
  | nil => exact SV.mono (by simp) (SV.text p [b])
  | cons a l => exact SV.mono (n := 19) (by omega) (SV.both (n := 16) (SV.mono (by simp) (SV.text p [40, b, 32])) (SV.mono (by simp at hl ⊢; omega) (SV.shown p (a :: l))))
theorem SV.pair {n : Nat} (p : Int) (f a b : List UInt8) : SV (n + 3) (pairV p f a b) (pairV p f a b) := SV.app2 (n := n + 1) SV.v SV.v SV.v
theorem SV.eqArgs (p : Int) : ∀ l m : List (List UInt8), SV (l.length + 4) (eqArgsV p l m) (eqArgsV p l m)
  | [], [] => SV.c
  | [], _ :: _ => SV.c
  | [a], [] => SV.c
  | _ :: _ :: _, [] => SV.c
  | [a], [b] => SV.pair p _ a b
  | a :: c :: l, b :: m => by
    have h := SV.eqArgs p (c :: l) m
    exact SV.cases (n := (c :: l).length + 4) (SV.mono (n := 4) (by omega) (SV.pair p _ a b)) (by simp) ⟨SV.al [] (Or.inl ⟨rfl, rfl⟩) (Or.inl ⟨rfl, rfl⟩) (by simp) h, SV.al [] (Or.inl ⟨rfl, rfl⟩) (Or.inl ⟨rfl, rfl⟩) (by simp) SV.c, trivial⟩
  | [a], b :: c :: m => by
    exact SV.cases (n := 4) (SV.mono (n := 4) (by omega) (SV.pair p _ a b)) (by simp) ⟨SV.al [] (Or.inl ⟨rfl, rfl⟩) (Or.inl ⟨rfl, rfl⟩) (by simp) SV.c, SV.al [] (Or.inl ⟨rfl, rfl⟩) (Or.inl ⟨rfl, rfl⟩) (by simp) SV.c, trivial⟩
theorem SV.ordArgs (p : Int) : ∀ l m : List (List UInt8), SV (l.length + 4) (ordArgsV p l m) (ordArgsV p l m)
  | [], [] => SV.c
  | [], _ :: _ => SV.c
  | [a], [] => SV.c
  | _ :: _ :: _, [] => SV.c
  | [a], [b] => SV.pair p _ a b
  | a :: c :: l, b :: m => by
    have h := SV.ordArgs p (c :: l) m
    exact SV.cases (n := (c :: l).length + 4) (SV.mono (n := 4) (by omega) (SV.pair p _ a b)) (by simp) ⟨SV.al [] (Or.inl ⟨rfl, rfl⟩) (Or.inl ⟨rfl, rfl⟩) (by simp) h, SV.al [[99]] (Or.inr rfl) (Or.inr rfl) (by simp) SV.v, trivial⟩
  | [a], b :: c :: m => by
    exact SV.cases (n := 4) (SV.mono (n := 4) (by omega) (SV.pair p _ a b)) (by simp) ⟨SV.al [] (Or.inl ⟨rfl, rfl⟩) (Or.inl ⟨rfl, rfl⟩) (by simp) SV.c, SV.al [[99]] (Or.inr rfl) (Or.inr rfl) (by simp) SV.v, trivial⟩

theorem nms_len (c : UInt8) (k : Nat) : (nms c k).length ≤ 3 := by simp [nms]; omega
theorem SV.eq (p : Int) (cs : List (UInt8 × Nat)) (hb : cs.length ≤ 900) : SV 40 (eqV p cs) (eqV p cs) := by
  refine SV.lam (n := 39) (SV.lam (n := 38) (SV.cases' (n := 37) SV.v (by simp; omega) (R2.map fun c _ => ?_)))
  refine SV.al (nms 97 c.2) (slV_is _) (slV_is _) (by have := nms_len 97 c.2; omega) (SV.cases (n := 36) SV.v (by split <;> simp) ⟨SV.al (nms 98 c.2) (slV_is _) (slV_is _) (by have := nms_len 98 c.2; omega) (SV.mono (by have := nms_len 97 c.2; omega) (SV.eqArgs p _ _)), ?_⟩)
  split
  · exact ⟨SV.al [] (Or.inl ⟨rfl, rfl⟩) (Or.inl ⟨rfl, rfl⟩) (by simp) SV.c, trivial⟩
  · trivial
theorem SV.shows (p : Int) (cs : List (UInt8 × Nat)) (hb : cs.length ≤ 900) : SV 40 (showsV p cs) (showsV p cs) := by
  refine SV.lam (n := 39) (SV.cases' (n := 38) SV.v (by simp; omega) (R2.map fun c _ => ?_))
  exact SV.al (nms 97 c.2) (slV_is _) (slV_is _) (by have := nms_len 97 c.2; omega) (SV.mono (n := 20) (by omega) (SV.show p _ _ (nms_len _ _)))
theorem SV.ord (p : Int) (cs : List (UInt8 × Nat)) (hb : cs.length ≤ 900) (hk : ∀ c ∈ cs, c.2 ≤ 3) : SV 40 (ordV eL p cs) (ordV .nilS p cs) := by
  refine SV.lam (n := 39) (SV.lam (n := 38) (SV.cases' (n := 37) SV.v (by simp; omega) (R2.map fun i hi => ?_)))
  have hi : i < cs.length := by simpa using hi
  obtain ⟨c, hc⟩ : ∃ c, cs[i]? = some c := ⟨cs[i], by simp [hi]⟩
  have h1 : ∀ z, altOrd z p cs i = (Ds.al [c.1] (nmsV 97 c.2) (casesV p (vV p [121]) (ordIn z p cs i c)) p).cells := fun z => by simp only [altOrd, hc]
  rw [h1, h1]
  refine SV.al (nms 97 c.2) (slV_is _) (slV_is _) (by have := nms_len 97 c.2; omega) (SV.cases (n := 36) SV.v ?_ ?_)
  · simp only [ordIn, List.length_append, List.length_take, List.length_map, List.length_cons]
    split <;> simp <;> omega
  · refine R2.append (R2.take i (R2.map fun x hx => ?_)) ⟨SV.al (nms 98 c.2) (slV_is _) (slV_is _) (by have := nms_len 98 c.2; omega) (SV.mono (by have := nms_len 97 c.2; omega) (SV.ordArgs p _ _)), ?_⟩
    · have hx3 := hk x hx
      unfold gtA
      by_cases h0 : x.2 = 0
      · simp only [h0, if_true]
        exact SV.al [] (Or.inr rfl) (Or.inl ⟨rfl, rfl⟩) (by simp) SV.c
      · simp only [h0, if_false]
        refine SV.al (List.replicate x.2 [95]) (Or.inr ?_) (Or.inr ?_) (by simp; omega) SV.c <;> simp
    · split
      · exact ⟨SV.al [] (Or.inl ⟨rfl, rfl⟩) (Or.inl ⟨rfl, rfl⟩) (by simp) SV.c, trivial⟩
      · trivial

theorem same_ok (cls nm : List UInt8) (vs : List (List UInt8)) (hb : vs.length ≤ 1000) (pos : Int) (name : List UInt8) {n : Nat} {a b : AV} (h : SV n a b) :
    Fn E 10 [instV cls nm vs pos name a, instV cls nm vs pos name b, .bool true] (.bool true) := by
  obtain ⟨x, y, rfl, rfl, h⟩ := h
  exact sameInst n cls nm vs hb pos name x y h
end Go.Am.Ds
