/- DeriveSays answers true, whatever the numbers and the word; no condition: a part of the proof. -/
import Derived.Test.YtfmfejcoaphmoaaDoorD10
set_option linter.unusedSimpArgs false
set_option linter.unusedVariables false
/- DeriveSays on AM: the statement's function. -/
namespace Go.Am.Ds
open Go Go.Am Go.Proofs
set_option maxRecDepth 10000
attribute [local simp] add1 add2 add3 z31a z31b z31c z30a z30b z30c zya zyb zyc zxb zxc zzc lya lyb lyc lxb lxc lzc l31a l31b l31c g30a g30b

/-- The base, with the answer's place. -/
theorem e0a (x y n : Nat) (h : 0 < n) : (0 = x + (y + n)) = False := by simp; omega
theorem e0b (x y z n : Nat) (h : 0 < n) : (0 = z + (x + (y + n))) = False := by simp; omega
theorem e0c (x y z w n : Nat) (h : 0 < n) : (0 = w + (z + (x + (y + n)))) = False := by simp; omega
theorem l0a (x y n : Nat) (h : 0 < n) : (0 < x + (y + n)) = True := by simp; omega
theorem l0b (x y z n : Nat) (h : 0 < n) : (0 < z + (x + (y + n))) = True := by simp; omega
theorem l0c (x y z w n : Nat) (h : 0 < n) : (0 < w + (z + (x + (y + n)))) = True := by simp; omega
theorem i30c (x y z w n : Nat) (h : 30 ≤ n) : (30 ≤ w + (z + (x + (y + n)))) = True := by simp; omega
attribute [local simp] i30c
attribute [local simp] e0a e0b e0c l0a l0b l0c
theorem e30a (x y n : Nat) (h : 30 < n) : (30 = x + (y + n)) = False := by simp; omega
theorem e30b (x y z n : Nat) (h : 30 < n) : (30 = z + (x + (y + n))) = False := by simp; omega
theorem e30c (x y z w n : Nat) (h : 30 < n) : (30 = w + (z + (x + (y + n)))) = False := by simp; omega
theorem l30a (x y n : Nat) (h : 30 < n) : (30 < x + (y + n)) = True := by simp; omega
theorem l30b (x y z n : Nat) (h : 30 < n) : (30 < z + (x + (y + n))) = True := by simp; omega
theorem l30c (x y z w n : Nat) (h : 30 < n) : (30 < w + (z + (x + (y + n)))) = True := by simp; omega
attribute [local simp] e30a e30b e30c l30a l30b l30c
noncomputable abbrev B0 : Heap := E.base.push (.cells [.bool false])
theorem B0_next : B0.next = 31 := rfl
theorem B0_get : B0.get 30 = some (.cells [.bool false]) := rfl
theorem B0_put (c : List AV) : B0.put 30 (some (.cells c)) = E.base.push (.cells c) := rfl
theorem base_get30 (c : Obj) : (E.base.push c).get 30 = some c := rfl
theorem base_next1 (c : Obj) : (E.base.push c).next = 31 := rfl
theorem B0_trunc : B0.trunc 30 = E.base := rfl

/-- The rest, behind the data. -/
def dC (d : Dt) : List AV := d.val.cells

theorem dC_Ok (d : Dt) (hd : d.good) : ∀ c ∈ dC d, Ok c := by
  have h1 : Ok (varsV d.vs) := (slV_is _).ok (Elz_strs d.vs)
  have h2 := consV_Ok d.cs hd.2.2.1
  have h3 := strsV_Ok d.der
  intro c hc
  have hc : c = .str [84] ∨ c = varsV d.vs ∨ c = consV d.cs ∨ c = strsV d.der ∨ c = .int .i64 d.pos := by simpa [dC, Dt.val, dV] using hc
  rcases hc with rfl | rfl | rfl | rfl | rfl
  · simp
  · exact h1
  · exact h2
  · exact h3
  · simp
theorem dC_one (d : Dt) (hd : d.good) : (∀ x, x ∈ dC d → x.one = true) = True := eq_true fun c hc => (dC_Ok d hd c hc).1
theorem freezeL_of {l : List AV} (h : ∀ c ∈ l, c.freeze = c) : freezeL l = l := by
  have : l.map AV.freeze = l.map id := List.map_congr_left h
  simpa [freezeL] using this
theorem dC_frz (d : Dt) (hd : d.good) : freezeL (dC d) = dC d := freezeL_of fun c hc => (dC_Ok d hd c hc).2.1
theorem dC_len (d : Dt) : (dC d).length = 5 := rfl
theorem dCs_elz (ds : List Dt) (h : ∀ d ∈ ds, d.good) : Elz 30 5 (ds.map dC) := fun e he => by
  obtain ⟨d, hd, rfl⟩ := List.mem_map.1 he
  exact ⟨rfl, fun c hc => dC_Ok d (h d hd) c hc⟩
theorem dVal (d : Dt) : d.val = .agg (dC d) := rfl

theorem Sh.six {v : AV} (h : Sh 6 v) : ∃ a b c d e f, v = .agg [a, b, c, d, e, f] ∧ Ok a ∧ Ok b ∧ Ok c ∧ Ok d ∧ Ok e ∧ Ok f := by
  obtain ⟨cs, rfl, hl, h⟩ := h
  match cs, hl with
  | [a, b, c, d, e, f], _ => exact ⟨a, b, c, d, e, f, rfl, h a (by simp), h b (by simp), h c (by simp), h d (by simp), h e (by simp), h f (by simp)⟩
theorem dC_take (d : Dt) : List.take 5 (dC d) = dC d := rfl
/-- What is wanted. -/
def pairs (d : Dt) : List (Dt × List UInt8) := d.der.map fun s => (d, s)
def wI (w : Dt × List UInt8) : List AV := (instY w.1 w.2).cells
def wF (w : Dt × List UInt8) : List AV := if isC w.2 = true then [.int .i64 0, .bool false, .int .i64 0] else [.int .i64 105, .bool true, .int .i64 w.1.pos]
noncomputable abbrev hh2 (X : Heap) (C D : AV) : Heap := (X.push (.cells [C])).push (.cells [D])
/-- The heap, with what is wanted so far. -/
def HW (X : Heap) (n : Nat) (ws : List (Dt × List UInt8)) (H : Heap) : Prop :=
  (ws = [] ∧ ∃ K : List (Option Obj), H = (hh2 X .nilS .nilS).more K) ∨
  (ws ≠ [] ∧ ∃ K : List (Option Obj), H = (((hh2 X (.list (ws.map wI) (.tok (K.length + (n + 34)) 6)) (.list (ws.map wF) (.tok (K.length + (n + 35)) 3))).more K).push .tok).push .tok)
theorem dC_ex (d : Dt) : dC d = [.str [84], varsV d.vs, consV d.cs, strsV d.der, .int .i64 d.pos] := rfl
theorem wl : ∀ (ds : List Dt) (m : Nat), (∀ d ∈ ds, d.good) → ((ds.take m).flatMap pairs).length ≤ 3 * m
  | [], m, _ => by simp
  | d :: ds, 0, _ => by simp
  | d :: ds, m + 1, h => by
    have := wl ds m fun x hx => h x (by simp [hx])
    have hd := (h d (by simp)).2.2.2
    rw [List.take_succ_cons, List.flatMap_cons, List.length_append]
    simp only [pairs, List.length_map] at this ⊢
    omega
theorem take_pairs {ds : List Dt} {m : Nat} {d : Dt} (h : ds[m]? = some d) : (ds.take (m + 1)).flatMap pairs = (ds.take m).flatMap pairs ++ pairs d := by
  rw [List.take_add_one, h, List.flatMap_append]; simp
theorem pairs_len (d : Dt) : (pairs d).length = d.der.length := by simp [pairs]
theorem HW_mk {X H : Heap} {n : Nat} {ws : List (Dt × List UInt8)} (es fs : List (List AV)) (p q : Nat) (K : List (Option Obj)) (hne : ws ≠ []) (hI : ws.map wI = es) (hF : ws.map wF = fs) (hp : p = K.length + (n + 34)) (hq : q = K.length + (n + 35))
    (hH : H = (((hh2 X (.list es (.tok p 6)) (.list fs (.tok q 3))).more K).push .tok).push .tok) : HW X n ws H := by
  subst hI hF hp hq; exact Or.inr ⟨hne, K, hH⟩
theorem wI_len (w : Dt × List UInt8) : (wI w).length = 6 := by
  simp only [wI, instY, instA]
  split
  · rfl
  · split
    · rfl
    · split <;> rfl
theorem wF_len (w : Dt × List UInt8) : (wF w).length = 3 := by simp only [wF]; split <;> rfl
def cnt (ds : List Dt) (i : Nat) : Nat := ((ds.take i).flatMap pairs).length
theorem cnt0' (ds : List Dt) : cnt ds 0 = 0 := by simp [cnt]
theorem cnt_succ {ds : List Dt} {i : Nat} {d : Dt} (h : ds[i]? = some d) : cnt ds (i + 1) = cnt ds i + d.der.length := by simp only [cnt]; rw [take_pairs h, List.length_append, pairs_len]
theorem ws_at : ∀ {ds : List Dt} {i : Nat} {d : Dt} {j : Nat} {x : List UInt8}, ds[i]? = some d → d.der[j]? = some x → (ds.flatMap pairs)[cnt ds i + j]? = some (d, x)
  | [], i, d, j, x, h, _ => by simp at h
  | e :: ds, 0, d, j, x, h, hx => by
    simp only [List.length_cons, Nat.zero_lt_succ, getElem?_pos, List.getElem_cons_zero, Option.some.injEq] at h
    subst h
    have hj : j < e.der.length := (List.getElem?_eq_some_iff.1 hx).1
    have h0 : cnt (e :: ds) 0 = 0 := cnt0' _
    rw [h0, Nat.zero_add, List.flatMap_cons, List.getElem?_append_left (by rw [pairs_len]; exact hj)]
    simp [pairs, hx]
  | e :: ds, i + 1, d, j, x, h, hx => by
    have := ws_at (ds := ds) (i := i) (by simpa using h) hx
    have hc : cnt (e :: ds) (i + 1) = (pairs e).length + cnt ds i := by simp only [cnt, List.take_succ_cons, List.flatMap_cons, List.length_append]
    rw [hc, List.flatMap_cons, Nat.add_assoc, List.getElem?_append_right (by omega)]
    rw [Nat.add_sub_cancel_left]
    exact this
theorem cnt0 (ds : List Dt) : cnt ds 0 = 0 := by simp [cnt]
noncomputable abbrev Zh (X : Heap) (C D : AV) (K : List (Option Obj)) (n : Int) (l : AV) : Heap := ((((X.push (.cells [C])).push (.cells [D])).more K).push (.cells [.int .i64 n])).push (.cells [l])
theorem push2_mm (X : Heap) (c d : Obj) (K K3 : List (Option Obj)) : (((X.more K3).push c).push d).more K = X.more (K ++ some d :: some c :: K3) := by simp [Heap.more, Heap.push]
theorem push3_mm (X : Heap) (c d e : Obj) (K K3 : List (Option Obj)) : ((((X.more K3).push c).push d).push e).more K = X.more (K ++ some e :: some d :: some c :: K3) := by simp [Heap.more, Heap.push]
/-- The names that are asked for. -/
def asks (cls : List UInt8) : List (List UInt8) := [[69, 113], [79, 114, 100], [83, 104, 111, 119], cls]

set_option maxHeartbeats 1000000 in
theorem says_ok (L : Nums) (cls : List UInt8) : ACalls E 3 [seqL L, .str cls] E.base (Held (fun X H1 => X = .bool true ∧ H1.trunc 30 = E.base) .mk) := by
  refine ACalls.of Tryd.func3 rfl rfl rfl rfl rfl ?_
  have hl : lenA P 22 (seqL L) = some (.int .i64 (L.getD []).length) := by cases L <;> simp [seqL]
  by_cases h1 : (100 : Int) < (L.getD []).length
  · simp -dsimp [first_ok, hl, h1]
    done
  by_cases h2 : (40 : Int) < cls.length
  · simp -dsimp [first_ok, hl, h1, h2]
    done
  have hn0 := next31 L 0 (by omega)
  have o1 : (seqL L).one = true := by cases L <;> simp [seqL]
  have z1 := cells_of_one o1
  have f1 : (seqL L).freeze = seqL L := by cases L <;> simp [seqL]
  simp -dsimp [first_ok, hl, h1, h2, hn0, o1, z1, f1]
  have hr4 := numN_lt (x := nth L 0) (m := 4) (by omega)
  generalize numN (nth L 0) 4 = k4 at hr4
  obtain ⟨k, rfl⟩ : ∃ k : Nat, k4 = (k : Int) := ⟨k4.toNat, by omega⟩
  refine Wp.loop (fun (j : Nat) ρ H => j ≤ 4 ∧ ρ 1 = .str cls ∧ ρ 4 = .ptr 30 0 ∧ ρ 5 = .bool true ∧ ρ 6 = .ptr 31 0 ∧ ρ 8 = .int .i64 ((j : Int) - 1) ∧ ∃ (a : Nat) (ds : List Dt), a + 100 * j ≤ 1000 ∧ ds.length + j ≤ 4 ∧ (ds = [] → 0 < j) ∧ (∀ d ∈ ds, d.good) ∧
      ((ds = [] ∧ ρ 7 = .nilS ∧ ∃ J : List (Option Obj), H = (qH B0 L a).more J) ∨
       (ds ≠ [] ∧ ∃ J : List (Option Obj), ρ 7 = .list (ds.map dC) (.tok (J.length + 32) 5) ∧ H = ((qH B0 L a).more J).push .tok))) (fun (j : Nat) => j) ?_ (k + 1) _ _ ?_
  · rintro j ρ H ⟨hj, r1, r4, r5, r6, r8, a, ds, ha, hdl, hdn, hdg, hh⟩
    by_cases hj0 : 0 < j
    · have hj' : (1 : Int) ≤ (j : Int) := by omega
      have hw : IntKind.i64.wrap ((j : Int) - 1 - 1) = (j : Int) - 1 - 1 := IntWalk.i64_in _ (by omega)
      rcases hh with ⟨rfl, r7, J, rfl⟩ | ⟨hne, J, r7, rfl⟩
      · obtain ⟨X, H', ⟨d, a', K, hd, ha', rfl, rfl⟩, hrun⟩ := Run.of (data_ok B0 B0_next B0_trunc L a (by omega) J)
        simp only [Run, qH] at hrun
        rw [dVal] at hrun
        have e1 := dC_one d hd
        have e2 := dC_frz d hd
        simp -dsimp [r1, r4, r5, r6, r7, r8, hj', hw, hrun, qH, dC_len, e1, e2]
        exact ⟨j - 1, by omega, by omega, by omega, a', by omega, [d], by simp; omega, by simp, by simpa using hd, by simp, K ++ J, ⟨by simp, by simp; omega⟩, by simp only [more_more]⟩
      · obtain ⟨X, H', ⟨d, a', K, hd, ha', rfl, rfl⟩, hrun⟩ := Run.of (data_ok B0 B0_next B0_trunc L a (by omega) (some .tok :: J))
        have hrun : Run 6 [.ptr 31 0] (((qH B0 L a).more J).push .tok) d.val ((((qH B0 L a').more J).push .tok).more K) := hrun
        simp only [Run, qH] at hrun
        rw [dVal] at hrun
        have e1 := dC_one d hd
        have e2 := dC_frz d hd
        have hb1 : (ds.length + 1) * 96 ≤ 35184372088832 := by omega
        have hb2 : ds.length ≤ 35184372088831 := by omega
        simp -dsimp [r1, r4, r5, r6, r7, r8, hj', hw, hrun, qH, dC_len, e1, e2, hb1, hb2]
        refine ⟨j - 1, by omega, by omega, by omega, a', by omega, ds ++ [d], by simp; omega, by simp, ?_, by simp, K ++ none :: J, ⟨by simp, by simp; omega⟩, ?_⟩
        · intro x hx
          rcases List.mem_append.1 hx with hx | hx
          · exact hdg x hx
          · simp only [List.mem_cons, List.not_mem_nil, or_false] at hx; subst hx; exact hd
        · simp only [more_skip, more_more]; rfl
    · have : j = 0 := by omega
      subst this
      rcases hh with ⟨rfl, -, -⟩ | ⟨hne, J, r7, rfl⟩
      · exact absurd (hdn rfl) hj0
      · have hH : ∃ J', ((qH B0 L a).more J).push .tok = (B0.push (.cells [seqL L, .int .i64 a])).more J' := ⟨some .tok :: J, rfl⟩
        have r7 : ∃ t, ρ 7 = .list (ds.map dC) t := ⟨_, r7⟩
        obtain ⟨t7, r7⟩ := r7
        obtain ⟨J', hH⟩ := hH
        rw [hH]
        clear hH hdn
        simp -dsimp [r1, r4, r5, r6, r7, r8]
        refine Wp.loop (fun (i : Nat) ρ H => i ≤ 4 ∧ ρ 1 = .str cls ∧ ρ 4 = .ptr 30 0 ∧ ρ 5 = .bool true ∧ ρ 7 = .list (ds.map dC) t7 ∧ ρ 9 = .list ((asks cls).map fun s => [.str s]) .full ∧ ρ 10 = .int .i64 i ∧ ∃ J : List (Option Obj), H = (B0.push (.cells [seqL L, .int .i64 a])).more J) (fun (i : Nat) => 4 - i) ?_ 0 _ _ ?_
        · rintro i ρ H ⟨hi, r1, r4, r5, r7, r9, r10, J, rfl⟩
          by_cases hi4 : i < 4
          · have hi4' : (i : Int) < 4 := by omega
            obtain ⟨x, hx⟩ : ∃ x, (asks cls)[i]? = some x := ⟨(asks cls)[i]'(by simp [asks]; omega), by simp⟩
            obtain ⟨d0, ds', hds⟩ : ∃ d0 ds', ds = d0 :: ds' := by cases ds with | nil => exact absurd rfl hne | cons d0 ds' => exact ⟨d0, ds', rfl⟩
            have hd0 := hdg d0 (by simp [hds])
            have hX := dX d0 hd0 x
            have hY := dY d0 hd0 x
            rw [dVal] at hX hY
            have hS := dS d0 hd0 x
            have hN := no_inst d0 x
            have hV : isC x = true → valY d0 x = instY d0 x ∧ okY d0 x = true := fun h => by simp [valY, okY, h]
            obtain ⟨x0, x1, x2, x3, x4, x5, hXe, p0, p1, p2, p3, p4, p5⟩ := (shXY d0 hd0 x).1.six
            obtain ⟨y0, y1, y2, y3, y4, y5, hYe, q0, q1, q2, q3, q4, q5⟩ := (shV d0 hd0 x).six
            rw [hXe] at hX hS hN
            rw [hYe] at hY hV
            have hHas := has_ok x
            have hCan := can_ok x
            simp only [Ok] at p0 p1 p2 p3 p4 p5 q0 q1 q2 q3 q4 q5
            have hw : IntKind.i64.wrap ((i : Int) + 1) = (i : Int) + 1 := IntWalk.i64_in _ (by omega)
            have hl : (asks cls).length = 4 := rfl
            have hx' : (asks cls)[i]'(by rw [hl]; exact hi4) = x := by rw [List.getElem?_eq_getElem (by rw [hl]; exact hi4)] at hx; exact Option.some.inj hx
            have hel := dCs_elz ds hdg
            have hE1 := hel.under
            have hE2 := hel.all
            rw [hds, List.map_cons] at r7 hE1 hE2
            have ht : List.take 3 ((asks cls).map fun s => [AV.str s]) = [[.str [69, 113]], [.str [79, 114, 100]], [.str [83, 104, 111, 119]]] := rfl
            simp only [three] at hHas
            have hfin : ∀ (X : Heap) (K : List (Option Obj)), ∃ y : Nat, 4 - y < 4 - i ∧ y ≤ 4 ∧ dC d0 :: List.map dC ds' = List.map dC ds ∧ (i : Int) + 1 = y ∧ ∃ J : List (Option Obj), X.more K = X.more J := fun X K => ⟨i + 1, by omega, by omega, by rw [hds]; rfl, by simp, K, rfl⟩
            cases hc : isC x with
            | true =>
              rw [hc] at hX hHas hCan
              rw [(hV hc).2] at hY
              rw [← (hV hc).1] at hS
              simp -dsimp [r1, r4, r5, r7, r9, r10, hi4', hX, hY, hl, hx', hi4, hw, dC_len, dC_take, B0_next, B0_trunc, p0, p1, p2, p3, p4, p5, q0, q1, q2, q3, q4, q5, ht, hHas, hCan, hS]
              simp only [more_push]
              exact hfin _ _
            | false =>
              rw [hc] at hX hHas hCan
              have hS0 : Fn E 10 [.agg [x0, x1, x2, x3, x4, x5], .agg [.str [], .str [], .nilS, .nilS, .nilS, .int .i64 0], .bool true] (.bool true) := by rw [(hN hc).1]; exact sameInst0
              simp -dsimp [r1, r4, r5, r7, r9, r10, hi4', hX, hY, hl, hx', hi4, hw, dC_len, dC_take, B0_next, B0_trunc, p0, p1, p2, p3, p4, p5, q0, q1, q2, q3, q4, q5, ht, hHas, hCan, hS0]
              simp only [more_push]
              exact hfin _ _
          · have : i = 4 := by omega
            subst this
            simp -dsimp [r1, r4, r5, r7, r9, r10]
            clear hi r10 r1 hi4
            refine Wp.loop (fun (m : Nat) ρ H => m ≤ ds.length ∧ ρ 4 = .ptr 30 0 ∧ ρ 5 = .bool true ∧ ρ 7 = .list (ds.map dC) t7 ∧ ρ 9 = .list ((asks cls).map fun s => [.str s]) .full ∧ ρ 15 = .ptr (J.length + 32) 0 ∧ ρ 16 = .ptr (J.length + 33) 0 ∧ ρ 17 = .int .i64 m ∧
              HW ((B0.push (.cells [seqL L, .int .i64 a])).more J) J.length ((ds.take m).flatMap pairs) H) (fun (m : Nat) => ds.length - m) ?_ 0 _ _ ?_
            · rintro m ρ H ⟨hm, r4, r5, r7, r9, r15, r16, r17, hHW⟩
              have hdl4 : ds.length ≤ 4 := by omega
              have hw : IntKind.i64.wrap ((m : Int) + 1) = (m : Int) + 1 := IntWalk.i64_in _ (by omega)
              by_cases hlt : m < ds.length
              · obtain ⟨d, hd⟩ : ∃ d, ds[m]? = some d := ⟨ds[m], by simp [hlt]⟩
                have hd' : ds[m] = d := by rw [List.getElem?_eq_getElem hlt] at hd; exact Option.some.inj hd
                have hdm := hdg d (List.mem_of_getElem? hd)
                have hlt' : (m : Int) < (ds.length : Int) := by omega
                simp -dsimp [r4, r5, r7, r9, r15, r16, r17, hlt]
                refine Wp.loop (fun (j : Nat) ρ H => j ≤ d.der.length ∧ ρ 4 = .ptr 30 0 ∧ ρ 5 = .bool true ∧ ρ 7 = .list (ds.map dC) t7 ∧ ρ 9 = .list ((asks cls).map fun s => [.str s]) .full ∧ ρ 15 = .ptr (J.length + 32) 0 ∧ ρ 16 = .ptr (J.length + 33) 0 ∧ ρ 17 = .int .i64 m ∧ ρ 18 = .int .i64 j ∧
                  HW ((B0.push (.cells [seqL L, .int .i64 a])).more J) J.length ((ds.take m).flatMap pairs ++ (pairs d).take j) H) (fun (j : Nat) => d.der.length - j) ?_ 0 _ _ ?_
                · clear hHW
                  rintro j ρ H ⟨hj, r4, r5, r7, r9, r15, r16, r17, r18, hHW⟩
                  have hd3 : d.der.length ≤ 3 := hdm.2.2.2
                  have hel := dCs_elz ds hdg
                  have hE1 := hel.under
                  have hE2 := hel.all
                  have hsl := (slV_is (d.der.map fun s => [AV.str s]))
                  have hsl1 : lenA P 29 (strsV d.der) = some (.int .i64 d.der.length) := by have := hsl.len u29; simpa [strsV] using this
                  have hdm' : dC ds[m] = [.str [84], varsV d.vs, consV d.cs, strsV d.der, .int .i64 d.pos] := by rw [hd']; rfl
                  have o1 : (strsV d.der).freeze = strsV d.der := slV_frz _
                  by_cases hjl : j < d.der.length
                  · obtain ⟨x, hx⟩ : ∃ x, d.der[j]? = some x := ⟨d.der[j], by simp [hjl]⟩
                    have hx' : d.der[j] = x := by rw [List.getElem?_eq_getElem hjl] at hx; exact Option.some.inj hx
                    have hsE : strsV d.der = .list (d.der.map fun s => [AV.str s]) .frozen := hsl.at (i := j) (by simpa using hjl)
                    have hU := (Elz_strs d.der).under
                    rw [hsE] at hdm'
                    have hwl := wl ds m hdg
                    have hHas := has_ok x
                    have ht : List.take 3 ((asks cls).map fun s => [AV.str s]) = [[.str [69, 113]], [.str [79, 114, 100]], [.str [83, 104, 111, 119]]] := rfl
                    have hl : (asks cls).length = 4 := rfl
                    simp only [three] at hHas
                    have hws : ((ds.take m).flatMap pairs ++ (pairs d).take (j + 1)) = ((ds.take m).flatMap pairs ++ (pairs d).take j) ++ [(d, x)] := by
                      rw [List.take_add_one, List.append_assoc]; simp [pairs, hx]
                    have hY := dY d hdm x
                    have hN := no_inst d x
                    have hV : isC x = true → valY d x = instY d x ∧ okY d x = true := fun h => by simp [valY, okY, h]
                    rw [dVal, dC_ex, hsE] at hY
                    obtain ⟨y0, y1, y2, y3, y4, y5, hYe, q0, q1, q2, q3, q4, q5⟩ := (shV d hdm x).six
                    rw [hYe] at hY hV
                    simp only [Ok] at q0 q1 q2 q3 q4 q5
                    have hpl := placed_ok d.pos
                    have hno := none_ok
                    simp only [faultV] at hpl hno
                    have hwsl : ((ds.take m).flatMap pairs ++ (pairs d).take j).length ≤ 20 := by
                      rw [List.length_append, List.length_take, pairs_len]; omega
                    generalize (ds.take m).flatMap pairs ++ (pairs d).take j = ws at hws hHW hwsl
                    have hwj : IntKind.i64.wrap ((j : Int) + 1) = (j : Int) + 1 := IntWalk.i64_in _ (by omega)
                    rcases hHW with ⟨rfl, K, rfl⟩ | ⟨hwn, K, rfl⟩
                    · cases hc : isC x with
                      | true =>
                        rw [hc] at hHas
                        rw [(hV hc).2] at hY
                        have hwI : wI (d, x) = [y0, y1, y2, y3, y4, y5] := by simp only [wI, ← (hV hc).1]; rfl
                        have hwF : wF (d, x) = [.int .i64 0, .bool false, .int .i64 0] := by simp only [wF, hc, if_true]
                        simp -dsimp [r4, r5, r7, r9, r15, r16, r17, r18, hlt, hdm', hE1, hE2, hjl, hx', hU, B0_next, B0_trunc, hh2, hpl, hno, hHas, ht, hl, hY, hwj, q0, q1, q2, q3, q4, q5]
                        refine ⟨j + 1, by omega, by omega, by simp, ?_⟩
                        rw [hws]
                        exact HW_mk _ _ _ _ (some (.cells [y0, y1, y2, y3, y4, y5]) :: some (.cells [.int .i64 0, .bool false, .int .i64 0]) :: K) (by simp) (by simp [hwI]) (by simp [hwF]) (by simp <;> omega) (by simp <;> omega) rfl
                      | false =>
                        rw [hc] at hHas
                        have hwI : wI (d, x) = [.str [], .str [], .nilS, .nilS, .nilS, .int .i64 0] := by simp only [wI, (hN hc).2]; rfl
                        have hwF : wF (d, x) = [.int .i64 105, .bool true, .int .i64 d.pos] := by simp only [wF, hc, Bool.false_eq_true, if_false]
                        simp -dsimp [r4, r5, r7, r9, r15, r16, r17, r18, hlt, hdm', hE1, hE2, hjl, hx', hU, B0_next, B0_trunc, hh2, hpl, hno, hHas, ht, hl, hY, hwj, q0, q1, q2, q3, q4, q5]
                        refine ⟨j + 1, by omega, by omega, by simp, ?_⟩
                        rw [hws]
                        exact HW_mk _ _ _ _ (some (.cells [.str [], .str [], .nilS, .nilS, .nilS, .int .i64 0]) :: some (.cells [.int .i64 105, .bool true, .int .i64 d.pos]) :: K) (by simp) (by simp [hwI]) (by simp [hwF]) (by simp <;> omega) (by simp <;> omega) rfl
                    · have hb1 : (ws.length + 1) * 112 ≤ 35184372088832 := by omega
                      have hb2 : ws.length ≤ 35184372088831 := by omega
                      have hb3 : (ws.length + 1) * 24 ≤ 35184372088832 := by omega
                      cases hc : isC x with
                      | true =>
                        rw [hc] at hHas
                        rw [(hV hc).2] at hY
                        have hwI : wI (d, x) = [y0, y1, y2, y3, y4, y5] := by simp only [wI, ← (hV hc).1]; rfl
                        have hwF : wF (d, x) = [.int .i64 0, .bool false, .int .i64 0] := by simp only [wF, hc, if_true]
                        simp -dsimp [r4, r5, r7, r9, r15, r16, r17, r18, hlt, hdm', hE1, hE2, hjl, hx', hU, B0_next, B0_trunc, hh2, hpl, hno, hHas, ht, hl, hY, hwj, q0, q1, q2, q3, q4, q5, hb1, hb2, hb3, wI_len, wF_len]
                        refine ⟨j + 1, by omega, by omega, by simp, ?_⟩
                        rw [hws]
                        exact HW_mk _ _ _ _ (some (.cells [y0, y1, y2, y3, y4, y5]) :: some (.cells [.int .i64 0, .bool false, .int .i64 0]) :: none :: none :: K) (by simp) (by simp [hwI]) (by simp [hwF]) (by simp <;> omega) (by simp <;> omega) rfl
                      | false =>
                        rw [hc] at hHas
                        have hwI : wI (d, x) = [.str [], .str [], .nilS, .nilS, .nilS, .int .i64 0] := by simp only [wI, (hN hc).2]; rfl
                        have hwF : wF (d, x) = [.int .i64 105, .bool true, .int .i64 d.pos] := by simp only [wF, hc, Bool.false_eq_true, if_false]
                        simp -dsimp [r4, r5, r7, r9, r15, r16, r17, r18, hlt, hdm', hE1, hE2, hjl, hx', hU, B0_next, B0_trunc, hh2, hpl, hno, hHas, ht, hl, hY, hwj, q0, q1, q2, q3, q4, q5, hb1, hb2, hb3, wI_len, wF_len]
                        refine ⟨j + 1, by omega, by omega, by simp, ?_⟩
                        rw [hws]
                        exact HW_mk _ _ _ _ (some (.cells [.str [], .str [], .nilS, .nilS, .nilS, .int .i64 0]) :: some (.cells [.int .i64 105, .bool true, .int .i64 d.pos]) :: none :: none :: K) (by simp) (by simp [hwI]) (by simp [hwF]) (by simp <;> omega) (by simp <;> omega) rfl
                  · have : j = d.der.length := by omega
                    subst this
                    simp -dsimp [r4, r5, r7, r9, r15, r16, r17, r18, hlt, hdm', hE1, hE2, hsl1, o1, hw]
                    have e : (pairs d).take d.der.length = pairs d := List.take_of_length_le (by rw [pairs_len]; omega)
                    rw [e, ← take_pairs hd] at hHW
                    exact ⟨m + 1, by omega, by omega, by simp, hHW⟩
                · refine ⟨by omega, ?_⟩
                  simp -dsimp [r4, r5, r7, r9, r15, r16, r17]
                  exact hHW
              · have : m = ds.length := by omega
                subst this
                have hall : (ds.take ds.length).flatMap pairs = ds.flatMap pairs := by rw [List.take_length]
                rw [hall] at hHW
                have hwl : (ds.flatMap pairs).length ≤ 20 := by have := wl ds ds.length hdg; rw [hall] at this; omega
                generalize hws : ds.flatMap pairs = ws at hHW hwl
                have hCD : ∃ (C D : AV) (K : List (Option Obj)), lenA P 43 C = some (.int .i64 ws.length) ∧ (ws ≠ [] → ∃ t u, C = .list (ws.map wI) t ∧ D = .list (ws.map wF) u) ∧ H = (hh2 ((B0.push (.cells [seqL L, .int .i64 a])).more J) C D).more K := by
                  rcases hHW with ⟨rfl, K, rfl⟩ | ⟨hwn, K, rfl⟩
                  · exact ⟨.nilS, .nilS, K, IsSl.len (es := []) (Or.inl ⟨rfl, rfl⟩) u43, fun h => absurd rfl h, rfl⟩
                  · refine ⟨_, _, some .tok :: some .tok :: K, ?_, fun _ => ⟨_, _, rfl, rfl⟩, rfl⟩
                    rw [lenA_list, u43]; simp
                obtain ⟨C, D, K, hlC, fCD, rfl⟩ := hCD
                clear hHW
                simp -dsimp [r4, r5, r7, r9, r15, r16, r17, hh2, B0_next]
                refine ACalls.of Tryd.func14 rfl rfl rfl rfl rfl ?_
                simp -dsimp [B0_next]
                refine Wp.range 37 _ _ rfl rfl rfl ?_
                simp -dsimp [B0_next]
                have hcn : cnt ds ds.length = ws.length := by rw [cnt, hall, hws]
                refine Wp.loop (fun (i : Nat) ρ H => i ≤ ds.length ∧ ρ 0 = .yld (Zh ((B0.push (.cells [seqL L, .int .i64 a])).more J) C D K 0 (.list (ds.map dC) t7)).next ∧ ρ 10 = .list (ds.map dC) t7 ∧ ρ 11 = .int .i64 ds.length ∧ ρ 12 = .int .i64 i ∧
                  ∃ K2 : List (Option Obj), H = ((Zh ((B0.push (.cells [seqL L, .int .i64 a])).more J) C D K (cnt ds i : Nat) (.list (ds.map dC) t7)).skip 1).more K2) (fun (i : Nat) => ds.length - i) ?_ 0 _ _ ?_
                · rintro i ρ0 H ⟨hi, r0, r10, r11, r12, K2, rfl⟩
                  by_cases hlt : i < ds.length
                  · obtain ⟨d, hd⟩ : ∃ d, ds[i]? = some d := ⟨ds[i], by simp [hlt]⟩
                    have hd' : ds[i] = d := by rw [List.getElem?_eq_getElem hlt] at hd; exact Option.some.inj hd
                    have hdm := hdg d (List.mem_of_getElem? hd)
                    have hd3 : d.der.length ≤ 3 := hdm.2.2.2
                    have hw : IntKind.i64.wrap ((i : Int) + 1) = (i : Int) + 1 := IntWalk.i64_in _ (by omega)
                    have hel := dCs_elz ds hdg
                    have hE1 := hel.under
                    have hE2 := hel.all
                    have hsl := (slV_is (d.der.map fun s => [AV.str s]))
                    have hsl1 : lenA P 29 (strsV d.der) = some (.int .i64 d.der.length) := by have := hsl.len u29; simpa [strsV] using this
                    have hdm' : dC ds[i] = [.str [84], varsV d.vs, consV d.cs, strsV d.der, .int .i64 d.pos] := by rw [hd']; rfl
                    have o1 : (strsV d.der).freeze = strsV d.der := slV_frz _
                    have o2 : (varsV d.vs).freeze = varsV d.vs := slV_frz _
                    have o3 : (consV d.cs).freeze = consV d.cs := slV_frz _
                    have p1 : (strsV d.der).one = true := slV_one _
                    have p2 : (varsV d.vs).one = true := slV_one _
                    have p3 : (consV d.cs).one = true := slV_one _
                    have c1 : ∀ v : AV, v.freeze = v → v.freeze = v := fun _ h => h
                    simp -dsimp [r0, r10, r11, r12, hlt, hdm', hE1, hE2, hsl1, o1, o2, o3, p1, p2, p3, B0_next]
                    refine Wp.loop (fun (j : Nat) ρ H => j ≤ d.der.length ∧ ρ 0 = .yld (Zh ((B0.push (.cells [seqL L, .int .i64 a])).more J) C D K 0 (.list (ds.map dC) t7)).next ∧ ρ 4 = .ptr (K2.length + (K.length + (J.length + 37))) 0 ∧ ρ 10 = .list (ds.map dC) t7 ∧ ρ 11 = .int .i64 ds.length ∧ ρ 12 = .int .i64 i ∧ ρ 17 = strsV d.der ∧ ρ 18 = .int .i64 d.der.length ∧ ρ 19 = .int .i64 j ∧
                      ∃ K3 : List (Option Obj), H = ((((Zh ((B0.push (.cells [seqL L, .int .i64 a])).more J) C D K ((cnt ds i + j : Nat) : Int) (.list (ds.map dC) t7)).skip 1).more K2).push (.cells [.str [84], varsV d.vs, consV d.cs, strsV d.der, .int .i64 d.pos])).more K3) (fun (j : Nat) => d.der.length - j) ?_ 0 _ _ ?_
                    · rintro j ρ1 H ⟨hj, s0, s4, s10, s11, s12, s17, s18, s19, K3, rfl⟩
                      by_cases hjl : j < d.der.length
                      · obtain ⟨x, hx⟩ : ∃ x, d.der[j]? = some x := ⟨d.der[j], by simp [hjl]⟩
                        have hx' : d.der[j] = x := by rw [List.getElem?_eq_getElem hjl] at hx; exact Option.some.inj hx
                        have hat := ws_at hd hx
                        rw [hws] at hat
                        obtain ⟨n, hn⟩ : ∃ n, n = cnt ds i + j := ⟨_, rfl⟩
                        rw [← hn] at hat ⊢
                        have hnl : n < ws.length := (List.getElem?_eq_some_iff.1 hat).1
                        have hnl' : (n : Int) < (ws.length : Int) := by omega
                        have hnle : (ws.length ≤ n) = False := by simp; omega
                        have hat' : ws[n] = (d, x) := (List.getElem?_eq_some_iff.1 hat).2
                        obtain ⟨tC, tD, rfl, rfl⟩ := fCD (by intro h; rw [h] at hnl; simp at hnl)
                        have hsE : strsV d.der = .list (d.der.map fun s => [AV.str s]) .frozen := hsl.at (i := j) (by simpa using hjl)
                        have hU := (Elz_strs d.der).under
                        have hX := dX d hdm x
                        have hS := dS d hdm x
                        rw [dVal, dC_ex, hsE] at hX
                        obtain ⟨x0, x1, x2, x3, x4, x5, hXe, p0, p1, p2, p3, p4, p5⟩ := (shXY d hdm x).1.six
                        obtain ⟨y0, y1, y2, y3, y4, y5, hYe, q0, q1, q2, q3, q4, q5⟩ := (shXY d hdm x).2.six
                        have hwI : wI (d, x) = [y0, y1, y2, y3, y4, y5] := by simp only [wI, hYe]; rfl
                        rw [hXe] at hX hS
                        rw [hYe] at hS
                        simp only [Ok] at p0 p1 p2 p3 p4 p5 q0 q1 q2 q3 q4 q5
                        have hwj : IntKind.i64.wrap ((j : Int) + 1) = (j : Int) + 1 := IntWalk.i64_in _ (by omega)
                        have hwn : IntKind.i64.wrap ((n : Int) + 1) = (n : Int) + 1 := IntWalk.i64_in _ (by omega)
                        rw [hsE] at s17
                        cases hc : isC x with
                        | true =>
                          rw [hc] at hX
                          have hwF : wF (d, x) = [.int .i64 0, .bool false, .int .i64 0] := by simp only [wF, hc, if_true]
                          have hs0 := fun (H : Heap) (h1 : 30 ≤ H.next) (h2 : H.trunc 30 = E.base) (R : AV → Heap → Prop) (m : Mark R) => same0 H h1 h2 R m
                          simp only [faultV] at hs0
                          simp -dsimp [o2, o3, hs0, hlC, hnl, hnl', hnle, hat', hwI, hwF, hwn, wI_len, wF_len, s0, s4, s10, s11, s12, s17, s18, s19, hjl, hx', hU, hsE, hX, hS, hwj, p0, p1, p2, p3, p4, p5, B0_next, B0_trunc, r4, r5, r15, r16]
                          refine ⟨j + 1, by omega, by omega, by simp, ?_⟩
                          have e : ((cnt ds i : Int) + ((j + 1 : Nat) : Int)) = (n : Int) + 1 := by omega
                          rw [e]
                          exact ⟨_, push2_mm ..⟩
                        | false =>
                          rw [hc] at hX
                          have hwF : wF (d, x) = [.int .i64 105, .bool true, .int .i64 d.pos] := by simp only [wF, hc, Bool.false_eq_true, if_false]
                          have hs1 := fun (H : Heap) (q : Nat) (pos : Int) (h1 : 30 ≤ H.next) (h2 : H.trunc 30 = E.base) (h3 : 30 ≤ q) (h4 : q < H.next) (h5 : H.get q = some (.cells [.int .i64 pos, .ifc 148 (.ptr 15 0)])) (R : AV → Heap → Prop) (m : Mark R) => same1 H h1 h2 q h3 h4 pos h5 R m
                          have g0 : E.base.get 0 = some (.cells [.ifc 148 (.ptr 15 0)]) := rfl
                          have g0' : B0.get 0 = some (.cells [.ifc 148 (.ptr 15 0)]) := rfl
                          simp only [faultV] at hs1
                          simp -dsimp [o2, o3, hs1, g0, g0', hlC, hnl, hnl', hnle, hat', hwI, hwF, hwn, wI_len, wF_len, s0, s4, s10, s11, s12, s17, s18, s19, hjl, hx', hU, hsE, hX, hS, hwj, p0, p1, p2, p3, p4, p5, B0_next, B0_trunc, r4, r5, r15, r16]
                          refine ⟨j + 1, by omega, by omega, by simp, ?_⟩
                          have e : ((cnt ds i : Int) + ((j + 1 : Nat) : Int)) = (n : Int) + 1 := by omega
                          rw [e]
                          exact ⟨_, push3_mm ..⟩
                      · have : j = d.der.length := by omega
                        subst this
                        simp -dsimp [s0, s4, s10, s11, s12, s17, s18, s19, hw]
                        refine ⟨i + 1, by omega, by omega, by simp, K3 ++ some (.cells [.str [84], varsV d.vs, consV d.cs, strsV d.der, .int .i64 d.pos]) :: K2, ?_⟩
                        rw [cnt_succ hd, Int.natCast_add]
                        simp only [more_push, more_more]
                    · refine ⟨by omega, ?_⟩
                      simp -dsimp [r0, r10, r11, r12, B0_next]
                      exact ⟨[], rfl⟩
                  · have : i = ds.length := by omega
                    subst this
                    simp -dsimp [r0, r10, r11, r12, r4, r5, r15, hcn, hlC, B0_next, B0_get, B0_put, base_get30, base_next1]
                    done
                · refine ⟨by omega, ?_⟩
                  simp -dsimp [B0_next, cnt0]
                  exact ⟨[], rfl⟩
            · refine ⟨by omega, ?_⟩
              simp -dsimp [r4, r5, r7, r9, B0_next]
              exact Or.inl ⟨rfl, [], rfl⟩
        · refine ⟨by omega, ?_⟩
          simp -dsimp [asks, r1, r4, r5, r7]
          exact ⟨J', rfl⟩
  · refine ⟨by omega, ?_⟩
    simp -dsimp
    exact ⟨1, by omega, [], by simp; omega, by simp, rfl, [], rfl⟩
end Go.Am.Ds
