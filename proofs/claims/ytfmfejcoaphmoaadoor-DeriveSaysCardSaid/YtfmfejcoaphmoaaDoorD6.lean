/- DeriveSays answers true, whatever the numbers and the word; no condition: a part of the proof. -/
import Derived.Test.YtfmfejcoaphmoaaDoorD5
set_option linter.unusedSimpArgs false
set_option linter.unusedVariables false
/- DeriveSays on AM: the document's Derive: Ord. -/
namespace Go.Am.Ds
open Go Go.Am Go.Proofs
set_option maxRecDepth 10000
attribute [local simp] slV_nil slV_cons cV vV sTrue sFalse casesV pairV eqArgsV ordArgsV sNil sCons sAppend sShow textV bothV shownV lamV showV conC argsV intC nmsV nms casesV' varsV dV predC bindC instV inst0
theorem nf_0_0 (a b : Nat) : (a + 33 = b + (a + 33 + 1 + 1)) = False := eq_false (by omega)
theorem nf_0_0' (a b : Nat) : (b + (a + 33 + 1 + 1) = a + 33) = False := eq_false (by omega)
theorem nf_0_1 (a b : Nat) : (a + 33 = b + (a + 33 + 1 + 1) + 1) = False := eq_false (by omega)
theorem nf_0_1' (a b : Nat) : (b + (a + 33 + 1 + 1) + 1 = a + 33) = False := eq_false (by omega)
theorem nf_0_2 (a b : Nat) : (a + 33 = b + (a + 33 + 1 + 1) + 1 + 1) = False := eq_false (by omega)
theorem nf_0_2' (a b : Nat) : (b + (a + 33 + 1 + 1) + 1 + 1 = a + 33) = False := eq_false (by omega)
theorem nf_0_3 (a b : Nat) : (a + 33 = b + (a + 33 + 1 + 1) + 1 + 1 + 1) = False := eq_false (by omega)
theorem nf_0_3' (a b : Nat) : (b + (a + 33 + 1 + 1) + 1 + 1 + 1 = a + 33) = False := eq_false (by omega)
theorem nf_0_4 (a b : Nat) : (a + 33 = b + (a + 33 + 1 + 1) + 1 + 1 + 1 + 1) = False := eq_false (by omega)
theorem nf_0_4' (a b : Nat) : (b + (a + 33 + 1 + 1) + 1 + 1 + 1 + 1 = a + 33) = False := eq_false (by omega)
theorem nf_1_0 (a b : Nat) : (a + 33 + 1 = b + (a + 33 + 1 + 1)) = False := eq_false (by omega)
theorem nf_1_0' (a b : Nat) : (b + (a + 33 + 1 + 1) = a + 33 + 1) = False := eq_false (by omega)
theorem nf_1_1 (a b : Nat) : (a + 33 + 1 = b + (a + 33 + 1 + 1) + 1) = False := eq_false (by omega)
theorem nf_1_1' (a b : Nat) : (b + (a + 33 + 1 + 1) + 1 = a + 33 + 1) = False := eq_false (by omega)
theorem nf_1_2 (a b : Nat) : (a + 33 + 1 = b + (a + 33 + 1 + 1) + 1 + 1) = False := eq_false (by omega)
theorem nf_1_2' (a b : Nat) : (b + (a + 33 + 1 + 1) + 1 + 1 = a + 33 + 1) = False := eq_false (by omega)
theorem nf_1_3 (a b : Nat) : (a + 33 + 1 = b + (a + 33 + 1 + 1) + 1 + 1 + 1) = False := eq_false (by omega)
theorem nf_1_3' (a b : Nat) : (b + (a + 33 + 1 + 1) + 1 + 1 + 1 = a + 33 + 1) = False := eq_false (by omega)
theorem nf_1_4 (a b : Nat) : (a + 33 + 1 = b + (a + 33 + 1 + 1) + 1 + 1 + 1 + 1) = False := eq_false (by omega)
theorem nf_1_4' (a b : Nat) : (b + (a + 33 + 1 + 1) + 1 + 1 + 1 + 1 = a + 33 + 1) = False := eq_false (by omega)
theorem ng_24 (a b : Nat) : (b + (a + 33 + 1 + 1) = 24) = False := eq_false (by omega)
theorem ng_24' (a b : Nat) : (24 = b + (a + 33 + 1 + 1)) = False := eq_false (by omega)
theorem ng_25 (a b : Nat) : (b + (a + 33 + 1 + 1) = 25) = False := eq_false (by omega)
theorem ng_25' (a b : Nat) : (25 = b + (a + 33 + 1 + 1)) = False := eq_false (by omega)
theorem ng_26 (a b : Nat) : (b + (a + 33 + 1 + 1) = 26) = False := eq_false (by omega)
theorem ng_26' (a b : Nat) : (26 = b + (a + 33 + 1 + 1)) = False := eq_false (by omega)
theorem ng_27 (a b : Nat) : (b + (a + 33 + 1 + 1) = 27) = False := eq_false (by omega)
theorem ng_27' (a b : Nat) : (27 = b + (a + 33 + 1 + 1)) = False := eq_false (by omega)
theorem ng_28 (a b : Nat) : (b + (a + 33 + 1 + 1) = 28) = False := eq_false (by omega)
theorem ng_28' (a b : Nat) : (28 = b + (a + 33 + 1 + 1)) = False := eq_false (by omega)
theorem ng_29 (a b : Nat) : (b + (a + 33 + 1 + 1) = 29) = False := eq_false (by omega)
theorem ng_29' (a b : Nat) : (29 = b + (a + 33 + 1 + 1)) = False := eq_false (by omega)
theorem ng_30 (a b : Nat) : (b + (a + 33 + 1 + 1) = 30) = False := eq_false (by omega)
theorem ng_30' (a b : Nat) : (30 = b + (a + 33 + 1 + 1)) = False := eq_false (by omega)
theorem ng_31 (a b : Nat) : (b + (a + 33 + 1 + 1) = 31) = False := eq_false (by omega)
theorem ng_31' (a b : Nat) : (31 = b + (a + 33 + 1 + 1)) = False := eq_false (by omega)
theorem ng_32 (a b : Nat) : (b + (a + 33 + 1 + 1) = 32) = False := eq_false (by omega)
theorem ng_32' (a b : Nat) : (32 = b + (a + 33 + 1 + 1)) = False := eq_false (by omega)
theorem ng_33 (a b : Nat) : (b + (a + 33 + 1 + 1) = 33) = False := eq_false (by omega)
theorem ng_33' (a b : Nat) : (33 = b + (a + 33 + 1 + 1)) = False := eq_false (by omega)
theorem nh_0 (a b : Nat) : (b + (a + 33 + 1 + 1) < 30) = False := eq_false (by omega)
theorem ni_0 (a b : Nat) : (30 ≤ b + (a + 33 + 1 + 1)) = True := eq_true (by omega)
theorem nh_1 (a b : Nat) : (b + (a + 33 + 1 + 1) + 1 < 30) = False := eq_false (by omega)
theorem ni_1 (a b : Nat) : (30 ≤ b + (a + 33 + 1 + 1) + 1) = True := eq_true (by omega)
theorem nh_2 (a b : Nat) : (b + (a + 33 + 1 + 1) + 1 + 1 < 30) = False := eq_false (by omega)
theorem ni_2 (a b : Nat) : (30 ≤ b + (a + 33 + 1 + 1) + 1 + 1) = True := eq_true (by omega)
theorem nh_3 (a b : Nat) : (b + (a + 33 + 1 + 1) + 1 + 1 + 1 < 30) = False := eq_false (by omega)
theorem ni_3 (a b : Nat) : (30 ≤ b + (a + 33 + 1 + 1) + 1 + 1 + 1) = True := eq_true (by omega)
theorem nj_0 (a : Nat) : (a + 33 < a + 33 + 1 + 1) = True := eq_true (by omega)
theorem nj_1 (a : Nat) : (a + 33 + 1 < a + 33 + 1 + 1) = True := eq_true (by omega)
theorem nj_2 (a b : Nat) : (a + 33 < b + (a + 33 + 1 + 1)) = True := eq_true (by omega)
theorem nj_3 (a b : Nat) : (a + 33 + 1 < b + (a + 33 + 1 + 1)) = True := eq_true (by omega)
theorem nj_4 (a : Nat) : (30 < a + 33 + 1 + 1) = True := eq_true (by omega)
theorem nj_5 (a : Nat) : (31 < a + 33 + 1 + 1) = True := eq_true (by omega)
theorem nj_6 (a : Nat) : (32 < a + 33 + 1 + 1) = True := eq_true (by omega)
attribute [local simp] nf_0_0 nf_0_0' nf_0_1 nf_0_1' nf_0_2 nf_0_2' nf_0_3 nf_0_3' nf_0_4 nf_0_4' nf_1_0 nf_1_0' nf_1_1 nf_1_1' nf_1_2 nf_1_2' nf_1_3 nf_1_3' nf_1_4 nf_1_4' ng_24 ng_24' ng_25 ng_25' ng_26 ng_26' ng_27 ng_27' ng_28 ng_28' ng_29 ng_29' ng_30 ng_30' ng_31 ng_31' ng_32 ng_32' ng_33 ng_33' nh_0 ni_0 nh_1 ni_1 nh_2 ni_2 nh_3 ni_3 nj_0 nj_1 nj_2 nj_3 nj_4 nj_5 nj_6

noncomputable def H4 (X : Heap) (J : List (Option Obj)) (c : List AV) : Heap := ((X.more J).push .tok).push (.cells c)
attribute [local simp] underLL_append

set_option maxHeartbeats 4000000 in
theorem rderive_cOrd (n : List UInt8) (vs : List (List UInt8)) (hvs : vs.length ≤ 2) (cs : List (UInt8 × Nat)) (hk : ∀ c ∈ cs, c.2 ≤ 3) (hl : cs.length ≤ 1000) (der : AV) (hd : Ok der) (pos : Int) :
    Fn E 8 [dV n vs cs der pos, .str cOrd] (.tup [instV cOrd n vs pos [99, 111, 109, 112, 97, 114, 101] (ordV .nilS pos cs), .bool true]) := by
  have hcv := consV_Ok cs hk
  have hvv : Ok (varsV vs) := ⟨slV_one _, slV_frz _, by rw [varsV, slV_under]; exact underLL_map fun a _ => by simp⟩
  simp only [Ok] at hcv hd hvv
  have hpu : ∀ i, underLL 30 (List.take i (vs.map (predC cOrd))) = true := fun i => underLL_take (underLL_map fun a _ => by simp) i
  have hau : underLL 30 ((List.range cs.length).map (altOrd .nilS pos cs)) = true := underLL_map fun i _ => altOrd_ok .nilS (by simp) pos cs hk i
  show Fn E 8 [.agg [.str n, varsV vs, consV cs, der, .int .i64 pos], _] _
  generalize hvg : varsV vs = va at *
  generalize hcg : consV cs = ca at *
  have hvc := cells_of_one hvv.1
  have hcc := cells_of_one hcv.1
  have hdc := cells_of_one hd.1
  refine Fn.of Tryd.func8 rfl rfl rfl rfl rfl (by simp -dsimp [hcv, hd, hvv]) ?_
  simp -dsimp [hcv, hd, hvv, hvc, hcc, hdc]
  refine Wp.loop (fun i ρ H => i ≤ vs.length ∧ ρ 1 = .str cOrd ∧ ρ 2 = .ptr 30 0 ∧ ρ 4 = .ptr 31 0 ∧ ρ 5 = .bool false ∧ ρ 6 = .ptr 32 0 ∧ ρ 7 = .int .i64 i ∧
      ((i = 0 ∧ H = B3 [.str n, va, ca, der, .int .i64 pos] zI [.str cOrd, .str n, va, .nilS, .nilS, .int .i64 pos]) ∨
       (0 < i ∧ ∃ J, H = ((B3 [.str n, va, ca, der, .int .i64 pos] zI [.str cOrd, .str n, va, .list (List.take i (vs.map (predC cOrd))) (.tok (J.length + 33) 4), .nilS, .int .i64 pos]).more J).push .tok)))
      (fun i => vs.length - i) ?_ 0 _ _ ?_
  · rintro i ρ H ⟨hi, h1, h2, h4, h5, h6, h7, hh⟩
    by_cases hlt : i < vs.length
    · obtain ⟨a, hx⟩ : ∃ x, vs[i]? = some x := ⟨vs[i], by simp -dsimp [hlt]⟩
      have hw : IntKind.i64.wrap ((i : Int) + 1) = (i : Int) + 1 := IntWalk.i64_in _ (by omega)
      have hx' : vs[i] = a := by rw [List.getElem?_eq_getElem hlt] at hx; exact Option.some.inj hx
      have htake := take_map_succ (predC cOrd) hx
      have hva : va = .list (vs.map fun s => [.str s]) .frozen := by
        rw [← hvg, varsV, slV_of]
        intro h; simp only [List.map_eq_nil_iff] at h; subst h; simp at hlt
      rcases hh with ⟨rfl, rfl⟩ | ⟨hi0, J, rfl⟩
      · simp -dsimp [h1, h2, h4, h5, h6, h7, hva, hlt, hx', hw, rvar_ok]
        refine ⟨1, by omega, by omega, rfl, .inr ⟨by omega, [], ?_⟩⟩
        have ht1 : List.take 1 (vs.map (predC cOrd)) = [predC cOrd a] := by simpa using htake
        simp only [ht1]; simp [Heap.more]
      · have hmin : min i vs.length = i := by omega
        have hb1 := mul4 (i := i) (by omega)
        have hb2 := le45 (i := i) (by omega)
        have hlen : (∀ x, x ∈ List.take i (vs.map (predC cOrd)) → x.length = 4) = True := eq_true fun x hx => by
          obtain ⟨c, hc, rfl⟩ := List.mem_map.1 (List.mem_of_mem_take hx)
          exact predC_len ..
        simp -dsimp [h1, h2, h4, h5, h6, h7, hva, hlt, hx', hw, rvar_ok, hmin, hb1, hb2, hlen]
        refine ⟨i + 1, by omega, by omega, by simp, .inr ⟨by omega, none :: J, ?_⟩⟩
        rw [htake]; simp [more_push, more_skip]
    · obtain ⟨ctx, L, hc1, hc2, hc3, rfl⟩ : ∃ ctx L, ctx.one = true ∧ ctx.freeze = ctxV cOrd vs ∧ (ctxV cOrd vs).under 30 = true ∧ H = (B3 [.str n, va, ca, der, .int .i64 pos] zI [.str cOrd, .str n, va, ctx, .nilS, .int .i64 pos]).more L := by
        have hie : i = vs.length := by omega
        subst hie
        have hct : (ctxV cOrd vs).under 30 = true := by
          have := hpu vs.length
          rw [List.take_of_length_le (by simp)] at this
          rw [ctxV, slV_under]; exact this
        rcases hh with ⟨h, rfl⟩ | ⟨hi0, J, rfl⟩
        · have := List.eq_nil_of_length_eq_zero h
          subst this
          exact ⟨.nilS, [], by simp, by simp [ctxV], hct, by simp [Heap.more]⟩
        · refine ⟨_, some .tok :: J, ?_, ?_, hct, more_push ..⟩
          · simp
          · rw [List.take_of_length_le (by simp), ctxV, slV_of]
            · simp
            · intro h; simp only [List.map_eq_nil_iff] at h; subst h; simp at hi0
      clear hh
      have hxl : (va = .nilS ∧ vs.length = 0) ∨ va = .list (vs.map fun s => [.str s]) .frozen := by
        cases hvs0 : vs with
        | nil => left; rw [← hvg, hvs0]; simp
        | cons a l => right; rw [← hvg, hvs0]; rfl
      have hco : (ctxV cOrd vs).one = true := slV_one _
      have hcz := cells_of_one hco
      have hcf : (ctxV cOrd vs).freeze = ctxV cOrd vs := slV_frz _
      have hlv : lenA P 29 va = some (.int .i64 vs.length) := by rcases hxl with ⟨h, h'⟩ | h <;> simp [h, *]
      simp -dsimp [h1, h2, h4, h5, h6, h7, hlt, hlv]
      refine Wp.loop (fun i ρ H => i ≤ cs.length ∧ ρ 1 = .str cOrd ∧ ρ 2 = .ptr 30 0 ∧ ρ 4 = .ptr 31 0 ∧ ρ 5 = .bool false ∧ ρ 6 = .ptr 32 0 ∧ ρ 8 = .int .i64 pos ∧ ρ 10 = .int .i64 i ∧
          ((i = 0 ∧ ρ 9 = .nilS ∧ H = (B3 [.str n, va, ca, der, .int .i64 pos] zI [.str cOrd, .str n, va, ctx, .nilS, .int .i64 pos]).more L) ∨
           (0 < i ∧ ∃ J, ρ 9 = .list (List.take i ((List.range cs.length).map (altOrd .nilS pos cs))) (.tok (J.length + 33) 10) ∧ H = ((B3 [.str n, va, ca, der, .int .i64 pos] zI [.str cOrd, .str n, va, ctx, .nilS, .int .i64 pos]).more J).push .tok)))
          (fun i => cs.length - i) ?_ 0 _ _ ?_
      · clear hlt hi h1 h2 h4 h5 h6 h7
        rintro i ρ H ⟨hi, h1, h2, h4, h5, h6, h8, h10, hh⟩
        by_cases hlt : i < cs.length
        · obtain ⟨⟨b, k⟩, hx⟩ : ∃ x, cs[i]? = some x := ⟨cs[i], by simp -dsimp [hlt]⟩
          have hk' := hk _ (List.mem_of_getElem? hx)
          have hw : IntKind.i64.wrap ((i : Int) + 1) = (i : Int) + 1 := IntWalk.i64_in _ (by omega)
          have hx' : cs[i] = (b, k) := by rw [List.getElem?_eq_getElem hlt] at hx; exact Option.some.inj hx
          have htake := take_map_succ (altOrd .nilS pos cs) (l := List.range cs.length) (i := i) (x := i) (by simp [hlt])
          have hca : ca = .list (cs.map conC) .frozen := by
            rw [← hcg, consV, slV_of]
            intro h; simp only [List.map_eq_nil_iff] at h; subst h; simp at hlt
          rcases hh with ⟨rfl, h9, rfl⟩ | ⟨hi0, J, h9, rfl⟩
          · by_cases hm : 1 < cs.length
            · have hm' : (1 : Int) < (cs.length : Int) := by omega
              match k, hk' with
              | 0, _ =>
                simp -dsimp [h1, h2, h4, h5, h6, h8, h9, h10, hca, hlt, hx', hw, rnames0, rnames1, rnames2, rnames3]
                refine Wp.unroll ?_
                simp -dsimp [h1, h2, h4, h5, h6, h8, h9, h10, hca, hlt, hx', hw, rnames0, rnames1, rnames2, rnames3, rc_ok, rv_ok, cs_ok, order10, order11, order12, order13, hm, hm']
                refine ⟨1, by omega, by omega, rfl, by omega, some .tok :: none :: some (.cells _) :: L, ⟨?_, by simp⟩, rfl⟩
                have ht1 := htake; simp only [Nat.zero_add, List.take_zero, List.nil_append] at ht1; simp only [ht1]; simp [altOrd, hx, ordIn, hm]
              | 1, _ =>
                simp -dsimp [h1, h2, h4, h5, h6, h8, h9, h10, hca, hlt, hx', hw, rnames0, rnames1, rnames2, rnames3]
                refine Wp.unroll ?_
                simp -dsimp [h1, h2, h4, h5, h6, h8, h9, h10, hca, hlt, hx', hw, rnames0, rnames1, rnames2, rnames3, rc_ok, rv_ok, cs_ok, order10, order11, order12, order13, hm, hm']
                refine ⟨1, by omega, by omega, rfl, by omega, some .tok :: none :: some (.cells _) :: L, ⟨?_, by simp⟩, rfl⟩
                have ht1 := htake; simp only [Nat.zero_add, List.take_zero, List.nil_append] at ht1; simp only [ht1]; simp [altOrd, hx, ordIn, hm]
              | 2, _ =>
                simp -dsimp [h1, h2, h4, h5, h6, h8, h9, h10, hca, hlt, hx', hw, rnames0, rnames1, rnames2, rnames3]
                refine Wp.unroll ?_
                simp -dsimp [h1, h2, h4, h5, h6, h8, h9, h10, hca, hlt, hx', hw, rnames0, rnames1, rnames2, rnames3, rc_ok, rv_ok, cs_ok, order10, order11, order12, order13, hm, hm']
                refine ⟨1, by omega, by omega, rfl, by omega, some .tok :: none :: some (.cells _) :: L, ⟨?_, by simp⟩, rfl⟩
                have ht1 := htake; simp only [Nat.zero_add, List.take_zero, List.nil_append] at ht1; simp only [ht1]; simp [altOrd, hx, ordIn, hm]
              | 3, _ =>
                simp -dsimp [h1, h2, h4, h5, h6, h8, h9, h10, hca, hlt, hx', hw, rnames0, rnames1, rnames2, rnames3]
                refine Wp.unroll ?_
                simp -dsimp [h1, h2, h4, h5, h6, h8, h9, h10, hca, hlt, hx', hw, rnames0, rnames1, rnames2, rnames3, rc_ok, rv_ok, cs_ok, order10, order11, order12, order13, hm, hm']
                refine ⟨1, by omega, by omega, rfl, by omega, some .tok :: none :: some (.cells _) :: L, ⟨?_, by simp⟩, rfl⟩
                have ht1 := htake; simp only [Nat.zero_add, List.take_zero, List.nil_append] at ht1; simp only [ht1]; simp [altOrd, hx, ordIn, hm]
            · have hm' : ¬ (1 : Int) < (cs.length : Int) := by omega
              match k, hk' with
              | 0, _ =>
                simp -dsimp [h1, h2, h4, h5, h6, h8, h9, h10, hca, hlt, hx', hw, rnames0, rnames1, rnames2, rnames3]
                refine Wp.unroll ?_
                simp -dsimp [h1, h2, h4, h5, h6, h8, h9, h10, hca, hlt, hx', hw, rnames0, rnames1, rnames2, rnames3, rc_ok, rv_ok, cs_ok, order10, order11, order12, order13, hm, hm']
                refine ⟨1, by omega, by omega, rfl, by omega, some .tok :: some (.cells _) :: L, ⟨?_, by simp⟩, rfl⟩
                have ht1 := htake; simp only [Nat.zero_add, List.take_zero, List.nil_append] at ht1; simp only [ht1]; simp [altOrd, hx, ordIn, hm]
              | 1, _ =>
                simp -dsimp [h1, h2, h4, h5, h6, h8, h9, h10, hca, hlt, hx', hw, rnames0, rnames1, rnames2, rnames3]
                refine Wp.unroll ?_
                simp -dsimp [h1, h2, h4, h5, h6, h8, h9, h10, hca, hlt, hx', hw, rnames0, rnames1, rnames2, rnames3, rc_ok, rv_ok, cs_ok, order10, order11, order12, order13, hm, hm']
                refine ⟨1, by omega, by omega, rfl, by omega, some .tok :: some (.cells _) :: L, ⟨?_, by simp⟩, rfl⟩
                have ht1 := htake; simp only [Nat.zero_add, List.take_zero, List.nil_append] at ht1; simp only [ht1]; simp [altOrd, hx, ordIn, hm]
              | 2, _ =>
                simp -dsimp [h1, h2, h4, h5, h6, h8, h9, h10, hca, hlt, hx', hw, rnames0, rnames1, rnames2, rnames3]
                refine Wp.unroll ?_
                simp -dsimp [h1, h2, h4, h5, h6, h8, h9, h10, hca, hlt, hx', hw, rnames0, rnames1, rnames2, rnames3, rc_ok, rv_ok, cs_ok, order10, order11, order12, order13, hm, hm']
                refine ⟨1, by omega, by omega, rfl, by omega, some .tok :: some (.cells _) :: L, ⟨?_, by simp⟩, rfl⟩
                have ht1 := htake; simp only [Nat.zero_add, List.take_zero, List.nil_append] at ht1; simp only [ht1]; simp [altOrd, hx, ordIn, hm]
              | 3, _ =>
                simp -dsimp [h1, h2, h4, h5, h6, h8, h9, h10, hca, hlt, hx', hw, rnames0, rnames1, rnames2, rnames3]
                refine Wp.unroll ?_
                simp -dsimp [h1, h2, h4, h5, h6, h8, h9, h10, hca, hlt, hx', hw, rnames0, rnames1, rnames2, rnames3, rc_ok, rv_ok, cs_ok, order10, order11, order12, order13, hm, hm']
                refine ⟨1, by omega, by omega, rfl, by omega, some .tok :: some (.cells _) :: L, ⟨?_, by simp⟩, rfl⟩
                have ht1 := htake; simp only [Nat.zero_add, List.take_zero, List.nil_append] at ht1; simp only [ht1]; simp [altOrd, hx, ordIn, hm]
          · have hmin : min i cs.length = i := by omega
            have hb1 := mul160 (i := i) (by omega)
            have hb2 := le45 (i := i) (by omega)
            have hlen : (∀ x, x ∈ List.take i ((List.range cs.length).map (altOrd .nilS pos cs)) → x.length = 10) = True := eq_true fun x hx => by
              obtain ⟨c, hc, rfl⟩ := List.mem_map.1 (List.mem_of_mem_take hx)
              exact altOrd_len _ _ _ _ (by simpa using hc)
            have hgu := gts_ok .nilS (by simp) pos cs hk
            have hile : i ≤ cs.length := hi
            match k, hk' with
            | 0, _ =>
              simp -dsimp [h1, h2, h4, h5, h6, h8, h9, h10, hca, hlt, hx', hw, rnames0, rnames1, rnames2, rnames3, hmin, hile]
              refine Wp.loop (fun j ρ H => j ≤ i ∧ ρ 1 = .str cOrd ∧ ρ 2 = .ptr 30 0 ∧ ρ 4 = .ptr 31 0 ∧ ρ 5 = .bool false ∧ ρ 6 = .ptr 32 0 ∧ ρ 8 = .int .i64 pos ∧
                ρ 9 = .list (List.take i ((List.range cs.length).map (altOrd .nilS pos cs))) (.tok (J.length + 33) 10) ∧ ρ 10 = .int .i64 i ∧ ρ 11 = .int .i64 0 ∧ ρ 12 = .ptr (J.length + 33 + 1) 0 ∧ ρ 15 = .int .i64 j ∧
                ((j = 0 ∧ ρ 14 = .nilS ∧ H = H4 (B3 [.str n, va, ca, der, .int .i64 pos] zI [.str cOrd, .str n, va, ctx, .nilS, .int .i64 pos]) J [.str [b], .nilS, .int .i64 0, .int .i64 0, .str [], .int .i64 0, .nilS, .nilS, .nilS, .int .i64 pos]) ∨
                 (0 < j ∧ ∃ J2, ρ 14 = .list (List.take j (cs.map (gtA .nilS pos))) (.tok (J2.length + (J.length + 33 + 1 + 1)) 10) ∧ H = ((H4 (B3 [.str n, va, ca, der, .int .i64 pos] zI [.str cOrd, .str n, va, ctx, .nilS, .int .i64 pos]) J [.str [b], .nilS, .int .i64 0, .int .i64 0, .str [], .int .i64 0, .nilS, .nilS, .nilS, .int .i64 pos]).more J2).push .tok)))
                (fun j => i - j) ?_ 0 _ _ ?_
              · clear h1 h2 h4 h5 h6 h8 h9 h10
                rintro j ρ H ⟨hj, h1, h2, h4, h5, h6, h8, h9, h10, h11, h12, h15, hh⟩
                by_cases hjt : j < i
                · have hjc : j < cs.length := by omega
                  obtain ⟨⟨b', k'⟩, hy⟩ : ∃ x, cs[j]? = some x := ⟨cs[j], by simp -dsimp [hjc]⟩
                  have hky := hk _ (List.mem_of_getElem? hy)
                  have hwj : IntKind.i64.wrap ((j : Int) + 1) = (j : Int) + 1 := IntWalk.i64_in _ (by omega)
                  have hy' : cs[j] = (b', k') := by rw [List.getElem?_eq_getElem hjc] at hy; exact Option.some.inj hy
                  have htj := take_map_succ (gtA .nilS pos) hy
                  rcases hh with ⟨rfl, h14, rfl⟩ | ⟨hj0, J2, h14, rfl⟩
                  · match k', hky with
                    | 0, _ =>
                      simp -dsimp [h1, h2, h4, h5, h6, h8, h9, h10, h11, h12, h14, h15, hca, H4, hjt, hjc, hy', hwj, under0, under1, under2, under3, rc_ok]
                      refine ⟨1, by omega, by omega, rfl, by omega, [], ⟨?_, by simp⟩, rfl⟩
                      have h1 := htj; simp only [Nat.zero_add] at h1; rw [h1]; simp [gtA]
                    | 1, _ =>
                      simp -dsimp [h1, h2, h4, h5, h6, h8, h9, h10, h11, h12, h14, h15, hca, H4, hjt, hjc, hy', hwj, under0, under1, under2, under3, rc_ok]
                      refine ⟨1, by omega, by omega, rfl, by omega, [], ⟨?_, by simp⟩, rfl⟩
                      have h1 := htj; simp only [Nat.zero_add] at h1; rw [h1]; simp [gtA]
                    | 2, _ =>
                      simp -dsimp [h1, h2, h4, h5, h6, h8, h9, h10, h11, h12, h14, h15, hca, H4, hjt, hjc, hy', hwj, under0, under1, under2, under3, rc_ok]
                      refine ⟨1, by omega, by omega, rfl, by omega, [], ⟨?_, by simp⟩, rfl⟩
                      have h1 := htj; simp only [Nat.zero_add] at h1; rw [h1]; simp [gtA]
                    | 3, _ =>
                      simp -dsimp [h1, h2, h4, h5, h6, h8, h9, h10, h11, h12, h14, h15, hca, H4, hjt, hjc, hy', hwj, under0, under1, under2, under3, rc_ok]
                      refine ⟨1, by omega, by omega, rfl, by omega, [], ⟨?_, by simp⟩, rfl⟩
                      have h1 := htj; simp only [Nat.zero_add] at h1; rw [h1]; simp [gtA]
                  · have hmj : min j cs.length = j := by omega
                    have hlj : (∀ x, x ∈ List.take j (cs.map (gtA .nilS pos)) → x.length = 10) = True := eq_true fun x hx => by
                      obtain ⟨c, hc, rfl⟩ := List.mem_map.1 (List.mem_of_mem_take hx)
                      exact gtA_len ..
                    have hbj1 := mul160 (i := j) (by omega)
                    have hbj2 := le45 (i := j) (by omega)
                    match k', hky with
                    | 0, _ =>
                      simp -dsimp [h1, h2, h4, h5, h6, h8, h9, h10, h11, h12, h14, h15, hca, H4, hjt, hjc, hy', hwj, under0, under1, under2, under3, rc_ok, hmj, hlj, hbj1, hbj2]
                      refine ⟨j + 1, by omega, by omega, by simp, by omega, none :: J2, ⟨?_, by simp; omega⟩, rfl⟩
                      rw [htj]; simp [gtA]
                    | 1, _ =>
                      simp -dsimp [h1, h2, h4, h5, h6, h8, h9, h10, h11, h12, h14, h15, hca, H4, hjt, hjc, hy', hwj, under0, under1, under2, under3, rc_ok, hmj, hlj, hbj1, hbj2]
                      refine ⟨j + 1, by omega, by omega, by simp, by omega, none :: J2, ⟨?_, by simp; omega⟩, rfl⟩
                      rw [htj]; simp [gtA]
                    | 2, _ =>
                      simp -dsimp [h1, h2, h4, h5, h6, h8, h9, h10, h11, h12, h14, h15, hca, H4, hjt, hjc, hy', hwj, under0, under1, under2, under3, rc_ok, hmj, hlj, hbj1, hbj2]
                      refine ⟨j + 1, by omega, by omega, by simp, by omega, none :: J2, ⟨?_, by simp; omega⟩, rfl⟩
                      rw [htj]; simp [gtA]
                    | 3, _ =>
                      simp -dsimp [h1, h2, h4, h5, h6, h8, h9, h10, h11, h12, h14, h15, hca, H4, hjt, hjc, hy', hwj, under0, under1, under2, under3, rc_ok, hmj, hlj, hbj1, hbj2]
                      refine ⟨j + 1, by omega, by omega, by simp, by omega, none :: J2, ⟨?_, by simp; omega⟩, rfl⟩
                      rw [htj]; simp [gtA]
                · have hje : j = i := by omega
                  subst hje
                  rcases hh with ⟨h, -, -⟩ | ⟨hj0, J2, h14, rfl⟩
                  · omega
                  · have hmj : min j cs.length = j := by omega
                    have hlj : (∀ x, x ∈ List.take j (cs.map (gtA .nilS pos)) → x.length = 10) = True := eq_true fun x hx => by
                      obtain ⟨c, hc, rfl⟩ := List.mem_map.1 (List.mem_of_mem_take hx)
                      exact gtA_len ..
                    have hbj1 := mul160 (i := j) (by omega)
                    have hbj2 := le45 (i := j) (by omega)
                    have hbj3 := mul160' (i := j) (by omega)
                    have hbj4 := le46 (i := j) (by omega)
                    by_cases hm : j + 1 < cs.length
                    · have hm' : (j : Int) + 1 < (cs.length : Int) := by omega
                      simp -dsimp [h1, h2, h4, h5, h6, h8, h9, h10, h11, h12, h14, h15, hca, H4, hmj, hlj, hbj1, hbj2, hbj3, hbj4, hm, hm', hgu, hw, hlen, hb1, hb2, hmin, hx', hlt, rnames0, rnames1, rnames2, rnames3, rc_ok, rv_ok, cs_ok, order10, order11, order12, order13]
                      refine ⟨j + 1, by omega, by omega, by simp, by omega, some .tok :: none :: none :: (J2 ++ some (.cells _) :: none :: J), ⟨?_, by simp; omega⟩, by simp only [more_push, more_skip, more_more]; simp [List.replicate]; rfl⟩
                      rw [htake]; simp [altOrd, hx, ordIn, hm]
                    · have hm' : ¬ (j : Int) + 1 < (cs.length : Int) := by omega
                      simp -dsimp [h1, h2, h4, h5, h6, h8, h9, h10, h11, h12, h14, h15, hca, H4, hmj, hlj, hbj1, hbj2, hbj3, hbj4, hm, hm', hgu, hw, hlen, hb1, hb2, hmin, hx', hlt, rnames0, rnames1, rnames2, rnames3, rc_ok, rv_ok, cs_ok, order10, order11, order12, order13]
                      refine ⟨j + 1, by omega, by omega, by simp, by omega, some .tok :: none :: (J2 ++ some (.cells _) :: none :: J), ⟨?_, by simp; omega⟩, by simp only [more_push, more_skip, more_more]; simp [List.replicate]; rfl⟩
                      rw [htake]; simp [altOrd, hx, ordIn, hm]
              · refine ⟨by omega, ?_⟩
                simp -dsimp [h1, h2, h4, h5, h6, h8, h9, h10, hmin, H4, hca]
            | 1, _ =>
              simp -dsimp [h1, h2, h4, h5, h6, h8, h9, h10, hca, hlt, hx', hw, rnames0, rnames1, rnames2, rnames3, hmin, hile]
              refine Wp.loop (fun j ρ H => j ≤ i ∧ ρ 1 = .str cOrd ∧ ρ 2 = .ptr 30 0 ∧ ρ 4 = .ptr 31 0 ∧ ρ 5 = .bool false ∧ ρ 6 = .ptr 32 0 ∧ ρ 8 = .int .i64 pos ∧
                ρ 9 = .list (List.take i ((List.range cs.length).map (altOrd .nilS pos cs))) (.tok (J.length + 33) 10) ∧ ρ 10 = .int .i64 i ∧ ρ 11 = .int .i64 1 ∧ ρ 12 = .ptr (J.length + 33 + 1) 0 ∧ ρ 15 = .int .i64 j ∧
                ((j = 0 ∧ ρ 14 = .nilS ∧ H = H4 (B3 [.str n, va, ca, der, .int .i64 pos] zI [.str cOrd, .str n, va, ctx, .nilS, .int .i64 pos]) J [.str [b], .list [[.str [97, 49]]] .frozen, .int .i64 0, .int .i64 0, .str [], .int .i64 0, .nilS, .nilS, .nilS, .int .i64 pos]) ∨
                 (0 < j ∧ ∃ J2, ρ 14 = .list (List.take j (cs.map (gtA .nilS pos))) (.tok (J2.length + (J.length + 33 + 1 + 1)) 10) ∧ H = ((H4 (B3 [.str n, va, ca, der, .int .i64 pos] zI [.str cOrd, .str n, va, ctx, .nilS, .int .i64 pos]) J [.str [b], .list [[.str [97, 49]]] .frozen, .int .i64 0, .int .i64 0, .str [], .int .i64 0, .nilS, .nilS, .nilS, .int .i64 pos]).more J2).push .tok)))
                (fun j => i - j) ?_ 0 _ _ ?_
              · clear h1 h2 h4 h5 h6 h8 h9 h10
                rintro j ρ H ⟨hj, h1, h2, h4, h5, h6, h8, h9, h10, h11, h12, h15, hh⟩
                by_cases hjt : j < i
                · have hjc : j < cs.length := by omega
                  obtain ⟨⟨b', k'⟩, hy⟩ : ∃ x, cs[j]? = some x := ⟨cs[j], by simp -dsimp [hjc]⟩
                  have hky := hk _ (List.mem_of_getElem? hy)
                  have hwj : IntKind.i64.wrap ((j : Int) + 1) = (j : Int) + 1 := IntWalk.i64_in _ (by omega)
                  have hy' : cs[j] = (b', k') := by rw [List.getElem?_eq_getElem hjc] at hy; exact Option.some.inj hy
                  have htj := take_map_succ (gtA .nilS pos) hy
                  rcases hh with ⟨rfl, h14, rfl⟩ | ⟨hj0, J2, h14, rfl⟩
                  · match k', hky with
                    | 0, _ =>
                      simp -dsimp [h1, h2, h4, h5, h6, h8, h9, h10, h11, h12, h14, h15, hca, H4, hjt, hjc, hy', hwj, under0, under1, under2, under3, rc_ok]
                      refine ⟨1, by omega, by omega, rfl, by omega, [], ⟨?_, by simp⟩, rfl⟩
                      have h1 := htj; simp only [Nat.zero_add] at h1; rw [h1]; simp [gtA]
                    | 1, _ =>
                      simp -dsimp [h1, h2, h4, h5, h6, h8, h9, h10, h11, h12, h14, h15, hca, H4, hjt, hjc, hy', hwj, under0, under1, under2, under3, rc_ok]
                      refine ⟨1, by omega, by omega, rfl, by omega, [], ⟨?_, by simp⟩, rfl⟩
                      have h1 := htj; simp only [Nat.zero_add] at h1; rw [h1]; simp [gtA]
                    | 2, _ =>
                      simp -dsimp [h1, h2, h4, h5, h6, h8, h9, h10, h11, h12, h14, h15, hca, H4, hjt, hjc, hy', hwj, under0, under1, under2, under3, rc_ok]
                      refine ⟨1, by omega, by omega, rfl, by omega, [], ⟨?_, by simp⟩, rfl⟩
                      have h1 := htj; simp only [Nat.zero_add] at h1; rw [h1]; simp [gtA]
                    | 3, _ =>
                      simp -dsimp [h1, h2, h4, h5, h6, h8, h9, h10, h11, h12, h14, h15, hca, H4, hjt, hjc, hy', hwj, under0, under1, under2, under3, rc_ok]
                      refine ⟨1, by omega, by omega, rfl, by omega, [], ⟨?_, by simp⟩, rfl⟩
                      have h1 := htj; simp only [Nat.zero_add] at h1; rw [h1]; simp [gtA]
                  · have hmj : min j cs.length = j := by omega
                    have hlj : (∀ x, x ∈ List.take j (cs.map (gtA .nilS pos)) → x.length = 10) = True := eq_true fun x hx => by
                      obtain ⟨c, hc, rfl⟩ := List.mem_map.1 (List.mem_of_mem_take hx)
                      exact gtA_len ..
                    have hbj1 := mul160 (i := j) (by omega)
                    have hbj2 := le45 (i := j) (by omega)
                    match k', hky with
                    | 0, _ =>
                      simp -dsimp [h1, h2, h4, h5, h6, h8, h9, h10, h11, h12, h14, h15, hca, H4, hjt, hjc, hy', hwj, under0, under1, under2, under3, rc_ok, hmj, hlj, hbj1, hbj2]
                      refine ⟨j + 1, by omega, by omega, by simp, by omega, none :: J2, ⟨?_, by simp; omega⟩, rfl⟩
                      rw [htj]; simp [gtA]
                    | 1, _ =>
                      simp -dsimp [h1, h2, h4, h5, h6, h8, h9, h10, h11, h12, h14, h15, hca, H4, hjt, hjc, hy', hwj, under0, under1, under2, under3, rc_ok, hmj, hlj, hbj1, hbj2]
                      refine ⟨j + 1, by omega, by omega, by simp, by omega, none :: J2, ⟨?_, by simp; omega⟩, rfl⟩
                      rw [htj]; simp [gtA]
                    | 2, _ =>
                      simp -dsimp [h1, h2, h4, h5, h6, h8, h9, h10, h11, h12, h14, h15, hca, H4, hjt, hjc, hy', hwj, under0, under1, under2, under3, rc_ok, hmj, hlj, hbj1, hbj2]
                      refine ⟨j + 1, by omega, by omega, by simp, by omega, none :: J2, ⟨?_, by simp; omega⟩, rfl⟩
                      rw [htj]; simp [gtA]
                    | 3, _ =>
                      simp -dsimp [h1, h2, h4, h5, h6, h8, h9, h10, h11, h12, h14, h15, hca, H4, hjt, hjc, hy', hwj, under0, under1, under2, under3, rc_ok, hmj, hlj, hbj1, hbj2]
                      refine ⟨j + 1, by omega, by omega, by simp, by omega, none :: J2, ⟨?_, by simp; omega⟩, rfl⟩
                      rw [htj]; simp [gtA]
                · have hje : j = i := by omega
                  subst hje
                  rcases hh with ⟨h, -, -⟩ | ⟨hj0, J2, h14, rfl⟩
                  · omega
                  · have hmj : min j cs.length = j := by omega
                    have hlj : (∀ x, x ∈ List.take j (cs.map (gtA .nilS pos)) → x.length = 10) = True := eq_true fun x hx => by
                      obtain ⟨c, hc, rfl⟩ := List.mem_map.1 (List.mem_of_mem_take hx)
                      exact gtA_len ..
                    have hbj1 := mul160 (i := j) (by omega)
                    have hbj2 := le45 (i := j) (by omega)
                    have hbj3 := mul160' (i := j) (by omega)
                    have hbj4 := le46 (i := j) (by omega)
                    by_cases hm : j + 1 < cs.length
                    · have hm' : (j : Int) + 1 < (cs.length : Int) := by omega
                      simp -dsimp [h1, h2, h4, h5, h6, h8, h9, h10, h11, h12, h14, h15, hca, H4, hmj, hlj, hbj1, hbj2, hbj3, hbj4, hm, hm', hgu, hw, hlen, hb1, hb2, hmin, hx', hlt, rnames0, rnames1, rnames2, rnames3, rc_ok, rv_ok, cs_ok, order10, order11, order12, order13]
                      refine ⟨j + 1, by omega, by omega, by simp, by omega, some .tok :: none :: none :: (J2 ++ some (.cells _) :: none :: J), ⟨?_, by simp; omega⟩, by simp only [more_push, more_skip, more_more]; simp [List.replicate]; rfl⟩
                      rw [htake]; simp [altOrd, hx, ordIn, hm]
                    · have hm' : ¬ (j : Int) + 1 < (cs.length : Int) := by omega
                      simp -dsimp [h1, h2, h4, h5, h6, h8, h9, h10, h11, h12, h14, h15, hca, H4, hmj, hlj, hbj1, hbj2, hbj3, hbj4, hm, hm', hgu, hw, hlen, hb1, hb2, hmin, hx', hlt, rnames0, rnames1, rnames2, rnames3, rc_ok, rv_ok, cs_ok, order10, order11, order12, order13]
                      refine ⟨j + 1, by omega, by omega, by simp, by omega, some .tok :: none :: (J2 ++ some (.cells _) :: none :: J), ⟨?_, by simp; omega⟩, by simp only [more_push, more_skip, more_more]; simp [List.replicate]; rfl⟩
                      rw [htake]; simp [altOrd, hx, ordIn, hm]
              · refine ⟨by omega, ?_⟩
                simp -dsimp [h1, h2, h4, h5, h6, h8, h9, h10, hmin, H4, hca]
            | 2, _ =>
              simp -dsimp [h1, h2, h4, h5, h6, h8, h9, h10, hca, hlt, hx', hw, rnames0, rnames1, rnames2, rnames3, hmin, hile]
              refine Wp.loop (fun j ρ H => j ≤ i ∧ ρ 1 = .str cOrd ∧ ρ 2 = .ptr 30 0 ∧ ρ 4 = .ptr 31 0 ∧ ρ 5 = .bool false ∧ ρ 6 = .ptr 32 0 ∧ ρ 8 = .int .i64 pos ∧
                ρ 9 = .list (List.take i ((List.range cs.length).map (altOrd .nilS pos cs))) (.tok (J.length + 33) 10) ∧ ρ 10 = .int .i64 i ∧ ρ 11 = .int .i64 2 ∧ ρ 12 = .ptr (J.length + 33 + 1) 0 ∧ ρ 15 = .int .i64 j ∧
                ((j = 0 ∧ ρ 14 = .nilS ∧ H = H4 (B3 [.str n, va, ca, der, .int .i64 pos] zI [.str cOrd, .str n, va, ctx, .nilS, .int .i64 pos]) J [.str [b], .list [[.str [97, 49]], [.str [97, 50]]] .frozen, .int .i64 0, .int .i64 0, .str [], .int .i64 0, .nilS, .nilS, .nilS, .int .i64 pos]) ∨
                 (0 < j ∧ ∃ J2, ρ 14 = .list (List.take j (cs.map (gtA .nilS pos))) (.tok (J2.length + (J.length + 33 + 1 + 1)) 10) ∧ H = ((H4 (B3 [.str n, va, ca, der, .int .i64 pos] zI [.str cOrd, .str n, va, ctx, .nilS, .int .i64 pos]) J [.str [b], .list [[.str [97, 49]], [.str [97, 50]]] .frozen, .int .i64 0, .int .i64 0, .str [], .int .i64 0, .nilS, .nilS, .nilS, .int .i64 pos]).more J2).push .tok)))
                (fun j => i - j) ?_ 0 _ _ ?_
              · clear h1 h2 h4 h5 h6 h8 h9 h10
                rintro j ρ H ⟨hj, h1, h2, h4, h5, h6, h8, h9, h10, h11, h12, h15, hh⟩
                by_cases hjt : j < i
                · have hjc : j < cs.length := by omega
                  obtain ⟨⟨b', k'⟩, hy⟩ : ∃ x, cs[j]? = some x := ⟨cs[j], by simp -dsimp [hjc]⟩
                  have hky := hk _ (List.mem_of_getElem? hy)
                  have hwj : IntKind.i64.wrap ((j : Int) + 1) = (j : Int) + 1 := IntWalk.i64_in _ (by omega)
                  have hy' : cs[j] = (b', k') := by rw [List.getElem?_eq_getElem hjc] at hy; exact Option.some.inj hy
                  have htj := take_map_succ (gtA .nilS pos) hy
                  rcases hh with ⟨rfl, h14, rfl⟩ | ⟨hj0, J2, h14, rfl⟩
                  · match k', hky with
                    | 0, _ =>
                      simp -dsimp [h1, h2, h4, h5, h6, h8, h9, h10, h11, h12, h14, h15, hca, H4, hjt, hjc, hy', hwj, under0, under1, under2, under3, rc_ok]
                      refine ⟨1, by omega, by omega, rfl, by omega, [], ⟨?_, by simp⟩, rfl⟩
                      have h1 := htj; simp only [Nat.zero_add] at h1; rw [h1]; simp [gtA]
                    | 1, _ =>
                      simp -dsimp [h1, h2, h4, h5, h6, h8, h9, h10, h11, h12, h14, h15, hca, H4, hjt, hjc, hy', hwj, under0, under1, under2, under3, rc_ok]
                      refine ⟨1, by omega, by omega, rfl, by omega, [], ⟨?_, by simp⟩, rfl⟩
                      have h1 := htj; simp only [Nat.zero_add] at h1; rw [h1]; simp [gtA]
                    | 2, _ =>
                      simp -dsimp [h1, h2, h4, h5, h6, h8, h9, h10, h11, h12, h14, h15, hca, H4, hjt, hjc, hy', hwj, under0, under1, under2, under3, rc_ok]
                      refine ⟨1, by omega, by omega, rfl, by omega, [], ⟨?_, by simp⟩, rfl⟩
                      have h1 := htj; simp only [Nat.zero_add] at h1; rw [h1]; simp [gtA]
                    | 3, _ =>
                      simp -dsimp [h1, h2, h4, h5, h6, h8, h9, h10, h11, h12, h14, h15, hca, H4, hjt, hjc, hy', hwj, under0, under1, under2, under3, rc_ok]
                      refine ⟨1, by omega, by omega, rfl, by omega, [], ⟨?_, by simp⟩, rfl⟩
                      have h1 := htj; simp only [Nat.zero_add] at h1; rw [h1]; simp [gtA]
                  · have hmj : min j cs.length = j := by omega
                    have hlj : (∀ x, x ∈ List.take j (cs.map (gtA .nilS pos)) → x.length = 10) = True := eq_true fun x hx => by
                      obtain ⟨c, hc, rfl⟩ := List.mem_map.1 (List.mem_of_mem_take hx)
                      exact gtA_len ..
                    have hbj1 := mul160 (i := j) (by omega)
                    have hbj2 := le45 (i := j) (by omega)
                    match k', hky with
                    | 0, _ =>
                      simp -dsimp [h1, h2, h4, h5, h6, h8, h9, h10, h11, h12, h14, h15, hca, H4, hjt, hjc, hy', hwj, under0, under1, under2, under3, rc_ok, hmj, hlj, hbj1, hbj2]
                      refine ⟨j + 1, by omega, by omega, by simp, by omega, none :: J2, ⟨?_, by simp; omega⟩, rfl⟩
                      rw [htj]; simp [gtA]
                    | 1, _ =>
                      simp -dsimp [h1, h2, h4, h5, h6, h8, h9, h10, h11, h12, h14, h15, hca, H4, hjt, hjc, hy', hwj, under0, under1, under2, under3, rc_ok, hmj, hlj, hbj1, hbj2]
                      refine ⟨j + 1, by omega, by omega, by simp, by omega, none :: J2, ⟨?_, by simp; omega⟩, rfl⟩
                      rw [htj]; simp [gtA]
                    | 2, _ =>
                      simp -dsimp [h1, h2, h4, h5, h6, h8, h9, h10, h11, h12, h14, h15, hca, H4, hjt, hjc, hy', hwj, under0, under1, under2, under3, rc_ok, hmj, hlj, hbj1, hbj2]
                      refine ⟨j + 1, by omega, by omega, by simp, by omega, none :: J2, ⟨?_, by simp; omega⟩, rfl⟩
                      rw [htj]; simp [gtA]
                    | 3, _ =>
                      simp -dsimp [h1, h2, h4, h5, h6, h8, h9, h10, h11, h12, h14, h15, hca, H4, hjt, hjc, hy', hwj, under0, under1, under2, under3, rc_ok, hmj, hlj, hbj1, hbj2]
                      refine ⟨j + 1, by omega, by omega, by simp, by omega, none :: J2, ⟨?_, by simp; omega⟩, rfl⟩
                      rw [htj]; simp [gtA]
                · have hje : j = i := by omega
                  subst hje
                  rcases hh with ⟨h, -, -⟩ | ⟨hj0, J2, h14, rfl⟩
                  · omega
                  · have hmj : min j cs.length = j := by omega
                    have hlj : (∀ x, x ∈ List.take j (cs.map (gtA .nilS pos)) → x.length = 10) = True := eq_true fun x hx => by
                      obtain ⟨c, hc, rfl⟩ := List.mem_map.1 (List.mem_of_mem_take hx)
                      exact gtA_len ..
                    have hbj1 := mul160 (i := j) (by omega)
                    have hbj2 := le45 (i := j) (by omega)
                    have hbj3 := mul160' (i := j) (by omega)
                    have hbj4 := le46 (i := j) (by omega)
                    by_cases hm : j + 1 < cs.length
                    · have hm' : (j : Int) + 1 < (cs.length : Int) := by omega
                      simp -dsimp [h1, h2, h4, h5, h6, h8, h9, h10, h11, h12, h14, h15, hca, H4, hmj, hlj, hbj1, hbj2, hbj3, hbj4, hm, hm', hgu, hw, hlen, hb1, hb2, hmin, hx', hlt, rnames0, rnames1, rnames2, rnames3, rc_ok, rv_ok, cs_ok, order10, order11, order12, order13]
                      refine ⟨j + 1, by omega, by omega, by simp, by omega, some .tok :: none :: none :: (J2 ++ some (.cells _) :: none :: J), ⟨?_, by simp; omega⟩, by simp only [more_push, more_skip, more_more]; simp [List.replicate]; rfl⟩
                      rw [htake]; simp [altOrd, hx, ordIn, hm]
                    · have hm' : ¬ (j : Int) + 1 < (cs.length : Int) := by omega
                      simp -dsimp [h1, h2, h4, h5, h6, h8, h9, h10, h11, h12, h14, h15, hca, H4, hmj, hlj, hbj1, hbj2, hbj3, hbj4, hm, hm', hgu, hw, hlen, hb1, hb2, hmin, hx', hlt, rnames0, rnames1, rnames2, rnames3, rc_ok, rv_ok, cs_ok, order10, order11, order12, order13]
                      refine ⟨j + 1, by omega, by omega, by simp, by omega, some .tok :: none :: (J2 ++ some (.cells _) :: none :: J), ⟨?_, by simp; omega⟩, by simp only [more_push, more_skip, more_more]; simp [List.replicate]; rfl⟩
                      rw [htake]; simp [altOrd, hx, ordIn, hm]
              · refine ⟨by omega, ?_⟩
                simp -dsimp [h1, h2, h4, h5, h6, h8, h9, h10, hmin, H4, hca]
            | 3, _ =>
              simp -dsimp [h1, h2, h4, h5, h6, h8, h9, h10, hca, hlt, hx', hw, rnames0, rnames1, rnames2, rnames3, hmin, hile]
              refine Wp.loop (fun j ρ H => j ≤ i ∧ ρ 1 = .str cOrd ∧ ρ 2 = .ptr 30 0 ∧ ρ 4 = .ptr 31 0 ∧ ρ 5 = .bool false ∧ ρ 6 = .ptr 32 0 ∧ ρ 8 = .int .i64 pos ∧
                ρ 9 = .list (List.take i ((List.range cs.length).map (altOrd .nilS pos cs))) (.tok (J.length + 33) 10) ∧ ρ 10 = .int .i64 i ∧ ρ 11 = .int .i64 3 ∧ ρ 12 = .ptr (J.length + 33 + 1) 0 ∧ ρ 15 = .int .i64 j ∧
                ((j = 0 ∧ ρ 14 = .nilS ∧ H = H4 (B3 [.str n, va, ca, der, .int .i64 pos] zI [.str cOrd, .str n, va, ctx, .nilS, .int .i64 pos]) J [.str [b], .list [[.str [97, 49]], [.str [97, 50]], [.str [97, 51]]] .frozen, .int .i64 0, .int .i64 0, .str [], .int .i64 0, .nilS, .nilS, .nilS, .int .i64 pos]) ∨
                 (0 < j ∧ ∃ J2, ρ 14 = .list (List.take j (cs.map (gtA .nilS pos))) (.tok (J2.length + (J.length + 33 + 1 + 1)) 10) ∧ H = ((H4 (B3 [.str n, va, ca, der, .int .i64 pos] zI [.str cOrd, .str n, va, ctx, .nilS, .int .i64 pos]) J [.str [b], .list [[.str [97, 49]], [.str [97, 50]], [.str [97, 51]]] .frozen, .int .i64 0, .int .i64 0, .str [], .int .i64 0, .nilS, .nilS, .nilS, .int .i64 pos]).more J2).push .tok)))
                (fun j => i - j) ?_ 0 _ _ ?_
              · clear h1 h2 h4 h5 h6 h8 h9 h10
                rintro j ρ H ⟨hj, h1, h2, h4, h5, h6, h8, h9, h10, h11, h12, h15, hh⟩
                by_cases hjt : j < i
                · have hjc : j < cs.length := by omega
                  obtain ⟨⟨b', k'⟩, hy⟩ : ∃ x, cs[j]? = some x := ⟨cs[j], by simp -dsimp [hjc]⟩
                  have hky := hk _ (List.mem_of_getElem? hy)
                  have hwj : IntKind.i64.wrap ((j : Int) + 1) = (j : Int) + 1 := IntWalk.i64_in _ (by omega)
                  have hy' : cs[j] = (b', k') := by rw [List.getElem?_eq_getElem hjc] at hy; exact Option.some.inj hy
                  have htj := take_map_succ (gtA .nilS pos) hy
                  rcases hh with ⟨rfl, h14, rfl⟩ | ⟨hj0, J2, h14, rfl⟩
                  · match k', hky with
                    | 0, _ =>
                      simp -dsimp [h1, h2, h4, h5, h6, h8, h9, h10, h11, h12, h14, h15, hca, H4, hjt, hjc, hy', hwj, under0, under1, under2, under3, rc_ok]
                      refine ⟨1, by omega, by omega, rfl, by omega, [], ⟨?_, by simp⟩, rfl⟩
                      have h1 := htj; simp only [Nat.zero_add] at h1; rw [h1]; simp [gtA]
                    | 1, _ =>
                      simp -dsimp [h1, h2, h4, h5, h6, h8, h9, h10, h11, h12, h14, h15, hca, H4, hjt, hjc, hy', hwj, under0, under1, under2, under3, rc_ok]
                      refine ⟨1, by omega, by omega, rfl, by omega, [], ⟨?_, by simp⟩, rfl⟩
                      have h1 := htj; simp only [Nat.zero_add] at h1; rw [h1]; simp [gtA]
                    | 2, _ =>
                      simp -dsimp [h1, h2, h4, h5, h6, h8, h9, h10, h11, h12, h14, h15, hca, H4, hjt, hjc, hy', hwj, under0, under1, under2, under3, rc_ok]
                      refine ⟨1, by omega, by omega, rfl, by omega, [], ⟨?_, by simp⟩, rfl⟩
                      have h1 := htj; simp only [Nat.zero_add] at h1; rw [h1]; simp [gtA]
                    | 3, _ =>
                      simp -dsimp [h1, h2, h4, h5, h6, h8, h9, h10, h11, h12, h14, h15, hca, H4, hjt, hjc, hy', hwj, under0, under1, under2, under3, rc_ok]
                      refine ⟨1, by omega, by omega, rfl, by omega, [], ⟨?_, by simp⟩, rfl⟩
                      have h1 := htj; simp only [Nat.zero_add] at h1; rw [h1]; simp [gtA]
                  · have hmj : min j cs.length = j := by omega
                    have hlj : (∀ x, x ∈ List.take j (cs.map (gtA .nilS pos)) → x.length = 10) = True := eq_true fun x hx => by
                      obtain ⟨c, hc, rfl⟩ := List.mem_map.1 (List.mem_of_mem_take hx)
                      exact gtA_len ..
                    have hbj1 := mul160 (i := j) (by omega)
                    have hbj2 := le45 (i := j) (by omega)
                    match k', hky with
                    | 0, _ =>
                      simp -dsimp [h1, h2, h4, h5, h6, h8, h9, h10, h11, h12, h14, h15, hca, H4, hjt, hjc, hy', hwj, under0, under1, under2, under3, rc_ok, hmj, hlj, hbj1, hbj2]
                      refine ⟨j + 1, by omega, by omega, by simp, by omega, none :: J2, ⟨?_, by simp; omega⟩, rfl⟩
                      rw [htj]; simp [gtA]
                    | 1, _ =>
                      simp -dsimp [h1, h2, h4, h5, h6, h8, h9, h10, h11, h12, h14, h15, hca, H4, hjt, hjc, hy', hwj, under0, under1, under2, under3, rc_ok, hmj, hlj, hbj1, hbj2]
                      refine ⟨j + 1, by omega, by omega, by simp, by omega, none :: J2, ⟨?_, by simp; omega⟩, rfl⟩
                      rw [htj]; simp [gtA]
                    | 2, _ =>
                      simp -dsimp [h1, h2, h4, h5, h6, h8, h9, h10, h11, h12, h14, h15, hca, H4, hjt, hjc, hy', hwj, under0, under1, under2, under3, rc_ok, hmj, hlj, hbj1, hbj2]
                      refine ⟨j + 1, by omega, by omega, by simp, by omega, none :: J2, ⟨?_, by simp; omega⟩, rfl⟩
                      rw [htj]; simp [gtA]
                    | 3, _ =>
                      simp -dsimp [h1, h2, h4, h5, h6, h8, h9, h10, h11, h12, h14, h15, hca, H4, hjt, hjc, hy', hwj, under0, under1, under2, under3, rc_ok, hmj, hlj, hbj1, hbj2]
                      refine ⟨j + 1, by omega, by omega, by simp, by omega, none :: J2, ⟨?_, by simp; omega⟩, rfl⟩
                      rw [htj]; simp [gtA]
                · have hje : j = i := by omega
                  subst hje
                  rcases hh with ⟨h, -, -⟩ | ⟨hj0, J2, h14, rfl⟩
                  · omega
                  · have hmj : min j cs.length = j := by omega
                    have hlj : (∀ x, x ∈ List.take j (cs.map (gtA .nilS pos)) → x.length = 10) = True := eq_true fun x hx => by
                      obtain ⟨c, hc, rfl⟩ := List.mem_map.1 (List.mem_of_mem_take hx)
                      exact gtA_len ..
                    have hbj1 := mul160 (i := j) (by omega)
                    have hbj2 := le45 (i := j) (by omega)
                    have hbj3 := mul160' (i := j) (by omega)
                    have hbj4 := le46 (i := j) (by omega)
                    by_cases hm : j + 1 < cs.length
                    · have hm' : (j : Int) + 1 < (cs.length : Int) := by omega
                      simp -dsimp [h1, h2, h4, h5, h6, h8, h9, h10, h11, h12, h14, h15, hca, H4, hmj, hlj, hbj1, hbj2, hbj3, hbj4, hm, hm', hgu, hw, hlen, hb1, hb2, hmin, hx', hlt, rnames0, rnames1, rnames2, rnames3, rc_ok, rv_ok, cs_ok, order10, order11, order12, order13]
                      refine ⟨j + 1, by omega, by omega, by simp, by omega, some .tok :: none :: none :: (J2 ++ some (.cells _) :: none :: J), ⟨?_, by simp; omega⟩, by simp only [more_push, more_skip, more_more]; simp [List.replicate]; rfl⟩
                      rw [htake]; simp [altOrd, hx, ordIn, hm]
                    · have hm' : ¬ (j : Int) + 1 < (cs.length : Int) := by omega
                      simp -dsimp [h1, h2, h4, h5, h6, h8, h9, h10, h11, h12, h14, h15, hca, H4, hmj, hlj, hbj1, hbj2, hbj3, hbj4, hm, hm', hgu, hw, hlen, hb1, hb2, hmin, hx', hlt, rnames0, rnames1, rnames2, rnames3, rc_ok, rv_ok, cs_ok, order10, order11, order12, order13]
                      refine ⟨j + 1, by omega, by omega, by simp, by omega, some .tok :: none :: (J2 ++ some (.cells _) :: none :: J), ⟨?_, by simp; omega⟩, by simp only [more_push, more_skip, more_more]; simp [List.replicate]; rfl⟩
                      rw [htake]; simp [altOrd, hx, ordIn, hm]
              · refine ⟨by omega, ?_⟩
                simp -dsimp [h1, h2, h4, h5, h6, h8, h9, h10, hmin, H4, hca]
        · have hie : i = cs.length := by omega
          subst hie
          have hlc : lenA P 30 ca = some (.int .i64 cs.length) := by
            rw [← hcg]
            cases cs with
            | nil => simp [consV]
            | cons a l => simp [consV]
          rcases hh with ⟨h, h9, rfl⟩ | ⟨hi0, J, h9, rfl⟩
          · have hcs0 := List.eq_nil_of_length_eq_zero h
            subst hcs0
            simp -dsimp [h1, h2, h4, h5, h6, h8, h9, h10, hlc, rv_ok, cs_nil_ok, rlam2, hc1, hc2, hc3, hvg, hvv, hvc, hco, hcz, hcf, zI, ordV]
            exact hvg.symm
          · have ht : List.take cs.length ((List.range cs.length).map (altOrd .nilS pos cs)) = ((List.range cs.length).map (altOrd .nilS pos cs)) := by
              rw [List.take_of_length_le]; simp
            rw [ht] at h9
            have hsl : slV ((List.range cs.length).map (altOrd .nilS pos cs)) = .list ((List.range cs.length).map (altOrd .nilS pos cs)) .frozen := slV_of (by
              intro h; have := congrArg List.length h; simp at this; subst this; simp at hi0)
            simp -dsimp [h1, h2, h4, h5, h6, h8, h9, h10, hlc, rv_ok, cs_ok, hau, rlam2, hc1, hc2, hc3, hvg, hvv, hvc, hco, hcz, hcf, zI, ordV, hsl]
            exact hvg.symm
      · refine ⟨by omega, ?_⟩
        simp -dsimp [h1, h2, h4, h5, h6]
  · refine ⟨by omega, ?_⟩
    simp -dsimp [B3, zI]
end Go.Am.Ds
