/- AM, an abstract machine over plain values, and that the model does what it does: a part of the proof. -/
import Derived.Test.YtfmfejcoaphmoaaDoorA8
set_option linter.unusedSimpArgs false
set_option linter.unusedVariables false
/- AM against the model: functions. THE THEOREM: what AM works out for a call is what the model's call comes to. -/
namespace Go.Am
open Go

variable {E : Env} {v : AV} {ρ ρ' : Tmps} {H H' : Heap} {φ : Phi} {S : Cells} {w : World} {a : Act} {call : Call} {f : FuncId}

/-- What is asked of an environment. -/
structure EnvOk (E : Env) : Prop where
  mix : E.P.follows .mixedOrders = true
  use : ∀ f fn, E.use f = true → E.P.funcs[f]? = some fn → funcOk E f fn = true
  base : underH E.base.next E.base = true
  ng : E.ng ≤ E.base.next
  ext : ∀ f args v, E.ext f args = some v → Enterable E.P f ∧ ∀ H, SimCall E f args H v H

theorem trunc_get : ∀ (H : Heap) (n id : Nat), id < n → (H.trunc n).get id = H.get id
  | [], n, id, h => rfl
  | o :: H, n, id, h => by
    simp only [Heap.trunc]
    split
    · rfl
    · rename_i hn
      rw [trunc_get H n id h]
      simp only [Heap.get]
      rw [if_neg (by omega)]

theorem leave_sound {p : Bool} {H0 H2 : Heap} {v v2 : AV} {v' : Value} {φ' : Phi} {S' : Cells} {w' : World} (h : leave p H0 v H' = some (v2, H2)) (hstep : Step φ S H0 w φ' S' H' w') (hst : St φ' S' H' w') (hv : V φ' S' w' v v')
    (hn : ∀ i, H0.next ≤ i → i < H2.next → φ i = none) : H0.next ≤ H2.next ∧ H'.next ≤ H2.next ∧ ∃ φ2, Step φ S H0 w φ2 S' H2 w' ∧ St φ2 S' H2 w' ∧ V φ2 S' w' v2 v' := by
  unfold leave at h
  split at h
  · split at h
    · rename_i htr
      have hk : H0.next + (H'.next - H0.next) = H'.next := by have := hstep.next; omega
      have hnx : (H0.skip (H'.next - H0.next)).next = H'.next := by rw [skip_next, hk]
      have hsub : ∀ i o l, (H0.skip (H'.next - H0.next)).get i = some o → φ' i = some l → H'.get i = some o := fun i o l h1 _ => by
        rw [skip_get] at h1
        rw [← trunc_get H' H0.next i (get_lt h1), htr, h1]
      have hst2 : St φ' S' (H0.skip (H'.next - H0.next)) w' := hst.sub hsub
      have hstep2 : Step φ S H0 w φ' S' (H0.skip (H'.next - H0.next)) w' :=
        ⟨hstep.ext, fun i hi => by rw [hnx]; exact hstep.new i hi, hstep.s, hstep.keeps, fun b k hm => hstep.m b k (MG_sub hsub hm), hstep.sb, by rw [hnx]; exact hstep.next⟩
      have fin : ∀ {u : AV}, V φ' S' w' u v' → some (u, H0.skip (H'.next - H0.next)) = some (v2, H2) → H0.next ≤ H2.next ∧ H'.next ≤ H2.next ∧ ∃ φ2, Step φ S H0 w φ2 S' H2 w' ∧ St φ2 S' H2 w' ∧ V φ2 S' w' v2 v' := fun hu e => by
        simp only [Option.some.injEq, Prod.mk.injEq] at e
        obtain ⟨rfl, rfl⟩ := e
        exact ⟨hstep2.next, by rw [hnx]; exact Nat.le_refl _, φ', hstep2, hst2, hu⟩
      split at h
      · rename_i es id sz
        split at h
        · exact fin hv h
        · rename_i hid
          split at h
          · rename_i hget
            simp only [Option.some.injEq, Prod.mk.injEq] at h
            obtain ⟨rfl, rfl⟩ := h
            cases hv with
            | list _ _ b off cap sz' g hc hz hs hv' ht =>
              obtain ⟨rfl, hφ⟩ := ht
              have hn2 : φ' (H0.skip (H'.next - H0.next)).next = none := by
                by_cases e : φ' (H0.skip (H'.next - H0.next)).next = φ (H0.skip (H'.next - H0.next)).next
                · rw [e]; exact hn _ (by rw [hnx]; exact hstep.next) (by rw [next_push]; omega)
                · have := (hstep.new _ e).2; rw [hnx] at this; omega
              have hadd := Phi.add_ext (l := Loc.tok b (off + es.length * sz') ((cap - es.length) * sz')) hn2
              have hown : ∀ b' k, (Loc.tok b (off + es.length * sz') ((cap - es.length) * sz')).has b' k → M φ' H' b' k := fun b' k hb => ⟨id, _, _, hget, hφ, hb⟩
              refine ⟨by rw [next_push, hnx]; have := hstep.next; omega, by rw [next_push, hnx]; omega, φ'.add (H0.skip (H'.next - H0.next)).next (.tok b (off + es.length * sz') ((cap - es.length) * sz')), ?_, ?_, ?_⟩
              · refine ⟨fun i l hl => hadd i l (hstep.ext i l hl), fun i hi => ?_, hstep.s, hstep.keeps, fun b' k hm => ?_, hstep.sb, by rw [next_push, hnx]; have := hstep.next; omega⟩
                · simp only [Phi.add] at hi
                  split at hi
                  · rename_i e; rw [next_push, hnx] at *; have := hstep.next; omega
                  · have := hstep.new i hi; rw [next_push, hnx]; omega
                · obtain ⟨i, o', l, h7, h8, h9⟩ := hm
                  rw [get_push] at h7
                  simp only [Phi.add] at h8
                  split at h7
                  · rename_i e; simp [e] at h8; subst h8; exact hstep.m b' k (hown b' k h9)
                  · rename_i e; simp [e] at h8; exact hstep2.m b' k ⟨i, o', l, h7, h8, h9⟩
              · refine hst2.push hn2 (hst.obj id _ _ hget hφ) fun b' k hb => ⟨fun hs => hst.sM b' k hs (hown b' k hb), fun b'' k'' hm => ?_⟩
                rintro ⟨rfl, rfl⟩
                obtain ⟨i, o', l, h7, h8, h9⟩ := hm
                have h10 := hsub i o' l h7 h8
                rw [skip_get] at h7
                have : i ≠ id := by have := get_lt h7; omega
                exact hst.disj i id _ _ _ _ this h10 hget h8 hφ b' k h9 hb
              · exact .list es _ b off cap sz' g hc hz hs (fun i e j c h1 h2 => (hv' i e j c h1 h2).mono hadd fun b k hs => ⟨hs, rfl⟩) ⟨rfl, by simp [Phi.add]⟩
          · refine fin ?_ h
            exact hv.freeze
      · rename_i vs
        refine fin ?_ h
        obtain ⟨ys, rfl, h5⟩ := hv.tup_inv
        exact V.tup' (by simpa using h5.freeze)
      · exact fin hv h
    · simp at h
  · simp only [Option.some.injEq, Prod.mk.injEq] at h
    obtain ⟨rfl, rfl⟩ := h
    exact ⟨hstep.next, Nat.le_refl _, φ', hstep, hst, hv⟩

theorem runF_sound {call : Call} {n : Nat} (hE : EnvOk E) (ih : CallOk E call) {k : FuncId} {args : List AV} {v : AV} (huse : E.use k = true) (h : runF E call n k args H = some (v, H')) :
    Enterable E.P k ∧ H.next ≤ H'.next ∧ SimCall E k args H v H' := by
  unfold runF at h
  split at h
  · rename_i fn hfn
    have hok := hE.use k fn huse hfn
    split at h
    · rename_i c hb
      simp only [funcOk, Bool.and_eq_true, hb] at hok
      obtain ⟨⟨hname, hsize⟩, hcode⟩ := hok
      split at h
      · rename_i hargs
        have body : ∀ ρ1 H1 e, evalCode E call n noY false k c (start args) H = some (e, ρ1, H1) → (e = .normal ∨ e = .ret) → ((resultsA E.P ρ1 H1 fn.results.toList).map fun vs => (retVal vs, H1)) = some (v, H') →
            Enterable E.P k ∧ H.next ≤ H'.next ∧ SimCall E k args H v H' := by
          intro ρ1 H1 e h1 he h2
          simp only [Option.map_eq_some_iff, Prod.mk.injEq] at h2
          obtain ⟨vs, h3, rfl, rfl⟩ := h2
          have hn1 := evalCode_next ih _ _ _ _ _ _ _ _ _ _ (fun _ _ _ _ h => by simp [noY] at h) h1
          refine ⟨⟨fn, hfn, by simpa using hname, by simp [hb]⟩, hn1, fun φ S w ws hst hg hn hvl => ?_⟩
          have hsz : ws.toArray.size = fn.params.size + fn.nfree := by simpa [← hvl.1] using hargs
          have hsize' : fn.params.size + fn.nfree ≤ fn.ntmps := by simpa using hsize
          have hlen : ws.length = fn.params.size + fn.nfree := by simpa using hsz
          refine (callsIn_wide (n := 0)).1 (callsIn_of_wp_marks hfn hb trivial ?_)
          refine (code_sound hE.mix hE.use ih n noY false k none 0 w.heap.size c (start args) ρ1 H H1 e φ S w _ _ (fun _ => rfl) h1 ⟨hst, hg, start_vt hvl _, fun i h5 h6 => hn i h5 (by omega), YOk.no, trivial, Nat.le_refl _⟩ (by rw [fn_size hlen hsize']; exact hcode) fun φ' S' w' a' k1 k2 k3 k4 k5 => ?_).1
          have key : LeavesInM (Wd none) 0 E.P fn a'.tmps (fun e w' => ∃ v' φ' S', e = .returned v' ∧ Step φ S H w φ' S' H1 w' ∧ St φ' S' H1 w' ∧ V φ' S' w' (retVal vs) v') a'.defers .returning w' :=
            leaves_sound h3 _ _ k4 k2 k3 fun v w3 j1 j2 j3 => ⟨v, φ', S', rfl, j2 _ _ _ _ (Nat.le_refl _) k1, j1, j3⟩
          rcases he with rfl | rfl
          · exact key
          · exact key
        split at h
        · rename_i ρ1 H1 h1
          exact body ρ1 H1 .normal h1 (.inl rfl) h
        · rename_i ρ1 H1 h1
          exact body ρ1 H1 .ret h1 (.inr rfl) h
        · simp at h
      · simp at h
    · simp at h
  · simp at h

theorem shutV_next {N : Nat} : (shutV N H v).2.next = H.next := by
  unfold shutV
  split
  · split
    · split
      · rw [next_put]
      · rfl
    · rfl
  · rfl

theorem shutL_next {N : Nat} : ∀ (vs : List AV) (H : Heap), (shutL N H vs).2.next = H.next
  | [], H => rfl
  | v :: vs, H => by simp only [shutL]; rw [shutL_next vs, shutV_next]

theorem shutR_next {N : Nat} : (shutR N H v).2.next = H.next := by
  unfold shutR
  split
  · exact shutL_next _ _
  · exact shutV_next

theorem shutV_sound {N : Nat} {v' : Value} (hst : St φ S H w) (hv : V φ S w v v') : ∃ S', Step φ S H w φ S' (shutV N H v).2 w ∧ St φ S' (shutV N H v).2 w ∧ V φ S' w (shutV N H v).1 v' := by
  have same : ∃ S', Step φ S H w φ S' H w ∧ St φ S' H w ∧ V φ S' w v v' := ⟨S, .refl .., hst, hv⟩
  unfold shutV
  split
  case h_2 => exact same
  rename_i id off len sz
  split
  case isFalse => exact same
  split
  case h_2 => exact same
  rename_i cs hr
  have hr0 := hr
  simp only [Heap.rng, Option.bind_eq_some_iff] at hr
  obtain ⟨ds, h2, h3⟩ := hr
  obtain ⟨h4, h5⟩ := part_get h3
  have hget := Heap.cells_get h2
  have hlt := get_lt hget
  have hcl : cs.length = len * sz := by rw [h4]; simp; omega
  obtain ⟨c1, c2, c3⟩ := chunk_flatten len (freezeL cs) (by rw [freezeL_len, hcl])
  cases hv with
  | arr _ _ _ _ b base total cap hφ hc ht =>
    have hh := rng_holds hst hr0 hφ
    obtain ⟨vs, h9, h10⟩ := hh.list
    have hvl : vs.length = len * sz := by rw [← h9.1, hcl]
    obtain ⟨o1, o2, o3⟩ := hst.obj id _ _ hget hφ
    let S' : Cells := fun b' k => S b' k ∨ (b' = b ∧ base + off ≤ k ∧ k < base + off + len * sz)
    have hle : off + len * sz ≤ total := by have := Nat.mul_le_mul_right sz hc; omega
    have hM : ∀ b' k, b' = b ∧ base + off ≤ k ∧ k < base + off + len * sz → M φ H b' k := fun b' k h => ⟨id, _, _, hget, hφ, h.1, by omega, by omega⟩
    have hst2 : St φ S' (H.put id none) w := by
      refine (hst.drop id hlt).growS (fun _ _ h => .inl h) fun b' k h => ?_
      rcases h with h | h
      · exact .inl h
      · refine .inr ⟨fun ⟨i, o, l, h6, h7, h8⟩ => ?_, ?_⟩
        · obtain ⟨hne, h11⟩ := put_none_get h6 hlt
          exact hst.disj i id _ _ _ _ hne h11 hget h7 hφ b' k h8 ⟨h.1, by omega, by omega⟩
        · obtain ⟨rfl, h6, h7⟩ := h
          have : k - (base + off) < vs.length := by omega
          have h8 := h10 (k - (base + off)) vs[k - (base + off)] (by simp [this])
          rw [Nat.add_sub_cancel' h6] at h8
          exact ⟨_, h8⟩
    refine ⟨S', ⟨fun _ _ h => h, fun _ h => absurd rfl h, fun _ _ h => .inl h, .refl _ _, fun b' k h => .inl (M_drop h hlt), fun b' k h => h.elim .inl fun h => .inr (.inl (hM b' k h)), by rw [next_put]; exact Nat.le_refl _⟩, hst2, ?_⟩
    have hlen : (chunk sz len (freezeL cs)).length = len := c2
    have := V_list_of (φ := φ) (S := S') (w := w) (es := chunk sz len (freezeL cs)) (t := .frozen) (b := b) (off := base + off) (cap := cap) (sz := sz) (vs := vs) c3 (by rw [c2]; exact hc)
      (by
        rw [c1]
        have h11 := h9.freeze
        exact ⟨h11.1, fun i c u h12 h13 => (h11.2 i c u h12 h13).mono (fun _ _ h => h) fun _ _ h => ⟨.inl h, rfl⟩⟩)
      (fun j u hj => ⟨.inr ⟨rfl, by omega, by have := (List.getElem?_eq_some_iff.1 hj).1; omega⟩, h10 j u hj⟩) trivial
    rw [hlen] at this
    exact this

theorem shutL_sound {N : Nat} : ∀ (vs : List AV) (us : List Value) (H : Heap) (S : Cells), St φ S H w → VL φ S w vs us → ∃ S', Step φ S H w φ S' (shutL N H vs).2 w ∧ St φ S' (shutL N H vs).2 w ∧ VL φ S' w (shutL N H vs).1 us
  | [], us, H, S, hst, hv => ⟨S, .refl .., hst, hv⟩
  | v :: vs, us, H, S, hst, hv => by
    obtain ⟨u, us, rfl⟩ : ∃ u us', us = u :: us' := by
      cases us with
      | nil => have := hv.1; simp at this
      | cons u us => exact ⟨u, us, rfl⟩
    obtain ⟨S1, h1, h2, h3⟩ := shutV_sound (N := N) hst (hv.2 0 v u rfl rfl)
    have htail : VL φ S w vs us := ⟨by have := hv.1; simpa using this, fun i c x h4 h5 => hv.2 (i + 1) c x h4 h5⟩
    obtain ⟨S2, h4, h5, h6⟩ := shutL_sound vs us _ S1 h2 (h1.monoL hst htail)
    exact ⟨S2, h1.trans h4, h5, .cons (h4.mono h2 h3) h6⟩

theorem shutR_sound {N : Nat} {v' : Value} (hst : St φ S H w) (hv : V φ S w v v') : ∃ S', Step φ S H w φ S' (shutR N H v).2 w ∧ St φ S' (shutR N H v).2 w ∧ V φ S' w (shutR N H v).1 v' := by
  unfold shutR
  split
  · rename_i vs
    obtain ⟨ys, rfl, h5⟩ := hv.tup_inv
    obtain ⟨S', h6, h7, h8⟩ := shutL_sound (N := N) vs ys H S hst h5
    exact ⟨S', h6, h7, V.tup' (by simpa using h8)⟩
  · exact shutV_sound hst hv

theorem SimCall.shut {N : Nat} {k : FuncId} {args : List AV} (h : SimCall E k args H v H') : SimCall E k args H (shutR N H' v).1 (shutR N H' v).2 := by
  intro φ S w vs hst hg hn hvl
  refine (h φ S w vs hst hg (fun i h1 h2 => hn i h1 (by rw [shutR_next]; exact h2)) hvl).mono ?_
  rintro e w' ⟨v', φ', S', rfl, k1, k2, k3⟩
  obtain ⟨S2, h4, h5, h6⟩ := shutR_sound (N := N) k2 k3
  exact ⟨v', φ', S2, rfl, k1.trans h4, h5, h6⟩

theorem leave_call {k : FuncId} {args : List AV} {p : Bool} {v2 : AV} {H2 : Heap} (h1 : Enterable E.P k ∧ H.next ≤ H'.next ∧ SimCall E k args H v H') (h4 : leave p H v H' = some (v2, H2)) :
    Enterable E.P k ∧ H.next ≤ H2.next ∧ SimCall E k args H v2 H2 := by
  obtain ⟨he, hn1, hs⟩ := h1
  have hnl : H'.next ≤ H2.next := by
    unfold leave at h4
    split at h4
    · split at h4
      · have hk : (H.skip (H'.next - H.next)).next = H'.next := by rw [skip_next]; omega
        have key : ∀ {x : AV × Heap}, some x = some (v2, H2) → H'.next ≤ x.2.next → H'.next ≤ H2.next := fun {x} e hx => by
          injection e with e; rw [e] at hx; exact hx
        split at h4
        · split at h4
          · exact key h4 (by rw [hk]; exact Nat.le_refl _)
          · split at h4
            · exact key h4 (by rw [next_push, hk]; omega)
            · exact key h4 (by rw [hk]; exact Nat.le_refl _)
        · exact key h4 (by rw [hk]; exact Nat.le_refl _)
        · exact key h4 (by rw [hk]; exact Nat.le_refl _)
      · simp at h4
    · simp only [Option.some.injEq, Prod.mk.injEq] at h4
      rw [h4.2]; exact Nat.le_refl _
  refine ⟨he, Nat.le_trans hn1 hnl, fun φ S w ws hst hg hn hvl => (hs φ S w ws hst hg (fun i h5 h6 => hn i h5 (by omega)) hvl).mono ?_⟩
  rintro e w' ⟨v', φ', S', rfl, k1, k2, k3⟩
  obtain ⟨-, -, φ2, h7, h8, h9⟩ := leave_sound h4 k1 k2 k3 hn
  exact ⟨v', φ2, S', rfl, h7, h8, h9⟩

end Go.Am

/- AM against the model: functions that are run on the heap's begin alone; THE THEOREM: what AM works out for a call is what the model's call comes to. -/
namespace Go.Am
open Go

variable {E : Env} {v : AV} {H H' : Heap} {φ φ' : Phi} {S : Cells} {w : World} {N : Nat}

theorem underL_get {cs : List AV} (h : underL N cs = true) (i : Nat) (c : AV) (hc : cs[i]? = some c) : c.under N = true := by
  induction cs generalizing i with
  | nil => simp at hc
  | cons a as ih =>
    simp only [underL, Bool.and_eq_true] at h
    cases i with
    | zero => simp at hc; exact hc ▸ h.1
    | succ i => exact ih h.2 i (by simpa using hc)

theorem underLL_get {es : List (List AV)} (h : underLL N es = true) (i : Nat) (e : List AV) (hc : es[i]? = some e) : underL N e = true := by
  induction es generalizing i with
  | nil => simp at hc
  | cons a as ih =>
    simp only [underLL, Bool.and_eq_true] at h
    cases i with
    | zero => simp at hc; exact hc ▸ h.1
    | succ i => exact ih h.2 i (by simpa using hc)

theorem V.under {a : AV} {v : Value} (h : V φ S w a v) (hφ : ∀ i l, i < N → φ i = some l → φ' i = some l) (hd : a.under N = true) : V φ' S w a v := by
  induction h with
  | int => exact .int _ _
  | bool => exact .bool _
  | str => exact .str _
  | nilS => exact .nilS
  | list es t b off cap sz f hc hz hs hv ht ih =>
    cases t with
    | frozen =>
      simp only [AV.under] at hd
      exact .list es _ b off cap sz f hc hz hs (fun i e j c h1 h2 => ih i e j c h1 h2 (underL_get (underLL_get hd i e h1) j c h2)) trivial
    | full =>
      simp only [AV.under] at hd
      exact .list es _ b off cap sz f hc hz hs (fun i e j c h1 h2 => ih i e j c h1 h2 (underL_get (underLL_get hd i e h1) j c h2)) ht
    | tok id s =>
      simp only [AV.under, Bool.and_eq_true, decide_eq_true_eq] at hd
      exact .list es _ b off cap sz f hc hz hs (fun i e j c h1 h2 => ih i e j c h1 h2 (underL_get (underLL_get hd.2 i e h1) j c h2)) ⟨ht.1, hφ _ _ hd.1 ht.2⟩
  | arr id off len sz b base total cap h hc ht => simp only [AV.under, decide_eq_true_eq] at hd; exact .arr id off len sz b base total cap (hφ _ _ hd h) hc ht
  | nilP => exact .nilP
  | ptr id off b base total h => simp only [AV.under, decide_eq_true_eq] at hd; exact .ptr id off b base total (hφ _ _ hd h)
  | ref cs b off f hs hv ih => simp only [AV.under] at hd; exact .ref cs b off f hs fun j c h => ih j c h (underL_get hd j c h)
  | fn f cs vs hl hv ih => simp only [AV.under] at hd; exact .fn f cs vs hl fun i c v h1 h2 => ih i c v h1 h2 (underL_get hd i c h1)
  | yld id l h => simp [AV.under] at hd
  | nilF => exact .nilF
  | ifc t v v' h ih => simp only [AV.under] at hd; exact .ifc t v v' (ih hd)
  | nilI => exact .nilI
  | map id b h => simp only [AV.under, decide_eq_true_eq] at hd; exact .map id b (hφ _ _ hd h)
  | nilM => exact .nilM
  | agg cs vs hl hv ih => simp only [AV.under] at hd; exact .agg cs vs hl fun i c v h1 h2 => ih i c v h1 h2 (underL_get hd i c h1)
  | tup cs vs hl hv ih => simp only [AV.under] at hd; exact .tup cs vs hl fun i c v h1 h2 => ih i c v h1 h2 (underL_get hd i c h1)
  | undef v => exact .undef v

theorem V.calm {a : AV} {v : Value} (h : V φ S w a v) : V φ S w a.calm v := by
  cases h with
  | list es t b off cap sz f hc hz hs hv ht =>
    cases t with
    | tok id s => exact .list es _ b off cap sz f hc hz hs hv trivial
    | _ => exact .list es _ b off cap sz f hc hz hs hv ht
  | _ => simp only [AV.calm]; constructor <;> assumption

theorem VL.calm {a : List AV} {v : List Value} (h : VL φ S w a v) : VL φ S w (a.map AV.calm) v := by
  refine ⟨by simpa using h.1, fun i c v h1 h2 => ?_⟩
  simp only [List.getElem?_map, Option.map_eq_some_iff] at h1
  obtain ⟨c', h3, rfl⟩ := h1
  exact (h.2 i c' v h3 h2).calm

theorem V.calmR {a : AV} {v : Value} (h : V φ S w a v) : V φ S w a.calmR v := by
  cases a with
  | tup vs =>
    obtain ⟨ys, rfl, h5⟩ := h.tup_inv
    exact V.tup' (by simpa using h5.calm)
  | _ => exact h.calm

theorem underH_get {H : Heap} (h : underH N H = true) {i : Nat} {o : Obj} (hi : H.get i = some o) : (∃ cs, o = .cells cs ∧ underL N cs = true) ∨ o = .tok := by
  induction H with
  | nil => simp [Heap.get] at hi
  | cons x H ih =>
    simp only [Heap.get] at hi
    split at hi
    · subst hi
      cases o with
      | cells cs => simp only [underH, Bool.and_eq_true] at h; exact .inl ⟨cs, rfl, h.1⟩
      | tok => exact .inr rfl
      | map es => simp [underH] at h
    · refine ih ?_ hi
      rcases x with - | x
      · exact h
      · cases x with
        | cells cs => simp only [underH, Bool.and_eq_true] at h; exact h.2
        | tok => exact h
        | map es => simp [underH] at h

theorem ObjOk.under {o : Obj} {l : Loc} (h : ObjOk φ S w o l) (hφ : ∀ i l, i < N → φ i = some l → φ' i = some l) (ho : (∃ cs, o = .cells cs ∧ underL N cs = true) ∨ o = .tok) : ObjOk φ' S w o l := by
  rcases ho with ⟨cs, rfl, hc⟩ | rfl
  · cases l with
    | obj b base total =>
      obtain ⟨h1, h2, h3⟩ := h
      refine ⟨h1, h2, fun j c hj => ?_⟩
      obtain ⟨v, h4, h5⟩ := h3 j c hj
      exact ⟨v, h4, h5.under hφ (underL_get hc j c hj)⟩
    | _ => exact h.elim
  · cases l with
    | tok b s n => exact h
    | _ => exact h.elim

theorem closed_sound (hE : EnvOk E) {k : FuncId} {args : List AV} {v : AV} {H1 : Heap} (hs : SimCall E k (args.map AV.calm) E.base v H1) (ha : underL E.base.next (args.map AV.calm) = true)
    (ht : H.trunc E.base.next = E.base) (ht1 : H1.trunc E.base.next = E.base) (hv : v.calmR.under E.base.next = true) : SimCall E k args H v.calmR H := by
  intro φ S w vs hst hg hn hvl
  have hget : ∀ i, i < E.base.next → E.base.get i = H.get i := fun i hi => by rw [← trunc_get H _ i hi, ht]
  have hget1 : ∀ i, i < E.base.next → E.base.get i = H1.get i := fun i hi => by rw [← trunc_get H1 _ i hi, ht1]
  let φ0 : Phi := fun i => if i < E.base.next then φ i else none
  have h01 : ∀ i l, φ0 i = some l → i < E.base.next ∧ φ i = some l := fun i l h => by
    simp only [φ0] at h
    split at h
    · rename_i hi; exact ⟨hi, h⟩
    · simp at h
  have h10 : ∀ i l, i < E.base.next → φ i = some l → φ0 i = some l := fun i l hi h => by simp only [φ0]; rw [if_pos hi]; exact h
  have hsub : ∀ i o, E.base.get i = some o → H.get i = some o := fun i o h => by rw [← hget i (get_lt h)]; exact h
  have hM : ∀ b j, MG φ0 E.base.get b j → MG φ H.get b j := fun b j ⟨i, o, l, h1, h2, h3⟩ => ⟨i, o, l, hsub i o h1, (h01 i l h2).2, h3⟩
  have hst0 : St φ0 S E.base w := ⟨fun i o l h1 h2 => (hst.obj i o l (hsub i o h1) (h01 i l h2).2).under h10 (underH_get hE.base h1),
    fun i j oi oj li lj hne h1 h2 h3 h4 => hst.disj i j oi oj li lj hne (hsub i oi h1) (hsub j oj h2) (h01 i li h3).2 (h01 j lj h4).2,
    fun b j hsb hm => hst.sM b j hsb (hM b j hm), hst.sA⟩
  have hg0 : GlobOk E.ng φ0 := fun g hg' => by
    obtain ⟨t, h1⟩ := hg g hg'
    exact ⟨t, h10 g _ (Nat.lt_of_lt_of_le hg' hE.ng) h1⟩
  have hvl0 : VL φ0 S w (args.map AV.calm) vs := ⟨hvl.calm.1, fun i c u h1 h2 => (hvl.calm.2 i c u h1 h2).under h10 (underL_get ha i c h1)⟩
  refine (hs φ0 S w vs hst0 hg0 (fun i h5 _ => by simp only [φ0]; rw [if_neg (by omega)]) hvl0).mono ?_
  rintro e w' ⟨v', φ1, S', rfl, k1, k2, k3⟩
  have hφ1 : ∀ i, i < E.base.next → φ1 i = φ i := fun i hi => by
    by_cases e : φ1 i = φ0 i
    · rw [e]; simp only [φ0]; rw [if_pos hi]
    · have := (k1.new i e).1; omega
  have hin1 : ∀ i l, i < E.base.next → φ1 i = some l → φ i = some l := fun i l hi h => by rw [← hφ1 i hi]; exact h
  have hapart : ∀ i o l b j, E.base.next ≤ i → H.get i = some o → φ i = some l → l.has b j → ¬ MG φ0 E.base.get b j := fun i o l b j hi h1 h2 h3 ⟨i', o', l', h4, h5, h6⟩ =>
    hst.disj i i' o o' l l' (by have := get_lt h4; omega) h1 (hsub i' o' h4) h2 (h01 i' l' h5).2 b j h3 h6
  have hS : ∀ b j, S b j → S' b j ∧ at_ w' b j = at_ w b j := fun b j hsb => ⟨k1.s b j hsb, by
    obtain ⟨u, hu⟩ := hst.sA b j hsb
    rw [hu, k1.keeps.at hu (hst0.sM b j hsb)]⟩
  refine ⟨v', φ, S', rfl, ⟨fun _ _ h => h, fun _ h => absurd rfl h, k1.s, k1.keeps.mono hM, fun _ _ h => .inl h, fun b j h => ?_, Nat.le_refl _⟩, ⟨fun i o l h1 h2 => ?_, hst.disj, fun b j h hm => ?_, k2.sA⟩, k3.calmR.under hin1 hv⟩
  · rcases k1.sb b j h with h | h | h
    · exact .inl h
    · exact .inr (.inl (hM b j h))
    · exact .inr (.inr h)
  · rcases Nat.lt_or_ge i E.base.next with hi | hi
    · have hb : E.base.get i = some o := by rw [hget i hi]; exact h1
      exact (k2.obj i o l (by rw [← hget1 i hi]; exact hb) (by rw [hφ1 i hi]; exact h2)).under hin1 (underH_get hE.base hb)
    · refine (hst.obj i o l h1 h2).mono (fun _ _ h => h) hS (fun b ob hob hb hw => ?_) (fun _ _ _ => k1.keeps.writable) fun b j u hb hu => k1.keeps.at hu (hapart i o l b j hi h1 h2 hb)
      refine k1.keeps.other b ob hw hob fun j hm => ?_
      obtain ⟨i', o', l', h4, h5, h6⟩ := hm
      have h7 := hst0.obj i' o' l' h4 h5
      have hno : ∀ {s n}, Writable w b s n → False := fun ⟨c, e, h8, _⟩ => by rw [hw] at h8; exact hob c e _ (Option.some.inj h8)
      rcases underH_get hE.base h4 with ⟨cs, rfl, -⟩ | rfl
      · cases l' with
        | obj b' base total => obtain ⟨rfl, -⟩ := h6; exact hno h7.2.1
        | _ => exact h7.elim
      · cases l' with
        | tok b' s n => obtain ⟨rfl, -⟩ := h6; exact hno h7
        | _ => exact h7.elim
  · obtain ⟨i, o, l, h1, h2, h3⟩ := hm
    rcases Nat.lt_or_ge i E.base.next with hi | hi
    · exact k2.sM b j h ⟨i, o, l, by rw [← hget1 i hi, hget i hi]; exact h1, by rw [hφ1 i hi]; exact h2, h3⟩
    · rcases k1.sb b j h with h4 | h4 | h4
      · exact hst.sM b j h4 ⟨i, o, l, h1, h2, h3⟩
      · exact hapart i o l b j hi h1 h2 h3 h4
      · have := has_lt hst ⟨i, o, l, h1, h2, h3⟩; omega

/-- THE THEOREM. -/
theorem evalF_sound (hE : EnvOk E) : ∀ n, CallOk E (evalF E n)
  | 0 => fun k args H v H' h => by simp [evalF] at h
  | n + 1 => fun k args H v H' h => by
    have ih := evalF_sound hE n
    simp only [evalF] at h
    split at h
    · rename_i u hu
      simp only [Option.some.injEq, Prod.mk.injEq] at h
      obtain ⟨rfl, rfl⟩ := h
      obtain ⟨h1, h2⟩ := hE.ext _ _ _ hu
      exact ⟨h1, Nat.le_refl _, h2 H⟩
    · split at h
      · rename_i huse
        split at h
        · unfold closedF at h
          split at h
          · rename_i hc
            split at h
            · rename_i v1 H1 hr
              split at h
              · rename_i hd
                simp only [Option.some.injEq, Prod.mk.injEq] at h
                obtain ⟨rfl, rfl⟩ := h
                obtain ⟨h1, -, h3⟩ := runF_sound hE ih huse hr
                exact ⟨h1, Nat.le_refl _, closed_sound hE h3.shut hc.1 hc.2 hd.1 hd.2⟩
              · simp at h
            · simp at h
          · simp at h
        · simp only [Option.bind_eq_some_iff] at h
          obtain ⟨⟨v1, H1⟩, hr, hl⟩ := h
          obtain ⟨h1, h2, h3⟩ := runF_sound hE ih huse hr
          unfold leaveS at hl
          split at hl
          · exact leave_call ⟨h1, by rw [shutR_next]; exact h2, h3.shut⟩ hl
          · simp only [Option.some.injEq, Prod.mk.injEq] at hl
            obtain ⟨rfl, rfl⟩ := hl
            exact ⟨h1, h2, h3⟩
      · simp at h

end Go.Am
