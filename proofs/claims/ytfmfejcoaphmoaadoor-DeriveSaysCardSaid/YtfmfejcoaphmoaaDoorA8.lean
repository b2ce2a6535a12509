/- AM, an abstract machine over plain values, and that the model does what it does: a part of the proof. -/
import Derived.Test.YtfmfejcoaphmoaaDoorA7
import Derived.RangeFuncRecord
set_option linter.unusedSimpArgs false
set_option linter.unusedVariables false
/- AM against the model: code. -/
namespace Go.Am
open Go

variable {E : Env} {ρ ρ' : Tmps} {H H' : Heap} {φ : Phi} {S : Cells} {w : World} {a : Act} {call : Call} {f : FuncId}

def AExit.to : AExit → Exit
  | .normal => .normal
  | .ret => .ret
  | .exit i => .exit i

theorem skip_next (H : Heap) (k : Nat) : (H.skip k).next = H.next + k := by simp [Heap.next, Heap.skip]; omega
theorem skip_get (H : Heap) (k id : Nat) : (H.skip k).get id = H.get id := by
  induction k with
  | zero => rfl
  | succ k ih =>
    have e : H.skip (k + 1) = none :: H.skip k := rfl
    rw [e]
    simp only [Heap.get]
    split
    · rename_i h
      have h2 := skip_next H k
      simp only [Heap.next] at h2
      rw [get_none]
      simp only [Heap.next]; omega
    · exact ih

theorem resultA_sound {r : ResultVar} {v : AV} (h : resultA E.P ρ H r = some v) (hst : St φ S H w) (hr : VT φ S w ρ a) :
    ∃ v', ((match r with | .tmp t => pure (a.tmps.getD t Go.undef) | .cell c t => do loadVar t (← asAddr (a.tmps.getD c Go.undef)) : Sem Value)).run E.P w = .ok v' w ∧ V φ S w v v' := by
  cases r with
  | tmp t => simp only [resultA, Option.some.injEq] at h; subst h; exact ⟨_, rfl, hr t⟩
  | cell c t =>
    simp only [resultA] at h
    have hc := hr c
    split at h
    · rename_i id off n hp hsz ha
      simp only [Option.map_eq_some_iff] at h
      obtain ⟨cs, h1, rfl⟩ := h
      rw [hp] at hc
      have hlen : cs.length = n := by
        simp only [Heap.rng, Option.bind_eq_some_iff] at h1
        obtain ⟨ds, -, h2⟩ := h1
        obtain ⟨h3, h4⟩ := part_get h2
        rw [h3]; simp; omega
      generalize hav : a.tmps.getD c Go.undef = av at hc
      cases hc with
      | ptr _ _ b base total hφ =>
        obtain ⟨vs, h2, h3⟩ := load_many hsz ha hlen (rng_holds hst h1 hφ)
        refine ⟨.agg vs.toArray, ?_, V.agg' (by simpa using h3.freeze)⟩
        simp only [Sem.run_bind, hav, asAddr, Sem.run_pure, Result.andThen, h2]
    · rename_i id off hp ha
      split at h
      · rename_i u h1
        injection h with h; subst h
        rw [hp] at hc
        generalize hav : a.tmps.getD c Go.undef = av at hc
        cases hc with
        | ptr _ _ b base total hφ =>
          obtain ⟨u', h2, h3⟩ := load_one (P := E.P) (t := t) ha (rng_holds hst h1 hφ)
          refine ⟨u', ?_, h3⟩
          simp only [Sem.run_bind, hav, asAddr, Sem.run_pure, Result.andThen, h2]
      · simp at h
    · simp at h

theorem resultsA_sound : ∀ (rs : List ResultVar) (vs : List AV), resultsA E.P ρ H rs = some vs → St φ S H w → VT φ S w ρ a →
    ∃ ws : List Value, (rs.mapM fun r => (match r with | .tmp t => pure (a.tmps.getD t Go.undef) | .cell c t => do loadVar t (← asAddr (a.tmps.getD c Go.undef)) : Sem Value)).run E.P w = .ok ws w ∧ VL φ S w vs ws
  | [], vs, h, _, _ => by simp [resultsA] at h; subst h; exact ⟨[], rfl, VL.nil⟩
  | r :: rs, vs, h, hst, hr => by
    simp only [resultsA, Option.bind_eq_some_iff, Option.map_eq_some_iff] at h
    obtain ⟨v, h1, vs', h2, rfl⟩ := h
    obtain ⟨v', h3, h4⟩ := resultA_sound h1 hst hr
    obtain ⟨ws, h5, h6⟩ := resultsA_sound rs vs' h2 hst hr
    refine ⟨v' :: ws, ?_, .cons h4 h6⟩
    rw [List.mapM_cons]
    simp only [Sem.run_bind, h3, Result.andThen, h5, Sem.run_pure]

theorem results_sound {fn : Func} {vs : List AV} (h : resultsA E.P ρ H fn.results.toList = some vs) (hst : St φ S H w) (hr : VT φ S w ρ a) : ∃ v', (results fn a.tmps).run E.P w = .ok v' w ∧ V φ S w (retVal vs) v' := by
  obtain ⟨ws, h1, h2⟩ := resultsA_sound _ _ h hst hr
  refine ⟨if h : ws.toArray.size = 1 then ws.toArray[0] else .tuple ws.toArray, ?_, ?_⟩
  · unfold results
    rw [Array.mapM_eq_mapM_toList]
    have key : ∀ m : Sem (List Value), m.run E.P w = .ok ws w → (do let vs ← List.toArray <$> m; pure (if h : vs.size = 1 then vs[0] else Value.tuple vs) : Sem Value).run E.P w = .ok (if h : ws.toArray.size = 1 then ws.toArray[0] else Value.tuple ws.toArray) w := fun m hm => by
      simp only [Sem.run_bind, Sem.run_map, hm, Result.andThen, Sem.run_pure]
    exact key _ h1
  · unfold retVal
    split
    · rename_i v
      obtain ⟨y, rfl⟩ : ∃ y, ws = [y] := by
        have := h2.1
        simp at this
        exact List.length_eq_one_iff.1 this.symm
      simp
      exact h2.2 0 v y rfl rfl
    · rename_i hne
      have : ws.toArray.size ≠ 1 := fun e => by
        have h3 : vs.length = 1 := by rw [h2.1]; simpa using e
        obtain ⟨v, hv⟩ := List.length_eq_one_iff.1 h3
        exact hne v hv
      rw [dif_neg this]
      exact V.tup' (by simpa using h2)

theorem start_vt {args : List AV} {vs : List Value} (h : VL φ S w args vs) (n : Nat) : VT φ S w (start args) { tmps := vs.toArray ++ Array.replicate (n - vs.toArray.size) Go.undef, defers := [] } := fun t => by
  unfold start
  by_cases ht : t < args.length
  · have ht' : t < vs.length := by rw [← h.1]; exact ht
    have := h.2 t args[t] vs[t] (by simp [ht]) (by simp [ht'])
    have e1 : (args[t]?).getD AV.undef = args[t] := by simp [ht]
    have e2 : (vs.toArray ++ Array.replicate (n - vs.toArray.size) Go.undef).getD t Go.undef = vs[t] := by
      rw [Array.getD_eq_getD_getElem?, Array.getElem?_append_left (by simpa using ht')]
      simp [ht']
    rw [e1]
    show V φ S w args[t] ((vs.toArray ++ Array.replicate (n - vs.toArray.size) Go.undef).getD t Go.undef)
    rw [e2]; exact this
  · have : (args[t]?).getD AV.undef = .undef := by simp [List.getElem?_eq_none (Nat.le_of_not_lt ht)]
    rw [this]; exact .undef _


/-! ### Blocks that are neither cells nor maps -/

def Aux (o : Go.Obj) : Prop := (∀ c e fr, o ≠ .cells c e fr) ∧ ∀ ms n, o ≠ .map ms n
theorem Aux.loop (r : Loop) : Aux (.loop r) := ⟨by simp, by simp⟩
theorem Aux.deferred (d : Option (List Deferred)) : Aux (.deferred d) := ⟨by simp, by simp⟩

theorem putObj_get {w : World} {l b : Nat} {o : Go.Obj} : (w.putObj l o).heap[b]? = if b = l ∧ l < w.heap.size then some o else w.heap[b]? := by
  by_cases h : b = l
  · subst h
    by_cases hb : b < w.heap.size
    · rw [if_pos ⟨rfl, hb⟩, World.putObj_heap_same hb]
    · rw [if_neg (by simp [hb])]
      rw [Array.getElem?_eq_none (by simpa using hb), Array.getElem?_eq_none (by simpa using hb)]
  · rw [if_neg (by simp [h]), World.putObj_heap_other h]

theorem at_aux {w : World} {l b k : Nat} {o o' : Go.Obj} (hl : w.heap[l]? = some o) (ho : Aux o) (ho' : Aux o') : at_ (w.putObj l o') b k = at_ w b k := by
  unfold at_ World.cell?
  by_cases h : b = l
  · subst h
    have := lt_of_heap hl
    simp only [putObj_get, this, and_self, ↓reduceIte, hl]
    cases o <;> cases o' <;> first | rfl | exact absurd rfl (ho.1 _ _ _) | exact absurd rfl (ho'.1 _ _ _)
  · simp only [putObj_get, h, false_and, ↓reduceIte]

theorem St.aux {w : World} {l : Nat} {o o' : Go.Obj} (h : St φ S H w) (hl : w.heap[l]? = some o) (ho : Aux o) (ho' : Aux o') : St φ S H (w.putObj l o') := by
  have hat : ∀ b k, at_ (w.putObj l o') b k = at_ w b k := fun b k => at_aux hl ho ho'
  have hcells : ∀ (b : Nat) c e fr, w.heap[b]? = some (.cells c e fr) → (w.putObj l o').heap[b]? = some (.cells c e fr) := fun b c e fr hb => by
    have : b ≠ l := fun e' => by subst e'; rw [hl] at hb; injection hb with hb; exact ho.1 _ _ _ hb
    rw [World.putObj_heap_other this, hb]
  refine ⟨fun i ob lo h1 h2 => (h.obj i ob lo h1 h2).mono (fun _ _ h => h) (fun b k hs => ⟨hs, hat b k⟩) (fun b ob' hc hb hob => ?_) (fun b s n ⟨c, e, h3, h4⟩ => ⟨c, e, hcells _ _ _ _ h3, h4⟩) (fun b k v _ hv => by rw [hat, hv]),
    h.disj, h.sM, fun b k hs => by rw [hat]; exact h.sA b k hs⟩
  have : b ≠ l := fun e' => by
    subst e'
    obtain ⟨o2, h3, h4⟩ := M_kind h (b := b) (k := 0) ⟨i, ob, lo, h1, h2, hb⟩
    rw [hl] at h3; injection h3 with h3; subst h3
    rcases h4 with ⟨c, e, fr, rfl⟩ | ⟨ms, n, rfl⟩
    · exact ho.1 _ _ _ rfl
    · exact ho.2 _ _ rfl
  rw [World.putObj_heap_other this, hob]

theorem VT.aux {w : World} {l : Nat} {o o' : Go.Obj} (h : VT φ S w ρ a) (hl : w.heap[l]? = some o) (ho : Aux o) (ho' : Aux o') : VT φ S (w.putObj l o') ρ a :=
  h.mono (fun _ _ h => h) fun _ _ hs => ⟨hs, at_aux hl ho ho'⟩

/-- A block that came up since is turned. -/
theorem Step.aux {φ' : Phi} {S' : Cells} {w' : World} {l : Nat} {o : Go.Obj} (h : Step φ S H w φ' S' H' w') (hl : w.heap.size ≤ l) : Step φ S H w φ' S' H' (w'.putObj l o) :=
  ⟨h.ext, h.new, h.s, ⟨by simpa using h.keeps.size, fun b c e fr hb => by
      obtain ⟨c', h1, h2⟩ := h.keeps.cells b c e fr hb
      refine ⟨c', ?_, h2⟩
      rw [World.putObj_heap_other (by have := lt_of_heap hb; omega), h1],
    fun b o' hb h1 h2 => by rw [World.putObj_heap_other (by have := lt_of_heap hb; omega), h.keeps.other b o' hb h1 h2], h.keeps.os, h.keeps.output⟩, h.m, h.sb, h.next⟩

/-- A record that is busy meanwhile. -/
theorem Step.bracket {φ' : Phi} {S' : Cells} {w' : World} {l : Nat} {o o' : Go.Obj} (hl : w.heap[l]? = some o) (ho : Aux o) (ho' : Aux o') (h : Step φ S H (w.putObj l o') φ' S' H' w') : Step φ S H w φ' S' H' (w'.putObj l o) := by
  have hsz : (w.putObj l o').heap.size = w.heap.size := by simp
  have hlt := lt_of_heap hl
  have hne : ∀ (b : Nat) c e fr, w.heap[b]? = some (.cells c e fr) → b ≠ l := fun b c e fr hb e' => by
    subst e'; rw [hl] at hb; injection hb with hb; exact ho.1 _ _ _ hb
  refine ⟨h.ext, h.new, h.s, ⟨by have := h.keeps.size; rw [hsz] at this; simpa using this, fun b c e fr hb => ?_, fun b o2 hb h1 h2 => ?_, h.keeps.os, h.keeps.output⟩, fun b k hm => by have := h.m b k hm; rwa [hsz] at this, fun b k hm => by have := h.sb b k hm; rwa [hsz] at this, h.next⟩
  · have hb' := hne b c e fr hb
    obtain ⟨c', h1, h2⟩ := h.keeps.cells b c e fr (by rw [World.putObj_heap_other hb', hb])
    exact ⟨c', by rw [World.putObj_heap_other hb', h1], h2⟩
  · by_cases e : b = l
    · subst e
      rw [hl] at hb; injection hb with hb; subst hb
      exact World.putObj_heap_same (by have := h.keeps.size; rw [hsz] at this; omega)
    · rw [World.putObj_heap_other e]
      exact h.keeps.other b o2 (by rw [World.putObj_heap_other e, hb]) h1 h2

/-- The marks that loops over functions leave. -/
def Marks (N : Nat) (w : World) : List Deferred → Prop
  | [] => True
  | d :: ds => (∃ D, d = { target := .collected D, args := #[] } ∧ N ≤ D ∧ w.heap[D]? = some (.deferred (some [])) ∧ ∀ D', ({ target := .collected D', args := #[] } : Deferred) ∈ ds → D' ≠ D) ∧ Marks N w ds

theorem Marks.mem {N : Nat} : ∀ {ds : List Deferred}, Marks N w ds → ∀ D', ({ target := .collected D', args := #[] } : Deferred) ∈ ds → w.heap[D']? = some (.deferred (some []))
  | [], _, _, h => by simp at h
  | d :: ds, ⟨⟨D, h1, h2, h3, h4⟩, h5⟩, D', h => by
    rcases List.mem_cons.1 h with h | h
    · rw [h1] at h; injection h with h; injection h with h; rw [h]; exact h3
    · exact h5.mem D' h

theorem Marks.mono {N : Nat} {w' : World} : ∀ {ds : List Deferred}, Marks N w ds → (∀ D, ({ target := .collected D, args := #[] } : Deferred) ∈ ds → w.heap[D]? = some (.deferred (some [])) → w'.heap[D]? = some (.deferred (some []))) → Marks N w' ds
  | [], _, _ => trivial
  | d :: ds, ⟨⟨D, h1, h2, h3, h4⟩, h5⟩, h => ⟨⟨D, h1, h2, h D (by simp [h1]) h3, h4⟩, h5.mono fun D' h6 h7 => h D' (by simp [h6]) h7⟩

theorem Marks.step {N : Nat} {φ' : Phi} {S' : Cells} {w' : World} {ds : List Deferred} (h : Marks N w ds) (hs : Step φ S H w φ' S' H' w') (hst : St φ S H w) : Marks N w' ds :=
  h.mono fun _ _ hD => hs.stays hst hD (by simp) (by simp)

/-- A frame's end, over its marks. -/
theorem leaves_sound {fn : Func} {vs : List AV} {N n : Nat} {φ' : Phi} {S' : Cells} {R : Ending → World → Prop} (h : resultsA E.P ρ' H' fn.results.toList = some vs) : ∀ (ds : List Deferred) (w' : World), Marks N w' ds → St φ' S' H' w' → VT φ' S' w' ρ' a →
    (∀ v w'', St φ' S' H' w'' → (∀ φ S H w, w.heap.size ≤ N → Step φ S H w φ' S' H' w' → Step φ S H w φ' S' H' w'') → V φ' S' w'' (retVal vs) v → R (.returned v) w'') → LeavesInM (Wd none) n E.P fn a.tmps R ds .returning w'
  | [], w', _, hst, hvt, K => by
    obtain ⟨v', h5, h6⟩ := results_sound h hst hvt
    exact ⟨v', h5, K v' w' hst (fun _ _ _ _ _ h => h) h6⟩
  | d :: ds, w', ⟨⟨D, h1, h2, h3, h4⟩, h5⟩, hst, hvt, K => by
    refine ⟨by simp, .inl ⟨D, w'.putObj D (.deferred none), by rw [h1], run_takeDeferred h3, ?_⟩⟩
    refine leaves_sound h ds _ (h5.mono fun D' h6 h7 => by rw [World.putObj_heap_other (h4 D' h6), h7]) (hst.aux h3 (.deferred _) (.deferred _)) (hvt.aux h3 (.deferred _) (.deferred _)) fun v w'' h6 h7 h8 => ?_
    exact K v w'' h6 (fun φ S H w hN hs => h7 φ S H w hN (hs.aux (Nat.le_trans hN h2))) h8

/-- What follows a run of code. -/
def Follows (N : Nat) (φ : Phi) (S : Cells) (H : Heap) (w : World) (a : Act) (e : AExit) (ρ' : Tmps) (H' : Heap) (Q : Exit → Act → World → Prop) : Prop :=
  ∀ φ' S' w' a', Step φ S H w φ' S' H' w' → St φ' S' H' w' → VT φ' S' w' ρ' a' → Marks N w' a'.defers → a'.tmps.size = a.tmps.size → Q e.to a' w'

/-- A frame's state. -/
structure Fr (E : Env) (yl : Yl) (M : Nat) (φ : Phi) (S : Cells) (H : Heap) (w : World) (ρ : Tmps) (a : Act) (N : Nat) : Prop where
  st : St φ S H w
  glob : GlobOk E.ng φ
  vt : VT φ S w ρ a
  fresh : ∀ i, H.next ≤ i → i < N → φ i = none
  yok : YOk E yl φ S w
  marks : Marks M w a.defers
  sized : M ≤ w.heap.size

theorem GlobOk.step {φ' : Phi} {S' : Cells} {w' : World} (h : GlobOk E.ng φ) (hs : Step φ S H w φ' S' H' w') : GlobOk E.ng φ' := fun g hg => let ⟨t, ht⟩ := h g hg; ⟨t, hs.ext _ _ ht⟩

theorem Fr.next {yl : Yl} {M : Nat} {φ' : Phi} {S' : Cells} {w' : World} {a' : Act} {N : Nat} (F : Fr E yl M φ S H w ρ a N) (hs : Step φ S H w φ' S' H' w') (hst : St φ' S' H' w') (hvt : VT φ' S' w' ρ' a') (hm : Marks M w' a'.defers) : Fr E yl M φ' S' H' w' ρ' a' N :=
  ⟨hst, F.glob.step hs, hvt, fun i h1 h2 => by
    by_cases e : φ' i = φ i
    · rw [e]; exact F.fresh i (Nat.le_trans hs.next h1) h2
    · have := (hs.new i e).2; omega, F.yok.step hs F.st, hm, Nat.le_trans F.sized hs.keeps.size⟩

theorem Fr.le {yl : Yl} {M : Nat} {N L : Nat} (F : Fr E yl M φ S H w ρ a N) (h : L ≤ N) : Fr E yl M φ S H w ρ a L := ⟨F.st, F.glob, F.vt, fun i h1 h2 => F.fresh i h1 (by omega), F.yok, F.marks, F.sized⟩

theorem dstOk_spec {n : Nat} {ops : Array Oper} (h : dstOk n ops = true) : ∀ o ∈ ops, ∀ t, o.dst = some t → t < n := fun o ho t ht => by
  have := Array.all_eq_true_iff_forall_mem.1 h o ho
  simpa [ht] using this

theorem roundA_next {run : Code → Tmps → Heap → Option (AExit × Tmps × Heap)} (hr : ∀ c ρ H e ρ' H', run c ρ H = some (e, ρ', H') → H.next ≤ H'.next) {ps : List Nat} {x y : Code} {args : List AV} (h : roundA run ps x y ρ args H = some H') : H.next ≤ H'.next := by
  unfold roundA at h
  split at h
  · split at h
    · rename_i ρ1 H1 h1
      split at h
      · rename_i ρ2 H2 h2
        injection h with h; subst h
        exact Nat.le_trans (hr _ _ _ _ _ _ h1) (hr _ _ _ _ _ _ h2)
      · simp at h
    · simp at h
  · simp at h

theorem evalCode_next (hcall : CallOk E call) : ∀ (m : Nat) (yl : Yl) (rd : Bool) (f : FuncId) (c : Code) (ρ ρ' : Tmps) (H H' : Heap) (e : AExit), (∀ id args H H', yl id args H = some H' → H.next ≤ H'.next) → evalCode E call m yl rd f c ρ H = some (e, ρ', H') → H.next ≤ H'.next
  | 0, yl, rd, f, c, ρ, ρ', H, H', e, hy, h => by simp [evalCode] at h
  | m + 1, yl, rd, f, c, ρ, ρ', H, H', e, hy, h => by
    have ih := fun c ρ ρ' H H' e h => evalCode_next hcall m yl rd f c ρ ρ' H H' e hy h
    cases c
    case region id ops d =>
      obtain ⟨ops⟩ := ops
      cases d with
      | true =>
        simp only [evalCode, Option.bind_eq_some_iff] at h
        obtain ⟨⟨ρ1, H1, t1⟩, h1, h2⟩ := h
        have := evalOps_next hcall _ _ _ _ _ _ _ h1
        split at h2
        · simp at h2; rw [← h2.2.2]; exact this
        · simp at h2
      | false =>
        simp only [evalCode, Option.map_eq_some_iff, Prod.mk.injEq] at h
        obtain ⟨⟨ρ1, H1⟩, h1, -, -, rfl⟩ := h
        exact evalOpsY_next hcall hy _ _ _ _ _ h1
    all_goals simp only [evalCode] at h
    case skip => simp at h; rw [h.2.2]; exact Nat.le_refl _
    case label => simp at h; rw [h.2.2]; exact Nat.le_refl _
    case ret => simp at h; rw [h.2.2]; exact Nat.le_refl _
    case exit => simp at h; rw [h.2.2]; exact Nat.le_refl _
    case seq x y =>
      split at h
      · rename_i ρ1 H1 h1
        exact Nat.le_trans (ih _ _ _ _ _ _ h1) (ih _ _ _ _ _ _ h)
      · exact ih _ _ _ _ _ _ h
    case cond k x y =>
      split at h
      · exact ih _ _ _ _ _ _ h
      · exact ih _ _ _ _ _ _ h
      · simp at h
    case block id b =>
      split at h
      · rename_i i ρ1 H1 h1
        have := ih _ _ _ _ _ _ h1
        split at h <;> (simp at h; rw [← h.2.2]; exact this)
      · exact ih _ _ _ _ _ _ h
    case loop b =>
      split at h
      · rename_i ρ1 H1 h1
        exact Nat.le_trans (ih _ _ _ _ _ _ h1) (ih _ _ _ _ _ _ h)
      · exact ih _ _ _ _ _ _ h
    case rangeFunc g ps x y =>
      obtain ⟨ps⟩ := ps
      simp only [evalCode] at h
      split at h
      · simp at h
      · split at h
        · split at h
          · have hk : ∀ {k : FuncId} {c : Code} {st : Tmps} {e1 : AExit} {ρ1 : Tmps} {H1 : Heap}, evalCode E call m (fun id args H1 => if id = H.next then roundA (evalCode E call m yl true f) ps x y ρ args H1 else none) false k c st (H.skip 1) = some (e1, ρ1, H1) → H.next ≤ H1.next := fun h1 => by
              have := evalCode_next hcall m _ _ _ _ _ _ _ _ _ (fun id args H H' h2 => by
                split at h2
                · exact roundA_next (fun c ρ H e ρ' H' h3 => evalCode_next hcall m yl true f c ρ ρ' H H' e hy h3) h2
                · simp at h2) h1
              rw [skip_next] at this; omega
            split at h
            · rename_i h1
              simp only [Option.some.injEq, Prod.mk.injEq] at h
              obtain ⟨-, -, rfl⟩ := h
              exact hk h1
            · rename_i h1
              simp only [Option.some.injEq, Prod.mk.injEq] at h
              obtain ⟨-, -, rfl⟩ := h
              exact hk h1
            · simp at h
          · simp at h
        · simp at h
    all_goals simp at h

/-- A loop's rounds. -/
def LoopKey (r : Option Nat) (n : Nat) (P : Program) (c : Code) (Q : Exit → Act → World → Prop) (a : Act) (w : World) : Prop :=
  ∀ (b : Frame) (k : List Item) (cs : List Frame), b.roundOf = (Wd r).round → ∃ e a' w', Q e a' w' ∧ ArrivesIn (Machine.fenced P (Wd r)) P (lone (b.atR a (.code c :: .inLoop c :: k)) cs w) b k cs e a' w'

theorem wd_room (r : Option Nat) (k : Nat) : (Wd r).room k := fun _ h => by simp [Wd, Fence.wide] at h

theorem loop_of_key {r : Option Nat} {n : Nat} {P : Program} {c : Code} {Q : Exit → Act → World → Prop} (h : LoopKey r n P c Q a w) : (Code.loop c).wpIn (Wd r) n P Q a w := by
  intro b k cs hro hb hr
  obtain ⟨e, a', w', hq, harr⟩ := h b k cs hro
  exact ⟨e, a', w', hq, .of_steps (.one (fenced_calm hb hr rfl) stepR_loop) harr⟩

theorem key_of_body {r : Option Nat} {n : Nat} {P : Program} {c : Code} {Q : Exit → Act → World → Prop} (h : c.wpIn (Wd r) n P (Exit.then (LoopKey r n P c Q) Q) a w) : LoopKey r n P c Q a w := by
  intro b k cs hro
  obtain ⟨e, a₁, w₁, hq, harr⟩ := h b (.inLoop c :: k) cs hro trivial (wd_room r _)
  cases e with
  | normal =>
    obtain ⟨e₂, a₂, w₂, hq₂, harr₂⟩ := hq b k cs hro
    exact ⟨e₂, a₂, w₂, hq₂, .of_steps (StepsIn.trans harr (.one (fenced_calm (n := n) trivial (wd_room r _) rfl) stepR_inLoop)) harr₂⟩
  | exit id => exact ⟨_, a₁, w₁, hq, .pass (x := .inLoop c) rfl (fun _ _ => .inl (by simp)) harr⟩
  | goto l => exact ⟨_, a₁, w₁, hq, .pass (x := .inLoop c) rfl (fun _ _ => .inl (by simp)) harr⟩
  | ret => exact ⟨_, a₁, w₁, hq, .pass (x := .inLoop c) rfl (fun _ _ => .inl (by simp)) harr⟩
  | panic ch => exact ⟨_, a₁, w₁, hq, .pass (x := .inLoop c) rfl (fun _ _ => .inl (by simp)) harr⟩
  | outgrown => exact ⟨_, a₁, w₁, hq, .pass (x := .inLoop c) rfl (fun _ _ => .inl (by simp)) harr⟩

theorem Follows.mono {N : Nat} {e : AExit} {Q Q' : Exit → Act → World → Prop} (h : Follows N φ S H w a e ρ' H' Q) (hq : ∀ a w, Q e.to a w → Q' e.to a w) : Follows N φ S H w a e ρ' H' Q' :=
  fun φ' S' w' a' h1 h2 h3 h4 h5 => hq _ _ (h φ' S' w' a' h1 h2 h3 h4 h5)

theorem VT.setL {ps : List Nat} : ∀ {args : List AV} {vs : List Value} {ρ : Tmps} {tm : Array Value} {ds : List Deferred}, VT φ S w ρ { tmps := tm, defers := ds } → VL φ S w args vs → args.length = ps.length → (∀ p ∈ ps, p < tm.size) →
    VT φ S w (ρ.setL ps args) { tmps := (ps.zip vs).foldl (fun t (p, v) => t.setIfInBounds p v) tm, defers := ds } := by
  induction ps with
  | nil => intro args vs ρ tm ds h _ _ _; cases args <;> exact h
  | cons p ps ih =>
    intro args vs ρ tm ds h hv hl hp
    cases args with
    | nil => simp at hl
    | cons v args =>
      obtain ⟨u, us, rfl⟩ : ∃ u us, vs = u :: us := by
        cases vs with
        | nil => have := hv.1; simp at this
        | cons u us => exact ⟨u, us, rfl⟩
      have hp0 : p < tm.size := hp p (by simp)
      have h1 : VT φ S w (ρ.set p v) { tmps := tm.setIfInBounds p u, defers := ds } := h.put (d := some p) (hv.2 0 v u rfl rfl) fun t ht => by injection ht with ht; subst ht; exact hp0
      exact ih h1 ⟨by have := hv.1; simpa using this, fun i c x h2 h3 => hv.2 (i + 1) c x h2 h3⟩ (by simpa using hl) fun q hq => by simp; exact hp q (by simp [hq])

theorem setL_size {ps : List Nat} : ∀ (vs : List Value) (tm : Array Value), ((ps.zip vs).foldl (fun t (p, v) => t.setIfInBounds p v) tm).size = tm.size := by
  induction ps with
  | nil => intro vs tm; rfl
  | cons p ps ih =>
    intro vs tm
    cases vs with
    | nil => rfl
    | cons v vs => simp only [List.zip_cons_cons, List.foldl_cons, ih]; simp

theorem skip_one_St {l : Nat} (h : St φ S H w) (hn : φ H.next = none) : St (φ.add H.next (.loop l)) S (H.skip 1) w := by
  have hsub : ∀ i o, (H.skip 1).get i = some o → H.get i = some o := fun i o h1 => by rwa [skip_get] at h1
  have hφ : ∀ i o, (H.skip 1).get i = some o → (φ.add H.next (.loop l)) i = φ i := fun i o h1 => by
    have := get_lt (hsub i o h1)
    simp only [Phi.add]; rw [if_neg (by omega)]
  refine ⟨fun i o lo h1 h2 => ?_, fun i j oi oj li lj hne h1 h2 h3 h4 => ?_, fun b k hs hm => ?_, h.sA⟩
  · rw [hφ i o h1] at h2
    exact (h.obj i o lo (hsub i o h1) h2).mono (Phi.add_ext hn) (fun _ _ h => ⟨h, rfl⟩) (fun _ _ _ _ h => h) (fun _ _ _ h => h) (fun _ _ _ _ h => h)
  · rw [hφ i oi h1] at h3; rw [hφ j oj h2] at h4
    exact h.disj i j oi oj li lj hne (hsub i oi h1) (hsub j oj h2) h3 h4
  · obtain ⟨i, o, lo, h1, h2, h3⟩ := hm
    rw [hφ i o h1] at h2
    exact h.sM b k hs ⟨i, o, lo, hsub i o h1, h2, h3⟩

theorem skip_one_Step {l : Nat} {w' : World} (hn : φ H.next = none) (hg : Grow S w S w') : Step φ S H w (φ.add H.next (.loop l)) S (H.skip 1) w' := by
  refine ⟨Phi.add_ext hn, fun i hi => ?_, fun _ _ h => h, hg.keeps _, fun b k hm => ?_, fun _ _ h => .inl h, by rw [skip_next]; omega⟩
  · simp only [Phi.add] at hi
    split at hi
    · rename_i e; subst e; rw [skip_next]; omega
    · exact absurd rfl hi
  · obtain ⟨i, o, lo, h1, h2, h3⟩ := hm
    rw [skip_get] at h1
    have := get_lt h1
    simp only [Phi.add] at h2
    rw [if_neg (by omega)] at h2
    exact .inl ⟨i, o, lo, h1, h2, h3⟩

theorem fn_size {fn : Func} {ws : List Value} (h1 : ws.length = fn.params.size + fn.nfree) (h2 : fn.params.size + fn.nfree ≤ fn.ntmps) : ({ tmps := ws.toArray ++ Array.replicate (fn.ntmps - ws.toArray.size) Go.undef, defers := [] } : Act).tmps.size = fn.ntmps := by
  simp; omega

theorem code_sound (hmix : E.P.follows .mixedOrders = true) (huse : ∀ f fn, E.use f = true → E.P.funcs[f]? = some fn → funcOk E f fn = true) (hcall : CallOk E call) : ∀ (m : Nat) (yl : Yl) (rd : Bool) (f : FuncId) (r : Option Nat) (n N : Nat) (c : Code) (ρ ρ' : Tmps) (H H' : Heap) (e : AExit) (φ : Phi) (S : Cells) (w : World) (a : Act) (Q : Exit → Act → World → Prop),
    (rd = false → r = none) → evalCode E call m yl rd f c ρ H = some (e, ρ', H') → Fr E yl N φ S H w ρ a H'.next → codeOk E f a.tmps.size c = true → Follows N φ S H w a e ρ' H' Q →
    c.wpIn (Wd r) n E.P Q a w ∧ (∀ b, c = .loop b → LoopKey r n E.P b Q a w)
  | 0, yl, rd, f, r, n, N, c, ρ, ρ', H, H', e, φ, S, w, a, Q, hrd, h, _, _, _ => by simp [evalCode] at h
  | m + 1, yl, rd, f, r, n, N, c, ρ, ρ', H, H', e, φ, S, w, a, Q, hrd, h, F, hok, K => by
    have ih := fun c ρ ρ' H H' e φ S w a Q h1 h2 h3 h4 => (code_sound hmix huse hcall m yl rd f r n N c ρ ρ' H H' e φ S w a Q hrd h1 h2 h3 h4).1
    have ihl := fun b ρ ρ' H H' e φ S w a Q h1 h2 h3 h4 => (code_sound hmix huse hcall m yl rd f r n N (.loop b) ρ ρ' H H' e φ S w a Q hrd h1 h2 h3 h4).2 b rfl
    have here : ∀ {e' : AExit}, some (e', ρ, H) = some (e, ρ', H') → Q e'.to a w := fun h => by
      simp at h
      obtain ⟨rfl, rfl, rfl⟩ := h
      exact K φ S w a (.refl _ _ _ _) F.st F.vt F.marks rfl
    have hyn := fun id args H H' h => (F.yok.dom id args H H' h).1
    cases c
    case region id ops d =>
      refine ⟨?_, by simp⟩
      obtain ⟨ops⟩ := ops
      simp only [codeOk, Bool.and_eq_true] at hok
      cases d with
      | false =>
        simp only [evalCode, Option.map_eq_some_iff, Prod.mk.injEq] at h
        obtain ⟨⟨ρ1, H1⟩, h1, rfl, rfl, rfl⟩ := h
        refine wpIn_region (ops_sound hcall (dstOk_spec hok.1) ops (List.range ops.length) ρ ρ1 H H1 φ S w a ?_ h1 F.st F.glob F.vt F.fresh F.yok rfl rfl fun φ' S' w' a' k1 k2 k3 k4 k5 => K φ' S' w' a' k1 k2 k3 (by rw [k4]; exact F.marks.step k1 F.st) k5)
        apply List.ext_getElem?
        intro i
        simp only [List.getElem?_map]
        by_cases hi : i < ops.length
        · simp [List.getElem?_range hi, hi]
        · rw [List.getElem?_eq_none (by simp; omega), List.getElem?_eq_none (by omega)]; rfl
      | true =>
        simp only [evalCode, Option.bind_eq_some_iff] at h
        obtain ⟨⟨ρ1, H1, t1⟩, h1, h2⟩ := h
        split at h2
        · rename_i ht
          simp only [Option.some.injEq, Prod.mk.injEq] at h2
          obtain ⟨rfl, rfl, rfl⟩ := h2
          exact draw_sound hmix hcall (by simpa using hok.2) (dstOk_spec hok.1) h1 ht F.st F.glob F.vt F.fresh fun φ' S' w' a' k1 k2 k3 k4 k5 => K φ' S' w' a' k1 k2 k3 (by rw [k4]; exact F.marks.step k1 F.st) k5
        · simp at h2
    all_goals simp only [evalCode] at h
    case skip => exact ⟨wpIn_skip (here h), by simp⟩
    case label => exact ⟨wpIn_label (here h), by simp⟩
    case ret => exact ⟨wpIn_ret (here h), by simp⟩
    case exit id => exact ⟨wpIn_exit (here h), by simp⟩
    case seq x y =>
      refine ⟨wpIn_seq ?_, by simp⟩
      simp only [codeOk, Bool.and_eq_true] at hok
      split at h
      · rename_i ρ1 H1 h1
        have hle := evalCode_next hcall _ _ _ _ _ _ _ _ _ _ hyn h
        refine ih x ρ ρ1 H H1 .normal φ S w a _ h1 (F.le hle) hok.1 fun φ1 S1 w1 a1 k1 k2 k3 k4 k5 => ?_
        exact ih y ρ1 ρ' H1 H' e φ1 S1 w1 a1 Q h (F.next k1 k2 k3 k4) (by rw [k5]; exact hok.2) fun φ2 S2 w2 a2 m1 m2 m3 m4 m5 => K φ2 S2 w2 a2 (k1.trans m1) m2 m3 m4 (m5.trans k5)
      · rename_i hne
        refine ih x ρ ρ' H H' e φ S w a _ h F hok.1 (K.mono fun a w hq => ?_)
        cases e with
        | normal => exact absurd h (hne _ _)
        | ret => exact hq
        | exit i => exact hq
    case cond k x y =>
      refine ⟨?_, by simp⟩
      simp only [codeOk, Bool.and_eq_true] at hok
      have hk := F.vt.eval F.glob k
      split at h
      · rename_i hb
        rw [hb] at hk
        exact wpIn_cond_true hk.bool_inv (ih x ρ ρ' H H' e φ S w a Q h F hok.1 K)
      · rename_i hb
        rw [hb] at hk
        exact wpIn_cond_false hk.bool_inv (ih y ρ ρ' H H' e φ S w a Q h F hok.2 K)
      · simp at h
    case block id b =>
      refine ⟨wpIn_block ?_, by simp⟩
      simp only [codeOk] at hok
      split at h
      · rename_i i ρ1 H1 h1
        split at h
        · rename_i hi
          subst hi
          simp only [Option.some.injEq, Prod.mk.injEq] at h
          obtain ⟨rfl, rfl, rfl⟩ := h
          refine ih b ρ ρ1 H H1 (.exit i) φ S w a _ h1 F hok fun φ1 S1 w1 a1 k1 k2 k3 k4 k5 => ?_
          simp only [AExit.to, Exit.inBlock, if_true]
          exact K φ1 S1 w1 a1 k1 k2 k3 k4 k5
        · rename_i hi
          simp only [Option.some.injEq, Prod.mk.injEq] at h
          obtain ⟨rfl, rfl, rfl⟩ := h
          refine ih b ρ ρ1 H H1 (.exit i) φ S w a _ h1 F hok fun φ1 S1 w1 a1 k1 k2 k3 k4 k5 => ?_
          simp only [AExit.to, Exit.inBlock, hi, if_false]
          exact K φ1 S1 w1 a1 k1 k2 k3 k4 k5
      · rename_i hne
        refine ih b ρ ρ' H H' e φ S w a _ h F hok (K.mono fun a w hq => ?_)
        cases e with
        | normal => exact hq
        | ret => exact hq
        | exit i => exact absurd h (hne _ _ _)
    case loop b =>
      simp only [codeOk] at hok
      have key : LoopKey r n E.P b Q a w := by
        refine key_of_body ?_
        split at h
        · rename_i ρ1 H1 h1
          have hle := evalCode_next hcall _ _ _ _ _ _ _ _ _ _ hyn h
          refine ih b ρ ρ1 H H1 .normal φ S w a _ h1 (F.le hle) hok fun φ1 S1 w1 a1 k1 k2 k3 k4 k5 => ?_
          exact ihl b ρ1 ρ' H1 H' e φ1 S1 w1 a1 Q h (F.next k1 k2 k3 k4) (by simp only [codeOk]; rw [k5]; exact hok) fun φ2 S2 w2 a2 m1 m2 m3 m4 m5 => K φ2 S2 w2 a2 (k1.trans m1) m2 m3 m4 (m5.trans k5)
        · rename_i hne
          refine ih b ρ ρ' H H' e φ S w a _ h F hok (K.mono fun a w hq => ?_)
          cases e with
          | normal => exact absurd h (hne _ _)
          | ret => exact hq
          | exit i => exact hq
      refine ⟨loop_of_key key, fun b' hb' => ?_⟩
      injection hb' with hb'
      subst hb'
      exact key
    case rangeFunc g ps x y =>
      refine ⟨?_, by simp⟩
      obtain ⟨ps⟩ := ps
      simp only [codeOk, Bool.and_eq_true] at hok
      obtain ⟨⟨hps, hokx⟩, hoky⟩ := hok
      split at h
      · simp at h
      rename_i hrd0
      have hr0 := hrd (by simpa using hrd0)
      subst hr0
      split at h
      case h_2 => simp at h
      rename_i k caps hg
      split at h
      case h_2 => simp at h
      rename_i c hiter
      obtain ⟨fn, hfn, huse', hpar, hcaps, hres, hbody⟩ : ∃ fn, E.P.funcs[k]? = some fn ∧ E.use k = true ∧ fn.params.size = 1 ∧ caps.length = fn.nfree ∧ fn.results.size = 0 ∧ fn.body = some c := by
        unfold iterOf at hiter
        split at hiter
        · rename_i fn hfn
          split at hiter
          · rename_i hc; exact ⟨fn, hfn, hc.1, hc.2.1, hc.2.2.1, hc.2.2.2, hiter⟩
          · simp at hiter
        · simp at hiter
      have hfok := huse k fn huse' hfn
      simp only [funcOk, Bool.and_eq_true, hbody] at hfok
      obtain ⟨⟨hname, hsize⟩, hcode⟩ := hfok
      have hsize' : fn.params.size + fn.nfree ≤ fn.ntmps := by simpa using hsize
      have hres' : fn.results.toList = [] := by
        have : fn.results = #[] := Array.eq_empty_of_size_eq_zero hres
        rw [this]
      -- yield
      obtain ⟨yl', hyl'⟩ : ∃ yl', yl' = (fun id args H1 => if id = H.next then roundA (evalCode E call m yl true f) ps x y ρ args H1 else none : Yl) := ⟨_, rfl⟩
      rw [← hyl'] at h
      obtain ⟨e1, ρ1, H1, h1, he1, hh⟩ : ∃ e1 ρ1 H1, evalCode E call m yl' false k c (start (.yld H.next :: caps)) (H.skip 1) = some (e1, ρ1, H1) ∧ (e1 = .normal ∨ e1 = .ret) ∧ some (AExit.normal, ρ, H1) = some (e, ρ', H') := by
        split at h
        · rename_i h1; exact ⟨_, _, _, h1, .inl rfl, h⟩
        · rename_i h1; exact ⟨_, _, _, h1, .inr rfl, h⟩
        · simp at h
      simp only [Option.some.injEq, Prod.mk.injEq] at hh
      obtain ⟨rfl, rfl, rfl⟩ := hh
      have hrn : ∀ c ρ H e ρ' H', evalCode E call m yl true f c ρ H = some (e, ρ', H') → H.next ≤ H'.next := fun c ρ H e ρ' H' h3 => evalCode_next hcall m yl true f c ρ ρ' H H' e hyn h3
      have hyn' : ∀ id args H H', yl' id args H = some H' → H.next ≤ H'.next := fun id args Ha Hb h2 => by
        rw [hyl'] at h2
        simp only at h2
        split at h2
        · exact roundA_next hrn h2
        · simp at h2
      have hnx : (H.skip 1).next ≤ H1.next := evalCode_next hcall m _ _ _ _ _ _ _ _ _ hyn' h1
      rw [skip_next] at hnx
      have hφn : φ H.next = none := F.fresh _ (Nat.le_refl _) (by omega)
      have hf := F.vt.eval F.glob g
      rw [hg] at hf
      obtain ⟨cv, hgv, hcv⟩ := fn_inv hf
      refine wpIn_rangeFunc fun fn0 _ => ?_
      obtain ⟨rec, hrec⟩ : ∃ rec : Loop, rec = { state := .ready, pending := none, fn := fn0, tmps := a.tmps, params := ⟨ps⟩, assign := x, body := y, defers := w.heap.size } := ⟨_, rfl⟩
      obtain ⟨W1, hW1⟩ : ∃ W1, (w.alloc (.deferred (some []))).alloc (.loop rec) = W1 := ⟨_, rfl⟩
      have hL1 : W1.heap[w.heap.size + 1]? = some (.loop rec) := by
        rw [← hW1]; have := World.alloc_heap_new (w.alloc (.deferred (some []))) (.loop rec); rwa [World.size_alloc] at this
      have hsz1 : W1.heap.size = w.heap.size + 2 := by rw [← hW1]; simp
      have hgrow : Grow S w S W1 := by
        rw [← hW1]
        exact (grow_new S w _).trans (grow_new S _ _)
      have hD1 : W1.heap[w.heap.size]? = some (.deferred (some [])) := by
        rw [← hW1]
        exact (grow_new S _ _).old _ _ (World.alloc_heap_new w _)
      have hst1 : St (φ.add H.next (.loop (w.heap.size + 1))) S (H.skip 1) W1 := skip_one_St (F.st.grow hgrow) hφn
      have hstep1 : Step φ S H w (φ.add H.next (.loop (w.heap.size + 1))) S (H.skip 1) W1 := skip_one_Step hφn hgrow
      have hφl : (φ.add H.next (.loop (w.heap.size + 1))) H.next = some (.loop (w.heap.size + 1)) := by simp [Phi.add]
      have hmarks : ∀ φ' S' H' w', Step φ S H w φ' S' H' w' → w'.heap[w.heap.size]? = some (.deferred (some [])) → Marks N w' ({ target := .collected w.heap.size, args := #[] } :: a.defers) := fun φ' S' H' w' hs hd =>
        ⟨⟨_, rfl, F.sized, hd, fun D' hD' e => by have := lt_of_heap (F.marks.mem D' hD'); omega⟩, F.marks.step hs F.st⟩
      -- yield is as it should be
      have hyok : YOk E yl' (φ.add H.next (.loop (w.heap.size + 1))) S W1 := by
        refine ⟨fun id args Ha Hb h2 => ⟨hyn' _ _ _ _ h2, ?_⟩, fun φ2 S2 w2 Ha Hb id l args vs hlat hst2 hg2 hφ2 hyl2 hfr2 hvl2 => ?_⟩
        · rw [hyl'] at h2
          simp only at h2
          split at h2
          · rename_i hid; subst hid; exact ⟨_, rec, hφl, hL1⟩
          · simp at h2
        · rw [hyl'] at hyl2
          simp only at hyl2
          split at hyl2
          case isFalse => simp at hyl2
          rename_i hid
          subst hid
          rw [hφl] at hφ2
          injection hφ2 with hφ2; injection hφ2 with hφ2
          subst hφ2
          have hlr := hlat.loops _ _ _ hφl hL1
          have hargs : args.length = ps.length := by
            unfold roundA at hyl2
            split at hyl2
            · rename_i hc; exact hc
            · simp at hyl2
          unfold roundA at hyl2
          rw [if_pos hargs] at hyl2
          split at hyl2
          case h_2 => simp at hyl2
          rename_i ρa Hc hex
          split at hyl2
          case h_2 => simp at hyl2
          rename_i ρb Hd hey
          injection hyl2 with hyl2
          subst hyl2
          have hle1 := hrn _ _ _ _ _ _ hex
          have hle2 := hrn _ _ _ _ _ _ hey
          have hlatw : Later φ S w φ2 S2 w2 := (hstep1.later F.st).trans hlat
          have hy2 : YOk E yl φ2 S2 w2 := F.yok.later hlatw
          have hvt2 : VT φ2 S2 w2 (ρ.setL ps args) { tmps := (ps.zip vs).foldl (fun t (p, v) => t.setIfInBounds p v) a.tmps, defers := [] } :=
            VT.setL ((show VT φ S w ρ { tmps := a.tmps, defers := [] } from F.vt).mono hlatw.ext hlatw.s) hvl2 hargs (by simpa using hps)
          refine ⟨fn0, _, x, y, by rw [run_yield hlr (by rw [hrec]; simp [← hvl2.1, hargs]), hrec], ?_⟩
          have hszw : w2.heap.size ≤ w2.heap.size := Nat.le_refl _
          refine roundIn_of_wpIn (F := Fence.wide) trivial ?_
          have hsz2 : ∀ ds, ({ tmps := (ps.zip vs).foldl (fun t (p, v) => t.setIfInBounds p v) a.tmps, defers := ds } : Act).tmps.size = a.tmps.size := fun ds => setL_size vs a.tmps
          have hzip : (((⟨ps⟩ : Array Tmp).zip vs.toArray).foldl (fun tmps (t, a) => tmps.setIfInBounds t a) a.tmps) = (ps.zip vs).foldl (fun t (p, v) => t.setIfInBounds p v) a.tmps := by
            rw [← Array.foldl_toList]; simp
          simp only [hzip]
          refine (code_sound hmix huse hcall m yl true f (some (w.heap.size + 1)) 0 0 x _ _ _ _ _ φ2 S2 w2 _ _ (by simp) hex ⟨hst2, hg2, hvt2, fun i h5 h6 => hfr2 i h5 (by omega), hy2, trivial, Nat.zero_le _⟩ (by rw [hsz2]; exact hokx) fun φ3 S3 w3 a3 k1 k2 k3 k4 k5 => ?_).1
          have hl3 : w3.heap[w.heap.size + 1]? = some (.loop rec) := k1.stays hst2 hlr (by simp) (by simp)
          have hbusy : rec.state = .ready := by rw [hrec]
          refine ⟨_, run_beginRound hl3 hbusy, ?_⟩
          have hl4 : (w3.putObj (w.heap.size + 1) (.loop { rec with state := .busy })).heap[w.heap.size + 1]? = some (.loop { rec with state := .busy }) := World.putObj_heap_same (lt_of_heap hl3)
          have hlat3 := hlatw.trans (k1.later hst2)
          have hlat4 : Later φ S w φ3 S3 (w3.putObj (w.heap.size + 1) (.loop { rec with state := .busy })) :=
            ⟨hlat3.ext, fun b k hs => ⟨(hlat3.s b k hs).1, by rw [at_aux hl3 (.loop _) (.loop _)]; exact (hlat3.s b k hs).2⟩, fun id l r h5 h6 => by
              have := lt_of_heap h6
              rw [World.putObj_heap_other (by omega)]; exact hlat3.loops id l r h5 h6⟩
          refine (code_sound hmix huse hcall m yl true f (some (w.heap.size + 1)) 0 0 y _ _ _ _ _ φ3 S3 _ a3 _ (by simp) hey ⟨k2.aux hl3 (.loop _) (.loop _), hg2.step k1, k3.aux hl3 (.loop _) (.loop _), fun i h5 h6 => ?_, F.yok.later hlat4, ?_, Nat.zero_le _⟩ (by rw [k5, hsz2]; exact hoky) fun φ4 S4 w4 a4 m1 m2 m3 m4 m5 => ?_).1
          · by_cases e : φ3 i = φ2 i
            · rw [e]; exact hfr2 i (by omega) h6
            · have := (k1.new i e).2; omega
          · exact k4.mono fun D _ hD => by
              rw [World.putObj_heap_other (fun e => by subst e; rw [hl3] at hD; simp at hD), hD]
          · have hl5 : w4.heap[w.heap.size + 1]? = some (.loop { rec with state := .busy }) := m1.stays (k2.aux hl3 (.loop _) (.loop _)) hl4 (by simp) (by simp)
            have hend := run_endRound (P := E.P) none hl5
            have hrec' : ({ { rec with state := LoopState.busy } with state := if (none : Option Code).isNone then .ready else .done, pending := none } : Loop) = rec := by rw [hrec]; rfl
            rw [hrec'] at hend
            refine ⟨_, _, hend, rfl, φ4, S4, ?_, ?_⟩
            · exact k1.trans (Step.bracket hl3 (.loop _) (.loop _) m1)
            · exact m2.aux hl5 (.loop _) (.loop _)
      -- the iterator's call
      have hvl1 : VL (φ.add H.next (.loop (w.heap.size + 1))) S W1 (.yld H.next :: caps) (.func (.yield (w.heap.size + 1)) #[] #[] :: cv) := .cons (.yld _ _ hφl) (hstep1.monoL F.st hcv)
      have hlen : (Value.func (.yield (w.heap.size + 1)) #[] #[] :: cv).length = fn.params.size + fn.nfree := by
        have := hcv.1; simp; omega
      refine ⟨w.heap.size + 1, [{ target := .collected w.heap.size, args := #[] }], W1, { target := .fn (.func k) cv.toArray, args := #[.func (.yield (w.heap.size + 1)) #[] #[]] }, W1, k,
        #[.func (.yield (w.heap.size + 1)) #[] #[]] ++ cv.toArray, W1, ?_, ?_, fun _ _ => trivial, ?_, fun h => by simp [Wd, Fence.wide] at h, ?_⟩
      · rw [← hW1, hrec]; exact run_enterLoop_outer _ _ _ _ _
      · simp only [resolve, hgv]
        simp [go_sem]
      · simp only [invoke]
        rw [run_callFunc ⟨fn, hfn, by simpa using hname, by simp [hbody]⟩]
      · refine callsIn_of_wp_marks hfn hbody trivial ?_
        have e0 : #[Value.func (.yield (w.heap.size + 1)) #[] #[]] ++ cv.toArray = (Value.func (.yield (w.heap.size + 1)) #[] #[] :: cv).toArray := by apply Array.ext'; simp
        rw [e0]
        refine (code_sound hmix huse hcall m yl' false k none (n - 1) W1.heap.size c _ ρ1 (H.skip 1) H1 e1 _ S W1 _ _ (fun _ => rfl) h1 ⟨hst1, F.glob.step hstep1, start_vt hvl1 _, fun i h5 h6 => ?_, hyok, trivial, Nat.le_refl _⟩ (by rw [fn_size hlen hsize']; exact hcode) fun φ2 S2 w2 a2 k1 k2 k3 k4 k5 => ?_).1
        · simp only [Phi.add]
          rw [skip_next] at h5
          rw [if_neg (by omega)]
          exact F.fresh i (by omega) h6
        · have key : LeavesInM (Wd none) (n - 1) E.P fn a2.tmps (rangePost (Wd none) n E.P (w.heap.size + 1) Q { a with defers := [{ target := .collected w.heap.size, args := #[] }] ++ a.defers }) a2.defers .returning w2 := by
            refine leaves_sound (ρ' := ρ1) (H' := H1) (vs := []) (by rw [hres']; rfl) _ _ k4 k2 k3 fun v w3 j1 j2 j3 => ?_
            have hs3 := j2 _ _ _ _ (Nat.le_refl _) k1
            have hl3 : w3.heap[w.heap.size + 1]? = some (.loop rec) := hs3.stays hst1 hL1 (by simp) (by simp)
            have hd3 : w3.heap[w.heap.size]? = some (.deferred (some [])) := hs3.stays hst1 hD1 (by simp) (by simp)
            have hend := run_endLoop (P := E.P) hl3 (by rw [hrec]; simp)
            have hpend : rec.pending = none := by rw [hrec]
            rw [hpend] at hend
            refine ⟨none, _, hend, ?_⟩
            have hs4 := (hstep1.trans hs3).aux (l := w.heap.size + 1) (o := .loop { rec with pending := none, state := .exhausted }) (by omega)
            refine K φ2 S2 _ _ hs4 (j1.aux hl3 (.loop _) (.loop _)) ?_ ?_ rfl
            · exact VT.mono (a := { a with defers := [{ target := .collected w.heap.size, args := #[] }] ++ a.defers }) F.vt hs4.ext (hs4.later F.st).s
            · exact hmarks _ _ _ _ hs4 (by rw [World.putObj_heap_other (by omega), hd3])
          rcases he1 with rfl | rfl
          · exact key
          · exact key
    all_goals simp at h

end Go.Am
