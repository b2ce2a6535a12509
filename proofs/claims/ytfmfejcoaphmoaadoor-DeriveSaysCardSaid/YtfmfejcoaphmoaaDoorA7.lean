/- AM, an abstract machine over plain values, and that the model does what it does: a part of the proof. -/
import Derived.Test.YtfmfejcoaphmoaaDoorA6
set_option linter.unusedSimpArgs false
set_option linter.unusedVariables false
/- AM against the model: a region that draws its order, whatever order is drawn. -/
namespace Go.Am
open Go

section
variable {E : Env} {call : Call} {f : FuncId} {ops : Array Oper} {t' : Tr} {ρs : Nat → Tmps} {Hs : Nat → Heap}
variable {φ0 : Phi} {S0 : Cells} {w0 : World} {a0 : Act} {L : Nat → Bool} {a : Act} {w : World} {φ : Phi} {S : Cells} {p : Nat}

/-- At an effect that may come up next the cut may be laid. -/
theorem Inv.cutAt (R : TextRun E call f ops t' ρs Hs) (I : Inv E f ops ρs Hs φ0 S0 w0 a0 L a w φ S p) (hL : ∀ j, L j = true → j < ops.size) {i : Nat} {o : Oper} (hr : Ready ops L i o) (he : TextRun.eff E f o = true) :
    Inv E f ops ρs Hs φ0 S0 w0 a0 L a w φ S i := by
  have hi : i < ops.size := (Array.getElem?_eq_some_iff.1 hr.at_).1
  have hpi : p ≤ i := by
    rcases Nat.lt_or_ge i p with h | h
    · have := I.cut1 i o h hr.at_ he
      rw [hr.no] at this; simp at this
    · exact h
  have hall : ∀ k ok, k < i → ops[k]? = some ok → TextRun.eff E f ok = true → L k = true := fun k ok hk hok hek => by
    cases h : L k with
    | true => rfl
    | false => exact (pair_eff (R.draw.pair k i ok o hk hok hr.at_) (loose_before R I hL hr h) hek he).elim
  have hG : GX Hs ops.size p = GX Hs ops.size i := GX_move R hpi (by omega) fun k ok h1 h2 hok => by
    cases hek : TextRun.eff E f ok with
    | false => rfl
    | true =>
      have h3 := hall k ok h2 hok hek
      have h4 := I.cut2 k ok h1 hok hek
      rw [h3] at h4; simp at h4
  have hst := I.st
  have hext := I.ext
  rw [hG] at hst hext
  exact ⟨I.closed, I.slots, by omega, hall, fun k ok hk hok hek => I.cut2 k ok (by omega) hok hek, hst, I.dom, hext, I.new, I.defers, I.tsize⟩

theorem GX_same {i n : Nat} (h : Hs (i + 1) = Hs i) : GX Hs n (i + 1) = GX Hs n i := by
  funext id; unfold GX; rw [h]

/-- What is left to show behind an operation: the heap's side. -/
theorem Inv.fin (R : TextRun E call f ops t' ρs Hs) (I : Inv E f ops ρs Hs φ0 S0 w0 a0 L a w φ S p) (hL : ∀ j, L j = true → j < ops.size) {i : Nat} {o : Oper} (hr : Ready ops L i o) (hd : ∀ t, o.dst = some t → t < a0.tmps.size)
    {L' : Nat → Bool} (hL' : ∀ k, L' k = if k = i then true else L k) {v : AV} {v' : Value} {φ' : Phi} {S' : Cells} {w' : World} {p' : Nat} (hρ : ρs (i + 1) = (ρs i).put o.dst v) (hv : V φ' S' w' v v')
    (hmono : ∀ av cv, V φ S w av cv → V φ' S' w' av cv) (hpp : (TextRun.eff E f o = false ∧ p' = p) ∨ (TextRun.eff E f o = true ∧ p = i ∧ p' = i + 1))
    (hst : StG φ' S' (GX Hs ops.size p') w') (hdom : ∀ id, φ' id ≠ φ id → (Hs i).next ≤ id ∧ id < (Hs (i + 1)).next) (hext : StepG φ S (GX Hs ops.size p) w φ' S' (GX Hs ops.size p') w') :
    Inv E f ops ρs Hs φ0 S0 w0 a0 L' (a.put o.dst v') w' φ' S' p' := by
  have hi : i < ops.size := (Array.getElem?_eq_some_iff.1 hr.at_).1
  have hnot : ∀ k ok, ops[k]? = some ok → TextRun.eff E f o = false → TextRun.eff E f ok = true → k ≠ i := fun k ok hok h1 h2 e => by
    subst e; rw [hr.at_] at hok; injection hok with hok; subst hok; rw [h1] at h2; simp at h2
  refine I.next R hL hr hd hL' hρ hv hmono ?_ ?_ ?_ hst hdom hext
  · rcases hpp with ⟨-, rfl⟩ | ⟨-, -, rfl⟩
    · exact I.ple
    · omega
  · intro k ok hk hok hek
    rw [hL']
    split
    · rfl
    · rename_i hne
      rcases hpp with ⟨-, rfl⟩ | ⟨-, rfl, rfl⟩
      · exact I.cut1 k ok hk hok hek
      · exact I.cut1 k ok (by omega) hok hek
  · intro k ok hk hok hek
    rw [hL']
    rcases hpp with ⟨he, rfl⟩ | ⟨he, rfl, rfl⟩
    · rw [if_neg (hnot k ok hok he hek)]; exact I.cut2 k ok hk hok hek
    · rw [if_neg (by omega)]; exact I.cut2 k ok (by omega) hok hek

theorem Grow.stepG {S S' : Cells} {w w' : World} (hg : Grow S w S' w') (φ : Phi) (G : Nat → Option Obj) : StepG φ S G w φ S' G w' :=
  ⟨fun _ _ h => h, hg.s, hg.keeps _, fun _ _ h => .inl h, fun b k h => (hg.sb b k h).imp id fun h => .inr h.1⟩

/-- A step that leaves the heap as it is. -/
theorem Inv.still (R : TextRun E call f ops t' ρs Hs) (I : Inv E f ops ρs Hs φ0 S0 w0 a0 L a w φ S p) (hL : ∀ j, L j = true → j < ops.size) {i : Nat} {o : Oper} (hr : Ready ops L i o) (hd : ∀ t, o.dst = some t → t < a0.tmps.size)
    {L' : Nat → Bool} (hL' : ∀ k, L' k = if k = i then true else L k) {v : AV} {v' : Value} {S' : Cells} {w' : World} (hH : Hs (i + 1) = Hs i) (hρ : ρs (i + 1) = (ρs i).put o.dst v) (hg : Grow S w S' w') (hv : V φ S' w' v v') :
    ∃ p', Inv E f ops ρs Hs φ0 S0 w0 a0 L' (a.put o.dst v') w' φ S' p' := by
  cases he : TextRun.eff E f o with
  | false =>
    exact ⟨p, I.fin R hL hr hd hL' hρ hv (fun av cv h => h.mono (fun _ _ h => h) (hg.vmono I.st.sA)) (.inl ⟨he, rfl⟩) (I.st.grow hg) (fun id h => absurd rfl h) (hg.stepG _ _)⟩
  | true =>
    have I' := I.cutAt R hL hr he
    refine ⟨i + 1, I'.fin R hL hr hd hL' hρ hv (fun av cv h => h.mono (fun _ _ h => h) (hg.vmono I.st.sA)) (.inr ⟨he, rfl, rfl⟩) ?_ (fun id h => absurd rfl h) ?_⟩
    · rw [GX_same hH]; exact I'.st.grow hg
    · rw [GX_same hH]; exact hg.stepG _ _

/-- What a load reads, whatever has come up. -/
theorem Inv.loads (R : TextRun E call f ops t' ρs Hs) (I : Inv E f ops ρs Hs φ0 S0 w0 a0 L a w φ S p) (hL : ∀ j, L j = true → j < ops.size) {i : Nat} {o : Oper} (hr : Ready ops L i o) (hc : clsOf (o.dst.any (E.cf f)) o = .load)
    {id off n : Nat} {cs : List AV} (hld : (id, off, n) ∈ t'.loads) (hcs : (Hs i).rng id off n = some cs) {b base total : Nat} (hφ : φ id = some (.obj b base total)) : Holds φ S w b (base + off) cs := by
  have hi : i < ops.size := (Array.getElem?_eq_some_iff.1 hr.at_).1
  have hidi : id < (Hs i).next := by
    simp only [Heap.rng, Option.bind_eq_some_iff] at hcs
    obtain ⟨ds, h2, -⟩ := hcs
    exact get_lt (Heap.cells_get h2)
  -- one step
  have one : ∀ k, k < ops.size → (i < k → L k = true) → (k < i → L k = false) → k ≠ i → id < (Hs k).next → (Hs (k + 1)).rng id off n = (Hs k).rng id off n := fun k hk h1 h2 hne hid =>
    R.rngSame hr.at_ (by simp [hk] : ops[k]? = some ops[k]) (Ne.symm hne) hc (fun h => loose_after R I hL hr.no (h1 h)) (fun h => loose_before R I hL hr (h2 h)) hld hid
  have noneff : ∀ k (hk : k < ops.size), TextRun.eff E f ops[k] = false → id < (Hs k).next → (Hs (k + 1)).rng id off n = (Hs k).rng id off n := fun k hk he hid => by
    have := R.keep (by simp [hk] : ops[k]? = some ops[k]) he hid
    simp only [Heap.rng, Heap.cells, this]
  have hself : (Hs (i + 1)).rng id off n = (Hs i).rng id off n := by
    refine noneff i hi ?_ hidi
    have : ops[i] = o := by have := hr.at_; simp [hi] at this; exact this
    rw [this]; simp [TextRun.eff, hc, Cls.effect]
  -- the object in the world
  have fromGX : ∀ {q}, (Hs q).rng id off n = some cs → GX Hs ops.size p id = (Hs q).get id → Holds φ S w b (base + off) cs := by
    intro q hq hG
    simp only [Heap.rng, Option.bind_eq_some_iff] at hq
    obtain ⟨ds, h2, h3⟩ := hq
    obtain ⟨h4, -⟩ := part_get h3
    obtain ⟨-, -, h6⟩ := I.st.obj id _ _ (by rw [hG]; exact Heap.cells_get h2) hφ
    have := Holds.sub (φ := φ) (S := S) (w := w) (b := b) (off := base) (cs := ds) h6 off n
    rw [← h4] at this
    exact this
  rcases Nat.lt_or_ge i p with hip | hip
  · -- effects behind i in the text have come up: all the same up to p
    have up : ∀ q, i ≤ q → q ≤ p → (Hs q).rng id off n = some cs ∧ id < (Hs q).next := fun q h1 h2 => by
      induction q with
      | zero => have : i = 0 := by omega
                subst this; exact ⟨hcs, hidi⟩
      | succ q ih =>
        rcases Nat.lt_or_ge i (q + 1) with h3 | h3
        · obtain ⟨h4, h5⟩ := ih (by omega) (by omega)
          have hq : q < ops.size := by have := I.ple; omega
          have h6 := R.nextLe (i := q) (j := q + 1) (by omega) (by omega)
          refine ⟨?_, by omega⟩
          by_cases hqi : q = i
          · subst hqi; rw [hself]; exact hcs
          · cases he : TextRun.eff E f ops[q] with
            | false => rw [noneff q hq he h5]; exact h4
            | true => rw [one q hq (fun _ => I.cut1 q ops[q] (by omega) (by simp [hq]) he) (fun h => by omega) hqi h5]; exact h4
        · have : i = q + 1 := by omega
          subst this; exact ⟨hcs, hidi⟩
    obtain ⟨h1, h2⟩ := up p (by omega) (Nat.le_refl _)
    exact fromGX h1 (by unfold GX; rw [if_pos h2])
  · -- down to the cut, or to where the thing was made
    have down : ∀ m, m ≤ i → p ≤ i - m → id < (Hs (i - m)).next → (Hs (i - m)).rng id off n = some cs := fun m => by
      induction m with
      | zero => intro _ _ _; exact hcs
      | succ m ih =>
        intro h1 h2 h3
        have e1 : i - m = (i - (m + 1)) + 1 := by omega
        have hk : i - (m + 1) < ops.size := by omega
        have h4 := R.nextLe (i := i - (m + 1)) (j := i - m) (by omega) (by omega)
        have h5 := ih (by omega) (by omega) (by omega)
        rw [e1] at h5
        cases he : TextRun.eff E f ops[i - (m + 1)] with
        | false => rw [← noneff _ hk he h3]; exact h5
        | true => rw [← one _ hk (fun h => by omega) (fun _ => I.cut2 _ ops[i - (m + 1)] h2 (by simp [hk]) he) (by omega) h3]; exact h5
    by_cases hidp : id < (Hs p).next
    · have h1 := down (i - p) (by omega) (by omega) (by rw [show i - (i - p) = p by omega]; exact hidp)
      rw [show i - (i - p) = p by omega] at h1
      exact fromGX h1 (by unfold GX; rw [if_pos hidp])
    · -- made at k, p ≤ k < i
      have : ∃ k, p ≤ k ∧ k < i ∧ (Hs k).next ≤ id ∧ id < (Hs (k + 1)).next := by
        have aux : ∀ m, m ≤ i - p → ¬ id < (Hs (i - m)).next → ∃ k, p ≤ k ∧ k < i ∧ (Hs k).next ≤ id ∧ id < (Hs (k + 1)).next := fun m => by
          induction m with
          | zero => intro _ h; exact absurd hidi h
          | succ m ih =>
            intro h1 h2
            by_cases h3 : id < (Hs (i - m)).next
            · exact ⟨i - (m + 1), by omega, by omega, by omega, by rw [show i - (m + 1) + 1 = i - m by omega]; exact h3⟩
            · exact ih (by omega) h3
        exact aux (i - p) (Nat.le_refl _) (by rw [show i - (i - p) = p by omega]; exact hidp)
      obtain ⟨k, h1, h2, h3, h4⟩ := this
      have h5 := down (i - (k + 1)) (by omega) (by omega) (by rw [show i - (i - (k + 1)) = k + 1 by omega]; exact h4)
      rw [show i - (i - (k + 1)) = k + 1 by omega] at h5
      refine fromGX h5 ?_
      unfold GX
      rw [if_neg hidp, born_eq R (by omega) h3 h4]

end

end Go.Am

/- AM against the model: a region that draws its order: what makes, what writes; all of it. -/
namespace Go.Am
open Go

theorem aop_alloc_nt {E : Env} {c : Bool} {o : Oper} {ρ : Tmps} {H H' : Heap} {v : AV} {kd : Kind} (hcls : clsOf c o = .alloc) (hs : aop E c o ρ H = some (v, H', kd)) : H'.get H.next ≠ some .tok := by
  have hnone : H.get H.next ≠ some .tok := by rw [get_none (Nat.le_refl _)]; simp
  cases ho : o.op with
  | alloc t =>
    simp only [aop, ho, Option.bind_eq_some_iff, Option.some.injEq, Prod.mk.injEq] at hs
    obtain ⟨z, hz, -, rfl, -⟩ := hs
    rw [get_push]; simp
  | box t x =>
    simp only [aop, ho] at hs
    split at hs
    · split at hs <;> (simp only [Option.some.injEq, Prod.mk.injEq] at hs; obtain ⟨-, rfl, -⟩ := hs)
      · exact hnone
      · rw [get_push]; simp
    · simp at hs
  | buildSlice t n ps =>
    simp only [aop, ho] at hs
    split at hs
    · split at hs
      · simp only [Option.map_eq_some_iff] at hs
        obtain ⟨es, -, h7⟩ := hs
        split at h7 <;> (simp only [Prod.mk.injEq] at h7; obtain ⟨-, rfl, -⟩ := h7)
        · rw [get_push]; simp
        · exact hnone
      · split at hs
        · simp only [Option.some.injEq, Prod.mk.injEq] at hs; obtain ⟨-, rfl, -⟩ := hs; exact hnone
        · simp at hs
    · simp at hs
  | makeMap t r =>
    cases r with
    | some x => simp [aop, ho] at hs
    | none =>
      simp only [aop, ho, Option.some.injEq, Prod.mk.injEq] at hs
      obtain ⟨-, rfl, -⟩ := hs
      rw [get_push]; simp
  | call k =>
    simp only [clsOf, ho] at hcls
    split at hcls <;> first | (simp_all; done) | (split at hcls <;> simp at hcls)
  | _ => simp [clsOf, ho] at hcls

section
variable {E : Env} {call : Call} {f : FuncId} {ops : Array Oper} {t' : Tr} {ρs : Nat → Tmps} {Hs : Nat → Heap}
variable {φ0 : Phi} {S0 : Cells} {w0 : World} {a0 : Act} {L : Nat → Bool} {a : Act} {w : World} {φ : Phi} {S : Cells} {p : Nat}

theorem Inv.made (R : TextRun E call f ops t' ρs Hs) (I : Inv E f ops ρs Hs φ0 S0 w0 a0 L a w φ S p) (hL : ∀ j, L j = true → j < ops.size) {i : Nat} {o : Oper} (hr : Ready ops L i o) (hd : ∀ t, o.dst = some t → t < a0.tmps.size)
    {L' : Nat → Bool} (hL' : ∀ k, L' k = if k = i then true else L k) (hc : clsOf (o.dst.any (E.cf f)) o = .alloc) {v : AV} (hρ : ρs (i + 1) = (ρs i).put o.dst v) (hnt : (Hs (i + 1)).get (Hs i).next ≠ some .tok) (hal : (Hs i).next ∈ t'.allocs)
    (hm : Made E o a φ S w (Hs i) v (Hs (i + 1))) : ∃ v' φ' w', (execOp a.eval o).run E.P w = .ok (.value v') w' ∧ Inv E f ops ρs Hs φ0 S0 w0 a0 L' (a.put o.dst v') w' φ' S p := by
  obtain ⟨ob, loc, v', w', hH, h1, h2, h3, h4⟩ := hm
  have hi : i < ops.size := (Array.getElem?_eq_some_iff.1 hr.at_).1
  have he : TextRun.eff E f o = false := by simp [TextRun.eff, hc, Cls.effect]
  have hget : (Hs (i + 1)).get (Hs i).next = some ob := by rw [hH, get_push]; simp
  have hnx : (Hs (i + 1)).next = (Hs i).next + 1 := by rw [hH, next_push]
  have hn : φ (Hs i).next = none := I.dom i hi hr.no _ (Nat.le_refl _) (by omega)
  have hφ := Phi.add_ext (l := loc) hn
  obtain ⟨h5, h6⟩ := h4 (φ.add (Hs i).next loc) hφ (by simp [Phi.add])
  have hG : GX Hs ops.size p (Hs i).next = some ob := by
    unfold GX
    split
    · rename_i hlt
      have hip : i < p := by
        rcases Nat.lt_or_ge i p with h | h
        · exact h
        · have := R.nextLe (i := p) (j := i) h (by omega); omega
      have up : ∀ q, i + 1 ≤ q → q ≤ p → (Hs q).get (Hs i).next = some ob := fun q hq1 hq2 => by
        induction q with
        | zero => omega
        | succ q ih =>
          rcases Nat.lt_or_ge i q with h | h
          · have h7 := ih (by omega) (by omega)
            have hq : q < ops.size := by have := I.ple; omega
            have hlt' : (Hs i).next < (Hs q).next := get_lt h7
            cases heq : TextRun.eff E f ops[q] with
            | false => rw [R.keep (by simp [hq] : ops[q]? = some ops[q]) heq hlt', h7]
            | true =>
              have hLq := I.cut1 q ops[q] (by omega) (by simp [hq]) heq
              rw [R.getSame hr.at_ (by simp [hq] : ops[q]? = some ops[q]) h hc (loose_after R I hL hr.no hLq) hal hlt' (by rw [h7, ← hget]; exact hnt), h7]
          · have : q = i := by omega
            subst this; exact hget
      exact up p (by omega) (Nat.le_refl _)
    · rw [born_eq R hi (Nat.le_refl _) (by omega), hget]
  have hnew : ∀ b k, loc.has b k → ¬ S b k ∧ ¬ MG φ (GX Hs ops.size p) b k := fun b k hb => ⟨fun hs => by
    obtain ⟨u, hu⟩ := I.st.sA b k hs
    have := at_lt hu; have := h3 b k hb; omega, fun hmm => by have := has_lt I.st hmm; have := h3 b k hb; omega⟩
  refine ⟨v', φ.add (Hs i).next loc, w', h1, I.fin R hL hr hd hL' hρ h6 (fun av cv h => h.mono hφ (h2.vmono I.st.sA)) (.inl ⟨he, rfl⟩) ?_ (fun id hid => ?_) ⟨hφ, fun _ _ h => h, h2.keeps _, fun b k hmm => ?_, fun _ _ h => .inl h⟩⟩
  · refine (I.st.grow h2).addG hn (fun ob' hob => ?_) hnew
    rw [hG] at hob; injection hob with hob; subst hob
    exact h5
  · simp only [Phi.add] at hid
    split at hid
    · rename_i e; subst e; omega
    · exact absurd rfl hid
  · obtain ⟨j, o', l, h7, h8, h9⟩ := hmm
    simp only [Phi.add] at h8
    split at h8
    · injection h8 with h8; subst h8; exact .inr (h3 b k h9)
    · exact .inl ⟨j, o', l, h7, h8, h9⟩

/-- Behind an effect. -/
theorem Inv.effect (R : TextRun E call f ops t' ρs Hs) {i : Nat} (I : Inv E f ops ρs Hs φ0 S0 w0 a0 L a w φ S i) (hL : ∀ j, L j = true → j < ops.size) {o : Oper} (hr : Ready ops L i o) (hd : ∀ t, o.dst = some t → t < a0.tmps.size)
    {L' : Nat → Bool} (hL' : ∀ k, L' k = if k = i then true else L k) (he : TextRun.eff E f o = true) {v : AV} (hρ : ρs (i + 1) = (ρs i).put o.dst v) {v' : Value} {φ' : Phi} {S' : Cells} {w' : World}
    (hstep : Step φ S (Hs i) w φ' S' (Hs (i + 1)) w') (hst' : St φ' S' (Hs (i + 1)) w') (hv : V φ' S' w' v v') : Inv E f ops ρs Hs φ0 S0 w0 a0 L' (a.put o.dst v') w' φ' S' (i + 1) := by
  have hi : i < ops.size := (Array.getElem?_eq_some_iff.1 hr.at_).1
  have hnx := R.nextLe (i := i) (j := i + 1) (by omega) (by omega)
  have hsub : ∀ j o' l, (Hs i).get j = some o' → φ j = some l → GX Hs ops.size i j = some o' := fun j o' l h1 _ => by
    unfold GX; rw [if_pos (get_lt h1), h1]
  have hst := I.st.sub hsub
  have hMsub : ∀ b k, M φ (Hs i) b k → MG φ (GX Hs ops.size i) b k := fun b k h => MG_sub hsub h
  -- what is made early
  have cases' : ∀ j o' l, GX Hs ops.size (i + 1) j = some o' → φ' j = some l → ((Hs (i + 1)).get j = some o') ∨ ((Hs (i + 1)).next ≤ j ∧ φ j = some l ∧ GX Hs ops.size i j = some o') := fun j o' l h1 h2 => by
    unfold GX at h1
    split at h1
    · exact .inl h1
    · rename_i hge
      have hφ : φ' j = φ j := by
        by_cases e : φ' j = φ j
        · exact e
        · have := hstep.new j e; omega
      refine .inr ⟨by omega, by rw [← hφ, h2], ?_⟩
      unfold GX; rw [if_neg (by omega), h1]
  have apart : ∀ j o' l, (Hs (i + 1)).next ≤ j → φ j = some l → GX Hs ops.size i j = some o' → ∀ b k, l.has b k → ¬ M φ (Hs i) b k ∧ b < w.heap.size := fun j o' l h1 h2 h3 b k hb => by
    refine ⟨?_, has_lt I.st ⟨j, o', l, h3, h2, hb⟩⟩
    rintro ⟨q, oq, lq, h4, h5, h6⟩
    have : q ≠ j := by have := get_lt h4; omega
    exact I.st.disj q j oq o' lq l this (hsub q oq lq h4 h5) h3 h5 h2 b k h6 hb
  have hGst : StG φ' S' (GX Hs ops.size (i + 1)) w' := by
    refine ⟨fun j o' l h1 h2 => ?_, fun j q oj oq lj lq hne h1 h2 h3 h4 b k hb hb' => ?_, fun b k hs hm => ?_, hst'.sA⟩
    · rcases cases' j o' l h1 h2 with h3 | ⟨h3, h4, h5⟩
      · exact hst'.obj j o' l h3 h2
      · have hap := apart j o' l h3 h4 h5
        have hobj := I.st.obj j o' l h5 h4
        refine hobj.mono hstep.ext (fun b k hs => ⟨hstep.s b k hs, by
          obtain ⟨u, hu⟩ := hst.sA b k hs
          rw [hu, hstep.keeps.at hu (hst.sM b k hs)]⟩) (fun b ob hc hb hob => ?_) (fun _ _ _ => hstep.keeps.writable) (fun b k u hb hu => hstep.keeps.at hu (hap b k hb).1)
        cases l with
        | loop l => exact hb.elim
        | map mb =>
          have hb' : b = mb := hb
          subst hb'
          exact hstep.keeps.other b ob hob hc fun k => (hap b k rfl).1
        | obj ob' base total =>
          cases o' with
          | cells cs =>
            obtain ⟨-, ⟨cc, e, h6, -⟩, -⟩ := hobj
            rw [← hb.1, hob] at h6
            injection h6 with h6
            exact absurd h6 (hc _ _ _)
          | _ => exact hobj.elim
        | tok ob' s n =>
          cases o' with
          | tok =>
            obtain ⟨cc, e, h6, -⟩ := hobj
            rw [← hb.1, hob] at h6
            injection h6 with h6
            exact absurd h6 (hc _ _ _)
          | _ => exact hobj.elim
    · rcases cases' j oj lj h1 h3 with h5 | ⟨h5, h6, h7⟩
      · rcases cases' q oq lq h2 h4 with h8 | ⟨h8, h9, h10⟩
        · exact hst'.disj j q oj oq lj lq hne h5 h8 h3 h4 b k hb hb'
        · obtain ⟨h11, h12⟩ := apart q oq lq h8 h9 h10 b k hb'
          rcases hstep.m b k ⟨j, oj, lj, h5, h3, hb⟩ with h13 | h13
          · exact h11 h13
          · omega
      · rcases cases' q oq lq h2 h4 with h8 | ⟨h8, h9, h10⟩
        · obtain ⟨h11, h12⟩ := apart j oj lj h5 h6 h7 b k hb
          rcases hstep.m b k ⟨q, oq, lq, h8, h4, hb'⟩ with h13 | h13
          · exact h11 h13
          · omega
        · exact I.st.disj j q oj oq lj lq hne h7 h10 h6 h9 b k hb hb'
    · obtain ⟨j, o', l, h1, h2, h3⟩ := hm
      rcases cases' j o' l h1 h2 with h4 | ⟨h4, h5, h6⟩
      · exact hst'.sM b k hs ⟨j, o', l, h4, h2, h3⟩
      · obtain ⟨h7, h8⟩ := apart j o' l h4 h5 h6 b k h3
        rcases hstep.sb b k hs with h9 | h9 | h9
        · exact I.st.sM b k h9 ⟨j, o', l, h6, h5, h3⟩
        · exact h7 h9
        · omega
  refine I.fin R hL hr hd hL' hρ hv (fun av cv h => hstep.mono hst h) (.inr ⟨he, rfl, rfl⟩) hGst (fun id h => hstep.new id h) ⟨hstep.ext, hstep.s, hstep.keeps.mono hMsub, fun b k hm => ?_, fun b k hs => ?_⟩
  · obtain ⟨j, o', l, h1, h2, h3⟩ := hm
    rcases cases' j o' l h1 h2 with h4 | ⟨h4, h5, h6⟩
    · exact (hstep.m b k ⟨j, o', l, h4, h2, h3⟩).imp (hMsub b k) id
    · exact .inl ⟨j, o', l, h6, h5, h3⟩
  · exact (hstep.sb b k hs).imp id fun h => h.imp (hMsub b k) id

/-- One operation that may come up. -/
theorem Inv.oper {r : Option Nat} {n : Nat} {Q : Exit → Act → World → Prop} {K : Act → World → Prop} (R : TextRun E call f ops t' ρs Hs) (I : Inv E f ops ρs Hs φ0 S0 w0 a0 L a w φ S p) (hL : ∀ j, L j = true → j < ops.size) {i : Nat} {o : Oper} (hr : Ready ops L i o)
    (hg0 : GlobOk E.ng φ0) (hd : ∀ t, o.dst = some t → t < a0.tmps.size) {L' : Nat → Bool} (hL' : ∀ k, L' k = if k = i then true else L k)
    (hK : ∀ a' w' φ' S' p', Inv E f ops ρs Hs φ0 S0 w0 a0 L' a' w' φ' S' p' → K a' w') : wpOpIn (Wd r) n E.P ops Q i K a w := by
  have hi : i < ops.size := (Array.getElem?_eq_some_iff.1 hr.at_).1
  obtain ⟨v, hstep, hρ⟩ := R.step i o hr.at_
  have hvt := I.vt R hL hr
  have hg : GlobOk E.ng φ := fun g hgl => by
    obtain ⟨tt, ht⟩ := hg0 g hgl
    exact ⟨tt, I.ext.ext _ _ ht⟩
  have hln : ∀ x ∈ o.op.operands, evalOp E.ng (looked ops o (ρs i)) x = evalOp E.ng (ρs i) x := looked_ops
  have hw' : ∀ b, wantedA ops (ρs i) o = some b → Region.wanted o (yielded ops a.tmps) = b := fun b h => wanted_eq hvt (by rw [looked_wanted]; exact h)
  unfold wpOpIn
  simp only [hr.at_]
  cases hstep with
  | skip hw hv hH =>
    rw [if_neg (by rw [hw' _ hw]; simp)]
    subst hv
    obtain ⟨p', I'⟩ := I.still R hL hr hd hL' hH hρ (.refl S w) V_skip
    exact ⟨fun _ _ => trivial, hK _ _ _ _ _ I'⟩
  | call g args ts k caps hw hop hcc hge hee =>
    rw [if_pos (hw' _ hw)]
    have he : TextRun.eff E f o = true := by simp [TextRun.eff, clsOf, hop, Cls.effect]
    have I' := I.cutAt R hL hr he
    have hsub : ∀ j o' l, (Hs i).get j = some o' → φ j = some l → GX Hs ops.size i j = some o' := fun j o' l h1 _ => by
      unfold GX; rw [if_pos (get_lt h1), h1]
    have hst := I'.st.sub hsub
    have hev : evalOp1 E call f true o (looked ops o (ρs i)) (Hs i) ⟨[], [], []⟩ = some (v, Hs (i + 1), ⟨[], [], [(Hs i, Hs (i + 1))]⟩) := by
      rw [evalOp1_congr hln]
      unfold evalOp1
      simp only [hop, hge, hee, Option.map_some]
    exact op1_sound R.callOk hev hst hg hvt (fun id h1 h2 => I.dom i hi hr.no id h1 h2) fun φ' S' w' v' k1 k2 k3 => hK _ _ _ _ _ (I'.effect R hL hr hd hL' he hρ k1 k2 k3)
  | op kd hw hop hs hf hl ha =>
    rw [if_pos (hw' _ hw)]
    rw [← aop_congr hln] at hs
    refine ⟨fun _ _ => trivial, ?_⟩
    rw [semAt_eq (aop_nodefer hs)]
    have pureCase : kd = .pure → (Oper.uponIn (Wd r) n E.P o a K Q ((execOp a.eval o).run E.P w)) := fun e => by
      subst e
      obtain ⟨hH, v', S', w', h1, h2, h3⟩ := aop_pure hs hvt hg I.st.sA
      obtain ⟨p', I'⟩ := I.still R hL hr hd hL' hH hρ h2 h3
      rw [h1, Oper.uponIn_value]
      exact hK _ _ _ _ _ I'
    have effCase : TextRun.eff E f o = true → (Oper.uponIn (Wd r) n E.P o a K Q ((execOp a.eval o).run E.P w)) := fun he => by
      have I' := I.cutAt R hL hr he
      have hsub : ∀ j o' l, (Hs i).get j = some o' → φ j = some l → GX Hs ops.size i j = some o' := fun j o' l h1 _ => by
        unfold GX; rw [if_pos (get_lt h1), h1]
      have hst := I'.st.sub hsub
      obtain ⟨rr, v', φ', S', w', k1, k2, k3, k4, k5⟩ := aop_sound hs hvt hg hst (fun id h1 h2 => I.dom i hi hr.no id h1 h2)
      have I'' := I'.effect R hL hr hd hL' he hρ k3 k4 k5
      rw [k1]
      rcases k2 with rfl | ⟨rfl, rfl⟩
      · rw [Oper.uponIn_value]; exact hK _ _ _ _ _ I''
      · rw [Oper.uponIn_skip]; exact hK _ _ _ _ _ I''
    cases hcl : clsOf (o.dst.any (E.cf f)) o with
    | pure => rw [hcl] at hf; cases kd <;> simp [fits] at hf; exact pureCase rfl
    | call => exact effCase (by simp [TextRun.eff, hcl, Cls.effect])
    | quiet => exact effCase (by simp [TextRun.eff, hcl, Cls.effect])
    | loud => exact effCase (by simp [TextRun.eff, hcl, Cls.effect])
    | alloc =>
      rw [hcl] at hf
      cases kd <;> simp [fits] at hf
      · exact pureCase rfl
      · obtain ⟨v', φ', w', h1, h2⟩ := I.made R hL hr hd hL' hcl hρ (aop_alloc_nt hcl hs) (ha rfl) (aop_alloc hcl hs hvt hg I.st.sA)
        rw [h1, Oper.uponIn_value]
        exact hK _ _ _ _ _ h2
    | load =>
      rw [hcl] at hf
      cases kd <;> simp [fits] at hf
      · exact pureCase rfl
      · rename_i id off m
        obtain ⟨hH, cs, h1, h2, h3⟩ := aop_load hcl hs
        obtain ⟨v', h4, h5⟩ := h3 φ S w a hvt hg fun b base total hφ => I.loads R hL hr hcl (hl id off m rfl) h1 hφ
        obtain ⟨p', I'⟩ := I.still R hL hr hd hL' hH hρ (.refl S w) h5
        rw [h4, Oper.uponIn_value]
        exact hK _ _ _ _ _ I'

end

end Go.Am

/- AM against the model: regions, code, functions. -/
namespace Go.Am
open Go

section
variable {E : Env} {call : Call} {f : FuncId} {ops : Array Oper} {t' : Tr} {ρs : Nat → Tmps} {Hs : Nat → Heap}
variable {φ0 : Phi} {S0 : Cells} {w0 : World} {a0 : Act}

def lf (listed : Array Bool) (k : Nat) : Bool := listed.getD k false
def leftN (listed : Array Bool) (n : Nat) : Nat := ((List.range n).filter fun k => !lf listed k).length

theorem leftN_set {listed : Array Bool} {n i : Nat} (hs : listed.size = n) (hi : i < n) (h : lf listed i = false) : leftN (listed.setIfInBounds i true) n < leftN listed n := by
  unfold leftN
  have h1 : ((List.range n).filter fun k => !lf (listed.setIfInBounds i true) k) = ((List.range n).filter fun k => !lf listed k).filter fun k => k ≠ i := by
    rw [List.filter_filter]
    apply List.filter_congr
    intro k hk
    unfold lf at *
    rw [getD_set (by omega)]
    by_cases e : k = i <;> simp [e]
  rw [h1]
  have h2 : i ∈ (List.range n).filter fun k => !lf listed k := by simp [hi, h]
  have := List.length_filter_lt_length_iff_exists (l := (List.range n).filter fun k => !lf listed k) (p := fun k => decide (k ≠ i))
  exact this.2 ⟨i, h2, by simp⟩

theorem any_sound {r : Option Nat} {n : Nat} {Q : Exit → Act → World → Prop} (R : TextRun E call f ops t' ρs Hs) (hg0 : GlobOk E.ng φ0) (hd : ∀ o ∈ ops, ∀ t, o.dst = some t → t < a0.tmps.size)
    (hK : ∀ a w φ S, Inv E f ops ρs Hs φ0 S0 w0 a0 (fun _ => true) a w φ S ops.size → Q .normal a w) :
    ∀ (fuel : Nat) (listed : Array Bool) (a : Act) (w : World) (φ : Phi) (S : Cells) (p : Nat), listed.size = ops.size → leftN listed ops.size ≤ fuel → Inv E f ops ρs Hs φ0 S0 w0 a0 (lf listed) a w φ S p →
      wpAnyIn (Wd r) n E.P .any ops Q fuel listed a w := by
  have fin : ∀ (listed : Array Bool) (a : Act) (w : World) (φ : Phi) (S : Cells) (p : Nat), listed.size = ops.size → Inv E f ops ρs Hs φ0 S0 w0 a0 (lf listed) a w φ S p → (∀ k, k < ops.size → lf listed k = true) → Q .normal a w := by
    intro listed a w φ S p hsz I hall
    refine hK a w φ S ?_
    have hG : GX Hs ops.size p = GX Hs ops.size ops.size := GX_move R I.ple (Nat.le_refl _) fun k o h1 h2 ho => by
      cases he : TextRun.eff E f o with
      | false => rfl
      | true => have := I.cut2 k o h1 ho he; rw [hall k h2] at this; simp at this
    have hst := I.st
    have hext := I.ext
    rw [hG] at hst hext
    refine ⟨fun _ _ _ _ _ _ _ => rfl, fun t m hm h1 h2 => ?_, Nat.le_refl _, fun _ _ _ _ _ => rfl, fun k o hk ho _ => ?_, hst, fun _ _ h => by simp at h, hext, I.new, I.defers, I.tsize⟩
    · refine I.slots t m hm (fun k o hk ho hdk => hall k (by omega)) fun k o hk ho hdk => ?_
      have := h2 k o hk ho hdk
      simp at this
    · have := (Array.getElem?_eq_some_iff.1 ho).1; omega
  -- where nothing may come up all have come up
  have noneLeft : ∀ (listed : Array Bool) (a : Act) (w : World) (φ : Phi) (S : Cells) (p : Nat), listed.size = ops.size → Inv E f ops ρs Hs φ0 S0 w0 a0 (lf listed) a w φ S p → Region.ready .any ops listed = [] → ∀ k, k < ops.size → lf listed k = true := by
    intro listed a w φ S p hsz I hr k
    induction k using Nat.strongRecOn with
    | _ k ih =>
      intro hk
      cases h : lf listed k with
      | true => rfl
      | false =>
        exfalso
        have : k ∈ Region.ready .any ops listed := by
          rw [mem_ready]
          refine ⟨?_, ops[k], by simp, fun e he hb => ?_⟩
          · unfold lf at h
            simp [show k < listed.size by omega] at h ⊢; exact h
          · have hlt := R.draw.back k ops[k] (by simp) e he hb
            exact ih e.on hlt (by omega)
        rw [hr] at this
        simp at this
  intro fuel
  induction fuel with
  | zero =>
    intro listed a w φ S p hsz hle I
    have hall : ∀ k, k < ops.size → lf listed k = true := fun k hk => by
      cases h : lf listed k with
      | true => rfl
      | false =>
        have : k ∈ (List.range ops.size).filter fun k => !lf listed k := by simp [hk, h]
        have := List.length_pos_of_mem this
        unfold leftN at hle
        omega
    refine ⟨?_, fin listed a w φ S p hsz I hall⟩
    cases hr : Region.ready .any ops listed with
    | nil => rfl
    | cons x l =>
      have : x ∈ Region.ready .any ops listed := by rw [hr]; simp
      obtain ⟨h1, o, h2, -⟩ := mem_ready.1 this
      have hx := (Array.getElem?_eq_some_iff.1 h2).1
      have h3 := hall x hx
      unfold lf at h3
      simp [show x < listed.size by omega] at h1 h3
      rw [h3] at h1; simp at h1
  | succ fuel ih =>
    intro listed a w φ S p hsz hle I
    refine ⟨fun hr => fin listed a w φ S p hsz I (noneLeft listed a w φ S p hsz I hr), fun i hi => ?_⟩
    obtain ⟨h1, o, h2, h3⟩ := mem_ready.1 hi
    have hil := (Array.getElem?_eq_some_iff.1 h2).1
    have hno : lf listed i = false := by unfold lf; simp [show i < listed.size by omega] at h1 ⊢; exact h1
    have hr : Ready ops (lf listed) i o := ⟨hno, h2, h3⟩
    have hL : ∀ j, lf listed j = true → j < ops.size := fun j hj => by
      unfold lf at hj
      rcases Nat.lt_or_ge j listed.size with h | h
      · omega
      · simp [Array.getElem?_eq_none h] at hj
    refine I.oper R hL hr hg0 (hd o (Array.mem_of_getElem? h2)) (L' := lf (listed.setIfInBounds i true)) (fun k => getD_set (by omega)) fun a' w' φ' S' p' I' => ?_
    exact ih _ _ _ _ _ _ (by simp [hsz]) (by have := leftN_set hsz hil hno; omega) I'

end

section
variable {E : Env} {c : Bool} {ρ ρ' : Tmps} {H H' : Heap} {φ : Phi} {S : Cells} {w : World} {a : Act}

theorem getD_replicate_false {n : Nat} (k : Nat) : (Array.replicate n false).getD k false = false := by
  by_cases h : k < n <;> simp [h]
theorem draw_sound {call : Call} {f : FuncId} {ops : Array Oper} {id : Nat} {r : Option Nat} {n : Nat} {Q : Exit → Act → World → Prop} {t' : Tr} (hmix : E.P.follows .mixedOrders = true) (hcall : CallOk E call) (hdraw : drawOk E f ops = true)
    (hd : ∀ o ∈ ops, ∀ t, o.dst = some t → t < a.tmps.size) (h : evalOps E call f true ops ops.toList ρ H ⟨[], [], []⟩ = some (ρ', H', t')) (ht : t'.ok = true)
    (hst : St φ S H w) (hg : GlobOk E.ng φ) (hr : VT φ S w ρ a) (hn : ∀ i, H.next ≤ i → i < H'.next → φ i = none)
    (K : ∀ φ' S' w' a', Step φ S H w φ' S' H' w' → St φ' S' H' w' → VT φ' S' w' ρ' a' → a'.defers = a.defers → a'.tmps.size = a.tmps.size → Q .normal a' w') : (Code.region id ops true).wpIn (Wd r) n E.P Q a w := by
  obtain ⟨-, ρs, Hs, h1, h2, h3, h4, h5⟩ := run_of _ _ _ _ _ _ _ h
  simp only [Array.length_toList] at h3 h4
  have R : TextRun E call f ops t' ρs Hs := ⟨hcall, drawOk_spec hdraw, ht, fun i o ho => h5 i o (by simpa using ho)⟩
  have hgr := grow_draw S w (w.drawn + 1)
  have hst1 := hst.grow hgr
  refine wpIn_region_any hmix (any_sound R (φ0 := φ) (S0 := S) (w0 := { w with drawn := w.drawn + 1 }) (a0 := a) hg hd (fun a' w' φ' S' I => ?_) _ _ a _ φ S 0 (by simp) ?_ ?_)
  · have hst' : St φ' S' H' w' := I.st.sub fun j o' l hj _ => by
      rw [← h4] at hj
      unfold GX; rw [if_pos (get_lt hj), hj]
    have hext := I.ext
    rw [h2] at hext
    refine K φ' S' w' a' ((hgr.step (φ := φ) H).trans ⟨hext.ext, fun i hi => ?_, hext.s, hext.keeps, fun b k hm => hext.m b k (MG_sub (fun j o' l hj _ => ?_) hm), hext.sb, ?_⟩) hst' (fun t => ?_) I.defers I.tsize
    · have := I.new i hi; rw [h2, h4] at this; exact this
    · rw [← h4] at hj; unfold GX; rw [if_pos (get_lt hj), hj]
    · have := R.nextLe (i := 0) (j := ops.size) (by omega) (by omega); rw [h2, h4] at this; exact this
    · have := I.slots t ops.size (Nat.le_refl _) (fun _ _ _ _ _ => rfl) fun k o hk ho _ => by have := (Array.getElem?_eq_some_iff.1 ho).1; omega
      rw [h3] at this
      exact this
  · unfold leftN
    exact Nat.le_trans (List.length_filter_le _ _) (by simp)
  · have hlf : ∀ k, lf (Array.replicate ops.size false) k = false := fun k => by unfold lf; exact getD_replicate_false k
    have hG : ∀ j o' l, GX Hs ops.size 0 j = some o' → φ j = some l → H.get j = some o' := fun j o' l hj hl => by
      unfold GX at hj
      split at hj
      · rw [h2] at hj; exact hj
      · rename_i hge
        exfalso
        unfold born at hj
        split at hj
        · rename_i hex
          obtain ⟨k, h6, h7, h8⟩ := hex
          have := R.nextLe (i := k + 1) (j := ops.size) (by omega) (by omega)
          have := hn j (by rw [h2] at hge; omega) (by rw [h4] at this; omega)
          rw [this] at hl; simp at hl
        · simp at hj
    refine ⟨fun j o hj => by rw [hlf] at hj; simp at hj, fun t m hm h6 h7 => ?_, by omega, fun k o hk => by omega, fun k o _ _ _ => hlf k, hst1.sub hG, fun k hk _ id h6 h7 => ?_, ⟨fun _ _ h => h, fun _ _ h => h, .refl _ _, fun b k hm => .inl (MG_sub (fun j o' l hj hl => by rw [h2]; exact hG j o' l hj hl) hm), fun _ _ h => .inl h⟩,
      fun i hi => absurd rfl hi, rfl, rfl⟩
    · -- no writer of t lies ahead of m
      have hconst : ∀ q, q ≤ m → ρs q t = ρ t := fun q hq => by
        induction q with
        | zero => rw [h1]
        | succ q ih =>
          have hqs : q < ops.size := by omega
          obtain ⟨vv, -, h8⟩ := R.step q ops[q] (by simp)
          rw [h8, ← ih (by omega)]
          cases hdo : (ops[q]).dst with
          | none => rfl
          | some u =>
            simp only [Tmps.put, Tmps.set]
            rw [if_neg]
            rintro rfl
            have := h6 q ops[q] (by omega) (by simp) hdo
            rw [hlf] at this; simp at this
      rw [hconst m (Nat.le_refl _)]
      exact (hr t).mono (fun _ _ h => h) (hgr.vmono hst.sA)
    · have h8 := R.nextLe (i := 0) (j := k) (by omega) (by omega)
      have h9 := R.nextLe (i := k + 1) (j := ops.size) (by omega) (by omega)
      rw [h2] at h8; rw [h4] at h9
      exact hn id (by omega) (by omega)

end

end Go.Am
