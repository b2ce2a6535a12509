/- AM, an abstract machine over plain values, and that the model does what it does: a part of the proof. -/
import Derived.Test.YtfmfejcoaphmoaaDoorA2
import Derived.Laws.BytesString
import Derived.Laws.IdiomStrings
import Derived.Laws.CopyRow
import Derived.Laws.AppendOwn
set_option linter.unusedSimpArgs false
set_option linter.unusedVariables false
/- AM against the model: conversions, slicing, addresses, len; all pure operations together. -/
namespace Go.Am
open Go

variable {E : Env} {c : Bool} {o : Oper} {ρ : Tmps} {H H' : Heap} {v : AV} {φ : Phi} {S : Cells} {w : World} {a : Act}

theorem addr_add (b off n : Nat) : (⟨b, off, none⟩ : Addr).add n = ⟨b, off + n, none⟩ := by
  simp only [Addr.add]
  split
  · rename_i h; subst h; rfl
  · rfl

theorem did_fieldAddr {t : TypeId} {x : Operand} {i : Nat} (ho : o.op = .fieldAddr t x i) (hs : aop E c o ρ H = some (v, H', .pure)) (hr : VT φ S w ρ a) (hg : GlobOk E.ng φ) : H' = H ∧ Did E o a φ S w v := by
  simp only [aop, ho] at hs
  have hx := hr.eval hg x
  split at hs
  · rename_i fs hu
    split at hs
    · rename_i f hf
      split at hs
      · rename_i hsz
        obtain ⟨n, h1, h2⟩ : ∃ n, sizeOf E.P f.type = some n ∧ 0 < n := by
          cases h : sizeOf E.P f.type with
          | none => simp [h] at hsz
          | some n => exact ⟨n, rfl, by simpa [h] using hsz⟩
        obtain ⟨it, h3, rfl⟩ := sizeOf_inv h1
        have hrun : ∀ b off, a.eval x = .pointer (some ⟨b, off, none⟩) → (execOp a.eval o).run E.P w = .ok (.value (.pointer (some ⟨b, off + f.offset, none⟩))) w := fun b off hav => by
          simp only [execOp, ho, hav, Instr.fieldAt, Sem.run_bind, run_underlying hu, Result.andThen, hf, Instr.sureAddr, Sem.run_pure, fieldPlace, run_sizeOf' h3]
          rw [if_neg (by omega)]
          simp [addr_add]
        split at hs
        · rename_i id off he
          simp only [Option.some.injEq, Prod.mk.injEq] at hs
          obtain ⟨rfl, rfl, -⟩ := hs
          rw [he] at hx
          generalize hav : a.eval x = av at hx
          cases hx with
          | ptr _ _ b base total h =>
            refine ⟨rfl, .same' (.ptr id (off + f.offset) b base total h) ?_⟩
            rw [← Nat.add_assoc]
            exact hrun _ _ hav
        · rename_i cs he
          simp only [Option.some.injEq, Prod.mk.injEq] at hs
          obtain ⟨rfl, rfl, -⟩ := hs
          rw [he] at hx
          generalize hav : a.eval x = av at hx
          cases hx with
          | ref _ b off g h4 h5 =>
            refine ⟨rfl, .same' (.ref (cs.drop f.offset) b (off + f.offset) (fun j => g (f.offset + j)) (fun j c hj => ?_) (fun j c hj => ?_)) (hrun _ _ hav)⟩
            · rw [List.getElem?_drop] at hj
              rw [Nat.add_assoc]
              exact h4 _ c hj
            · rw [List.getElem?_drop] at hj
              exact h5 _ c hj
        · simp at hs
      · simp at hs
    · simp at hs
  · simp at hs

theorem did_indexAddr {t : TypeId} {x i : Operand} (ho : o.op = .indexAddr t x i) (hs : aop E c o ρ H = some (v, H', .pure)) (hr : VT φ S w ρ a) (hg : GlobOk E.ng φ) : H' = H ∧ Did E o a φ S w v := by
  simp only [aop, ho] at hs
  have hx := hr.eval hg x
  have hi := hr.eval hg i
  have hrun : ∀ {sz b off len cap n k}, (elemOf E.P t).bind (sizeOf E.P) = some sz → a.eval x = .slice (some ⟨b, off, none⟩) len cap → a.eval i = .int k (n : Nat) → n < len →
      (execOp a.eval o).run E.P w = .ok (.value (.pointer (some ⟨b, off + n * sz, none⟩))) w := by
    intro sz b off len cap n k h1 hav hai hn
    simp only [Option.bind_eq_some_iff] at h1
    obtain ⟨e, he, hsz⟩ := h1
    have hu := elemOf_inv he
    obtain ⟨it, h3, rfl⟩ := sizeOf_inv hsz
    simp only [execOp, ho, hav, hai, Instr.indexAt, Sem.run_bind, asIntOf, Sem.run_pure, run_underlying hu, Result.andThen]
    by_cases hl : len ≤ 1 <;> simp [hl, hn, run_underlying hu, Result.andThen, run_sizeOf' h3, addr_add]
  split at hs
  · rename_i sz es t' n h1 he hn
    rw [he] at hx
    obtain ⟨k, hai⟩ := asNat_inv hn hi
    split at hs
    · rename_i e h2
      split at hs
      · rename_i h3
        simp only [Option.some.injEq, Prod.mk.injEq] at hs
        obtain ⟨rfl, rfl, -⟩ := hs
        generalize hav : a.eval x = av at hx
        have hlt := (List.getElem?_eq_some_iff.1 h2).1
        cases hx with
        | list _ _ b off cap sz' f hc hz h4 h5 ht =>
          have : sz' = sz := by rw [← h3, hz e (List.mem_of_getElem? h2)]
          subst this
          refine ⟨rfl, .same' (.ref e b (off + n * sz') (fun j => f n j) (fun j c hj => h4 n e j c h2 hj) (fun j c hj => h5 n e j c h2 hj)) (hrun h1 hav hai hlt)⟩
      · simp at hs
    · simp at hs
  · rename_i sz id off len s n h1 he hn
    rw [he] at hx
    obtain ⟨k, hai⟩ := asNat_inv hn hi
    split at hs
    · rename_i h3
      obtain ⟨h3, rfl⟩ := h3
      simp only [Option.some.injEq, Prod.mk.injEq] at hs
      obtain ⟨rfl, rfl, -⟩ := hs
      generalize hav : a.eval x = av at hx
      cases hx with
      | arr _ _ _ _ b base total cap h hc ht =>
        refine ⟨rfl, .same' (.ptr id _ b base total h) ?_⟩
        rw [← Nat.add_assoc]
        exact hrun h1 hav hai h3
    · simp at hs
  · simp at hs

theorem did_len {ts : List TypeId} {args : List Operand} (ho : o.op = .call { callee := .builtin .len, args := ⟨args⟩, argTypes := ⟨ts⟩ }) (hs : aop E c o ρ H = some (v, H', .pure)) (hr : VT φ S w ρ a) (hg : GlobOk E.ng φ) : H' = H ∧ Did E o a φ S w v := by
  simp only [aop, ho] at hs
  cases ts with
  | nil => simp at hs
  | cons t ts =>
    cases args with
    | nil => simp at hs
    | cons x args =>
      have hx := hr.eval hg x
      simp only [List.map_cons] at hs
      generalize evalOp E.ng ρ x = ax at *
      have hrun : ∀ {n : Nat}, (∀ l ty, (Builtin.len_ (t :: ts).toArray ty (a.eval x :: l).toArray).run E.P w = .ok (goInt n) w) → (execOp a.eval o).run E.P w = .ok (.value (.int .i64 n)) w := by
        intro n h
        have h' := h (args.map a.eval) o.type
        simp [execOp, ho, resolve, invoke, builtin, h', Result.andThen, goInt]
      split at hs
      · rename_i s hu
        simp only [Option.some.injEq, Prod.mk.injEq] at hs
        obtain ⟨rfl, rfl, -⟩ := hs
        obtain ⟨b, hb, h1⟩ := hx.str_inv
        refine ⟨rfl, .same' (.int _ _) (hrun fun l ty => ?_)⟩
        simp [Builtin.len_, hb, run_underlying hu, Result.andThen, ← h1]
      · rename_i hu
        simp only [Option.some.injEq, Prod.mk.injEq] at hs
        obtain ⟨rfl, rfl, -⟩ := hs
        refine ⟨rfl, .same' (.int _ _) (hrun (n := 0) fun l ty => ?_)⟩
        simp [Builtin.len_, hx.nilS_inv, run_underlying hu, Result.andThen]
      · rename_i es t' hu
        simp only [Option.some.injEq, Prod.mk.injEq] at hs
        obtain ⟨rfl, rfl, -⟩ := hs
        generalize hav : a.eval x = av at hx hrun
        cases hx
        refine ⟨rfl, .same' (.int _ _) (hrun fun l ty => ?_)⟩
        simp [Builtin.len_, run_underlying hu, Result.andThen]
      · rename_i id off n sz hu
        simp only [Option.some.injEq, Prod.mk.injEq] at hs
        obtain ⟨rfl, rfl, -⟩ := hs
        generalize hav : a.eval x = av at hx hrun
        cases hx
        refine ⟨rfl, .same' (.int _ _) (hrun fun l ty => ?_)⟩
        simp [Builtin.len_, run_underlying hu, Result.andThen]
      · rename_i hu
        simp only [Option.some.injEq, Prod.mk.injEq] at hs
        obtain ⟨rfl, rfl, -⟩ := hs
        generalize hav : a.eval x = av at hx hrun
        cases hx
        refine ⟨rfl, .same' (.int _ _) (hrun (n := 0) fun l ty => ?_)⟩
        simp [Builtin.len_, run_underlying hu, Result.andThen]
      · simp at hs

/-- A bound of a slice expression, as the model works it out. -/
theorem bnd_run {x : Option Operand} {d n y : Nat} {code : BoundsCode} (h : bnd E.ng ρ x d = some n) (hr : VT φ S w ρ a) (hg : GlobOk E.ng φ) (hy : n ≤ y) :
    (match x.map a.eval with
      | some v => Instr.sliceBound v y code
      | none => pure d).run E.P w = .ok n w := by
  cases x with
  | none => simp only [bnd, Option.some.injEq] at h; simp [h]
  | some x =>
    obtain ⟨k, hk⟩ := asNat_inv h (hr.eval hg x)
    simp [Instr.sliceBound, hk, asIntOf, hy]

theorem bounds_run {lo hi mx : Option Operand} (hr : VT φ S w ρ a) (hg : GlobOk E.ng φ) (isS : Bool) (len cap l h m : Nat) (hl : bnd E.ng ρ lo 0 = some l) (hh : bnd E.ng ρ hi len = some h)
    (hm : if mx.isSome then bnd E.ng ρ mx cap = some m else m = cap) (hmi : (mx.isSome && hi.isNone) = false) (h3 : l ≤ h) (h4 : h ≤ m) (h5 : m ≤ cap) :
    (Instr.sliceBounds isS len cap (lo.map a.eval) (hi.map a.eval) (mx.map a.eval)).run E.P w = .ok (l, h, m) w := by
  have hL : ∀ code, (match lo.map a.eval with | some v => Instr.sliceBound v h code | none => pure 0).run E.P w = .ok l w := fun code => bnd_run (code := code) hl hr hg h3
  cases mx with
  | none =>
    simp only [Option.isSome_none, Bool.false_eq_true, if_false] at hm
    subst hm
    have hH : ∀ code, (match hi.map a.eval with | some v => Instr.sliceBound v m code | none => pure len).run E.P w = .ok h w := fun code => bnd_run (code := code) hh hr hg h4
    cases hi with
    | none =>
      simp only [bnd, Option.some.injEq] at hh
      subst hh
      cases lo with
      | none => simp only [bnd, Option.some.injEq] at hl; simp [Instr.sliceBounds, hl]
      | some x => have := hL .sliceB; simp only [Option.map_some] at this; simp [Instr.sliceBounds, this, Result.andThen]
    | some y =>
      have h6 := hH (if isS then .sliceAcap else .sliceAlen)
      simp only [Option.map_some] at h6
      cases lo with
      | none => simp only [bnd, Option.some.injEq] at hl; simp [Instr.sliceBounds, hl, h6, Result.andThen]
      | some x => have := hL .sliceB; simp only [Option.map_some] at this; simp [Instr.sliceBounds, this, h6, Result.andThen]
  | some z =>
    simp only [Option.isSome_some, if_true] at hm
    cases hi with
    | none => simp at hmi
    | some y =>
      have h7 := bnd_run (x := some z) (d := cap) (code := if isS then .slice3Acap else .slice3Alen) hm hr hg h5
      simp only [Option.map_some] at h7
      have h6 := bnd_run (x := some y) (d := len) (code := .slice3B) hh hr hg h4
      simp only [Option.map_some] at h6
      cases lo with
      | none => simp only [bnd, Option.some.injEq] at hl; simp [Instr.sliceBounds, hl, h6, h7, Result.andThen]
      | some x => have := hL .slice3C; simp only [Option.map_some] at this; simp [Instr.sliceBounds, this, h6, h7, Result.andThen]

theorem did_slice {t : TypeId} {x : Operand} {lo hi mx : Option Operand} (ho : o.op = .slice t x lo hi mx) (hs : aop E c o ρ H = some (v, H', .pure)) (hr : VT φ S w ρ a) (hg : GlobOk E.ng φ) : H' = H ∧ Did E o a φ S w v := by
  simp only [aop, ho] at hs
  split at hs
  · simp at hs
  rename_i hmi
  simp only [Bool.not_eq_true] at hmi
  simp only [Option.map_eq_some_iff, Prod.mk.injEq] at hs
  obtain ⟨v', h1, rfl, rfl, h2⟩ := hs
  refine ⟨rfl, ?_⟩
  have hx := hr.eval hg x
  unfold sliceA at h1
  split at h1
  · rename_i s he
    rw [he] at hx
    split at h1
    · simp at h1
    · rename_i h3
      split at h1
      · rename_i l h hu hl hh
        split at h1
        · rename_i hc
          injection h1 with h1; subst h1
          obtain ⟨b, hb, rfl⟩ := hx.str_inv
          have hmx : mx = none := by cases mx <;> simp_all
          subst hmx
          have hbd := bounds_run (lo := lo) (hi := hi) (mx := none) hr hg false b.size b.size l h b.size hl (by simpa using hh) (by simp) rfl hc.1 (by simpa using hc.2) (Nat.le_refl _)
          refine .same (v' := .string (b.extract l h)) ?_ ?_
          · simp only [execOp, ho, hb, Instr.sliceAt, Sem.run_bind, run_underlying hu, Result.andThen, Instr.slice, Option.map_none]
            simp only [Option.map_none] at hbd
            simp [hbd, run_underlying hu, Result.andThen]
          · have := V.str (φ := φ) (S := S) (w := w) (b.extract l h)
            have e : (b.extract l h).data.toList = (b.data.toList.drop l).take (h - l) := by simp [ByteArray.data_extract, List.extract_eq_take_drop]
            rw [e] at this
            exact this
        · simp at h1
      · simp at h1
  · rename_i he
    rw [he] at hx
    split at h1
    · rename_i sz hz hl hh hm
      injection h1 with h1; subst h1
      simp only [Option.bind_eq_some_iff] at hz
      obtain ⟨e, he', hsz⟩ := hz
      have hu := elemOf_inv he'
      obtain ⟨it, h3, rfl⟩ := sizeOf_inv hsz
      have hbd := bounds_run (lo := lo) (hi := hi) (mx := mx) hr hg true 0 0 0 0 0 hl hh (by cases mx <;> simp_all) hmi (Nat.le_refl _) (Nat.le_refl _) (Nat.le_refl _)
      refine .same' .nilS ?_
      simp only [execOp, ho, hx.nilS_inv, Instr.sliceAt, Sem.run_bind, run_underlying hu, Result.andThen, Instr.slice]
      simp [hbd, run_underlying hu, Result.andThen, run_sizeOf' h3]
    · simp at h1
  · rename_i es tg he
    rw [he] at hx
    split at h1
    · rename_i sz l h m hz hl hh hm
      split at h1
      · rename_i hc
        obtain ⟨hc1, hc2, hc3, hc4⟩ := hc
        injection h1 with h1; subst h1
        simp only [Option.bind_eq_some_iff] at hz
        obtain ⟨e, he', hsz⟩ := hz
        have hu := elemOf_inv he'
        obtain ⟨it, h3, rfl⟩ := sizeOf_inv hsz
        generalize hav : a.eval x = av at hx
        cases hx with
        | list _ _ b off cap sz' f hcap hz h4 h5 ht =>
          have hsub : ∀ i e', ((es.drop l).take (h - l))[i]? = some e' → es[l + i]? = some e' ∧ i < h - l := fun i e' hi => by
            rw [List.getElem?_take] at hi
            split at hi
            · exact ⟨by rw [List.getElem?_drop] at hi; exact hi, ‹_›⟩
            · simp at hi
          have hlen : ((es.drop l).take (h - l)).length = h - l := by simp; omega
          have mk : ∀ (m' : Nat) (tg' : Tag), h ≤ m' → m' ≤ cap → tg' = (if mx.isSome then .full else .frozen) → (mx.isSome = true → m' = h) →
              V φ S w (.list ((es.drop l).take (h - l)) tg') (.slice (some (if m' = l then ⟨b, off, none⟩ else ⟨b, off + l * it.size, none⟩)) (h - l) (m' - l)) := by
            intro m' tg' hm1 hm2 htg hm3
            by_cases he0 : m' = l
            · have : h - l = 0 := by omega
              rw [if_pos he0, this]
              have e0 : (es.drop l).take 0 = [] := by simp
              rw [e0]
              have e1 : m' - l = 0 := by omega
              rw [e1]
              refine .list [] tg' b off 0 1 (fun _ _ => Go.undef) (Nat.le_refl _) (by simp) (by simp) (by simp) ?_
              rw [htg]; split <;> simp [tagOk]
            · rw [if_neg he0]
              have := V.list (φ := φ) (S := S) (w := w) ((es.drop l).take (h - l)) tg' b (off + l * it.size) (m' - l) sz' (fun i j => f (l + i) j) (by rw [hlen]; omega)
                (fun e' he' => hz e' (List.drop_subset _ _ (List.take_subset _ _ he'))) (fun i e' j c hi hj => ?_) (fun i e' j c hi hj => ?_) ?_
              · rw [hlen] at this; exact this
              · obtain ⟨h6, h7⟩ := hsub i e' hi
                have e2 : it.size = sz' := by
                  have h8 := List.mem_of_getElem? h6
                  rw [← hz e' h8]
                  exact (by simpa using List.all_eq_true.1 hc4 e' h8 : e'.length = it.size).symm
                have h9 := h4 (l + i) e' j c h6 hj
                have e3 : off + l * it.size + i * sz' + j = off + (l + i) * sz' + j := by rw [e2, Nat.add_mul]; omega
                rw [e3]; exact h9
              · obtain ⟨h6, h7⟩ := hsub i e' hi
                exact h5 (l + i) e' j c h6 hj
              · rw [htg, hlen]
                split
                · rename_i h6
                  have := hm3 h6
                  simp only [tagOk]; omega
                · trivial
          cases hmx : mx with
          | none =>
            subst hmx
            have hbd := bounds_run (lo := lo) (hi := hi) (mx := none) hr hg true es.length cap l h cap hl hh (by simp) rfl hc1 (by omega) (Nat.le_refl _)
            refine .same' (mk cap _ (by omega) (Nat.le_refl _) (by simp) (by simp)) ?_
            simp only [execOp, ho, hav, Instr.sliceAt, Sem.run_bind, run_underlying hu, Result.andThen, Instr.slice, Option.map_none]
            simp only [Option.map_none] at hbd
            by_cases e0 : cap = l
            · subst e0; simp [hbd, run_underlying hu, Result.andThen, run_sizeOf' h3, addr_add]
            · simp [hbd, run_underlying hu, Result.andThen, run_sizeOf' h3, addr_add, e0]
          | some z =>
            subst hmx
            simp only [Option.isSome_some, true_implies] at hc3
            subst hc3
            have hm' : bnd E.ng ρ (some z) cap = some m := by simpa [bnd] using hm
            have hbd := bounds_run (lo := lo) (hi := hi) (mx := some z) hr hg true es.length cap l m m hl hh (by simpa using hm') (by simpa using hmi) hc1 (Nat.le_refl _) (by omega)
            refine .same' (mk m _ (Nat.le_refl _) (by omega) (by simp) (by simp)) ?_
            simp only [execOp, ho, hav, Instr.sliceAt, Sem.run_bind, run_underlying hu, Result.andThen, Instr.slice]
            simp only [Option.map_some] at hbd
            by_cases e0 : m = l
            · subst e0; simp [hbd, run_underlying hu, Result.andThen, run_sizeOf' h3, addr_add]
            · simp [hbd, run_underlying hu, Result.andThen, run_sizeOf' h3, addr_add, e0]
      · simp at h1
    · simp at h1
  · rename_i d' off' len sz' he
    rw [he] at hx
    split at h1
    · simp at h1
    · rename_i h3
      split at h1
      · rename_i sz2 l h' hz hl hh
        split at h1
        · rename_i hc
          obtain ⟨rfl, hc3, hc4, hc5⟩ := hc
          simp only [Option.some.injEq] at h1
          subst h1
          simp only [Option.bind_eq_some_iff] at hz
          obtain ⟨e, he', hsz⟩ := hz
          have hu := elemOf_inv he'
          obtain ⟨it, h4, h5⟩ := sizeOf_inv hsz
          have hmx : mx = none := by cases mx <;> simp_all
          subst hmx
          generalize hav : a.eval x = av at hx
          cases hx with
          | arr _ _ _ _ b base total cap hφ hcap ht =>
            have hbd := bounds_run (lo := lo) (hi := hi) (mx := none) hr hg true len cap l h' cap hl hh (by simp) rfl hc4 (by omega) (Nat.le_refl _)
            have hsub : off' + l * sz2 + (cap - l) * sz2 = total := by
              have : l * sz2 + (cap - l) * sz2 = cap * sz2 := by rw [← Nat.add_mul]; congr 1; omega
              omega
            refine .same' (.arr d' (off' + l * sz2) (h' - l) sz2 b base total (cap - l) hφ (by omega) hsub) ?_
            simp only [execOp, ho, hav, Instr.sliceAt, Sem.run_bind, run_underlying hu, Result.andThen, Instr.slice, Option.map_none]
            simp only [Option.map_none] at hbd
            by_cases e0 : cap - l = 0
            · have hl0 : l = 0 := hc5 (by omega)
              subst hl0
              simp only [Nat.sub_zero] at e0
              subst e0; simp [hbd, run_underlying hu, Result.andThen, run_sizeOf' h4, addr_add]
            · simp [hbd, run_underlying hu, Result.andThen, run_sizeOf' h4, addr_add, e0, h5, Nat.add_assoc]
              intro h; omega
        · simp at h1
      · simp at h1
  · simp at h1

end Go.Am

/- AM against the model: conversions; all pure operations together. -/
namespace Go.Am
open Go

variable {E : Env} {c : Bool} {o : Oper} {ρ : Tmps} {H H' : Heap} {v : AV} {φ : Phi} {S : Cells} {w : World} {a : Act}

theorem bytesOfElems_get {es : List (List AV)} {s : List UInt8} (h : bytesOfElems es = some s) : s.length = es.length ∧ ∀ (i : Nat) (e : List AV), es[i]? = some e → ∃ b, s[i]? = some b ∧ e = [.int .u8 (b.toNat : Int)] := by
  induction es generalizing s with
  | nil => simp [bytesOfElems] at h; subst h; simp
  | cons x es ih =>
    unfold bytesOfElems at h
    split at h
    · simp at *
    · rename_i n es' heq
      simp only [List.cons.injEq] at heq
      obtain ⟨rfl, rfl⟩ := heq
      split at h
      · rename_i hn
        simp only [Option.map_eq_some_iff] at h
        obtain ⟨s', h1, rfl⟩ := h
        obtain ⟨h2, h3⟩ := ih h1
        refine ⟨by simp [h2], fun i e hi => ?_⟩
        cases i with
        | zero =>
          simp at hi
          subst hi
          refine ⟨_, rfl, ?_⟩
          have h4 : n.toNat < 256 := by omega
          have : ((UInt8.ofNat n.toNat).toNat : Int) = n := by
            rw [UInt8.toNat_ofNat', Nat.mod_eq_of_lt (by simpa using h4)]
            omega
          rw [this]
        | succ i => simpa using h3 i e (by simpa using hi)
      · simp at h
    · simp at h

theorem grow_of_eq {S : Cells} {w w1 w2 : World} {S' : Cells} (h : Grow S w S' w1) (e : w2 = w1) : Grow S w S' w2 := e ▸ h

theorem did_convert {s d : TypeId} {x : Operand} (ho : o.op = .convert s d x) (hs : aop E c o ρ H = some (v, H', .pure)) (hr : VT φ S w ρ a) (hg : GlobOk E.ng φ)
    (hA : ∀ b k, S b k → ∃ v, at_ w b k = some v) : H' = H ∧ Did E o a φ S w v := by
  simp only [aop, ho] at hs
  have hx := hr.eval hg x
  have hex : execOp a.eval o = (do pure (.value (← convert s d (a.eval x)))) := by simp [execOp, ho]
  split at hs
  · rename_i k' k n k'' hus hud he
    simp only [Option.some.injEq, Prod.mk.injEq] at hs
    obtain ⟨rfl, rfl, -⟩ := hs
    rw [he] at hx
    refine ⟨rfl, .same' (.int _ _) ?_⟩
    rw [hex]
    simp [convert, hx.int_inv, run_underlying hus, run_underlying hud, Result.andThen, Conv.intToInt]
  · rename_i bs hus hud he
    simp only [Option.some.injEq, Prod.mk.injEq] at hs
    obtain ⟨rfl, rfl, -⟩ := hs
    rw [he] at hx
    obtain ⟨b, hb, rfl⟩ := hx.str_inv
    refine ⟨rfl, .same' (.str b) ?_⟩
    rw [hex]
    simp [convert, hb, run_underlying hus, run_underlying hud, Result.andThen]
  · rename_i e bs hus hud he
    rw [he] at hx
    split at hs
    · rename_i hue
      split at hs
      · rename_i hle
        simp only [Option.some.injEq, Prod.mk.injEq] at hs
        obtain ⟨rfl, rfl, -⟩ := hs
        obtain ⟨b, hb, rfl⟩ := hx.str_inv
        have hrun := run_bytes_of_string (P := E.P) w s d e b hus hud hue
        have hg1 := (grow_draw S w (w.drawn + 1)).trans (grow_row S { w with drawn := w.drawn + 1 } (bytesRow b (grownCap w b.size 0 e)) e
          ((bytesRow b (grownCap w b.size 0 e)).size, (bytesRow b (grownCap w b.size 0 e)).size + 1))
        refine ⟨rfl, .slice (some ⟨w.heap.size, 0, none⟩) b.size (grownCap w b.size 0 e), _, _, ?_, hg1, ?_⟩
        · rw [hex]
          simp only [Sem.run_bind, hb, hrun, Result.andThen]
          rfl
        · have hsz : b.size = (b.data.toList.map fun b => [AV.int .u8 (b.toNat : Int)]).length := by simp
          have hl : ∀ i e', (b.data.toList.map fun b => [AV.int .u8 (b.toNat : Int)])[i]? = some e' → ∃ (hi : i < b.data.size), e' = [AV.int .u8 ((b.data[i]).toNat : Int)] := fun i e' hi => by
            simp only [List.getElem?_map, Option.map_eq_some_iff] at hi
            obtain ⟨u, h1, rfl⟩ := hi
            obtain ⟨h2, h3⟩ := List.getElem?_eq_some_iff.1 h1
            simp at h2
            exact ⟨h2, by simp [← h3]⟩
          have hV := V.list (φ := φ) (S := fun b_1 k => S b_1 k ∨ b_1 = w.heap.size ∧ k < (bytesRow b (grownCap w b.size 0 e)).size) (w := { w with drawn := w.drawn + 1, heap := w.heap.push (.cells (bytesRow b (grownCap w b.size 0 e)) e ((bytesRow b (grownCap w b.size 0 e)).size, (bytesRow b (grownCap w b.size 0 e)).size + 1)) })
            (b.data.toList.map fun b => [AV.int .u8 (b.toNat : Int)]) .frozen w.heap.size 0 (grownCap w b.size 0 e) 1 (fun i _ => .int .u8 ((b.data.getD i 0).toNat : Int)) (by rw [← hsz]; exact grownCap_ge w b.size 0 e) (by simp) (fun i e' j c h1 h2 => ?_) (fun i e' j c h1 h2 => ?_) trivial
          · rw [← hsz] at hV; exact hV
          · obtain ⟨hi, rfl⟩ := hl i e' h1
            have hj : j = 0 := by have := (List.getElem?_eq_some_iff.1 h2).1; simpa using this
            subst hj
            have h3 := bytesRow_at b (grownCap w b.size 0 e) i hi
            have h4 : i < (bytesRow b (grownCap w b.size 0 e)).size := (Array.getElem?_eq_some_iff.1 h3).1
            refine ⟨.inr ⟨rfl, by simpa using h4⟩, ?_⟩
            have := at_push_row { w with drawn := w.drawn + 1 } (bytesRow b (grownCap w b.size 0 e)) e ((bytesRow b (grownCap w b.size 0 e)).size, (bytesRow b (grownCap w b.size 0 e)).size + 1) (0 + i * 1 + 0)
            simp only [Nat.zero_add, Nat.mul_one, Nat.add_zero] at this ⊢
            rw [this, h3]
            have hi' : i < b.size := hi
            simp [Array.getD, hi']
          · obtain ⟨hi, rfl⟩ := hl i e' h1
            have hj : j = 0 := by have := (List.getElem?_eq_some_iff.1 h2).1; simpa using this
            subst hj
            simp at h2
            subst h2
            have hi' : i < b.size := hi
            have : b.data.getD i 0 = b.data[i] := by simp [Array.getD, hi']
            rw [this]
            exact .int _ _
      · simp at hs
    · simp at hs
  · rename_i e hus hud
    split at hs
    · rename_i es hue hel
      simp only [Option.map_eq_some_iff, Prod.mk.injEq] at hs
      obtain ⟨bs, h1, rfl, rfl, h2⟩ := hs
      refine ⟨rfl, ?_⟩
      obtain ⟨h3, h4⟩ := bytesOfElems_get h1
      generalize evalOp E.ng ρ x = ax at *
      have hV : V φ S w (.str bs) (.string ⟨bs.toArray⟩) := by
        have := V.str (φ := φ) (S := S) (w := w) ⟨bs.toArray⟩
        simpa using this
      cases ax <;> simp only [elems, reduceCtorEq] at hel
      case nilS =>
        injection hel with hel
        subst hel
        have : bs = [] := List.eq_nil_of_length_eq_zero (by simpa using h3)
        subst this
        refine .same (v' := .string ByteArray.empty) ?_ ?_
        · rw [hex, hx.nilS_inv]
          simp only [Sem.run_bind, run_convert_bytes_nil (P := E.P) (w := w) s e hus hue 0 0 d hud, Result.andThen]
          rfl
        · exact hV
      case list es' t =>
        split at hel
        · rename_i hal
          injection hel with hel
          subst hel
          generalize hav : a.eval x = av at hx
          cases hx with
          | list _ _ b off cap sz f hcap hz h5 h6 ht =>
            have hlen : bs.length = es'.length := by simpa using h3
            have hrun := run_convert_bytes_back (P := E.P) w s d e ⟨b, off, none⟩ cap bs hus hue hud (fun j hj => by
              have hj' : j < es'.length := by omega
              have h7 := h4 j (freezeL es'[j]) (by simp [hj'])
              obtain ⟨u, h8, h9⟩ := h7
              have h10 : es'[j].length = 1 := by
                have := congrArg List.length h9
                simpa [freezeL] using this
              obtain ⟨y, hy⟩ := List.length_eq_one_iff.1 h10
              have hsz : sz = 1 := by rw [← hz es'[j] (by simp), h10]
              subst hsz
              have h11 := h5 j es'[j] 0 y (by simp [hj']) (by simp [hy])
              have h12 := h6 j es'[j] 0 y (by simp [hj']) (by simp [hy])
              rw [hy] at h9
              simp only [freezeL, List.map_cons, List.map_nil, List.cons.injEq, and_true] at h9
              have h13 : y = .int .u8 (u.toNat : Int) := by
                cases y <;> simp [AV.freeze] at h9
                simp [h9]
              subst h13
              have h14 := h12.int_inv
              have h15 := h11.2
              rw [h14] at h15
              have h16 : bs[j] = u := by rw [List.getElem?_eq_getElem hj] at h8; injection h8
              rw [h16, addr_add]
              simpa [at_] using h15)
            refine .same (v' := .string ⟨bs.toArray⟩) ?_ hV
            rw [hex, hav]
            rw [hlen] at hrun
            simp only [Sem.run_bind, hrun, Result.andThen]
            rfl
        · simp at hel
      case arr => simp at h2
    · simp at hs
  · simp at hs

end Go.Am


/- AM against the model: pure operations together; operations that make a thing; loads. -/
namespace Go.Am
open Go

variable {E : Env} {c : Bool} {o : Oper} {ρ : Tmps} {H H' : Heap} {v : AV} {φ : Phi} {S : Cells} {w : World} {a : Act}

theorem aop_pure (hs : aop E c o ρ H = some (v, H', .pure)) (hr : VT φ S w ρ a) (hg : GlobOk E.ng φ) (hA : ∀ b k, S b k → ∃ v, at_ w b k = some v) : H' = H ∧ Did E o a φ S w v := by
  cases ho : o.op with
  | move x => exact did_move (.inl ho) hs hr hg
  | assign x => exact did_move (.inr ho) hs hr hg
  | pick x y z => exact did_pick ho hs hr hg
  | box t x => exact did_box ho hs hr hg hA
  | build t ps => exact did_build ho hs hr hg
  | buildSlice t n ps => exact did_buildSlice ho hs hr hg hA
  | load t x => exact did_load ho hs hr hg
  | nilCheck x => exact did_nilCheck ho hs hr hg
  | binOp op t x y u => exact did_binOp ho hs hr hg
  | unOp op t x => exact did_unOp ho hs hr hg
  | convert s d x => exact did_convert ho hs hr hg hA
  | makeInterface t x => exact did_makeInterface ho hs hr hg
  | makeFunc f first caps =>
    cases f with
    | func f =>
      obtain ⟨l⟩ := first
      cases l with
      | nil => exact did_makeFunc ho hs hr hg
      | cons x l => simp [aop, ho] at hs
    | _ => simp [aop, ho] at hs
  | slice t x lo hi mx => exact did_slice ho hs hr hg
  | fieldAddr t x f => exact did_fieldAddr ho hs hr hg
  | indexAddr t x i => exact did_indexAddr ho hs hr hg
  | index t x i => exact did_index ho hs hr hg
  | typeAssert x s t ok => exact did_typeAssert ho hs hr hg
  | extract x i => exact did_extract ho hs hr hg
  | call k =>
    obtain ⟨callee, ⟨args⟩, ⟨ts⟩⟩ := k
    cases callee with
    | builtin b =>
      by_cases hb : b = .len
      · subst hb; exact did_len ho hs hr hg
      · exfalso
        simp only [aop, ho] at hs
        split at hs
        · exact hb rfl
        · split at hs
          case h_3 => simp at hs
          all_goals
            split at hs
            · simp only [Option.bind_eq_some_iff] at hs
              obtain ⟨xs, h1, h2⟩ := hs
              split at h2
              · simp only [Option.map_eq_some_iff, Prod.mk.injEq] at h2
                obtain ⟨r, h3, h4, h5, h6⟩ := h2
                unfold appKind at h6
                split at h6 <;> first | simp at h6 | (split at h6 <;> simp at h6)
              · simp at h2
            · simp at hs
        · simp only [Option.bind_eq_some_iff, Option.map_eq_some_iff, Prod.mk.injEq] at hs
          obtain ⟨sz, -, xs, -, y, -, -, -, h⟩ := hs
          simp at h
        · simp at hs
    | value f => simp [aop, ho] at hs
    | invoke r m => simp [aop, ho] at hs
  | alloc t => simp only [aop, ho, Option.bind_eq_some_iff] at hs; obtain ⟨z, h1, h2⟩ := hs; simp at h2
  | store t x y =>
    simp only [aop, ho] at hs
    split at hs
    · split at hs
      · simp only [Option.bind_eq_some_iff, Option.map_eq_some_iff] at hs
        obtain ⟨cs, h1, cs', h2, h3⟩ := hs
        simp at h3
      · simp at hs
    · simp at hs
  | makeMap t r =>
    cases r <;> simp [aop, ho] at hs
  | makeSlice t l cp =>
    simp only [aop, ho] at hs
    split at hs
    · split at hs
      · split at hs <;> simp at hs
      · simp at hs
    · simp at hs
  | _ => simp [aop, ho] at hs

/-- An operation made a thing of the heap. -/
def Made (E : Env) (o : Oper) (a : Act) (φ : Phi) (S : Cells) (w : World) (H : Heap) (v : AV) (H' : Heap) : Prop :=
  ∃ ob loc v' w', H' = H.push ob ∧ (execOp a.eval o).run E.P w = .ok (.value v') w' ∧ Grow S w S w' ∧ (∀ b k, loc.has b k → w.heap.size ≤ b) ∧
    ∀ φ' : Phi, (∀ i l, φ i = some l → φ' i = some l) → φ' H.next = some loc → ObjOk φ' S w' ob loc ∧ V φ' S w' v v'

theorem grow_new (S : Cells) (w : World) (ob : Go.Obj) : Grow S w S { w with heap := w.heap.push ob } := by
  refine ⟨fun b o h => ?_, by simp, rfl, rfl, fun b k h => h, fun b k h => .inl h⟩
  have := lt_of_heap h
  simp [Array.getElem?_push_lt this]
  simpa [Array.getElem?_eq_getElem this] using h

theorem made_cells {t : TypeId} {cs : List AV} {vs : Array Value} {n : Nat} (hrun : (execOp a.eval o).run E.P w = .ok (.value (.pointer (some ⟨w.heap.size, 0, none⟩))) { w with heap := w.heap.push (.cells vs t) })
    (hA : ∀ b k, S b k → ∃ v, at_ w b k = some v) (hc : VL φ S w cs vs.toList) (hn : n = H.next) : Made E o a φ S w H (.ptr n 0) (H.push (.cells cs)) := by
  subst hn
  refine ⟨.cells cs, .obj w.heap.size 0 vs.size, _, _, rfl, hrun, grow_new S w _, fun b k h => by rw [h.1]; exact Nat.le_refl _, fun φ' h1 h2 => ⟨?_, .ptr _ 0 _ 0 _ h2⟩⟩
  have hm := hc.mono h1 ((grow_new S w (.cells vs t)).vmono hA)
  refine ⟨by rw [hc.1]; simp, ⟨vs, t, by simp, by simp⟩, fun j c hj => ?_⟩
  obtain ⟨u, h3, h4⟩ := hm.get hj
  exact ⟨u, by rw [Nat.zero_add, at_push_row]; simpa using h3, h4⟩

theorem aop_alloc (hcls : clsOf c o = .alloc) (hs : aop E c o ρ H = some (v, H', .alloc)) (hr : VT φ S w ρ a) (hg : GlobOk E.ng φ) (hA : ∀ b k, S b k → ∃ v, at_ w b k = some v) : Made E o a φ S w H v H' := by
  cases ho : o.op with
  | alloc t =>
    simp only [aop, ho, Option.bind_eq_some_iff, Option.some.injEq, Prod.mk.injEq] at hs
    obtain ⟨z, hz, rfl, rfl, -⟩ := hs
    obtain ⟨i, zv, h1, h2, rfl⟩ := zeroOf_inv hz
    refine made_cells (t := t) (vs := zv.cells) ?_ hA (zero_cells zv) rfl
    simp [execOp, ho, Instr.alloc, run_zeroValue h1 h2, Result.andThen, newVar, newRow]
  | box t x =>
    simp only [aop, ho] at hs
    split at hs
    · rename_i h1
      split at hs
      · simp at hs
      · simp only [Option.some.injEq, Prod.mk.injEq] at hs
        obtain ⟨rfl, rfl, -⟩ := hs
        refine made_cells (t := t) (vs := (a.eval x).cells) ?_ hA ((hr.eval hg x).cells1 h1) rfl
        simp [execOp, ho, Instr.box, Result.andThen, newVar, newRow]
    · simp at hs
  | buildSlice t n ps =>
    simp only [aop, ho] at hs
    split at hs
    · rename_i z sz hz
      simp only [Option.bind_eq_some_iff, Option.map_eq_some_iff, Prod.mk.injEq] at hz
      obtain ⟨e, he, z', hz', sz', hsz, rfl, rfl⟩ := hz
      have hu := elemOf_inv he
      obtain ⟨it, zv, h3, h4, rfl⟩ := zeroOf_inv hz'
      obtain ⟨it', h3', h5⟩ := sizeOf_inv hsz
      rw [h3] at h3'
      injection h3' with h3'
      subst h3'
      split at hs
      · rename_i hc
        obtain ⟨hc1, hc2, hc3, hc4⟩ := hc
        simp only [Option.map_eq_some_iff] at hs
        obtain ⟨es, h6, h7⟩ := hs
        split at h7
        · simp only [Prod.mk.injEq] at h7
          obtain ⟨rfl, rfl, -⟩ := h7
          have hzc := zero_cells (φ := φ) (S := S) (w := w) zv
          have hzl : zv.cells.size = sz' := by rw [← hc2, hzc.1]; simp
          have hs0 : sz' ≠ 0 := by omega
          have hfl : VL φ S w (rep n (ofConst zv).cells).flatten (((Array.range (n * sz')).map (fun i => zv.cells[i % zv.cells.size]!)).toList) := by
            rw [← hzl, range_zero zv.cells n (by omega)]
            simp only [rep]
            clear hc1 hc3 h6 ho
            induction n with
            | zero => exact VL.nil
            | succ n ih => simp only [List.replicate_succ, List.flatten_cons]; exact hzc.append ih
          obtain ⟨ws, h8, h9, h10, h11⟩ := fillElems_sound (sz := sz') _ _ _ _ _ (parts_fst (a := a) E.ng ps) (parts_snd hr hg ps)
            (fun e he => by simp only [rep] at he; rw [List.eq_of_mem_replicate he, hc2]) hfl h6
          have hel : es.length = n := by rw [h11]; simp [rep]
          have hwl : ws.size = n * sz' := by rw [← hel, ← flatten_length h10, h9.1]; simp
          have hm := fun (φ' : Phi) (h1 : ∀ i l, φ i = some l → φ' i = some l) => h9.mono h1 ((grow_new S w (.cells ws e)).vmono hA)
          refine ⟨.cells es.flatten, .obj w.heap.size 0 (n * sz'), .slice (some ⟨w.heap.size, 0, none⟩) n n, _, rfl, ?_, grow_new S w (.cells ws e), fun b k h => by rw [h.1]; exact Nat.le_refl _, fun φ' h12 h13 => ⟨?_, ?_⟩⟩
          · simp only [execOp, ho, Instr.buildSlice, Sem.run_bind, run_underlying hu, Result.andThen, run_sizeOf' h3, h5]
            rw [if_neg (by omega)]
            have : n * sz' ≠ 0 := Nat.mul_ne_zero (by omega) hs0
            simp only [this, if_false]
            simp [run_zeroValue h3 h4, Result.andThen, newRow]
            have h8' := h8
            simp at h8'
            rw [h8']
            rfl
          · refine ⟨by rw [flatten_length h10, hel]; exact Nat.le_refl _, ⟨ws, e, by simp, by omega⟩, fun j c hj => ?_⟩
            obtain ⟨u, h14, h15⟩ := (hm φ' h12).get hj
            exact ⟨u, by rw [Nat.zero_add, at_push_row]; simpa using h14, h15⟩
          · exact .arr _ 0 n sz' w.heap.size 0 (n * sz') n h13 (Nat.le_refl _) (by omega)
        · simp at h7
      · split at hs <;> simp at hs
    · simp at hs
  | makeMap t r =>
    cases r with
    | some x => simp [aop, ho] at hs
    | none =>
      simp only [aop, ho, Option.some.injEq, Prod.mk.injEq] at hs
      obtain ⟨rfl, rfl, -⟩ := hs
      refine ⟨.map [], .map w.heap.size, .map (some w.heap.size), _, rfl, ?_, grow_new S w (.map #[] 0), fun b k h => Nat.le_of_eq h.symm, fun φ' h1 h2 => ⟨⟨#[], 0, by simp, rfl, by simp⟩, .map _ _ h2⟩⟩
      simp [execOp, ho, Instr.makeMap, Result.andThen]
  | call k =>
    simp only [clsOf, ho] at hcls
    split at hcls <;> first | (simp_all; done) | (split at hcls <;> simp at hcls)
  | _ => simp [clsOf, ho] at hcls

theorem part_get {cs ds : List AV} {off n : Nat} (h : part cs off n = some ds) : ds = (cs.drop off).take n ∧ off + n ≤ cs.length := by
  unfold part at h
  split at h
  · injection h with h; exact ⟨h.symm, ‹_›⟩
  · simp at h

theorem aop_load {id off n : Nat} (hcls : clsOf c o = .load) (hs : aop E c o ρ H = some (v, H', .load id off n)) : H' = H ∧ ∃ cs, H.rng id off n = some cs ∧ cs.length = n ∧
    ∀ (φ : Phi) (S : Cells) (w : World) (a : Act), VT φ S w ρ a → GlobOk E.ng φ → (∀ b base total, φ id = some (.obj b base total) → Holds φ S w b (base + off) cs) →
      ∃ v', (execOp a.eval o).run E.P w = .ok (.value v') w ∧ V φ S w v v' := by
  cases ho : o.op with
  | load t x =>
    simp only [aop, ho] at hs
    split at hs
    · split at hs <;> simp at hs
    · simp at hs
    · rename_i n' id' off' hsz ha he
      simp only [Option.map_eq_some_iff, Prod.mk.injEq, Kind.load.injEq] at hs
      obtain ⟨cs, h1, rfl, rfl, rfl, rfl, rfl⟩ := hs
      have hlen : cs.length = n' := by
        simp only [Heap.rng, Option.bind_eq_some_iff] at h1
        obtain ⟨ds, -, h2⟩ := h1
        obtain ⟨h3, h4⟩ := part_get h2
        rw [h3]; simp; omega
      refine ⟨rfl, cs, h1, hlen, fun φ S w a hr hg hh => ?_⟩
      have hx := hr.eval hg x
      rw [he] at hx
      generalize hav : a.eval x = av at hx
      cases hx with
      | ptr _ _ b base total h =>
        obtain ⟨vs, h2, h3⟩ := load_many hsz ha hlen (hh b base total h)
        exact ⟨.agg vs.toArray, by simp [execOp, ho, hav, Instr.loadAt, Instr.sureAddr, h2, Result.andThen], V.agg' (by simpa using h3.freeze)⟩
    · rename_i id' off' ha he
      split at hs
      · rename_i u h1
        simp only [Option.some.injEq, Prod.mk.injEq, Kind.load.injEq] at hs
        obtain ⟨rfl, rfl, rfl, rfl, rfl⟩ := hs
        refine ⟨rfl, [u], h1, rfl, fun φ S w a hr hg hh => ?_⟩
        have hx := hr.eval hg x
        rw [he] at hx
        generalize hav : a.eval x = av at hx
        cases hx with
        | ptr _ _ b base total h =>
          obtain ⟨u', h2, h3⟩ := load_one (P := E.P) (t := t) ha (hh b base total h)
          exact ⟨u', by simp [execOp, ho, hav, Instr.loadAt, Instr.sureAddr, h2, Result.andThen], h3⟩
      · simp at hs
    · simp at hs
  | call k =>
    simp only [clsOf, ho] at hcls
    split at hcls <;> first | (simp_all; done) | (split at hcls <;> simp at hcls)
  | box t x => simp only [clsOf, ho] at hcls; split at hcls <;> simp at hcls
  | buildSlice t n ps => simp only [clsOf, ho] at hcls; split at hcls <;> simp at hcls
  | _ => simp [clsOf, ho] at hcls

theorem next_push (H : Heap) (o : Obj) : (H.push o).next = H.next + 1 := by simp [Heap.next, Heap.push]
theorem get_push (H : Heap) (o : Obj) (i : Nat) : (H.push o).get i = if i = H.next then some o else H.get i := rfl
theorem get_lt {H : Heap} {i : Nat} {o : Obj} (h : H.get i = some o) : i < H.next := by
  induction H with
  | nil => simp [Heap.get] at h
  | cons x H ih =>
    simp only [Heap.get] at h
    split at h
    · rename_i e; simp [Heap.next, e]
    · have := ih h; simp [Heap.next] at *; omega
theorem get_put (H : Heap) (i j : Nat) (o : Option Obj) : (H.put i o).get j = if j = i ∧ i < H.next then o else H.get j := by
  induction H with
  | nil => simp [Heap.put, Heap.get, Heap.next]
  | cons x H ih =>
    have hl : ∀ (o : Option Obj), List.length (Heap.put H i o) = List.length H := by
      intro o
      clear ih
      induction H with
      | nil => rfl
      | cons y H ih => simp only [Heap.put]; split <;> simp [*]
    simp only [Heap.put]
    split
    · rename_i e
      subst e
      simp only [Heap.get, Heap.next, List.length_cons]
      by_cases h : j = List.length H
      · simp [h]
      · simp [h]
    · rename_i e
      simp only [Heap.get, hl, ih, Heap.next, List.length_cons]
      by_cases h : j = List.length H
      · simp [h]; intro h1; omega
      · by_cases h2 : j = i
        · subst h2
          by_cases h3 : j < List.length H
          · simp [h, h3, Nat.lt_succ_of_lt h3]
          · simp [h, h3]; intro h4; omega
        · simp [h, h2]
theorem next_put (H : Heap) (i : Nat) (o : Option Obj) : (H.put i o).next = H.next := by
  simp only [Heap.next]
  induction H with
  | nil => rfl
  | cons y H ih => simp only [Heap.put]; split <;> simp [*]

/-- What an operation did that may touch the heap. -/
def Did2 (E : Env) (o : Oper) (a : Act) (φ : Phi) (S : Cells) (w : World) (H : Heap) (v : AV) (H' : Heap) : Prop :=
  ∃ r v' φ' S' w', (execOp a.eval o).run E.P w = .ok r w' ∧ (r = .value v' ∨ (r = .skip ∧ v' = Go.undef)) ∧ Step φ S H w φ' S' H' w' ∧ St φ' S' H' w' ∧ V φ' S' w' v v'

theorem Did.did2 (h : Did E o a φ S w v) (hst : St φ S H w) : Did2 E o a φ S w H v H := by
  obtain ⟨v', S', w', h1, h2, h3⟩ := h
  exact ⟨_, v', φ, S', w', h1, .inl rfl, h2.step H, hst.grow h2, h3⟩

/-- The places, with one more. -/
def Phi.add (φ : Phi) (i : Nat) (l : Loc) : Phi := fun j => if j = i then some l else φ j

theorem Phi.add_ext {φ : Phi} {i : Nat} {l : Loc} (h : φ i = none) : ∀ j m, φ j = some m → φ.add i l j = some m := fun j m hj => by
  simp only [Phi.add]
  split
  · rename_i e; subst e; rw [h] at hj; simp at hj
  · exact hj

theorem StG.push {φ : Phi} {S : Cells} {H : Heap} {w : World} (h : St φ S H w) {ob : Obj} {loc : Loc} (hn : φ H.next = none) (ho : ObjOk (φ.add H.next loc) S w ob loc)
    (hnew : ∀ b k, loc.has b k → ¬ S b k ∧ ∀ b' k', M φ H b' k' → ¬ (b = b' ∧ k = k')) : St (φ.add H.next loc) S (H.push ob) w := by
  have hφ := Phi.add_ext (l := loc) hn
  have hold : ∀ i o l, (H.push ob).get i = some o → φ.add H.next loc i = some l → (i = H.next ∧ o = ob ∧ l = loc) ∨ (i ≠ H.next ∧ H.get i = some o ∧ φ i = some l) := fun i o l h1 h2 => by
    rw [get_push] at h1
    simp only [Phi.add] at h2
    split at h1
    · rename_i e; simp [e] at h1 h2; exact .inl ⟨e, h1.symm, h2.symm⟩
    · rename_i e; simp [e] at h2; exact .inr ⟨e, h1, h2⟩
  refine ⟨fun i o l h1 h2 => ?_, fun i j oi oj li lj hne h1 h2 h3 h4 b k hb => ?_, fun b k hs hm => ?_, h.sA⟩
  · rcases hold i o l h1 h2 with ⟨-, rfl, rfl⟩ | ⟨-, h3, h4⟩
    · exact ho
    · exact (h.obj i o l h3 h4).mono hφ (fun b k hs => ⟨hs, rfl⟩) (fun _ _ _ _ h => h) (fun _ _ _ h => h) (fun _ _ _ _ h => h)
  · rcases hold i oi li h1 h3 with ⟨rfl, rfl, rfl⟩ | ⟨hi, h5, h6⟩
    · rcases hold j oj lj h2 h4 with ⟨rfl, -, -⟩ | ⟨-, h7, h8⟩
      · exact absurd rfl hne
      · exact fun hb' => (hnew b k hb).2 b k ⟨j, oj, lj, h7, h8, hb'⟩ ⟨rfl, rfl⟩
    · rcases hold j oj lj h2 h4 with ⟨rfl, rfl, rfl⟩ | ⟨-, h7, h8⟩
      · exact fun hb' => (hnew b k hb').2 b k ⟨i, oi, li, h5, h6, hb⟩ ⟨rfl, rfl⟩
      · exact h.disj i j oi oj li lj hne h5 h7 h6 h8 b k hb
  · obtain ⟨i, o, l, h1, h2, h3⟩ := hm
    rcases hold i o l h1 h2 with ⟨-, -, rfl⟩ | ⟨-, h4, h5⟩
    · exact (hnew b k h3).1 hs
    · exact h.sM b k hs ⟨i, o, l, h4, h5, h3⟩

theorem Made.did2 (h : Made E o a φ S w H v H') (hst : St φ S H w) (hn : φ H.next = none) : Did2 E o a φ S w H v H' := by
  obtain ⟨ob, loc, v', w', rfl, h1, h2, h3, h4⟩ := h
  have hφ := Phi.add_ext (l := loc) hn
  obtain ⟨h5, h6⟩ := h4 (φ.add H.next loc) hφ (by simp [Phi.add])
  refine ⟨_, v', φ.add H.next loc, S, w', h1, .inl rfl, ⟨hφ, fun i hi => ?_, fun _ _ h => h, h2.keeps _, fun b k hm => ?_, fun _ _ h => .inl h, by rw [next_push]; omega⟩, ?_, h6⟩
  · simp only [Phi.add] at hi
    split at hi
    · rename_i e; rw [next_push]; omega
    · exact absurd rfl hi
  · obtain ⟨i, o', l, h7, h8, h9⟩ := hm
    rw [get_push] at h7
    simp only [Phi.add] at h8
    split at h7
    · rename_i e
      simp [e] at h8
      subst h8
      exact .inr (h3 b k h9)
    · rename_i e
      simp [e] at h8
      exact .inl ⟨i, o', l, h7, h8, h9⟩
  · refine (hst.grow h2).push hn h5 fun b k hb => ⟨fun hs => ?_, fun b' k' hm => ?_⟩
    · obtain ⟨u, hu⟩ := hst.sA b k hs
      have := at_lt hu
      have := h3 b k hb
      omega
    · rintro ⟨rfl, rfl⟩
      have := has_lt hst hm
      have := h3 b k hb
      omega

end Go.Am

/- AM against the model: what writing does to the state. -/
namespace Go.Am
open Go

variable {E : Env} {c : Bool} {o : Oper} {ρ : Tmps} {H H' : Heap} {v : AV} {φ : Phi} {S : Cells} {w w' : World} {a : Act}

/-- Cells were written. -/
structure Wr (w : World) (b k0 : Nat) (vs : List Value) (w' : World) : Prop where
  blk : ∃ c c' e, w.heap[b]? = some (.cells c e (0, 0)) ∧ w'.heap[b]? = some (.cells c' e (0, 0)) ∧ c'.size = c.size ∧ (∀ k : Nat, k < k0 ∨ k0 + vs.length ≤ k → c'[k]? = c[k]?) ∧ ∀ j : Nat, j < vs.length → c'[k0 + j]? = vs[j]?
  other : ∀ b' : Nat, b' ≠ b → w'.heap[b']? = w.heap[b']?
  size : w'.heap.size = w.heap.size
  os : w'.os = w.os
  output : w'.output = w.output

theorem wr_store (P : Program) {w : World} {b off i : Nat} {vs : List Value} (h : Writable w b (off + i) vs.length) (h1 : ∀ v ∈ vs, v.oneCell' = true) :
    ∃ w', (storeCells ⟨b, off, none⟩ vs i).run P w = .ok () w' ∧ Wr w b (off + i) vs w' := by
  obtain ⟨cur, t, hb, hle⟩ := h
  refine ⟨_, run_storeCells_at (P := P) b off t vs i cur w hb hle h1, ⟨cur, _, t, hb, setRow_heap w b cur _ t (0, 0) hb, by simp; omega, fun k hk => ?_, fun j hj => ?_⟩, fun b' hb' => setRow_other w b b' _ hb', by simp, rfl, rfl⟩
  · simp only [List.getElem?_toArray]
    rcases hk with hk | hk
    · rw [List.append_assoc, List.getElem?_append_left (by simp; omega), List.getElem?_take, if_pos hk]; simp
    · rw [List.getElem?_append_right (by simp; omega), List.getElem?_drop]
      have : off + i + vs.length + (k - (List.take (off + i) cur.toList ++ vs).length) = k := by simp; omega
      rw [this]; simp
  · simp only [List.getElem?_toArray]
    rw [List.append_assoc, List.getElem?_append_right (by simp; omega)]
    have : off + i + j - (List.take (off + i) cur.toList).length = j := by simp; omega
    rw [this, List.getElem?_append_left hj]

theorem Wr.at_in {b k0 : Nat} {vs : List Value} (h : Wr w b k0 vs w') {j : Nat} {u : Value} (hj : vs[j]? = some u) : at_ w' b (k0 + j) = some u := by
  obtain ⟨c, c', e, h1, h2, h3, h4, h5⟩ := h.blk
  rw [at_of h2, h5 j (List.getElem?_eq_some_iff.1 hj).1, hj]

theorem Wr.at_out {b k0 : Nat} {vs : List Value} (h : Wr w b k0 vs w') {b' k : Nat} (hk : ¬ (b' = b ∧ k0 ≤ k ∧ k < k0 + vs.length)) : at_ w' b' k = at_ w b' k := by
  by_cases e : b' = b
  · subst e
    obtain ⟨c, c', e, h1, h2, h3, h4, h5⟩ := h.blk
    rw [at_of h2, at_of h1]
    exact h4 k (by omega)
  · simp [at_, World.cell?, h.other b' e]

theorem Wr.keeps {b k0 : Nat} {vs : List Value} (h : Wr w b k0 vs w') {X : Cells} (hX : ∀ j, j < vs.length → X b (k0 + j)) : Keeps X w w' := by
  refine ⟨Nat.le_of_eq h.size.symm, fun b' cs e fr hb => ?_, fun b' ob hb hc _ => ?_, h.os, h.output⟩
  · by_cases e' : b' = b
    · subst e'
      obtain ⟨c1, c', e1, h1, h2, h3, h4, h5⟩ := h.blk
      rw [h1] at hb
      injection hb with hb
      injection hb with hb1 hb2 hb3
      subst hb1; subst hb2; subst hb3
      refine ⟨c', h2, h3, fun k hk => h4 k ?_⟩
      rcases Nat.lt_or_ge k k0 with h6 | h6
      · exact .inl h6
      · rcases Nat.lt_or_ge k (k0 + vs.length) with h7 | h7
        · exact absurd (by have := hX (k - k0) (by omega); rwa [Nat.add_sub_cancel' h6] at this) hk
        · exact .inr h7
    · exact ⟨cs, by rw [h.other b' e', hb], rfl, fun _ _ => rfl⟩
  · by_cases e' : b' = b
    · subst e'
      obtain ⟨c1, c', e1, h1, -⟩ := h.blk
      rw [h1] at hb
      injection hb with hb
      exact absurd hb.symm (hc _ _ _)
    · rw [h.other b' e', hb]

theorem Wr.writable {b k0 : Nat} {vs : List Value} (h : Wr w b k0 vs w') {b' s n : Nat} (hw : Writable w b' s n) : Writable w' b' s n := (h.keeps (X := fun _ _ => True) fun _ _ => trivial).writable hw

/-- What was written lies in the thing number id: without that thing the state stands. -/
theorem StG.wrote (hst : St φ S H w) {id : Nat} {ob : Obj} {l : Loc} (hg : H.get id = some ob) (hl : φ id = some l) {b k0 : Nat} {vs : List Value} (hw : Wr w b k0 vs w') (hin : ∀ j, j < vs.length → l.has b (k0 + j)) :
    Keeps (M φ H) w w' ∧ (∀ b k, S b k → S b k ∧ at_ w' b k = at_ w b k) ∧ St φ S (H.put id none) w' := by
  have hM : ∀ j, j < vs.length → M φ H b (k0 + j) := fun j hj => ⟨id, ob, l, hg, hl, hin j hj⟩
  have hS : ∀ b k, S b k → S b k ∧ at_ w' b k = at_ w b k := fun b' k hs => ⟨hs, hw.at_out fun ⟨e1, e2, e3⟩ => by
    subst e1
    exact hst.sM b' k hs (by have := hM (k - k0) (by omega); rwa [Nat.add_sub_cancel' e2] at this)⟩
  refine ⟨hw.keeps hM, hS, ?_⟩
  have hold : ∀ i o, (H.put id none).get i = some o → i ≠ id ∧ H.get i = some o := fun i o h => by
    rw [get_put] at h
    split at h
    · simp at h
    · rename_i hne
      refine ⟨fun e => hne ⟨e, by subst e; exact get_lt hg⟩, h⟩
  refine ⟨fun i o l' h1 h2 => ?_, fun i j oi oj li lj hne h1 h2 => hst.disj i j oi oj li lj hne (hold i oi h1).2 (hold j oj h2).2, fun b k hs hm => ?_, fun b k hs => ?_⟩
  · obtain ⟨hne, h3⟩ := hold i o h1
    have hd := hst.disj i id o ob l' l hne h3 hg h2 hl
    refine (hst.obj i o l' h3 h2).mono (fun _ _ h => h) hS (fun b' ob' hc _ hb' => ?_) (fun _ _ _ => hw.writable) (fun b' k u hk hu => ?_)
    · by_cases e : b' = b
      · subst e
        obtain ⟨c1, c', e1, h4, -⟩ := hw.blk
        rw [h4] at hb'
        injection hb' with hb'
        exact absurd hb'.symm (hc _ _ _)
      · rw [hw.other b' e, hb']
    · rw [hw.at_out fun ⟨e1, e2, e3⟩ => by
        subst e1
        exact hd b' k hk (by have := hin (k - k0) (by omega); rwa [Nat.add_sub_cancel' e2] at this), hu]
  · obtain ⟨i, o, l', h1, h2, h3⟩ := hm
    exact hst.sM b k hs ⟨i, o, l', (hold i o h1).2, h2, h3⟩
  · obtain ⟨u, hu⟩ := hst.sA b k hs
    exact ⟨u, by rw [(hS b k hs).2, hu]⟩

theorem M_put {id : Nat} {b k : Nat} {o : Option Obj} (h : M φ (H.put id o) b k) : M φ (H.put id none) b k ∨ ∃ o' l, o = some o' ∧ φ id = some l ∧ l.has b k := by
  obtain ⟨i, o', l, h1, h2, h3⟩ := h
  rw [get_put] at h1
  split at h1
  · rename_i e
    obtain ⟨rfl, -⟩ := e
    exact .inr ⟨o', l, h1, h2, h3⟩
  · rename_i e
    refine .inl ⟨i, o', l, ?_, h2, h3⟩
    rw [get_put, if_neg e, h1]

theorem put_none_get {id i : Nat} {o : Obj} (h : (H.put id none).get i = some o) (hlt : id < H.next) : i ≠ id ∧ H.get i = some o := by
  rw [get_put] at h
  split at h
  · simp at h
  · rename_i hne
    exact ⟨fun e => hne ⟨e, hlt⟩, h⟩

/-- A thing comes back to its place. -/
theorem StG.readd {id : Nat} {l : Loc} {o' : Obj} (hst : St φ S (H.put id none) w) (hlt : id < H.next) (hl : φ id = some l) (ho : ObjOk φ S w o' l)
    (hd : ∀ b k, l.has b k → ¬ S b k ∧ ¬ M φ (H.put id none) b k) : St φ S (H.put id (some o')) w := by
  have hold : ∀ i o, (H.put id (some o')).get i = some o → (i = id ∧ o = o') ∨ (i ≠ id ∧ (H.put id none).get i = some o) := fun i o h => by
    rw [get_put] at h
    split at h
    · rename_i e; exact .inl ⟨e.1, by injection h with h; exact h.symm⟩
    · rename_i e
      have hne : i ≠ id := fun h => e ⟨h, hlt⟩
      exact .inr ⟨hne, by rw [get_put, if_neg e, h]⟩
  refine ⟨fun i o l' h1 h2 => ?_, fun i j oi oj li lj hne h1 h2 h3 h4 b k hb hb' => ?_, fun b k hs hm => ?_, hst.sA⟩
  · rcases hold i o h1 with ⟨rfl, rfl⟩ | ⟨-, h3⟩
    · rw [hl] at h2; injection h2 with h2; exact h2 ▸ ho
    · exact hst.obj i o l' h3 h2
  · rcases hold i oi h1 with ⟨rfl, rfl⟩ | ⟨hi, h5⟩
    · rcases hold j oj h2 with ⟨rfl, -⟩ | ⟨hj, h6⟩
      · exact hne rfl
      · rw [hl] at h3; injection h3 with h3; subst h3
        exact (hd b k hb).2 ⟨j, oj, lj, h6, h4, hb'⟩
    · rcases hold j oj h2 with ⟨rfl, rfl⟩ | ⟨hj, h6⟩
      · rw [hl] at h4; injection h4 with h4; subst h4
        exact (hd b k hb').2 ⟨i, oi, li, h5, h3, hb⟩
      · exact hst.disj i j oi oj li lj hne h5 h6 h3 h4 b k hb hb'
  · rcases M_put hm with h1 | ⟨o2, l2, h1, h2, h3⟩
    · exact hst.sM b k hs h1
    · rw [hl] at h2; injection h2 with h2; subst h2
      exact (hd b k h3).1 hs

/-- Cells that are nobody's become cells that stay. -/
theorem StG.growS {S' : Cells} (hst : St φ S H w) (hS : ∀ b k, S b k → S' b k) (hn : ∀ b k, S' b k → S b k ∨ (¬ M φ H b k ∧ ∃ v, at_ w b k = some v)) : St φ S' H w := by
  refine ⟨fun i o l h1 h2 => (hst.obj i o l h1 h2).mono (fun _ _ h => h) (fun b k hs => ⟨hS b k hs, rfl⟩) (fun _ _ _ _ h => h) (fun _ _ _ h => h) (fun _ _ _ _ h => h), hst.disj, fun b k hs => ?_, fun b k hs => ?_⟩
  · rcases hn b k hs with h | h
    · exact hst.sM b k h
    · exact h.1
  · rcases hn b k hs with h | h
    · exact hst.sA b k h
    · exact h.2

/-- A thing is forgotten. -/
theorem StG.drop (hst : St φ S H w) (id : Nat) (hlt : id < H.next) : St φ S (H.put id none) w := by
  refine ⟨fun i o l h1 h2 => hst.obj i o l (put_none_get h1 hlt).2 h2, fun i j oi oj li lj hne h1 h2 => hst.disj i j oi oj li lj hne (put_none_get h1 hlt).2 (put_none_get h2 hlt).2, fun b k hs hm => ?_, hst.sA⟩
  obtain ⟨i, o, l, h1, h2, h3⟩ := hm
  exact hst.sM b k hs ⟨i, o, l, (put_none_get h1 hlt).2, h2, h3⟩

theorem M_drop {id : Nat} {b k : Nat} (h : M φ (H.put id none) b k) (hlt : id < H.next) : M φ H b k := by
  obtain ⟨i, o, l, h1, h2, h3⟩ := h
  exact ⟨i, o, l, (put_none_get h1 hlt).2, h2, h3⟩

theorem V.oneCell {u : AV} {x : Value} (h : V φ S w u x) (h1 : u.one = true) : x.oneCell' = true := by
  cases h <;> first | rfl | simp [AV.one] at h1

theorem VL.oneCell {us : List AV} {xs : List Value} (h : VL φ S w us xs) (h1 : us.all AV.one = true) : ∀ x ∈ xs, x.oneCell' = true := fun x hx => by
  obtain ⟨i, hi, rfl⟩ := List.mem_iff_getElem.1 hx
  have hi' : i < us.length := by rw [h.1]; exact hi
  exact (h.2 i us[i] xs[i] (by simp [hi']) (by simp [hi])).oneCell (List.all_eq_true.1 h1 _ (by simp))

theorem over_get {cs cs' vs : List AV} {off : Nat} (h : over cs off vs = some cs') : off + vs.length ≤ cs.length ∧ cs'.length = cs.length ∧ ∀ j c, cs'[j]? = some c → (j < off ∨ off + vs.length ≤ j) ∧ cs[j]? = some c ∨ ∃ i, j = off + i ∧ vs[i]? = some c := by
  unfold over at h
  split at h
  · rename_i hle
    injection h with h; subst h
    refine ⟨hle, by simp; omega, fun j c hj => ?_⟩
    by_cases h1 : j < off
    · rw [List.append_assoc, List.getElem?_append_left (by simp; omega), List.getElem?_take, if_pos h1] at hj
      exact .inl ⟨.inl h1, hj⟩
    · by_cases h2 : j < off + vs.length
      · rw [List.append_assoc, List.getElem?_append_right (by simp; omega), List.getElem?_append_left (by simp; omega)] at hj
        have : (List.take off cs).length = off := by simp; omega
        rw [this] at hj
        exact .inr ⟨j - off, by omega, hj⟩
      · rw [List.getElem?_append_right (by simp; omega), List.getElem?_drop] at hj
        have : off + vs.length + (j - (List.take off cs ++ vs).length) = j := by simp; omega
        rw [this] at hj
        exact .inl ⟨.inr (by omega), hj⟩
  · simp at h

/-- A store into a thing. -/
theorem StG.store (hst : St φ S H w) {id b base total off : Nat} {cs cs' us : List AV} {vs : List Value} (hg : H.get id = some (.cells cs)) (hl : φ id = some (.obj b base total)) (ho : over cs off us = some cs')
    (hv : VL φ S w us vs) (hw : Wr w b (base + off) vs w') : Step φ S H w φ S (H.put id (some (.cells cs'))) w' ∧ St φ S (H.put id (some (.cells cs'))) w' := by
  obtain ⟨h1, h2, h3⟩ := over_get ho
  have hob := hst.obj id _ _ hg hl
  obtain ⟨h4, h5, h6⟩ := hob
  have hlt := get_lt hg
  have hlen : us.length = vs.length := hv.1
  obtain ⟨k1, k2, k3⟩ := hst.wrote hg hl hw (fun j hj => ⟨rfl, by omega, by omega⟩)
  have hown : ∀ b' k, (Loc.obj b base total).has b' k → M φ H b' k := fun b' k h => ⟨id, _, _, hg, hl, h⟩
  refine ⟨⟨fun _ _ h => h, fun _ h => absurd rfl h, fun _ _ h => h, k1, fun b' k hm => ?_, fun _ _ h => .inl h, by rw [next_put]; exact Nat.le_refl _⟩, ?_⟩
  · rcases M_put hm with h7 | ⟨o', l, h7, h8, h9⟩
    · exact .inl (M_drop h7 hlt)
    · rw [hl] at h8; injection h8 with h8; subst h8; exact .inl (hown b' k h9)
  · refine k3.readd hlt hl ⟨by omega, hw.writable h5, fun j c hj => ?_⟩ fun b' k hb => ⟨fun hs => hst.sM b' k hs (hown b' k hb), fun hm => ?_⟩
    · rcases h3 j c hj with ⟨h7, h8⟩ | ⟨i, rfl, h8⟩
      · obtain ⟨u, h9, h10⟩ := h6 j c h8
        refine ⟨u, ?_, h10.mono (fun _ _ h => h) k2⟩
        rw [hw.at_out (by omega), h9]
      · obtain ⟨u, h9, h10⟩ := hv.get h8
        refine ⟨u, ?_, h10.mono (fun _ _ h => h) k2⟩
        rw [← Nat.add_assoc]
        exact hw.at_in h9
    · obtain ⟨i, o, l, h7, h8, h9⟩ := hm
      obtain ⟨h10, h11⟩ := put_none_get h7 hlt
      exact hst.disj i id _ _ _ _ h10 h11 hg h8 hl b' k h9 hb

theorem did_store {t : TypeId} {x y : Operand} {kd : Kind} (ho : o.op = .store t x y) (hs : aop E c o ρ H = some (v, H', kd)) (hr : VT φ S w ρ a) (hg : GlobOk E.ng φ) (hst : St φ S H w) : Did2 E o a φ S w H v H' := by
  simp only [aop, ho] at hs
  have hx := hr.eval hg x
  have hy := hr.eval hg y
  split at hs
  · rename_i n id off hsz he
    split at hs
    · rename_i hc
      simp only [Option.bind_eq_some_iff, Option.map_eq_some_iff, Prod.mk.injEq] at hs
      obtain ⟨cs, h1, cs', h2, rfl, rfl, -⟩ := hs
      rw [he] at hx
      obtain ⟨it, h3, h4⟩ := sizeOf_inv hsz
      generalize hav : a.eval x = av at hx
      cases hx with
      | ptr _ _ b base total h =>
        have hget : H.get id = some (.cells cs) := by
          unfold Heap.cells at h1
          split at h1
          · rename_i h5; injection h1 with h1; rw [h5, h1]
          · simp at h1
        obtain ⟨h5, h6, h7⟩ := hst.obj id _ _ hget h
        have hvc := hy.cells1 hc.2
        obtain ⟨h8, -, -⟩ := over_get h2
        have hvl : (a.eval y).cells.toList.length = n := by rw [← hvc.1, hc.1]
        have hwr : Writable w b (base + off + 0) (a.eval y).cells.toList.length := by
          obtain ⟨cc, e, h9, h10⟩ := h6
          exact ⟨cc, e, h9, by rw [← hvc.1]; omega⟩
        obtain ⟨w', h9, h10⟩ := wr_store E.P hwr (hvc.oneCell hc.2)
        simp only [Nat.add_zero] at h10
        obtain ⟨h11, h12⟩ := hst.store hget h h2 hvc h10
        refine ⟨.skip, Go.undef, φ, S, w', ?_, .inr ⟨rfl, rfl⟩, h11, h12, .undef _⟩
        have hne : (a.eval y).cells.size = it.size := by rw [h4]; simpa using hvl
        simp [execOp, ho, hav, Instr.storeAt, Instr.sureAddr, storeVar, run_sizeOf' h3, Result.andThen, hne, h9]
    · simp at hs
  · simp at hs

end Go.Am
