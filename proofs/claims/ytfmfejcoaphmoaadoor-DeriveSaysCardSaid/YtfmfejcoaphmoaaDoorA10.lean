/- AM, an abstract machine over plain values, and that the model does what it does: a part of the proof. -/
import Derived.Test.YtfmfejcoaphmoaaDoorA9
set_option linter.unusedSimpArgs false
set_option linter.unusedVariables false
/- AM: how a run is reasoned about: more fuel does no harm; what a run comes to, part by part. -/
namespace Go.Am
open Go

def Call.le (c c' : Call) : Prop := ∀ f a H r, c f a H = some r → c' f a H = some r

variable {E : Env} {f : FuncId} {c c' : Call}

theorem evalOp1_mono (hc : c.le c') {d : Bool} {o : Oper} {ρ : Tmps} {H : Heap} {t : Tr} {r : AV × Heap × Tr} (h : evalOp1 E c f d o ρ H t = some r) : evalOp1 E c' f d o ρ H t = some r := by
  unfold evalOp1 at h ⊢
  split at h
  · split at h
    · simp only [Option.map_eq_some_iff] at h ⊢
      obtain ⟨x, h1, h2⟩ := h
      exact ⟨x, hc _ _ _ _ h1, h2⟩
    · simp at h
  · exact h

theorem evalOps_mono (hc : c.le c') {d : Bool} {ops : Array Oper} : ∀ (os : List Oper) (ρ : Tmps) (H : Heap) (t : Tr) (r : Tmps × Heap × Tr), evalOps E c f d ops os ρ H t = some r → evalOps E c' f d ops os ρ H t = some r
  | [], ρ, H, t, r, h => h
  | o :: os, ρ, H, t, r, h => by
    simp only [evalOps] at h ⊢
    split at h
    · simp only [Option.bind_eq_some_iff] at h ⊢
      obtain ⟨x, h1, h2⟩ := h
      exact ⟨x, evalOp1_mono hc h1, evalOps_mono hc os _ _ _ _ h2⟩
    · exact evalOps_mono hc os _ _ _ _ h
    · simp at h

/-- A yield that knows more. -/
def Yl.le (y y' : Yl) : Prop := ∀ id a H H', y id a H = some H' → y' id a H = some H'

theorem evalOpY_mono (hc : c.le c') {y y' : Yl} (hy : y.le y') {o : Oper} {ρ : Tmps} {H : Heap} {r : AV × Heap} (h : evalOpY E c y f o ρ H = some r) : evalOpY E c' y' f o ρ H = some r := by
  unfold evalOpY at h ⊢
  split at h
  · split at h
    · simp only [Option.map_eq_some_iff] at h ⊢
      obtain ⟨x, h1, h2⟩ := h
      exact ⟨x, hy _ _ _ _ h1, h2⟩
    · exact hc _ _ _ _ h
    · simp at h
  · exact h

theorem evalOpsY_mono (hc : c.le c') {y y' : Yl} (hy : y.le y') {ops : Array Oper} : ∀ (os : List Oper) (ρ : Tmps) (H : Heap) (r : Tmps × Heap), evalOpsY E c y f ops os ρ H = some r → evalOpsY E c' y' f ops os ρ H = some r
  | [], ρ, H, r, h => h
  | o :: os, ρ, H, r, h => by
    simp only [evalOpsY] at h ⊢
    split at h
    · simp only [Option.bind_eq_some_iff] at h ⊢
      obtain ⟨x, h1, h2⟩ := h
      exact ⟨x, evalOpY_mono hc hy h1, evalOpsY_mono hc hy os _ _ _ h2⟩
    · exact evalOpsY_mono hc hy os _ _ _ h
    · simp at h

theorem roundA_mono {run run' : Code → Tmps → Heap → Option (AExit × Tmps × Heap)} (hr : ∀ x ρ H r, run x ρ H = some r → run' x ρ H = some r) {ps : List Nat} {a b : Code} {ρ : Tmps} {args : List AV} {H H' : Heap} (h : roundA run ps a b ρ args H = some H') : roundA run' ps a b ρ args H = some H' := by
  unfold roundA at h ⊢
  split at h
  · rename_i hl
    rw [if_pos hl]
    split at h
    · rename_i h1
      rw [hr _ _ _ _ h1]
      dsimp only
      split at h
      · rename_i h2
        rw [hr _ _ _ _ h2]
        exact h
      · simp at h
    · simp at h
  · simp at h

theorem evalCode_mono (hc : c.le c') : ∀ (n m : Nat) (y y' : Yl) (rd : Bool) (f : FuncId) (x : Code) (ρ : Tmps) (H : Heap) (r : AExit × Tmps × Heap), n ≤ m → y.le y' → evalCode E c n y rd f x ρ H = some r → evalCode E c' m y' rd f x ρ H = some r
  | 0, _, _, _, _, _, _, _, _, _, _, _, h => by simp [evalCode] at h
  | n + 1, 0, _, _, _, _, _, _, _, _, h, _, _ => by omega
  | n + 1, m + 1, y, y', rd, f, x, ρ, H, r, hm, hy, h => by
    have hm : n ≤ m := by omega
    have ih := fun x ρ H r => evalCode_mono hc n m y y' rd f x ρ H r hm hy
    cases x with
    | region id ops d =>
      cases d with
      | true =>
        simp only [evalCode, Option.bind_eq_some_iff] at h ⊢
        obtain ⟨y, h1, h2⟩ := h
        exact ⟨y, evalOps_mono hc _ _ _ _ _ h1, h2⟩
      | false =>
        simp only [evalCode, Option.map_eq_some_iff] at h ⊢
        obtain ⟨z, h1, h2⟩ := h
        exact ⟨z, evalOpsY_mono hc hy _ _ _ _ h1, h2⟩
    | seq a b =>
      simp only [evalCode] at h ⊢
      cases ha : evalCode E c n y rd f a ρ H with
      | none => rw [ha] at h; simp at h
      | some z =>
        rw [ih _ _ _ _ ha]
        rw [ha] at h
        obtain ⟨e, ρ1, H1⟩ := z
        cases e with
        | normal => exact ih _ _ _ _ h
        | _ => exact h
    | cond q a b =>
      simp only [evalCode] at h ⊢
      split at h
      · exact ih _ _ _ _ h
      · exact ih _ _ _ _ h
      · simp at h
    | block id b =>
      simp only [evalCode] at h ⊢
      cases ha : evalCode E c n y rd f b ρ H with
      | none => rw [ha] at h; simp at h
      | some z => rw [ih _ _ _ _ ha]; rw [ha] at h; exact h
    | loop b =>
      simp only [evalCode] at h ⊢
      cases ha : evalCode E c n y rd f b ρ H with
      | none => rw [ha] at h; simp at h
      | some z =>
        rw [ih _ _ _ _ ha]
        rw [ha] at h
        obtain ⟨e, ρ1, H1⟩ := z
        cases e with
        | normal => exact ih _ _ _ _ h
        | _ => exact h
    | rangeFunc g ps a b =>
      obtain ⟨ps⟩ := ps
      simp only [evalCode] at h ⊢
      split at h
      · simp at h
      · rename_i hrd
        rw [if_neg hrd]
        split at h
        · split at h
          · rename_i cc _
            have key : ∀ {k : FuncId} {cc : Code} {st : Tmps} {z : AExit × Tmps × Heap}, evalCode E c n (fun id args H1 => if id = H.next then roundA (evalCode E c n y true f) ps a b ρ args H1 else none) false k cc st (H.skip 1) = some z →
                evalCode E c' m (fun id args H1 => if id = H.next then roundA (evalCode E c' m y' true f) ps a b ρ args H1 else none) false k cc st (H.skip 1) = some z := fun h1 =>
              evalCode_mono hc n m _ _ _ _ _ _ _ _ hm (fun id args Ha Hb h2 => by
                split at h2
                · rename_i hid
                  rw [if_pos hid]
                  exact roundA_mono (fun x ρ H r => evalCode_mono hc n m y y' true f x ρ H r hm hy) h2
                · simp at h2) h1
            split at h
            · rename_i h1; rw [key h1]; exact h
            · rename_i h1; rw [key h1]; exact h
            · simp at h
          · simp at h
        · simp at h
    | _ => first | exact h | simp [evalCode] at h

/-- Yields that know more and more, and what they come to. -/
structure Yl.Lim (ys : Nat → Yl) (y : Yl) : Prop where
  up : ∀ n m, n ≤ m → (ys n).le (ys m)
  lim : ∀ id a H H', y id a H = some H' → ∃ n, ys n id a H = some H'

theorem evalOpY_lim {ys : Nat → Yl} {y : Yl} (hl : Yl.Lim ys y) {o : Oper} {ρ : Tmps} {H : Heap} {r : AV × Heap} (h : evalOpY E c y f o ρ H = some r) : ∃ N, evalOpY E c (ys N) f o ρ H = some r := by
  unfold evalOpY at h ⊢
  split at h
  · rename_i g args ts ho
    split at h
    · rename_i id he
      simp only [Option.map_eq_some_iff] at h
      obtain ⟨x, h1, h2⟩ := h
      obtain ⟨N, hN⟩ := hl.lim _ _ _ _ h1
      exact ⟨N, by simp only [he, hN, Option.map_some, h2]⟩
    · rename_i k caps he; exact ⟨0, by simp only [he, h]⟩
    · simp at h
  · exact ⟨0, h⟩

theorem evalOpsY_lim {ys : Nat → Yl} {y : Yl} (hl : Yl.Lim ys y) {ops : Array Oper} : ∀ (os : List Oper) (ρ : Tmps) (H : Heap) (r : Tmps × Heap), evalOpsY E c y f ops os ρ H = some r → ∃ N, evalOpsY E c (ys N) f ops os ρ H = some r
  | [], ρ, H, r, h => ⟨0, h⟩
  | o :: os, ρ, H, r, h => by
    simp only [evalOpsY] at h ⊢
    split at h
    · rename_i hw
      simp only [Option.bind_eq_some_iff] at h
      obtain ⟨x, h1, h2⟩ := h
      obtain ⟨N, hN⟩ := evalOpY_lim hl h1
      obtain ⟨M, hM⟩ := evalOpsY_lim hl os _ _ _ h2
      refine ⟨max N M, ?_⟩
      rw [evalOpY_mono (fun _ _ _ _ h => h) (hl.up _ _ (Nat.le_max_left N M)) hN]
      exact evalOpsY_mono (fun _ _ _ _ h => h) (hl.up _ _ (Nat.le_max_right N M)) _ _ _ _ hM
    · rename_i hw; exact evalOpsY_lim hl os _ _ _ h
    · simp at h

theorem evalCode_lim : ∀ (n : Nat) (ys : Nat → Yl) (y : Yl) (rd : Bool) (f : FuncId) (x : Code) (ρ : Tmps) (H : Heap) (r : AExit × Tmps × Heap), Yl.Lim ys y → evalCode E c n y rd f x ρ H = some r → ∃ N, evalCode E c n (ys N) rd f x ρ H = some r
  | 0, _, _, _, _, _, _, _, _, _, h => by simp [evalCode] at h
  | n + 1, ys, y, rd, f, x, ρ, H, r, hl, h => by
    have ih := fun x ρ H r => evalCode_lim n ys y rd f x ρ H r hl
    have up := fun N M (hNM : N ≤ M) x ρ H r => evalCode_mono (E := E) (c := c) (fun _ _ _ _ h => h) n n (ys N) (ys M) rd f x ρ H r (Nat.le_refl n) (hl.up N M hNM)
    cases x with
    | region id ops d =>
      cases d with
      | true => exact ⟨0, h⟩
      | false =>
        simp only [evalCode, Option.map_eq_some_iff] at h ⊢
        obtain ⟨z, h1, h2⟩ := h
        obtain ⟨N, hN⟩ := evalOpsY_lim hl _ _ _ _ h1
        exact ⟨N, z, hN, h2⟩
    | seq a b =>
      simp only [evalCode] at h ⊢
      cases ha : evalCode E c n y rd f a ρ H with
      | none => rw [ha] at h; simp at h
      | some z =>
        rw [ha] at h
        obtain ⟨N, hN⟩ := ih _ _ _ _ ha
        obtain ⟨e, ρ1, H1⟩ := z
        cases e with
        | normal =>
          obtain ⟨M, hM⟩ := ih _ _ _ _ h
          refine ⟨max N M, ?_⟩
          rw [up N _ (Nat.le_max_left N M) _ _ _ _ hN]
          exact up M _ (Nat.le_max_right N M) _ _ _ _ hM
        | _ => exact ⟨N, by rw [hN]; exact h⟩
    | cond q a b =>
      simp only [evalCode] at h ⊢
      split at h
      · exact ih _ _ _ _ h
      · exact ih _ _ _ _ h
      · simp at h
    | block id b =>
      simp only [evalCode] at h ⊢
      cases ha : evalCode E c n y rd f b ρ H with
      | none => rw [ha] at h; simp at h
      | some z => obtain ⟨N, hN⟩ := ih _ _ _ _ ha; exact ⟨N, by rw [hN]; rw [ha] at h; exact h⟩
    | loop b =>
      simp only [evalCode] at h ⊢
      cases ha : evalCode E c n y rd f b ρ H with
      | none => rw [ha] at h; simp at h
      | some z =>
        rw [ha] at h
        obtain ⟨N, hN⟩ := ih _ _ _ _ ha
        obtain ⟨e, ρ1, H1⟩ := z
        cases e with
        | normal =>
          obtain ⟨M, hM⟩ := ih _ _ _ _ h
          refine ⟨max N M, ?_⟩
          rw [up N _ (Nat.le_max_left N M) _ _ _ _ hN]
          exact up M _ (Nat.le_max_right N M) _ _ _ _ hM
        | _ => exact ⟨N, by rw [hN]; exact h⟩
    | rangeFunc g ps a b =>
      obtain ⟨ps⟩ := ps
      simp only [evalCode] at h ⊢
      split at h
      · simp at h
      · rename_i hrd
        simp only [if_neg hrd]
        split at h
        · rename_i k caps hg
          split at h
          · rename_i cc hcc
            have hl' : Yl.Lim (fun N => fun id args H1 => if id = H.next then roundA (evalCode E c n (ys N) true f) ps a b ρ args H1 else none) (fun id args H1 => if id = H.next then roundA (evalCode E c n y true f) ps a b ρ args H1 else none) := by
              refine ⟨fun N M hNM id args Ha Hb h2 => ?_, fun id args Ha Hb h2 => ?_⟩
              · split at h2
                · rename_i hid
                  rw [if_pos hid]
                  exact roundA_mono (fun x ρ H r => evalCode_mono (fun _ _ _ _ h => h) n n (ys N) (ys M) true f x ρ H r (Nat.le_refl n) (hl.up N M hNM)) h2
                · simp at h2
              · split at h2
                · rename_i hid
                  simp only [if_pos hid]
                  unfold roundA at h2 ⊢
                  split at h2
                  · rename_i hlen
                    simp only [if_pos hlen]
                    split at h2
                    · rename_i ρ1 H1 h3
                      obtain ⟨N, hN⟩ := evalCode_lim n ys y true f a _ _ _ hl h3
                      split at h2
                      · rename_i h4
                        obtain ⟨M, hM⟩ := evalCode_lim n ys y true f b _ _ _ hl h4
                        refine ⟨max N M, ?_⟩
                        rw [evalCode_mono (fun _ _ _ _ h => h) n n (ys N) _ true f _ _ _ _ (Nat.le_refl n) (hl.up N _ (Nat.le_max_left N M)) hN]
                        dsimp only
                        rw [evalCode_mono (fun _ _ _ _ h => h) n n (ys M) _ true f _ _ _ _ (Nat.le_refl n) (hl.up M _ (Nat.le_max_right N M)) hM]
                        exact h2
                      · simp at h2
                    · simp at h2
                  · simp at h2
                · simp at h2
            split at h
            · rename_i h1
              obtain ⟨N, hN⟩ := evalCode_lim n _ _ _ _ _ _ _ _ hl' h1
              exact ⟨N, by simp only [hg, hcc, hN]; exact h⟩
            · rename_i h1
              obtain ⟨N, hN⟩ := evalCode_lim n _ _ _ _ _ _ _ _ hl' h1
              exact ⟨N, by simp only [hg, hcc, hN]; exact h⟩
            · simp at h
          · simp at h
        · simp at h
    | _ => first | exact ⟨0, h⟩ | simp [evalCode] at h

theorem Yl.le_refl (y : Yl) : y.le y := fun _ _ _ _ h => h

theorem runF_mono (hc : c.le c') {n m : Nat} (hm : n ≤ m) {args : List AV} {H : Heap} {r : AV × Heap} (h : runF E c n f args H = some r) : runF E c' m f args H = some r := by
  unfold runF at h ⊢
  split at h
  · rename_i fn hfn
    split at h
    · rename_i x hx
      split at h
      · rename_i ha
        rw [if_pos ha]
        cases hr : evalCode E c n noY false f x (start args) H with
        | none => rw [hr] at h; simp at h
        | some y => rw [evalCode_mono hc _ _ _ _ _ _ _ _ _ _ hm (Yl.le_refl _) hr]; rw [hr] at h; exact h
      · simp at h
    · simp at h
  · simp at h

theorem evalF_eq (n : Nat) (f : FuncId) (args : List AV) (H : Heap) : evalF E (n + 1) f args H =
    (match E.ext f args with
    | some v => some (v, H)
    | none =>
      if E.use f then
        if E.closed f then closedF E (runF E (evalF E n) n f) args H
        else (runF E (evalF E n) n f args H).bind fun (v, H') => leaveS (E.pure f) H v H'
      else none) := rfl

theorem closedF_mono {run run' : List AV → Heap → Option (AV × Heap)} (hr : ∀ a H r, run a H = some r → run' a H = some r) {args : List AV} {H : Heap} {r : AV × Heap} (h : closedF E run args H = some r) : closedF E run' args H = some r := by
  unfold closedF at h ⊢
  split at h
  · rename_i hc
    rw [if_pos hc]
    cases h1 : run (args.map AV.calm) E.base with
    | none => rw [h1] at h; simp at h
    | some y => rw [hr _ _ _ h1]; rw [h1] at h; exact h
  · simp at h

theorem evalF_succ : ∀ n, Call.le (evalF E n) (evalF E (n + 1))
  | 0 => fun f a H r h => by simp [evalF] at h
  | n + 1 => fun f a H r h => by
    have ih := evalF_succ n
    rw [evalF_eq] at h ⊢
    split at h
    · exact h
    · split at h
      · rename_i huse
        rw [if_pos huse]
        split at h
        · rename_i hcl
          rw [if_pos hcl]
          exact closedF_mono (fun _ _ _ h => runF_mono ih (Nat.le_succ n) h) h
        · rename_i hcl
          rw [if_neg hcl]
          simp only [Option.bind_eq_some_iff] at h ⊢
          obtain ⟨y, h1, h2⟩ := h
          exact ⟨y, runF_mono ih (Nat.le_succ n) h1, h2⟩
      · simp at h

theorem evalF_mono {n m : Nat} (h : n ≤ m) : Call.le (evalF E n) (evalF E m) := by
  induction m with
  | zero => obtain rfl : n = 0 := by omega
            exact fun _ _ _ _ h => h
  | succ m ih =>
    rcases Nat.lt_or_ge m n with h1 | h1
    · obtain rfl : n = m + 1 := by omega
      exact fun _ _ _ _ h => h
    · exact fun f a H r h2 => evalF_succ m f a H r (ih h1 f a H r h2)

/-! ### What runs come to -/

variable {yl : Yl} {rd : Bool}
/-- A code comes to an end, with this. -/
def Does (E : Env) (yl : Yl) (rd : Bool) (f : FuncId) (x : Code) (ρ : Tmps) (H : Heap) (Q : AExit → Tmps → Heap → Prop) : Prop :=
  ∃ n e ρ' H', evalCode E (evalF E n) n yl rd f x ρ H = some (e, ρ', H') ∧ Q e ρ' H'

/-- Operations come to an end, with this. -/
def DoesOps (E : Env) (f : FuncId) (d : Bool) (ops : Array Oper) (os : List Oper) (ρ : Tmps) (H : Heap) (t : Tr) (Q : Tmps → Heap → Tr → Prop) : Prop :=
  ∃ n ρ' H' t', evalOps E (evalF E n) f d ops os ρ H t = some (ρ', H', t') ∧ Q ρ' H' t'

/-- Operations come to an end, where no order is drawn. -/
def DoesOpsY (E : Env) (yl : Yl) (f : FuncId) (ops : Array Oper) (os : List Oper) (ρ : Tmps) (H : Heap) (Q : Tmps → Heap → Prop) : Prop :=
  ∃ n ρ' H', evalOpsY E (evalF E n) yl f ops os ρ H = some (ρ', H') ∧ Q ρ' H'
def DoesOpY (E : Env) (yl : Yl) (f : FuncId) (o : Oper) (ρ : Tmps) (H : Heap) (K : AV → Heap → Prop) : Prop :=
  ∃ n v H', evalOpY E (evalF E n) yl f o ρ H = some (v, H') ∧ K v H'

/-- What may be there is there, with this. -/
def Opt {α : Type} (x : Option α) (K : α → Prop) : Prop :=
  match x with
  | some a => K a
  | none => False

theorem Opt_some {α : Type} (a : α) (K : α → Prop) : Opt (some a) K ↔ K a := Iff.rfl
theorem Opt_none {α : Type} (K : α → Prop) : Opt (none : Option α) K ↔ False := Iff.rfl
theorem Opt_bind {α β : Type} (x : Option α) (g : α → Option β) (K : β → Prop) : Opt (x.bind g) K ↔ Opt x fun a => Opt (g a) K := by cases x <;> rfl
theorem Opt_map {α β : Type} (x : Option α) (g : α → β) (K : β → Prop) : Opt (x.map g) K ↔ Opt x fun a => K (g a) := by cases x <;> rfl
theorem Opt_iff {α : Type} (x : Option α) (K : α → Prop) : Opt x K ↔ ∃ a, x = some a ∧ K a := by cases x <;> simp [Opt]
theorem Opt_ite {α : Type} (p : Prop) [Decidable p] (x y : Option α) (K : α → Prop) : Opt (if p then x else y) K ↔ if p then Opt x K else Opt y K := by split <;> rfl
theorem Opt_pos {α : Type} {p : Prop} [Decidable p] (h : p) (x y : Option α) (K : α → Prop) : Opt (if p then x else y) K ↔ Opt x K := by rw [if_pos h]

/-- One operation. -/
def DoesOp (E : Env) (f : FuncId) (d : Bool) (o : Oper) (ρ : Tmps) (H : Heap) (t : Tr) (K : AV → Heap → Tr → Prop) : Prop :=
  ∃ n v H' t', evalOp1 E (evalF E n) f d o ρ H t = some (v, H', t') ∧ K v H' t'

/-- What is wanted. -/
def Wants (w : Option Bool) (A B : Prop) : Prop :=
  match w with
  | some b => if b = true then A else B
  | none => False

theorem DoesOps_nil (d : Bool) (ops : Array Oper) (ρ : Tmps) (H : Heap) (t : Tr) (Q : Tmps → Heap → Tr → Prop) : DoesOps E f d ops [] ρ H t Q ↔ Q ρ H t := by
  constructor
  · rintro ⟨n, ρ', H', t', h, hq⟩; simp only [evalOps, Option.some.injEq, Prod.mk.injEq] at h; obtain ⟨rfl, rfl, rfl⟩ := h; exact hq
  · intro h; exact ⟨0, ρ, H, t, rfl, h⟩

theorem DoesOps_cons (d : Bool) (ops : Array Oper) (o : Oper) (os : List Oper) (ρ : Tmps) (H : Heap) (t : Tr) (Q : Tmps → Heap → Tr → Prop) :
    DoesOps E f d ops (o :: os) ρ H t Q ↔ Wants (wantedA ops ρ o) (DoesOp E f d o ρ H t fun v H' t' => DoesOps E f d ops os (ρ.put o.dst v) H' t' Q) (DoesOps E f d ops os (ρ.put o.dst (.tup [])) H t Q) := by
  cases hw : wantedA ops ρ o with
  | none => simp [DoesOps, evalOps, hw, Wants]
  | some b =>
    cases b with
    | false => simp [DoesOps, evalOps, hw, Wants]
    | true =>
      simp only [DoesOps, evalOps, hw, Wants, DoesOp]
      constructor
      · rintro ⟨n, ρ', H', t', h, hq⟩
        simp only [Option.bind_eq_some_iff] at h
        obtain ⟨⟨v, H1, t1⟩, h1, h2⟩ := h
        exact ⟨n, v, H1, t1, h1, n, ρ', H', t', h2, hq⟩
      · rintro ⟨n, v, H1, t1, h1, m, ρ', H', t', h2, hq⟩
        refine ⟨max n m, ρ', H', t', ?_, hq⟩
        rw [evalOp1_mono (evalF_mono (Nat.le_max_left n m)) h1]
        exact evalOps_mono (evalF_mono (Nat.le_max_right n m)) _ _ _ _ _ h2

theorem DoesOpsY_nil (ops : Array Oper) (ρ : Tmps) (H : Heap) (Q : Tmps → Heap → Prop) : DoesOpsY E yl f ops [] ρ H Q ↔ Q ρ H := by
  constructor
  · rintro ⟨n, ρ', H', h, hq⟩; simp only [evalOpsY, Option.some.injEq, Prod.mk.injEq] at h; obtain ⟨rfl, rfl⟩ := h; exact hq
  · intro h; exact ⟨0, ρ, H, rfl, h⟩

theorem DoesOpsY_cons (ops : Array Oper) (o : Oper) (os : List Oper) (ρ : Tmps) (H : Heap) (Q : Tmps → Heap → Prop) :
    DoesOpsY E yl f ops (o :: os) ρ H Q ↔ Wants (wantedA ops ρ o) (DoesOpY E yl f o ρ H fun v H' => DoesOpsY E yl f ops os (ρ.put o.dst v) H' Q) (DoesOpsY E yl f ops os (ρ.put o.dst (.tup [])) H Q) := by
  cases hw : wantedA ops ρ o with
  | none => simp [DoesOpsY, evalOpsY, hw, Wants]
  | some b =>
    cases b with
    | false => simp [DoesOpsY, evalOpsY, hw, Wants]
    | true =>
      simp only [DoesOpsY, evalOpsY, hw, Wants, DoesOpY]
      constructor
      · rintro ⟨n, ρ', H', h, hq⟩
        simp only [Option.bind_eq_some_iff] at h
        obtain ⟨⟨v, H1⟩, h1, h2⟩ := h
        exact ⟨n, v, H1, h1, n, ρ', H', h2, hq⟩
      · rintro ⟨n, v, H1, h1, m, ρ', H', h2, hq⟩
        refine ⟨max n m, ρ', H', ?_, hq⟩
        rw [evalOpY_mono (evalF_mono (Nat.le_max_left n m)) (Yl.le_refl _) h1]
        exact evalOpsY_mono (evalF_mono (Nat.le_max_right n m)) (Yl.le_refl _) _ _ _ _ h2

theorem Does_skip (ρ : Tmps) (H : Heap) (Q : AExit → Tmps → Heap → Prop) : Does E yl rd f .skip ρ H Q ↔ Q .normal ρ H := by
  constructor
  · rintro ⟨n, e, ρ', H', h, hq⟩; cases n <;> simp [evalCode] at h; obtain ⟨rfl, rfl, rfl⟩ := h; exact hq
  · intro h; exact ⟨1, _, _, _, rfl, h⟩
theorem Does_ret (ρ : Tmps) (H : Heap) (Q : AExit → Tmps → Heap → Prop) : Does E yl rd f .ret ρ H Q ↔ Q .ret ρ H := by
  constructor
  · rintro ⟨n, e, ρ', H', h, hq⟩; cases n <;> simp [evalCode] at h; obtain ⟨rfl, rfl, rfl⟩ := h; exact hq
  · intro h; exact ⟨1, _, _, _, rfl, h⟩
theorem Does_exit (id : Nat) (ρ : Tmps) (H : Heap) (Q : AExit → Tmps → Heap → Prop) : Does E yl rd f (.exit id) ρ H Q ↔ Q (.exit id) ρ H := by
  constructor
  · rintro ⟨n, e, ρ', H', h, hq⟩; cases n <;> simp [evalCode] at h; obtain ⟨rfl, rfl, rfl⟩ := h; exact hq
  · intro h; exact ⟨1, _, _, _, rfl, h⟩
theorem Does_region (id : Nat) (ops : Array Oper) (ρ : Tmps) (H : Heap) (Q : AExit → Tmps → Heap → Prop) :
    Does E yl rd f (.region id ops true) ρ H Q ↔ DoesOps E f true ops ops.toList ρ H ⟨[], [], []⟩ fun ρ H t => t.ok = true ∧ Q .normal ρ H := by
  obtain ⟨ops⟩ := ops
  constructor
  · rintro ⟨n, e, ρ', H', h, hq⟩
    cases n with
    | zero => simp [evalCode] at h
    | succ n =>
      simp only [evalCode, Option.bind_eq_some_iff] at h
      obtain ⟨⟨ρ1, H1, t⟩, h1, h2⟩ := h
      dsimp only at h2
      split at h2
      · rename_i ht
        simp only [Option.some.injEq, Prod.mk.injEq] at h2
        obtain ⟨rfl, rfl, rfl⟩ := h2
        exact ⟨n + 1, ρ1, H1, t, h1, ht, hq⟩
      · simp at h2
  · rintro ⟨n, ρ', H', t, h, ht, hq⟩
    refine ⟨n + 1, .normal, ρ', H', ?_, hq⟩
    simp only [evalCode]
    rw [evalOps_mono (evalF_succ n) _ _ _ _ _ h]
    simp only [Option.bind_some, ht, ↓reduceIte]
theorem Does_regionY (id : Nat) (ops : Array Oper) (ρ : Tmps) (H : Heap) (Q : AExit → Tmps → Heap → Prop) :
    Does E yl rd f (.region id ops false) ρ H Q ↔ DoesOpsY E yl f ops ops.toList ρ H fun ρ H => Q .normal ρ H := by
  obtain ⟨ops⟩ := ops
  constructor
  · rintro ⟨n, e, ρ', H', h, hq⟩
    cases n with
    | zero => simp [evalCode] at h
    | succ n =>
      simp only [evalCode, Option.map_eq_some_iff, Prod.mk.injEq] at h
      obtain ⟨⟨ρ1, H1⟩, h1, rfl, rfl, rfl⟩ := h
      exact ⟨n + 1, ρ1, H1, h1, hq⟩
  · rintro ⟨n, ρ', H', h, hq⟩
    refine ⟨n + 1, .normal, ρ', H', ?_, hq⟩
    simp only [evalCode]
    rw [evalOpsY_mono (evalF_succ n) (Yl.le_refl _) _ _ _ _ h]
    rfl
theorem Does_seq (a b : Code) (ρ : Tmps) (H : Heap) (Q : AExit → Tmps → Heap → Prop) :
    Does E yl rd f (.seq a b) ρ H Q ↔ Does E yl rd f a ρ H fun e ρ' H' => match e with | .normal => Does E yl rd f b ρ' H' Q | e => Q e ρ' H' := by
  constructor
  · rintro ⟨n, e, ρ', H', h, hq⟩
    cases n with
    | zero => simp [evalCode] at h
    | succ n =>
      simp only [evalCode] at h
      cases ha : evalCode E (evalF E (n + 1)) n yl rd f a ρ H with
      | none => rw [ha] at h; simp at h
      | some y =>
        obtain ⟨e1, ρ1, H1⟩ := y
        rw [ha] at h
        refine ⟨n + 1, e1, ρ1, H1, evalCode_mono (fun _ _ _ _ h => h) _ _ _ _ _ _ _ _ _ _ (Nat.le_succ n) (Yl.le_refl _) ha, ?_⟩
        cases e1 with
        | normal => exact ⟨n + 1, e, ρ', H', evalCode_mono (fun _ _ _ _ h => h) _ _ _ _ _ _ _ _ _ _ (Nat.le_succ n) (Yl.le_refl _) h, hq⟩
        | _ =>
          simp only [Option.some.injEq, Prod.mk.injEq] at h
          obtain ⟨rfl, rfl, rfl⟩ := h
          exact hq
  · rintro ⟨n, e, ρ', H', h, hq⟩
    cases e with
    | normal =>
      obtain ⟨m, e2, ρ2, H2, h2, hq2⟩ := hq
      refine ⟨max n m + 1, e2, ρ2, H2, ?_, hq2⟩
      simp only [evalCode]
      rw [evalCode_mono (evalF_mono (by omega)) _ _ _ _ _ _ _ _ _ _ (Nat.le_max_left n m) (Yl.le_refl _) h]
      exact evalCode_mono (evalF_mono (by omega)) _ _ _ _ _ _ _ _ _ _ (Nat.le_max_right n m) (Yl.le_refl _) h2
    | _ =>
      refine ⟨n + 1, _, ρ', H', ?_, hq⟩
      simp only [evalCode]
      rw [evalCode_mono (evalF_succ n) _ _ _ _ _ _ _ _ _ _ (Nat.le_refl n) (Yl.le_refl _) h]

/-- A test. -/
def Tests (v : AV) (A B : Prop) : Prop :=
  match v with
  | .bool b => if b = true then A else B
  | _ => False

theorem Does_cond (q : Operand) (a b : Code) (ρ : Tmps) (H : Heap) (Q : AExit → Tmps → Heap → Prop) :
    Does E yl rd f (.cond q a b) ρ H Q ↔ Tests (evalOp E.ng ρ q) (Does E yl rd f a ρ H Q) (Does E yl rd f b ρ H Q) := by
  unfold Tests
  constructor
  · rintro ⟨n, e, ρ', H', h, hq⟩
    cases n with
    | zero => simp [evalCode] at h
    | succ n =>
      simp only [evalCode] at h
      split at h
      · rename_i hv; rw [hv]; exact ⟨n + 1, e, ρ', H', evalCode_mono (fun _ _ _ _ h => h) _ _ _ _ _ _ _ _ _ _ (Nat.le_succ n) (Yl.le_refl _) h, hq⟩
      · rename_i hv; rw [hv]; exact ⟨n + 1, e, ρ', H', evalCode_mono (fun _ _ _ _ h => h) _ _ _ _ _ _ _ _ _ _ (Nat.le_succ n) (Yl.le_refl _) h, hq⟩
      · simp at h
  · intro h
    split at h
    · rename_i b hv
      cases b
      · obtain ⟨n, e, ρ', H', h, hq⟩ := h
        exact ⟨n + 1, e, ρ', H', by simp only [evalCode, hv]; exact evalCode_mono (evalF_succ n) _ _ _ _ _ _ _ _ _ _ (Nat.le_refl n) (Yl.le_refl _) h, hq⟩
      · obtain ⟨n, e, ρ', H', h, hq⟩ := h
        exact ⟨n + 1, e, ρ', H', by simp only [evalCode, hv]; exact evalCode_mono (evalF_succ n) _ _ _ _ _ _ _ _ _ _ (Nat.le_refl n) (Yl.le_refl _) h, hq⟩
    · exact h.elim

theorem Does_block (id : Nat) (b : Code) (ρ : Tmps) (H : Heap) (Q : AExit → Tmps → Heap → Prop) :
    Does E yl rd f (.block id b) ρ H Q ↔ Does E yl rd f b ρ H fun e ρ' H' => match e with | .exit i => if i = id then Q .normal ρ' H' else Q (.exit i) ρ' H' | e => Q e ρ' H' := by
  constructor
  · rintro ⟨n, e, ρ', H', h, hq⟩
    cases n with
    | zero => simp [evalCode] at h
    | succ n =>
      simp only [evalCode] at h
      cases ha : evalCode E (evalF E (n + 1)) n yl rd f b ρ H with
      | none => rw [ha] at h; simp at h
      | some y =>
        obtain ⟨e1, ρ1, H1⟩ := y
        rw [ha] at h
        refine ⟨n + 1, e1, ρ1, H1, evalCode_mono (fun _ _ _ _ h => h) _ _ _ _ _ _ _ _ _ _ (Nat.le_succ n) (Yl.le_refl _) ha, ?_⟩
        cases e1 with
        | exit i =>
          dsimp only at h ⊢
          split at h
          · rename_i hi
            simp only [Option.some.injEq, Prod.mk.injEq] at h
            obtain ⟨rfl, rfl, rfl⟩ := h
            rw [if_pos hi]; exact hq
          · rename_i hi
            simp only [Option.some.injEq, Prod.mk.injEq] at h
            obtain ⟨rfl, rfl, rfl⟩ := h
            rw [if_neg hi]; exact hq
        | _ =>
          simp only [Option.some.injEq, Prod.mk.injEq] at h
          obtain ⟨rfl, rfl, rfl⟩ := h
          exact hq
  · rintro ⟨n, e, ρ', H', h, hq⟩
    have h' := evalCode_mono (evalF_succ n) _ _ _ _ _ _ _ _ _ _ (Nat.le_refl n) (Yl.le_refl _) h
    cases e with
    | exit i =>
      dsimp only at hq
      split at hq
      · rename_i hi
        exact ⟨n + 1, _, ρ', H', by simp only [evalCode, h', if_pos hi], hq⟩
      · rename_i hi
        exact ⟨n + 1, _, ρ', H', by simp only [evalCode, h', if_neg hi], hq⟩
    | _ => exact ⟨n + 1, _, ρ', H', by simp only [evalCode, h'], hq⟩

theorem Does_loop (b : Code) (ρ : Tmps) (H : Heap) (Q : AExit → Tmps → Heap → Prop) :
    Does E yl rd f (.loop b) ρ H Q ↔ Does E yl rd f b ρ H fun e ρ' H' => match e with | .normal => Does E yl rd f (.loop b) ρ' H' Q | e => Q e ρ' H' := by
  have key : ∀ n, evalCode E (evalF E (n + 1)) (n + 1) yl rd f (.loop b) ρ H = evalCode E (evalF E (n + 1)) (n + 1) yl rd f (.seq b (.loop b)) ρ H := fun n => by simp only [evalCode]
  rw [← Does_seq]
  constructor
  · rintro ⟨n, e, ρ', H', h, hq⟩
    cases n with
    | zero => simp [evalCode] at h
    | succ n => exact ⟨n + 1, e, ρ', H', by rw [← key]; exact h, hq⟩
  · rintro ⟨n, e, ρ', H', h, hq⟩
    cases n with
    | zero => simp [evalCode] at h
    | succ n => exact ⟨n + 1, e, ρ', H', by rw [key]; exact h, hq⟩

theorem Does.mono {x : Code} {ρ : Tmps} {H : Heap} {Q Q' : AExit → Tmps → Heap → Prop} (h : Does E yl rd f x ρ H Q) (hq : ∀ e ρ H, Q e ρ H → Q' e ρ H) : Does E yl rd f x ρ H Q' := by
  obtain ⟨n, e, ρ', H', h1, h2⟩ := h
  exact ⟨n, e, ρ', H', h1, hq _ _ _ h2⟩

/-- A loop, by what holds at its head. -/
theorem Does.loop {β : Type} {b : Code} {Q : AExit → Tmps → Heap → Prop} (I : β → Tmps → Heap → Prop) (m : β → Nat)
    (step : ∀ x ρ H, I x ρ H → Does E yl rd f b ρ H fun e ρ' H' => match e with | .normal => ∃ y, m y < m x ∧ I y ρ' H' | e => Q e ρ' H')
    (x : β) (ρ : Tmps) (H : Heap) (h : I x ρ H) : Does E yl rd f (.loop b) ρ H Q := by
  generalize hn : m x = n
  induction n using Nat.strongRecOn generalizing x ρ H with
  | ind n ih =>
    rw [Does_loop]
    refine (step x ρ H h).mono fun e ρ' H' hq => ?_
    cases e with
    | normal =>
      obtain ⟨y, h1, h2⟩ := hq
      exact ih (m y) (by omega) y ρ' H' h2 rfl
    | _ => exact hq

/-! ### A loop over a function -/

/-- What yield does, however much fuel that takes. -/
noncomputable def yIter (E : Env) (yl : Yl) (f : FuncId) (ps : List Nat) (a b : Code) (ρ : Tmps) (id0 : Nat) : Yl := fun id args H =>
  open Classical in if h : id = id0 ∧ ∃ H' N, roundA (evalCode E (evalF E N) N yl true f) ps a b ρ args H = some H' then some (Classical.choose h.2) else none

theorem round_up {ps : List Nat} {a b : Code} {ρ : Tmps} {args : List AV} {H H' : Heap} {n m : Nat} (hnm : n ≤ m) (h : roundA (evalCode E (evalF E n) n yl true f) ps a b ρ args H = some H') : roundA (evalCode E (evalF E m) m yl true f) ps a b ρ args H = some H' :=
  roundA_mono (fun x ρ H r => evalCode_mono (evalF_mono hnm) n m yl yl true f x ρ H r hnm (Yl.le_refl _)) h

theorem yIter_lim (ps : List Nat) (a b : Code) (ρ : Tmps) (id0 : Nat) : Yl.Lim (fun N => fun id args H1 => if id = id0 then roundA (evalCode E (evalF E N) N yl true f) ps a b ρ args H1 else none) (yIter E yl f ps a b ρ id0) := by
  refine ⟨fun n m hnm id args Ha Hb h => ?_, fun id args Ha Hb h => ?_⟩
  · split at h
    · rename_i hid; rw [if_pos hid]; exact round_up hnm h
    · simp at h
  · unfold yIter at h
    split at h
    · rename_i hx
      injection h with h
      obtain ⟨N, hN⟩ := Classical.choose_spec hx.2
      rw [h] at hN
      exact ⟨N, by rw [if_pos hx.1]; exact hN⟩
    · simp at h

theorem Does_range {g : Operand} {ps : List Nat} {a b x : Code} {ρ : Tmps} {H : Heap} {Q : AExit → Tmps → Heap → Prop} {k : FuncId} {caps : List AV} (hg : evalOp E.ng ρ g = .fn k caps) (hc : iterOf E k caps = some x)
    (h : Does E (yIter E yl f ps a b ρ H.next) false k x (start (.yld H.next :: caps)) (H.skip 1) fun e _ H' => (e = .normal ∨ e = .ret) ∧ Q .normal ρ H') : Does E yl false f (.rangeFunc g ⟨ps⟩ a b) ρ H Q := by
  obtain ⟨n, e, ρ', H', h1, he, hq⟩ := h
  obtain ⟨N, hN⟩ := evalCode_lim n _ _ _ _ _ _ _ _ (yIter_lim ps a b ρ H.next) h1
  refine ⟨max n N + 1, .normal, ρ, H', ?_, hq⟩
  have h2 := evalCode_mono (evalF_mono (E := E) (n := n) (m := max n N + 1) (by omega)) n (max n N) _ (fun id args H1 => if id = H.next then roundA (evalCode E (evalF E (max n N + 1)) (max n N) yl true f) ps a b ρ args H1 else none) false k x _ _ _ (Nat.le_max_left n N)
    (fun id args Ha Hb h3 => by
      split at h3
      · rename_i hid
        show (if id = H.next then _ else none) = some Hb
        rw [if_pos hid]
        exact roundA_mono (fun x ρ H r => evalCode_mono (evalF_mono (by omega)) N (max n N) yl yl true f x ρ H r (Nat.le_max_right n N) (Yl.le_refl _)) h3
      · simp at h3) hN
  simp only [evalCode, hg, hc, h2]
  rcases he with rfl | rfl <;> rfl

theorem yIter_of {ps : List Nat} {a b : Code} {ρ : Tmps} {args : List AV} {H : Heap} {K : Heap → Prop} {id0 : Nat} (hl : args.length = ps.length)
    (h : Does E yl true f a (ρ.setL ps args) H fun e ρ1 H1 => e = .normal ∧ Does E yl true f b ρ1 H1 fun e _ H2 => e = .normal ∧ K H2) : ∃ H', yIter E yl f ps a b ρ id0 id0 args H = some H' ∧ K H' := by
  obtain ⟨n, e, ρ1, H1, h1, rfl, m, e2, ρ2, H2, h2, rfl, hk⟩ := h
  have h3 : roundA (evalCode E (evalF E (max n m)) (max n m) yl true f) ps a b ρ args H = some H2 := by
    unfold roundA
    rw [if_pos hl, evalCode_mono (evalF_mono (Nat.le_max_left n m)) _ _ _ _ _ _ _ _ _ _ (Nat.le_max_left n m) (Yl.le_refl _) h1]
    dsimp only
    rw [evalCode_mono (evalF_mono (Nat.le_max_right n m)) _ _ _ _ _ _ _ _ _ _ (Nat.le_max_right n m) (Yl.le_refl _) h2]
  have hx : id0 = id0 ∧ ∃ H' N, roundA (evalCode E (evalF E N) N yl true f) ps a b ρ args H = some H' := ⟨rfl, H2, _, h3⟩
  refine ⟨H2, ?_, hk⟩
  unfold yIter
  rw [dif_pos hx]
  obtain ⟨N, hN⟩ := Classical.choose_spec hx.2
  have h4 := round_up (Nat.le_max_left (max n m) N) h3
  rw [round_up (Nat.le_max_right (max n m) N) hN] at h4
  exact h4

end Go.Am

/- AM: what must hold ahead of a text for something to hold behind it. -/
namespace Go.Am
open Go

variable {E : Env} {f : FuncId}

/-- A mark on a thing: what is marked is left alone by rewriting. -/
inductive Mark.{u} {α : Sort u} (a : α) : Type
  | mk
/-- What is held back from rewriting. -/
def Held.{u} {α : Sort u} (a : α) (_ : Mark a) : α := a

/-- In what a text is run: what yield does, what is known of that; within a round of a loop over a function? -/
structure Ctx where
  yl : Yl
  yw : Nat → List AV → Heap → (Heap → Prop) → Prop
  rd : Bool
  ok : ∀ id args H K, yw id args H K → ∃ H', yl id args H = some H' ∧ K H'

def Ctx.top : Ctx := ⟨noY, fun _ _ _ _ => False, false, fun _ _ _ _ h => h.elim⟩
def Ctx.inRound (κ : Ctx) : Ctx := ⟨κ.yl, κ.yw, true, κ.ok⟩

/-- One operation, where no order is drawn. -/
def Op0 (E : Env) (κ : Ctx) (c : Bool) (o : Oper) (ρ : Tmps) (H : Heap) (K : AV → Heap → Prop) : Prop :=
  match o.op with
  | .call { callee := .value g, args := ⟨args⟩, argTypes := _ } =>
    match evalOp E.ng ρ g with
    | .fn k caps => ACalls E k (args.map (evalOp E.ng ρ) ++ caps) H (Held K .mk)
    | .yld id => κ.yw id (args.map (evalOp E.ng ρ)) H (Held (fun H' => K (.bool true) H') .mk)
    | _ => False
  | _ => Opt (aop E c o ρ H) (Held (fun (v, H', _) => K v H') .mk)

def Ops0 (E : Env) (κ : Ctx) (f : FuncId) (ops : Array Oper) : List Oper → Tmps → Heap → (Tmps → Heap → Prop) → Prop
  | [], ρ, H, Q => Q ρ H
  | o :: os, ρ, H, Q => Wants (wantedA ops ρ o) (Held (Op0 E κ (o.dst.any (E.cf f)) o ρ H fun v H' => Ops0 E κ f ops os (ρ.put o.dst v) H' Q) .mk) (Held (Ops0 E κ f ops os (ρ.put o.dst (.tup [])) H Q) .mk)

/-- What is kept in mind of an operation. -/
def Tr.add (t : Tr) (H : Heap) : Kind → Tr
  | .load id off n => { t with loads := (id, off, n) :: t.loads }
  | .alloc => { t with allocs := H.next :: t.allocs }
  | _ => t

/-- One operation, where an order is drawn. -/
def Op1 (E : Env) (c : Bool) (o : Oper) (ρ : Tmps) (H : Heap) (t : Tr) (K : AV → Heap → Tr → Prop) : Prop :=
  match o.op with
  | .call { callee := .value g, args := ⟨args⟩, argTypes := _ } =>
    match evalOp E.ng ρ g with
    | .fn k caps => ACalls E k (args.map (evalOp E.ng ρ) ++ caps) H (Held (fun v H' => K v H' { t with calls := (H, H') :: t.calls }) .mk)
    | _ => False
  | _ => Opt (aop E c o ρ H) (Held (fun (v, H', k) => fits (clsOf c o) k = true ∧ K v H' (t.add H k)) .mk)

def Ops1 (E : Env) (f : FuncId) (ops : Array Oper) : List Oper → Tmps → Heap → Tr → (Tmps → Heap → Tr → Prop) → Prop
  | [], ρ, H, t, Q => Q ρ H t
  | o :: os, ρ, H, t, Q => Wants (wantedA ops ρ o) (Held (Op1 E (o.dst.any (E.cf f)) o ρ H t fun v H' t' => Ops1 E f ops os (ρ.put o.dst v) H' t' Q) .mk) (Held (Ops1 E f ops os (ρ.put o.dst (.tup [])) H t Q) .mk)

def Wp (E : Env) (κ : Ctx) (f : FuncId) : Code → Tmps → Heap → (AExit → Tmps → Heap → Prop) → Prop
  | .skip, ρ, H, Q | .label _, ρ, H, Q => Q .normal ρ H
  | .ret, ρ, H, Q => Q .ret ρ H
  | .exit id, ρ, H, Q => Q (.exit id) ρ H
  | .region _ ⟨ops⟩ false, ρ, H, Q => Ops0 E κ f ⟨ops⟩ ops ρ H fun ρ H => Q .normal ρ H
  | .region _ ⟨ops⟩ true, ρ, H, Q => Ops1 E f ⟨ops⟩ ops ρ H ⟨[], [], []⟩ fun ρ H t => t.ok = true ∧ Q .normal ρ H
  | .seq a b, ρ, H, Q => Wp E κ f a ρ H fun e ρ' H' => match e with | .normal => Wp E κ f b ρ' H' Q | e => Q e ρ' H'
  | .cond q a b, ρ, H, Q => Tests (evalOp E.ng ρ q) (Held (Wp E κ f a ρ H Q) .mk) (Held (Wp E κ f b ρ H Q) .mk)
  | .block id b, ρ, H, Q => Wp E κ f b ρ H fun e ρ' H' => match e with | .exit i => if i = id then Q .normal ρ' H' else Q (.exit i) ρ' H' | e => Q e ρ' H'
  | .loop b, ρ, H, Q => Held (Does E κ.yl κ.rd f (.loop b) ρ H Q) .mk
  | .rangeFunc g ⟨ps⟩ a b, ρ, H, Q => Held (Does E κ.yl κ.rd f (.rangeFunc g ⟨ps⟩ a b) ρ H Q) .mk
  | _, _, _, _ => False

theorem Op0_sound {κ : Ctx} {o : Oper} {ρ : Tmps} {H : Heap} {K : AV → Heap → Prop} (h : Op0 E κ (o.dst.any (E.cf f)) o ρ H K) : DoesOpY E κ.yl f o ρ H K := by
  unfold Op0 at h
  unfold DoesOpY evalOpY
  split at h
  · rename_i g args ts heq
    split at h
    · rename_i k caps hg
      obtain ⟨n, v, H', h1, h2⟩ := h
      exact ⟨n, v, H', by simp only [heq, hg, h1], h2⟩
    · rename_i id hg
      obtain ⟨H', h1, h2⟩ := κ.ok _ _ _ _ h
      exact ⟨0, .bool true, H', by simp only [heq, hg, h1, Option.map_some], h2⟩
    · exact h.elim
  · rw [Opt_iff] at h
    obtain ⟨⟨v, H', k⟩, h1, h2⟩ := h
    exact ⟨0, v, H', by simp only [h1, Option.map_some], h2⟩

theorem Op1_sound {o : Oper} {ρ : Tmps} {H : Heap} {t : Tr} {K : AV → Heap → Tr → Prop} (h : Op1 E (o.dst.any (E.cf f)) o ρ H t K) : DoesOp E f true o ρ H t K := by
  unfold Op1 at h
  unfold DoesOp evalOp1
  split at h
  · rename_i g args ts heq
    split at h
    · rename_i k caps hg
      obtain ⟨n, v, H', h1, h2⟩ := h
      exact ⟨n, v, H', _, by simp only [heq, hg, h1, Option.map_some], h2⟩
    · exact h.elim
  · rw [Opt_iff] at h
    obtain ⟨⟨v, H', k⟩, h1, h2, h3⟩ := h
    refine ⟨0, v, H', t.add H k, ?_, h3⟩
    simp only [h1, Option.bind_some, Bool.not_true, Bool.false_or, h2, ↓reduceIte]
    cases k <;> rfl

theorem DoesOp.mono {d : Bool} {o : Oper} {ρ : Tmps} {H : Heap} {t : Tr} {K K' : AV → Heap → Tr → Prop} (h : DoesOp E f d o ρ H t K) (hk : ∀ v H t, K v H t → K' v H t) : DoesOp E f d o ρ H t K' := by
  obtain ⟨n, v, H', t', h1, h2⟩ := h
  exact ⟨n, v, H', t', h1, hk _ _ _ h2⟩

theorem DoesOpY.mono {y : Yl} {o : Oper} {ρ : Tmps} {H : Heap} {K K' : AV → Heap → Prop} (h : DoesOpY E y f o ρ H K) (hk : ∀ v H, K v H → K' v H) : DoesOpY E y f o ρ H K' := by
  obtain ⟨n, v, H', h1, h2⟩ := h
  exact ⟨n, v, H', h1, hk _ _ h2⟩

theorem Ops0_sound {κ : Ctx} {ops : Array Oper} : ∀ (os : List Oper) (ρ : Tmps) (H : Heap) (Q : Tmps → Heap → Prop), Ops0 E κ f ops os ρ H Q → DoesOpsY E κ.yl f ops os ρ H Q
  | [], ρ, H, Q, h => (DoesOpsY_nil ..).2 h
  | o :: os, ρ, H, Q, h => by
    rw [DoesOpsY_cons]
    simp only [Ops0, Wants] at h ⊢
    split at h
    · rename_i b hb
      cases b
      · exact Ops0_sound os _ _ _ h
      · rw [if_pos rfl] at h
        exact (Op0_sound h).mono fun v H' h => Ops0_sound os _ _ _ h
    · exact h

theorem Ops1_sound {ops : Array Oper} : ∀ (os : List Oper) (ρ : Tmps) (H : Heap) (t : Tr) (Q : Tmps → Heap → Tr → Prop), Ops1 E f ops os ρ H t Q → DoesOps E f true ops os ρ H t Q
  | [], ρ, H, t, Q, h => (DoesOps_nil ..).2 h
  | o :: os, ρ, H, t, Q, h => by
    rw [DoesOps_cons]
    simp only [Ops1, Wants] at h ⊢
    split at h
    · rename_i b hb
      cases b
      · exact Ops1_sound os _ _ _ _ h
      · rw [if_pos rfl] at h
        exact (Op1_sound h).mono fun v H' t' h => Ops1_sound os _ _ _ _ h
    · exact h

theorem Wp_sound {κ : Ctx} : ∀ (c : Code) (ρ : Tmps) (H : Heap) (Q : AExit → Tmps → Heap → Prop), Wp E κ f c ρ H Q → Does E κ.yl κ.rd f c ρ H Q
  | .skip, ρ, H, Q, h => (Does_skip ..).2 h
  | .label _, ρ, H, Q, h => ⟨1, _, _, _, rfl, h⟩
  | .ret, ρ, H, Q, h => (Does_ret ..).2 h
  | .exit _, ρ, H, Q, h => (Does_exit ..).2 h
  | .region _ ⟨ops⟩ false, ρ, H, Q, h => (Does_regionY ..).2 (Ops0_sound _ _ _ _ h)
  | .region _ ⟨ops⟩ true, ρ, H, Q, h => (Does_region ..).2 (Ops1_sound _ _ _ _ _ h)
  | .seq a b, ρ, H, Q, h => (Does_seq ..).2 ((Wp_sound a _ _ _ h).mono fun e ρ' H' hq => by
      cases e with
      | normal => exact Wp_sound b _ _ _ hq
      | _ => exact hq)
  | .cond q a b, ρ, H, Q, h => (Does_cond ..).2 (by
      unfold Wp Tests at h
      unfold Tests
      split at h
      · rename_i x _
        cases x
        · exact Wp_sound b _ _ _ h
        · exact Wp_sound a _ _ _ h
      · exact h)
  | .block id b, ρ, H, Q, h => (Does_block ..).2 (Wp_sound b _ _ _ h)
  | .loop b, ρ, H, Q, h => h
  | .rangeFunc _ ⟨_⟩ _ _, _, _, _, h => h

/-- yield, in a loop over a function. -/
noncomputable def Ctx.iter (E : Env) (κ : Ctx) (f : FuncId) (ps : List Nat) (a b : Code) (ρ : Tmps) (id0 : Nat) : Ctx :=
  ⟨yIter E κ.yl f ps a b ρ id0,
   fun id args H K => id = id0 ∧ args.length = ps.length ∧ Wp E κ.inRound f a (ρ.setL ps args) H fun e ρ1 H1 => e = .normal ∧ Wp E κ.inRound f b ρ1 H1 fun e _ H2 => e = .normal ∧ K H2, false,
   fun id args H K ⟨h1, h2, h3⟩ => by
    subst h1
    refine yIter_of h2 ((Wp_sound (κ := κ.inRound) _ _ _ _ h3).mono fun e ρ1 H1 h => ⟨h.1, ?_⟩)
    exact Wp_sound (κ := κ.inRound) _ _ _ _ h.2⟩

/-- A loop over a function: its iterator's text, with the loop's body for yield. -/
theorem Wp.range {κ : Ctx} {g : Operand} {ps : List Nat} {a b : Code} {ρ : Tmps} {H : Heap} {Q : AExit → Tmps → Heap → Prop} {m : Mark (Does E κ.yl κ.rd f (.rangeFunc g ⟨ps⟩ a b) ρ H Q)} (k : FuncId) (caps : List AV) (x : Code) (hr : κ.rd = false) (hg : evalOp E.ng ρ g = .fn k caps) (hc : iterOf E k caps = some x)
    (h : Wp E (Ctx.iter E κ f ps a b ρ H.next) k x (start (.yld H.next :: caps)) (H.skip 1) fun e _ H' => (e = .normal ∨ e = .ret) ∧ Q .normal ρ H') : Held (Does E κ.yl κ.rd f (.rangeFunc g ⟨ps⟩ a b) ρ H Q) m := by
  show Does E κ.yl κ.rd f (.rangeFunc g ⟨ps⟩ a b) ρ H Q
  rw [hr]
  exact Does_range hg hc (Wp_sound (κ := Ctx.iter E κ f ps a b ρ H.next) _ _ _ _ h)

/-- A loop, by what holds at its head. -/
theorem Wp.loop {κ : Ctx} {β : Type} {b : Code} {Q : AExit → Tmps → Heap → Prop} (I : β → Tmps → Heap → Prop) (m : β → Nat)
    (step : ∀ x ρ H, I x ρ H → Wp E κ f b ρ H fun e ρ' H' => match e with | .normal => ∃ y, m y < m x ∧ I y ρ' H' | e => Q e ρ' H')
    (x : β) (ρ : Tmps) (H : Heap) (h : I x ρ H) : Held (Does E κ.yl κ.rd f (.loop b) ρ H Q) .mk :=
  Does.loop I m (fun x ρ H h => Wp_sound _ _ _ _ (step x ρ H h)) x ρ H h

/-! ### Calls -/

/-- What a function of the closed kind answers. -/
abbrev Fn (E : Env) (f : FuncId) (args : List AV) (X : AV) : Prop := ∀ (H : Heap) (R : AV → Heap → Prop) (m : Mark R), ACalls E f args H (Held R m) ↔ (H.trunc E.base.next = E.base ∧ R X H)

/-- What is asked behind a run. -/
def Back (E : Env) (fn : Func) (K : AV → Heap → Prop) : AExit → Tmps → Heap → Prop
  | .exit _, _, _ => False
  | _, ρ, H => Opt (resultsA E.P ρ H fn.results.toList) (Held (fun vs => K (retVal vs) H) .mk)

theorem runF_of {fn : Func} {c : Code} {args : List AV} {H : Heap} {K : AV → Heap → Prop} (hfn : E.P.funcs[f]? = some fn) (hb : fn.body = some c) (ha : args.length = fn.params.size + fn.nfree)
    (h : Does E noY false f c (start args) H (Back E fn K)) : ∃ n v H', runF E (evalF E n) n f args H = some (v, H') ∧ K v H' := by
  obtain ⟨n, e, ρ', H', h1, h2⟩ := h
  refine ⟨n, ?_⟩
  unfold runF
  simp only [hfn, hb, ha, ↓reduceIte, h1]
  cases e with
  | exit i => exact h2.elim
  | _ =>
    simp only [Back, Opt_iff] at h2
    obtain ⟨vs, h3, h4⟩ := h2
    exact ⟨_, _, by simp only [h3, Option.map_some], h4⟩

theorem ACalls_iff {args : List AV} {H H' : Heap} {v : AV} {n : Nat} (h : evalF E n f args H = some (v, H')) (R : AV → Heap → Prop) : ACalls E f args H R ↔ R v H' := by
  constructor
  · rintro ⟨m, u, H1, h1, h2⟩
    have h3 := evalF_mono (Nat.le_max_left n m) _ _ _ _ h
    rw [evalF_mono (Nat.le_max_right n m) _ _ _ _ h1] at h3
    simp only [Option.some.injEq, Prod.mk.injEq] at h3
    obtain ⟨rfl, rfl⟩ := h3
    exact h2
  · intro h2; exact ⟨n, v, H', h, h2⟩

/-- A function of the closed kind, by its text. -/
theorem Fn.of {fn : Func} {c : Code} {args : List AV} {X : AV} (hfn : E.P.funcs[f]? = some fn) (hb : fn.body = some c) (hx : E.ext f args = none) (hu : E.use f = true) (hc : E.closed f = true)
    (ha : args.length = fn.params.size + fn.nfree) (hua : underL E.base.next (args.map AV.calm) = true)
    (h : Wp E .top f c (start (args.map AV.calm)) E.base (Back E fn fun v H => (shutR E.base.next H v).2.trunc E.base.next = E.base ∧ (shutR E.base.next H v).1.calmR.under E.base.next = true ∧ (shutR E.base.next H v).1.calmR = X)) : Fn E f args X := fun H R m => by
  obtain ⟨n, v, H1, h1, h2, h3, rfl⟩ := runF_of hfn hb (by simpa using ha) (Wp_sound (κ := .top) _ _ _ _ h)
  by_cases hH : H.trunc E.base.next = E.base
  · have key : evalF E (n + 1) f args H = some ((shutR E.base.next H1 v).1.calmR, H) := by
      rw [evalF_eq, hx]
      simp only [hu, hc, ↓reduceIte, closedF, h1, hua, hH, h2, h3, and_self]
    rw [ACalls_iff key]
    simp only [hH, true_and, Held]
  · constructor
    · rintro ⟨m, u, H2, h4, -⟩
      cases m with
      | zero => simp [evalF] at h4
      | succ m =>
        rw [evalF_eq, hx] at h4
        simp [hu, hc, closedF, hH] at h4
    · intro h4; exact absurd h4.1 hH

/-- A function that is run where it is called. -/
theorem ACalls.of {fn : Func} {c : Code} {args : List AV} {H : Heap} {R : AV → Heap → Prop} {m : Mark R} (hfn : E.P.funcs[f]? = some fn) (hb : fn.body = some c) (hx : E.ext f args = none) (hu : E.use f = true)
    (hc : E.closed f = false) (ha : args.length = fn.params.size + fn.nfree)
    (h : Wp E .top f c (start args) H (Back E fn fun v H' => Opt (leaveS (E.pure f) H v H') (Held (fun (v, H') => R v H') .mk))) : ACalls E f args H (Held R m) := by
  show ACalls E f args H R
  obtain ⟨n, v, H1, h1, h2⟩ := runF_of hfn hb ha (Wp_sound (κ := .top) _ _ _ _ h)
  rw [Opt_iff] at h2
  obtain ⟨⟨u, H2⟩, h3, h4⟩ := h2
  refine ⟨n + 1, u, H2, ?_, h4⟩
  rw [evalF_eq, hx]
  simp only [hu, hc, ↓reduceIte, h1, Option.bind_some, h3, Bool.false_eq_true]

end Go.Am
