/- DeriveSays answers true, whatever the numbers and the word; no condition: a part of the proof. -/
import Derived.Test.YtfmfejcoaphmoaaDoorD11
import Derived.LaidLaws
import Derived.RowKit
import Derived.KernelRfl
import Derived.Test.YtfmfejcoaphmoaaDoorRows
set_option linter.unusedSimpArgs false
set_option linter.unusedVariables false
/- DeriveSays on AM: the machine's word for the calls. -/
namespace Go.Am.Ds
open Go Go.Am Go.Proofs

theorem E_ok : EnvOk E where
  mix := by decide +kernel
  use := use_ok
  base := by decide +kernel
  ng := by decide
  ext := fun f args v h => by simp [E] at h

theorem says_calls (L : Nums) (cls : List UInt8) : ∃ H', H'.trunc 30 = E.base ∧ Enterable E.P 3 ∧ SimCall E 3 [seqL L, .str cls] E.base (.bool true) H' := by
  obtain ⟨n, v, H', h, rfl, ht⟩ := says_ok L cls
  have := evalF_sound E_ok n 3 _ _ _ _ h
  exact ⟨H', ht, this.1, this.2.2⟩
end Go.Am.Ds

/- DeriveSays: the world at the beginning. -/
namespace Go.Am.Ds
open Go Go.Am Go.Proofs

theorem base1 (i : Nat) (hi : i < 15) : E.base.get i = some (.cells [.ifc 148 (.ptr (15 + i) 0)]) := by
  match i, hi with
  | 0, _ => rfl
  | 1, _ => rfl
  | 2, _ => rfl
  | 3, _ => rfl
  | 4, _ => rfl
  | 5, _ => rfl
  | 6, _ => rfl
  | 7, _ => rfl
  | 8, _ => rfl
  | 9, _ => rfl
  | 10, _ => rfl
  | 11, _ => rfl
  | 12, _ => rfl
  | 13, _ => rfl
  | 14, _ => rfl
theorem base2 (i : Nat) (hi : i < 15) : E.base.get (15 + i) = some (.cells [.str (texts.getD i [])]) := by
  match i, hi with
  | 0, _ => rfl
  | 1, _ => rfl
  | 2, _ => rfl
  | 3, _ => rfl
  | 4, _ => rfl
  | 5, _ => rfl
  | 6, _ => rfl
  | 7, _ => rfl
  | 8, _ => rfl
  | 9, _ => rfl
  | 10, _ => rfl
  | 11, _ => rfl
  | 12, _ => rfl
  | 13, _ => rfl
  | 14, _ => rfl
theorem base3 (i : Nat) (hi : 30 ≤ i) : E.base.get i = none := by
  cases h : E.base.get i with
  | none => rfl
  | some o => exact absurd (get_lt h) (by have : E.base.next = 30 := rfl; omega)

/-- Where the base's objects lie. -/
def phi0 (B O : Nat → Nat) : Phi := fun i => if i < 15 then some (.obj i 0 1) else if i < 30 then some (.obj (B (i - 15)) (O (i - 15)) 1) else none
theorem phi0_glob (B O : Nat → Nat) : GlobOk E.ng (phi0 B O) := fun g hg => ⟨1, by simp only [phi0]; rw [if_pos (show g < 15 from hg)]⟩

/-- What is known of the world. -/
structure Begin (w : World) (B O : Nat → Nat) (S : Cells) : Prop where
  g : ∀ g, g < 15 → at_ w g 0 = some (.iface 148 (.pointer (some ⟨B g, O g, none⟩)))
  s : ∀ g, g < 15 → ∃ s, at_ w (B g) (O g) = some (.string s) ∧ s.data.toList = texts.getD g []
  wg : ∀ g, g < 15 → Writable w g 0 1
  wb : ∀ g, g < 15 → Writable w (B g) (O g) 1
  d1 : ∀ g h, g < 15 → h < 15 → g ≠ h → ¬ (B g = B h ∧ O g = O h)
  d2 : ∀ g h, g < 15 → h < 15 → ¬ (B g = h ∧ O g = 0)
  S : ∀ b k, S b k → ∃ κ n, at_ w b k = some (.int κ n)

theorem Begin.has {w : World} {B O : Nat → Nat} {S : Cells} (h : Begin w B O S) {i : Nat} {o : Obj} {l : Loc} (ho : E.base.get i = some o) (hl : phi0 B O i = some l) :
    (∃ g, g < 15 ∧ i = g ∧ o = .cells [.ifc 148 (.ptr (15 + g) 0)] ∧ l = .obj g 0 1) ∨ (∃ g, g < 15 ∧ i = 15 + g ∧ o = .cells [.str (texts.getD g [])] ∧ l = .obj (B g) (O g) 1) := by
  simp only [phi0] at hl
  split at hl
  · rename_i hi
    rw [base1 i hi] at ho
    exact Or.inl ⟨i, hi, rfl, (Option.some.inj ho).symm, (Option.some.inj hl).symm⟩
  · split at hl
    · rename_i h1 h2
      obtain ⟨g, rfl⟩ : ∃ g, i = 15 + g := ⟨i - 15, by omega⟩
      rw [base2 g (by omega)] at ho
      have e : 15 + g - 15 = g := by omega
      rw [e] at hl
      exact Or.inr ⟨g, by omega, rfl, (Option.some.inj ho).symm, (Option.some.inj hl).symm⟩
    · cases hl

theorem Begin.st {w : World} {B O : Nat → Nat} {S : Cells} (h : Begin w B O S) : St (phi0 B O) S E.base w where
  obj i o l ho hl := by
    rcases h.has ho hl with ⟨g, hg, rfl, rfl, rfl⟩ | ⟨g, hg, rfl, rfl, rfl⟩
    · refine ⟨by simp, h.wg _ hg, fun j c hj => ?_⟩
      match j with
      | 0 =>
        obtain rfl : _ = c := Option.some.inj hj
        refine ⟨_, h.g _ hg, .ifc _ _ _ (.ptr (15 + i) 0 (B i) (O i) 1 ?_)⟩
        simp only [phi0]
        rw [if_neg (by omega), if_pos (by omega)]
        simp
      | j + 1 => simp at hj
    · refine ⟨by simp, h.wb _ hg, fun j c hj => ?_⟩
      match j with
      | 0 =>
        obtain rfl : _ = c := Option.some.inj hj
        obtain ⟨s, h1, h2⟩ := h.s _ hg
        exact ⟨_, h1, by rw [← h2]; exact .str s⟩
      | j + 1 => simp at hj
  disj i j oi oj li lj hij hoi hoj hli hlj b k hb hb' := by
    rcases h.has hoi hli with ⟨g, hg, rfl, rfl, rfl⟩ | ⟨g, hg, rfl, rfl, rfl⟩ <;> rcases h.has hoj hlj with ⟨g', hg', rfl, rfl, rfl⟩ | ⟨g', hg', rfl, rfl, rfl⟩ <;> simp only [Loc.has] at hb hb'
    · omega
    · exact h.d2 g' i hg' hg ⟨by omega, by omega⟩
    · exact h.d2 g j hg hg' ⟨by omega, by omega⟩
    · exact h.d1 g g' hg hg' (by omega) ⟨by omega, by omega⟩
  sM b k hS hM := by
    obtain ⟨κ, n, hv⟩ := h.S b k hS
    obtain ⟨i, o, l, ho, hl, hb⟩ := hM
    rcases h.has ho hl with ⟨g, hg, rfl, rfl, rfl⟩ | ⟨g, hg, rfl, rfl, rfl⟩ <;> simp only [Loc.has] at hb
    · obtain ⟨rfl, h1, h2⟩ := hb
      obtain rfl : k = 0 := by omega
      rw [h.g _ hg] at hv; cases hv
    · obtain ⟨rfl, h1, h2⟩ := hb
      obtain rfl : k = O g := by omega
      obtain ⟨s, h3, -⟩ := h.s _ hg
      rw [h3] at hv; cases hv
  sA b k hS := by obtain ⟨κ, n, hv⟩ := h.S b k hS; exact ⟨_, hv⟩
end Go.Am.Ds

/- DeriveSays: the call in a world. -/
namespace Go.Am.Ds
open Go Go.Am Go.Proofs

theorem says_world {w : World} {B O : Nat → Nat} {S : Cells} (h : Begin w B O S) (L : Nums) (cls : List UInt8) (vs : List Value) (hv : VL (phi0 B O) S w [seqL L, .str cls] vs) :
    Calls E.P 3 vs.toArray w fun e w' => e = .returned (.bool true) ∧ Keeps (M (phi0 B O) E.base) w w' ∧ ∀ b k, M (phi0 B O) E.base b k → at_ w' b k = at_ w b k := by
  obtain ⟨H', ht, -, hsim⟩ := says_calls L cls
  have hn : E.base.next = 30 := rfl
  have hnone : ∀ i, E.base.next ≤ i → i < H'.next → phi0 B O i = none := fun i hi _ => by
    simp only [phi0]; rw [if_neg (by omega), if_neg (by omega)]
  refine (hsim _ _ _ _ h.st (phi0_glob B O) hnone hv).mono fun e w' ⟨v', φ', S', he, hstep, hst, hvv⟩ => ?_
  have hb : v' = .bool true := by cases hvv; rfl
  refine ⟨by rw [he, hb], hstep.keeps, fun b k hM => ?_⟩
  have hget : ∀ i, i < 30 → H'.get i = E.base.get i := fun i hi => by rw [← ht, get_trunc _ _ _ hi]
  obtain ⟨i, o, l, ho, hl, hbk⟩ := hM
  have hl' := hstep.ext i l hl
  have hi : i < 30 := by have := get_lt ho; omega
  have hobj := hst.obj i o l (by rw [hget i hi]; exact ho) hl'
  rcases h.has ho hl with ⟨g, hg, rfl, rfl, rfl⟩ | ⟨g, hg, rfl, rfl, rfl⟩ <;> simp only [Loc.has] at hbk
  · obtain ⟨rfl, h1, h2⟩ := hbk
    obtain rfl : k = 0 := by omega
    obtain ⟨v, h3, h4⟩ := hobj.2.2 0 _ rfl
    rw [h.g _ hg, h3]
    cases h4 with
    | ifc _ _ v1 h5 =>
      cases h5 with
      | ptr _ _ b1 base1 total1 h6 =>
        have h7 : phi0 B O (15 + b) = some (.obj (B b) (O b) 1) := by
          simp only [phi0]; rw [if_neg (by omega), if_pos (by omega)]; simp
        rw [hstep.ext _ _ h7] at h6
        injection h6 with h6
        injection h6 with h8 h9 h10
        subst h8 h9
        rfl
  · obtain ⟨rfl, h1, h2⟩ := hbk
    obtain rfl : k = O g := by omega
    obtain ⟨v, h3, h4⟩ := hobj.2.2 0 _ rfl
    obtain ⟨s, h5, h6⟩ := h.s _ hg
    rw [Nat.add_zero] at h3
    rw [h5, h3]
    generalize htx : texts.getD g [] = tx at h4 h6
    cases h4 with
    | str s' =>
      have : s' = s := by
        cases s'; cases s
        simp only [ByteArray.mk.injEq]
        exact Array.toList_inj.1 (by simpa using h6.symm)
      rw [this]
end Go.Am.Ds

/- DeriveSays: the laid errors. -/
namespace Go.Am.Ds
open Go Go.Am Go.Proofs Go.ChangeShapes

theorem star : "*" ++ "errors.errorString" = "*errors.errorString" := by decide
set_option maxRecDepth 100000 in
theorem row148 (u : TypeId) (h : P.typeName? 3 u = some "*errors.errorString") : u = 148 :=
  typeName_ptr_named (P := P) (nm := "errors.errorString") (tp := 148) (by rw [star]; kernel_rfl) (by kernel_rfl) (by decide) u (by rw [star]; exact h)
theorem cell_plain {W : World} {a : Addr} {v : Value} (h : W.cell? a = some v) : a = ⟨a.block, a.off, none⟩ := by
  unfold World.cell? at h
  split at h
  · split at h
    · cases h
    · rename_i hs
      cases a with
      | mk b o s => cases s with
        | none => rfl
        | some x => simp at hs
  · cases h

set_option maxRecDepth 100000 in
theorem laid_one {W : World} {rest : List (String × DataW Unit)} {ps : List MemPlace} {n : String} {text : List UInt8} {g : Nat} (hg : P.globalNamed n = some g) (ht : (P.globals[g]?).map (·.type) = some 53)
    (h : DataW.LaidVars P W ((n, .iface "*errors.errorString" (.ptr (.agg [.lit (.string text)]))) :: rest) ps)
    (hok : ∀ b off, MemPlace.cell b off ∈ ps → ∀ u v, W.cell? ⟨b, off, none⟩ = some (.iface u v) → Value.okWide P W .any 0 u v) :
    ∃ (b o : Nat) (s : ByteArray) (q : List MemPlace), at_ W g 0 = some (.iface 148 (.pointer (some ⟨b, o, none⟩))) ∧ at_ W b o = some (.string s) ∧ s.data.toList = text ∧ DataW.LaidVars P W rest q ∧ ps = .cell g 0 :: .cell b o :: q := by
  obtain ⟨g0, t0, cs0, f0, p0, q0, hg0, ht0, hv0, hd0, hq, e0⟩ := h
  obtain rfl := Option.some.inj (hg.symm.trans hg0)
  obtain rfl := Option.some.inj (ht.symm.trans ht0)
  subst e0
  obtain ⟨l0⟩ := cs0
  have ok0 : ∀ u v, l0 = [.iface u v] → Value.okWide P W .any 0 u v := fun u v e => by
    subst e
    exact hok g 0 (by simp [MemPlace.row]) u v (by simpa using World.var?_cell hg0 hv0 0)
  obtain ⟨ms, u53⟩ : ∃ ms, P.underlying 53 = some (.interface ms) := ⟨_, rfl⟩
  obtain ⟨f, he, hft, hfo⟩ : ∃ f, P.underlying 165 = some (.struct #[f]) ∧ f.type = 9 ∧ f.offset = 0 := ⟨_, rfl, rfl, rfl⟩
  obtain ⟨a0, s0, rfl, hc0, hs0, hz0, rfl⟩ := errorString_of_trod (te := 165) (ts := 9) u53 row148 (by kernel_rfl) he hft hfo (by kernel_rfl) (by kernel_rfl) (by kernel_rfl) hd0 ok0
  have hp := cell_plain hc0
  have hgc : at_ W g 0 = some (.iface 148 (.pointer (some a0))) := by simpa [at_] using World.var?_cell hg0 hv0 0
  rw [hp] at hgc hc0
  exact ⟨a0.block, a0.off, s0, q0, hgc, hc0, hs0, hq, by simp [MemPlace.row]⟩
end Go.Am.Ds

/- DeriveSays: the laid errors, all. -/
namespace Go.Am.Ds
open Go Go.Am Go.Proofs Go.Proofs.YtfmfejcoaphmoaaDoor

theorem laid_tail {W : World} {n : String} {d : DataW Unit} {rest : List (String × DataW Unit)} {ps : List MemPlace} (h : DataW.LaidVars P W ((n, d) :: rest) ps) : ∃ q, DataW.LaidVars P W rest q ∧ (∀ p, p ∈ q → p ∈ ps) ∧ (ps.Nodup → q.Nodup) := by
  obtain ⟨g0, t0, cs0, f0, p0, q0, -, -, -, -, hq, e0⟩ := h
  exact ⟨_, hq, fun p hp => by rw [e0]; simp [hp], fun hn => by rw [e0] at hn; exact (List.nodup_append.1 hn).2.1⟩

/-- The errors, in the order in which they are laid. -/
def order : List Nat := [1, 2, 3, 4, 0, 5, 6, 7, 8, 9, 10, 11, 12, 13, 14]
def places (B O : Nat → Nat) (g : Nat) : List MemPlace := [.cell g 0, .cell (B g) (O g)]
theorem order_mem {g : Nat} (hg : g < 15) : g ∈ order := by
  have : ∀ g ∈ List.range 15, g ∈ order := by decide
  exact this g (List.mem_range.2 hg)
theorem apart_of {f : Nat → List MemPlace} {l : List Nat} (h : (l.flatMap f).Nodup) {g k : Nat} (hg : g ∈ l) (hk : k ∈ l) (hne : g ≠ k) {p : MemPlace} (h1 : p ∈ f g) (h2 : p ∈ f k) : False := by
  induction l with
  | nil => cases hg
  | cons a l ih =>
    rw [List.flatMap_cons, List.nodup_append] at h
    rcases List.mem_cons.1 hg with rfl | hg'
    · rcases List.mem_cons.1 hk with rfl | hk'
      · exact hne rfl
      · exact h.2.2 p h1 p (List.mem_flatMap.2 ⟨k, hk', h2⟩) rfl
    · rcases List.mem_cons.1 hk with rfl | hk'
      · exact h.2.2 p h2 p (List.mem_flatMap.2 ⟨g, hg', h1⟩) rfl
      · exact ih h.2.1 hg' hk'
theorem one_of {f : Nat → List MemPlace} {l : List Nat} (h : (l.flatMap f).Nodup) {g : Nat} (hg : g ∈ l) : (f g).Nodup := by
  induction l with
  | nil => cases hg
  | cons a l ih =>
    rw [List.flatMap_cons, List.nodup_append] at h
    rcases List.mem_cons.1 hg with rfl | hg'
    · exact h.1
    · exact ih h.2.1 hg'
theorem d1_of {B O : Nat → Nat} (h : (order.flatMap (places B O)).Nodup) (g k : Nat) (hg : g < 15) (hk : k < 15) (hne : g ≠ k) : ¬ (B g = B k ∧ O g = O k) := fun e =>
  apart_of h (order_mem hg) (order_mem hk) hne (p := .cell (B g) (O g)) (by simp [places]) (by simp [places, e.1, e.2])
theorem d2_of {B O : Nat → Nat} (h : (order.flatMap (places B O)).Nodup) (g k : Nat) (hg : g < 15) (hk : k < 15) : ¬ (B g = k ∧ O g = 0) := fun e => by
  by_cases hne : g = k
  · have := one_of h (order_mem hg)
    rw [places, e.1, e.2, hne] at this
    simp at this
  · exact apart_of h (order_mem hg) (order_mem hk) hne (p := .cell (B g) (O g)) (by simp [places]) (by simp [places, e.1, e.2])

theorem writable_of {W : World} {b k : Nat} {v : Value} (h : at_ W b k = some v) (hw : ∃ c t, W.heap[b]? = some (.cells c t (0, 0))) : Writable W b k 1 := by
  obtain ⟨c, t, hc⟩ := hw
  refine ⟨c, t, hc, ?_⟩
  simp only [at_, World.cell?, hc] at h
  have := (Array.getElem?_eq_some_iff.1 (by simpa using h)).1
  omega

set_option maxRecDepth 100000 in
theorem laid_all {W : World} (h : laidMet P Rows.deriveSaysRow.laid W) : ∃ (B O : Nat → Nat),
    (∀ g, g < 15 → at_ W g 0 = some (.iface 148 (.pointer (some ⟨B g, O g, none⟩)))) ∧ (∀ g, g < 15 → ∃ s, at_ W (B g) (O g) = some (.string s) ∧ s.data.toList = texts.getD g []) ∧
    (∀ g, g < 15 → (∃ c t, W.heap[g]? = some (.cells c t (0, 0)))) ∧ (∀ g, g < 15 → (∃ c t, W.heap[B g]? = some (.cells c t (0, 0)))) ∧ (order.flatMap (places B O)).Nodup := by
  obtain ⟨ps, h, hnd, hrows⟩ := h
  have hok := fun b off hb => (hrows b off hb).2
  have hwr := fun b off hb => (hrows b off hb).1
  obtain ⟨p1, h, m1, u1⟩ := laid_tail h
  obtain ⟨p2, h, m2, u2⟩ := laid_tail h
  obtain ⟨p3, h, m3, u3⟩ := laid_tail h
  have U := u3 (u2 (u1 hnd))
  have M : ∀ p, p ∈ p3 → p ∈ ps := fun p hp => m1 p (m2 p (m3 p hp))
  obtain ⟨b1, o1, s1, q1, hg1, hc1, hs1, h, e1⟩ := laid_one (g := 1) (by kernel_rfl) (by kernel_rfl) h (fun b off hb => hok b off (M _ hb))
  rw [e1] at M U
  have n1 := M (.cell 1 0) (by simp)
  have k1 := M (.cell b1 o1) (by simp)
  replace M : ∀ p, p ∈ q1 → p ∈ ps := fun p hp => M p (by simp [hp])
  obtain ⟨b2, o2, s2, q2, hg2, hc2, hs2, h, e2⟩ := laid_one (g := 2) (by kernel_rfl) (by kernel_rfl) h (fun b off hb => hok b off (M _ hb))
  rw [e2] at M U
  have n2 := M (.cell 2 0) (by simp)
  have k2 := M (.cell b2 o2) (by simp)
  replace M : ∀ p, p ∈ q2 → p ∈ ps := fun p hp => M p (by simp [hp])
  obtain ⟨b3, o3, s3, q3, hg3, hc3, hs3, h, e3⟩ := laid_one (g := 3) (by kernel_rfl) (by kernel_rfl) h (fun b off hb => hok b off (M _ hb))
  rw [e3] at M U
  have n3 := M (.cell 3 0) (by simp)
  have k3 := M (.cell b3 o3) (by simp)
  replace M : ∀ p, p ∈ q3 → p ∈ ps := fun p hp => M p (by simp [hp])
  obtain ⟨b4, o4, s4, q4, hg4, hc4, hs4, h, e4⟩ := laid_one (g := 4) (by kernel_rfl) (by kernel_rfl) h (fun b off hb => hok b off (M _ hb))
  rw [e4] at M U
  have n4 := M (.cell 4 0) (by simp)
  have k4 := M (.cell b4 o4) (by simp)
  replace M : ∀ p, p ∈ q4 → p ∈ ps := fun p hp => M p (by simp [hp])
  obtain ⟨b0, o0, s0, q0, hg0, hc0, hs0, h, e0⟩ := laid_one (g := 0) (by kernel_rfl) (by kernel_rfl) h (fun b off hb => hok b off (M _ hb))
  rw [e0] at M U
  have n0 := M (.cell 0 0) (by simp)
  have k0 := M (.cell b0 o0) (by simp)
  replace M : ∀ p, p ∈ q0 → p ∈ ps := fun p hp => M p (by simp [hp])
  obtain ⟨b5, o5, s5, q5, hg5, hc5, hs5, h, e5⟩ := laid_one (g := 5) (by kernel_rfl) (by kernel_rfl) h (fun b off hb => hok b off (M _ hb))
  rw [e5] at M U
  have n5 := M (.cell 5 0) (by simp)
  have k5 := M (.cell b5 o5) (by simp)
  replace M : ∀ p, p ∈ q5 → p ∈ ps := fun p hp => M p (by simp [hp])
  obtain ⟨b6, o6, s6, q6, hg6, hc6, hs6, h, e6⟩ := laid_one (g := 6) (by kernel_rfl) (by kernel_rfl) h (fun b off hb => hok b off (M _ hb))
  rw [e6] at M U
  have n6 := M (.cell 6 0) (by simp)
  have k6 := M (.cell b6 o6) (by simp)
  replace M : ∀ p, p ∈ q6 → p ∈ ps := fun p hp => M p (by simp [hp])
  obtain ⟨b7, o7, s7, q7, hg7, hc7, hs7, h, e7⟩ := laid_one (g := 7) (by kernel_rfl) (by kernel_rfl) h (fun b off hb => hok b off (M _ hb))
  rw [e7] at M U
  have n7 := M (.cell 7 0) (by simp)
  have k7 := M (.cell b7 o7) (by simp)
  replace M : ∀ p, p ∈ q7 → p ∈ ps := fun p hp => M p (by simp [hp])
  obtain ⟨b8, o8, s8, q8, hg8, hc8, hs8, h, e8⟩ := laid_one (g := 8) (by kernel_rfl) (by kernel_rfl) h (fun b off hb => hok b off (M _ hb))
  rw [e8] at M U
  have n8 := M (.cell 8 0) (by simp)
  have k8 := M (.cell b8 o8) (by simp)
  replace M : ∀ p, p ∈ q8 → p ∈ ps := fun p hp => M p (by simp [hp])
  obtain ⟨b9, o9, s9, q9, hg9, hc9, hs9, h, e9⟩ := laid_one (g := 9) (by kernel_rfl) (by kernel_rfl) h (fun b off hb => hok b off (M _ hb))
  rw [e9] at M U
  have n9 := M (.cell 9 0) (by simp)
  have k9 := M (.cell b9 o9) (by simp)
  replace M : ∀ p, p ∈ q9 → p ∈ ps := fun p hp => M p (by simp [hp])
  obtain ⟨b10, o10, s10, q10, hg10, hc10, hs10, h, e10⟩ := laid_one (g := 10) (by kernel_rfl) (by kernel_rfl) h (fun b off hb => hok b off (M _ hb))
  rw [e10] at M U
  have n10 := M (.cell 10 0) (by simp)
  have k10 := M (.cell b10 o10) (by simp)
  replace M : ∀ p, p ∈ q10 → p ∈ ps := fun p hp => M p (by simp [hp])
  obtain ⟨b11, o11, s11, q11, hg11, hc11, hs11, h, e11⟩ := laid_one (g := 11) (by kernel_rfl) (by kernel_rfl) h (fun b off hb => hok b off (M _ hb))
  rw [e11] at M U
  have n11 := M (.cell 11 0) (by simp)
  have k11 := M (.cell b11 o11) (by simp)
  replace M : ∀ p, p ∈ q11 → p ∈ ps := fun p hp => M p (by simp [hp])
  obtain ⟨b12, o12, s12, q12, hg12, hc12, hs12, h, e12⟩ := laid_one (g := 12) (by kernel_rfl) (by kernel_rfl) h (fun b off hb => hok b off (M _ hb))
  rw [e12] at M U
  have n12 := M (.cell 12 0) (by simp)
  have k12 := M (.cell b12 o12) (by simp)
  replace M : ∀ p, p ∈ q12 → p ∈ ps := fun p hp => M p (by simp [hp])
  obtain ⟨b13, o13, s13, q13, hg13, hc13, hs13, h, e13⟩ := laid_one (g := 13) (by kernel_rfl) (by kernel_rfl) h (fun b off hb => hok b off (M _ hb))
  rw [e13] at M U
  have n13 := M (.cell 13 0) (by simp)
  have k13 := M (.cell b13 o13) (by simp)
  replace M : ∀ p, p ∈ q13 → p ∈ ps := fun p hp => M p (by simp [hp])
  obtain ⟨b14, o14, s14, q14, hg14, hc14, hs14, h, e14⟩ := laid_one (g := 14) (by kernel_rfl) (by kernel_rfl) h (fun b off hb => hok b off (M _ hb))
  rw [e14] at M U
  have n14 := M (.cell 14 0) (by simp)
  have k14 := M (.cell b14 o14) (by simp)
  replace M : ∀ p, p ∈ q14 → p ∈ ps := fun p hp => M p (by simp [hp])
  refine ⟨fun g => [b0, b1, b2, b3, b4, b5, b6, b7, b8, b9, b10, b11, b12, b13, b14].getD g 0, fun g => [o0, o1, o2, o3, o4, o5, o6, o7, o8, o9, o10, o11, o12, o13, o14].getD g 0, ?_, ?_, ?_, ?_, ?_⟩
  · intro g hg
    match g, hg with
    | 0, _ => exact hg0
    | 1, _ => exact hg1
    | 2, _ => exact hg2
    | 3, _ => exact hg3
    | 4, _ => exact hg4
    | 5, _ => exact hg5
    | 6, _ => exact hg6
    | 7, _ => exact hg7
    | 8, _ => exact hg8
    | 9, _ => exact hg9
    | 10, _ => exact hg10
    | 11, _ => exact hg11
    | 12, _ => exact hg12
    | 13, _ => exact hg13
    | 14, _ => exact hg14
  · intro g hg
    match g, hg with
    | 0, _ => exact ⟨s0, hc0, hs0⟩
    | 1, _ => exact ⟨s1, hc1, hs1⟩
    | 2, _ => exact ⟨s2, hc2, hs2⟩
    | 3, _ => exact ⟨s3, hc3, hs3⟩
    | 4, _ => exact ⟨s4, hc4, hs4⟩
    | 5, _ => exact ⟨s5, hc5, hs5⟩
    | 6, _ => exact ⟨s6, hc6, hs6⟩
    | 7, _ => exact ⟨s7, hc7, hs7⟩
    | 8, _ => exact ⟨s8, hc8, hs8⟩
    | 9, _ => exact ⟨s9, hc9, hs9⟩
    | 10, _ => exact ⟨s10, hc10, hs10⟩
    | 11, _ => exact ⟨s11, hc11, hs11⟩
    | 12, _ => exact ⟨s12, hc12, hs12⟩
    | 13, _ => exact ⟨s13, hc13, hs13⟩
    | 14, _ => exact ⟨s14, hc14, hs14⟩
  · intro g hg
    match g, hg with
    | 0, _ => exact hwr _ _ n0
    | 1, _ => exact hwr _ _ n1
    | 2, _ => exact hwr _ _ n2
    | 3, _ => exact hwr _ _ n3
    | 4, _ => exact hwr _ _ n4
    | 5, _ => exact hwr _ _ n5
    | 6, _ => exact hwr _ _ n6
    | 7, _ => exact hwr _ _ n7
    | 8, _ => exact hwr _ _ n8
    | 9, _ => exact hwr _ _ n9
    | 10, _ => exact hwr _ _ n10
    | 11, _ => exact hwr _ _ n11
    | 12, _ => exact hwr _ _ n12
    | 13, _ => exact hwr _ _ n13
    | 14, _ => exact hwr _ _ n14
  · intro g hg
    match g, hg with
    | 0, _ => exact hwr _ _ k0
    | 1, _ => exact hwr _ _ k1
    | 2, _ => exact hwr _ _ k2
    | 3, _ => exact hwr _ _ k3
    | 4, _ => exact hwr _ _ k4
    | 5, _ => exact hwr _ _ k5
    | 6, _ => exact hwr _ _ k6
    | 7, _ => exact hwr _ _ k7
    | 8, _ => exact hwr _ _ k8
    | 9, _ => exact hwr _ _ k9
    | 10, _ => exact hwr _ _ k10
    | 11, _ => exact hwr _ _ k11
    | 12, _ => exact hwr _ _ k12
    | 13, _ => exact hwr _ _ k13
    | 14, _ => exact hwr _ _ k14
  · refine List.Nodup.sublist (List.sublist_append_left _ q14) ?_
    exact U

theorem begin_of {W : World} (h : laidMet P Rows.deriveSaysRow.laid W) {S : Cells} (hS : ∀ b k, S b k → ∃ κ n, at_ W b k = some (.int κ n)) : ∃ B O, Begin W B O S := by
  obtain ⟨B, O, h1, h2, h3, h4, h5⟩ := laid_all h
  exact ⟨B, O, h1, h2, fun g hg => writable_of (h1 g hg) (h3 g hg), fun g hg => by obtain ⟨s, hs, -⟩ := h2 g hg; exact writable_of hs (h4 g hg), d1_of h5, d2_of h5, hS⟩
end Go.Am.Ds
