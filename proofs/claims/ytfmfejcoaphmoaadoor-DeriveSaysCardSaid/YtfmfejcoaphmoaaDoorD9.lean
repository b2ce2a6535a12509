/- DeriveSays answers true, whatever the numbers and the word; no condition: a part of the proof. -/
import Derived.Test.YtfmfejcoaphmoaaDoorD8
set_option linter.unusedSimpArgs false
set_option linter.unusedVariables false
/- DeriveSays on AM: a type from numbers. -/
namespace Go.Am.Ds
open Go Go.Am Go.Proofs
set_option maxRecDepth 10000
attribute [local simp] slV_nil slV_cons

def qH (B : Heap) (L : Nums) (a : Nat) : Heap := B.push (.cells [seqL L, .int .i64 a])
/-- What is said of a type. -/
structure Dt where
  vs : List (List UInt8)
  cs : List (UInt8 × Nat)
  der : List (List UInt8)
  pos : Int
def Dt.good (d : Dt) : Prop := d.vs.length ≤ 2 ∧ d.cs.length ≤ 4 ∧ (∀ c ∈ d.cs, c.2 ≤ 3) ∧ d.der.length ≤ 3
def strsV (l : List (List UInt8)) : AV := slV (l.map fun s => [.str s])
def Dt.val (d : Dt) : AV := dV [84] d.vs d.cs (strsV d.der) d.pos

/-- Next, at the place 31. -/
theorem next31 (L : Nums) (a : Nat) (ha : a ≤ 1000000) (H : Heap) (m : Int) (R : AV → Heap → Prop) (mm : Mark R) (hm : 0 < m) (hb : m < 1000) (hH : H.trunc 30 = E.base) (hq : H.get 31 = some (.cells [seqL L, .int .i64 a])) :
    ACalls E 5 [.ptr 31 0, .int .i64 m] H (Held R mm) ↔ R (.int .i64 (numN (nth L a) m)) (H.put 31 (some (.cells [seqL L, .int .i64 (a + 1 : Nat)]))) := next_ok L a ha H 31 (by omega) m hm hb hH hq R mm

theorem add1 (y n : Nat) : y + n + 1 = y + (n + 1) := Nat.add_assoc _ _ _
theorem add2 (y n : Nat) : y + n + 2 = y + (n + 2) := Nat.add_assoc _ _ _
theorem add3 (y n : Nat) : y + n + 3 = y + (n + 3) := Nat.add_assoc _ _ _
theorem z31a (x y n : Nat) (h : 31 < n) : (31 = x + (y + n)) = False := by simp; omega
theorem z31b (x y z n : Nat) (h : 31 < n) : (31 = z + (x + (y + n))) = False := by simp; omega
theorem z31c (x y z w n : Nat) (h : 31 < n) : (31 = w + (z + (x + (y + n)))) = False := by simp; omega
theorem z30a (x y n : Nat) (h : 30 ≤ n) : (x + (y + n) < 30) = False := by simp; omega
theorem g30a (x y n : Nat) (h : 30 ≤ n) : (30 ≤ x + (y + n)) = True := by simp; omega
theorem g30b (x y z n : Nat) (h : 30 ≤ n) : (30 ≤ z + (x + (y + n))) = True := by simp; omega
theorem conC_len1 (c : UInt8 × Nat) : (conC c).length = 2 := by simp [conC]
theorem z30b (x y z n : Nat) (h : 30 ≤ n) : (z + (x + (y + n)) < 30) = False := by simp; omega
theorem z30c (x y z w n : Nat) (h : 30 ≤ n) : (w + (z + (x + (y + n))) < 30) = False := by simp; omega
theorem zya (x y m n : Nat) (h : m < n) : (y + m = x + (y + n)) = False := by simp; omega
theorem zyb (x y z m n : Nat) (h : m < n) : (y + m = z + (x + (y + n))) = False := by simp; omega
theorem zyc (x y z w m n : Nat) (h : m < n) : (y + m = w + (z + (x + (y + n)))) = False := by simp; omega
theorem zxb (x y z m n : Nat) (h : m < n) : (x + (y + m) = z + (x + (y + n))) = False := by simp; omega
theorem zxc (x y z w m n : Nat) (h : m < n) : (x + (y + m) = w + (z + (x + (y + n)))) = False := by simp; omega
theorem zzc (x y z w m n : Nat) (h : m < n) : (z + (x + (y + m)) = w + (z + (x + (y + n)))) = False := by simp; omega
theorem lya (x y m n : Nat) (h : m < n) : (y + m < x + (y + n)) = True := by simp; omega
theorem lyb (x y z m n : Nat) (h : m < n) : (y + m < z + (x + (y + n))) = True := by simp; omega
theorem lyc (x y z w m n : Nat) (h : m < n) : (y + m < w + (z + (x + (y + n)))) = True := by simp; omega
theorem lxb (x y z m n : Nat) (h : m < n) : (x + (y + m) < z + (x + (y + n))) = True := by simp; omega
theorem lxc (x y z w m n : Nat) (h : m < n) : (x + (y + m) < w + (z + (x + (y + n)))) = True := by simp; omega
theorem lzc (x y z w m n : Nat) (h : m < n) : (z + (x + (y + m)) < w + (z + (x + (y + n)))) = True := by simp; omega
theorem l31a (x y n : Nat) (h : 31 < n) : (31 < x + (y + n)) = True := by simp; omega
theorem l31b (x y z n : Nat) (h : 31 < n) : (31 < z + (x + (y + n))) = True := by simp; omega
theorem l31c (x y z w n : Nat) (h : 31 < n) : (31 < w + (z + (x + (y + n)))) = True := by simp; omega
attribute [local simp] lya lyb lyc lxb lxc lzc l31a l31b l31c
attribute [local simp] g30a g30b conC_len1 add1 add2 add3 z31a z31b z31c z30a z30b z30c zya zyb zyc zxb zxc zzc
theorem listTok_eq {es fs : List (List AV)} {m n k : Nat} (h1 : es = fs) (h2 : m = n) : AV.list es (.tok m k) = AV.list fs (.tok n k) := by rw [h1, h2]
theorem push2_more (X : Heap) (c d : Obj) (K : List (Option Obj)) : ((X.push c).push d).more K = X.more (K ++ [some d, some c]) := by simp [Heap.more, Heap.push]
theorem ext_le {cs : List (UInt8 × Nat)} (h : ∀ c ∈ cs, c.2 ≤ 3) {b : UInt8} {k : Nat} (hk : k ≤ 3) : ∀ c ∈ cs ++ [(b, k)], c.2 ≤ 3 := fun c hc => by
  rcases List.mem_append.1 hc with hc | hc
  · exact h c hc
  · simp only [List.mem_cons, List.not_mem_nil, or_false] at hc; subst hc; exact hk
def abc : List (List AV) := [[.str [97]], [.str [98]], [.str [99]]]
noncomputable abbrev hH (B : Heap) (L : Nums) (a : Nat) (J : List (Option Obj)) (U C D : AV) (pos : Int) : Heap :=
  (((B.push (.cells [seqL L, .int .i64 a])).more J).push (.cells [.str [], .nilS, .nilS, .nilS, .int .i64 0])).push (.cells [.str [84], U, C, D, .int .i64 pos])

set_option maxHeartbeats 1000000 in
theorem data_ok (B : Heap) (hB : B.next = 31) (hB30 : B.trunc 30 = E.base) (L : Nums) (a : Nat) (ha : a ≤ 900000) (J : List (Option Obj)) :
    ACalls E 6 [.ptr 31 0] ((qH B L a).more J) (Held (fun X H' => ∃ (d : Dt) (a' : Nat) (K : List (Option Obj)), d.good ∧ a' ≤ a + 100 ∧ X = d.val ∧ H' = ((qH B L a').more J).more K) .mk) := by
  refine ACalls.of Tryd.func6 rfl rfl rfl rfl rfl ?_
  have hn0 := next31 L a (by omega)
  simp -dsimp [qH, hB, hB30, hn0]
  generalize numN (nth L a) 90 = pos
  refine Wp.loop (fun (i : Nat) ρ H => i ≤ 2 ∧ ρ 0 = .ptr 31 0 ∧ ρ 2 = .ptr (J.length + 32) 0 ∧ ρ 3 = .ptr (J.length + 33) 0 ∧ ρ 4 = .int .i64 i ∧ ∃ (a' : Nat) (U : AV), a' ≤ a + 1 + i ∧
      ((i = 0 ∧ U = .nilS ∧ H = hH B L a' J U .nilS .nilS pos) ∨
       (0 < i ∧ ∃ J1 : List (Option Obj), U = .list (abc.take i) (.tok (J1.length + (J.length + 34)) 1) ∧ H = ((hH B L a' J U .nilS .nilS pos).more J1).push .tok))) (fun (i : Nat) => 3 - i) ?_ 0 _ _ ?_
  · rintro i ρ H ⟨hi, h0, h2, h3, h4, a', U, ha', hh⟩
    have hn := next31 L a' (by omega)
    have hlt := numN_lt (x := nth L a') (m := 3) (by omega)
    by_cases hrl : (i : Int) < numN (nth L a') 3
    · have hi1 : i = 0 ∨ i = 1 := by omega
      rcases hi1 with rfl | rfl
      · rcases hh with ⟨-, rfl, rfl⟩ | ⟨hh, -⟩
        · have hrl : (0 : Int) < numN (nth L a') 3 := hrl
          simp -dsimp [h0, h2, h3, h4, hB, hB30, hn, hrl, hH]
          exact ⟨1, by omega, by omega, rfl, a' + 1, by omega, _, Or.inr ⟨by omega, [], by simp [abc]; rfl, by simp [abc]; rfl⟩⟩
        · omega
      · rcases hh with ⟨hh, -⟩ | ⟨-, J1, rfl, rfl⟩
        · omega
        · have hrl : (1 : Int) < numN (nth L a') 3 := hrl
          simp -dsimp [h0, h2, h3, h4, hB, hB30, hn, hrl, hH, abc]
          have e : J1.length + (J.length + 35) = (none :: J1).length + (J.length + 34) := by simp only [List.length_cons]; omega
          rw [e]
          exact ⟨2, by omega, by omega, rfl, a' + 1, by omega, _, Or.inr ⟨by omega, none :: J1, rfl, rfl⟩⟩
    · have hvs : ∃ vs : List (List UInt8), vs.length ≤ 2 ∧ U.freeze = varsV vs ∧ ∃ J1, H = (hH B L a' J U .nilS .nilS pos).more J1 := by
        rcases hh with ⟨-, rfl, rfl⟩ | ⟨hi0, J1, rfl, rfl⟩
        · exact ⟨[], by simp, by simp [varsV], [], rfl⟩
        · refine ⟨[[97], [98], [99]].take i, Nat.le_trans (List.length_take_le _ _) hi, ?_, some .tok :: J1, rfl⟩
          match i, hi with
          | 0, _ => exact absurd hi0 (by omega)
          | 1, _ => simp [abc, varsV]
          | 2, _ => simp [abc, varsV]
      obtain ⟨vs, hvl, hUc, J1, rfl⟩ := hvs
      clear hh
      have hn' := next31 L (a' + 1) (by omega)
      simp -dsimp [h0, h2, h3, h4, hB, hB30, hn, hrl, hH, hn']
      have hr5 := numN_lt (x := nth L (a' + 1)) (m := 5) (by omega)
      generalize numN (nth L (a' + 1)) 5 = r5 at hr5
      obtain ⟨r, rfl⟩ : ∃ r : Nat, r5 = (r : Int) := ⟨r5.toNat, by omega⟩
      clear hrl hn hn' hlt h4
      refine Wp.loop (fun (j : Nat) ρ H => j ≤ 4 ∧ ρ 0 = .ptr 31 0 ∧ ρ 2 = .ptr (J.length + 32) 0 ∧ ρ 3 = .ptr (J.length + 33) 0 ∧ ρ 5 = .int .i64 j ∧ ∃ (a' : Nat) (C : AV) (cs : List (UInt8 × Nat)), a' + 6 * j ≤ a + 30 ∧ cs.length + j ≤ 4 ∧ (∀ c ∈ cs, c.2 ≤ 3) ∧
        ((cs = [] ∧ C = .nilS ∧ ∃ J1 : List (Option Obj), H = (hH B L a' J U C .nilS pos).more J1) ∨
         (cs ≠ [] ∧ ∃ J1 : List (Option Obj), C = .list (cs.map conC) (.tok (J1.length + (J.length + 34)) 2) ∧ H = ((hH B L a' J U C .nilS pos).more J1).push .tok))) (fun (j : Nat) => j) ?_ r _ _ ?_
      · rintro j ρ H ⟨hj, h0, h2, h3, h5, a', C, cs, ha', hcl, hck, hh⟩
        have hn := next31 L a' (by omega)
        by_cases hj0 : 0 < j
        · have hj0' : (0 : Int) < j := by omega
          have hr4 := numN_lt (x := nth L a') (m := 4) (by omega)
          rcases hh with ⟨rfl, rfl, J1, rfl⟩ | ⟨hne, J1, rfl, rfl⟩
          · match j, hj with
            | 0, _ => exact absurd hj0 (by omega)
            | 1, _ =>
              have hn2 := next31 L (a' + 1) (by omega)
              simp -dsimp [h0, h2, h3, h5, hB, hB30, hn, hH]
              generalize numN (nth L a') 4 = k4 at hr4
              obtain ⟨k, rfl⟩ : ∃ k : Nat, k4 = (k : Int) := ⟨k4.toNat, by omega⟩
              have hk4 : k ≤ 3 := by omega
              match k, hk4 with
              | 0, _ =>
                refine Wp.unroll ?_
                simp -dsimp [h0, h2, h3, h5, hB, hB30, con_ok, ty]
                refine ⟨a' + 1, by omega, ?C1, [] ++ [(66, 0)], ?_, ?_, Or.inr ⟨by simp, ?J1, ?e1_1, ?e2_1⟩⟩
                case e2_1 => simp only [more_push, more_skip]; exact rfl
                case e1_1 => exact listTok_eq (by simp [conC, argsV, intC, List.replicate]) (by simp; omega)
                · simp
                · exact fun a b h => ext_le hck (by omega) (a, b) h
              | 1, _ =>
                refine Wp.unroll ?_
                simp -dsimp [h0, h2, h3, h5, hB, hB30, con_ok, ty]
                refine Wp.unroll ?_
                simp -dsimp [h0, h2, h3, h5, hB, hB30, con_ok, ty]
                refine ⟨a' + 1, by omega, ?C2, [] ++ [(66, 1)], ?_, ?_, Or.inr ⟨by simp, ?J2, ?e1_2, ?e2_2⟩⟩
                case e2_2 => simp only [more_push, more_skip]; exact rfl
                case e1_2 => exact listTok_eq (by simp [conC, argsV, intC, List.replicate]) (by simp; omega)
                · simp
                · exact fun a b h => ext_le hck (by omega) (a, b) h
              | 2, _ =>
                refine Wp.unroll ?_
                simp -dsimp [h0, h2, h3, h5, hB, hB30, con_ok, ty]
                refine Wp.unroll ?_
                simp -dsimp [h0, h2, h3, h5, hB, hB30, con_ok, ty]
                refine Wp.unroll ?_
                simp -dsimp [h0, h2, h3, h5, hB, hB30, con_ok, ty]
                refine ⟨a' + 1, by omega, ?C3, [] ++ [(66, 2)], ?_, ?_, Or.inr ⟨by simp, ?J3, ?e1_3, ?e2_3⟩⟩
                case e2_3 => simp only [more_push, more_skip]; exact rfl
                case e1_3 => exact listTok_eq (by simp [conC, argsV, intC, List.replicate]) (by simp; omega)
                · simp
                · exact fun a b h => ext_le hck (by omega) (a, b) h
              | 3, _ =>
                refine Wp.unroll ?_
                simp -dsimp [h0, h2, h3, h5, hB, hB30, con_ok, ty]
                refine Wp.unroll ?_
                simp -dsimp [h0, h2, h3, h5, hB, hB30, con_ok, ty]
                refine Wp.unroll ?_
                simp -dsimp [h0, h2, h3, h5, hB, hB30, con_ok, ty]
                refine Wp.unroll ?_
                simp -dsimp [h0, h2, h3, h5, hB, hB30, con_ok, ty]
                refine ⟨a' + 1, by omega, ?C4, [] ++ [(66, 3)], ?_, ?_, Or.inr ⟨by simp, ?J4, ?e1_4, ?e2_4⟩⟩
                case e2_4 => simp only [more_push, more_skip]; exact rfl
                case e1_4 => exact listTok_eq (by simp [conC, argsV, intC, List.replicate]) (by simp; omega)
                · simp
                · exact fun a b h => ext_le hck (by omega) (a, b) h
            | 2, _ =>
              have hn2 := next31 L (a' + 1) (by omega)
              simp -dsimp [h0, h2, h3, h5, hB, hB30, hn, hH]
              generalize numN (nth L a') 4 = k4 at hr4
              obtain ⟨k, rfl⟩ : ∃ k : Nat, k4 = (k : Int) := ⟨k4.toNat, by omega⟩
              have hk4 : k ≤ 3 := by omega
              match k, hk4 with
              | 0, _ =>
                refine Wp.unroll ?_
                simp -dsimp [h0, h2, h3, h5, hB, hB30, con_ok, ty]
                refine ⟨1, by omega, by omega, rfl, a' + 1, by omega, ?C5, [] ++ [(67, 0)], ?_, ?_, Or.inr ⟨by simp, ?J5, ?e1_5, ?e2_5⟩⟩
                case e2_5 => simp only [more_push, more_skip]; exact rfl
                case e1_5 => exact listTok_eq (by simp [conC, argsV, intC, List.replicate]) (by simp; omega)
                · simp
                · exact fun a b h => ext_le hck (by omega) (a, b) h
              | 1, _ =>
                refine Wp.unroll ?_
                simp -dsimp [h0, h2, h3, h5, hB, hB30, con_ok, ty]
                refine Wp.unroll ?_
                simp -dsimp [h0, h2, h3, h5, hB, hB30, con_ok, ty]
                refine ⟨1, by omega, by omega, rfl, a' + 1, by omega, ?C6, [] ++ [(67, 1)], ?_, ?_, Or.inr ⟨by simp, ?J6, ?e1_6, ?e2_6⟩⟩
                case e2_6 => simp only [more_push, more_skip]; exact rfl
                case e1_6 => exact listTok_eq (by simp [conC, argsV, intC, List.replicate]) (by simp; omega)
                · simp
                · exact fun a b h => ext_le hck (by omega) (a, b) h
              | 2, _ =>
                refine Wp.unroll ?_
                simp -dsimp [h0, h2, h3, h5, hB, hB30, con_ok, ty]
                refine Wp.unroll ?_
                simp -dsimp [h0, h2, h3, h5, hB, hB30, con_ok, ty]
                refine Wp.unroll ?_
                simp -dsimp [h0, h2, h3, h5, hB, hB30, con_ok, ty]
                refine ⟨1, by omega, by omega, rfl, a' + 1, by omega, ?C7, [] ++ [(67, 2)], ?_, ?_, Or.inr ⟨by simp, ?J7, ?e1_7, ?e2_7⟩⟩
                case e2_7 => simp only [more_push, more_skip]; exact rfl
                case e1_7 => exact listTok_eq (by simp [conC, argsV, intC, List.replicate]) (by simp; omega)
                · simp
                · exact fun a b h => ext_le hck (by omega) (a, b) h
              | 3, _ =>
                refine Wp.unroll ?_
                simp -dsimp [h0, h2, h3, h5, hB, hB30, con_ok, ty]
                refine Wp.unroll ?_
                simp -dsimp [h0, h2, h3, h5, hB, hB30, con_ok, ty]
                refine Wp.unroll ?_
                simp -dsimp [h0, h2, h3, h5, hB, hB30, con_ok, ty]
                refine Wp.unroll ?_
                simp -dsimp [h0, h2, h3, h5, hB, hB30, con_ok, ty]
                refine ⟨1, by omega, by omega, rfl, a' + 1, by omega, ?C8, [] ++ [(67, 3)], ?_, ?_, Or.inr ⟨by simp, ?J8, ?e1_8, ?e2_8⟩⟩
                case e2_8 => simp only [more_push, more_skip]; exact rfl
                case e1_8 => exact listTok_eq (by simp [conC, argsV, intC, List.replicate]) (by simp; omega)
                · simp
                · exact fun a b h => ext_le hck (by omega) (a, b) h
            | 3, _ =>
              have hn2 := next31 L (a' + 1) (by omega)
              simp -dsimp [h0, h2, h3, h5, hB, hB30, hn, hH]
              generalize numN (nth L a') 4 = k4 at hr4
              obtain ⟨k, rfl⟩ : ∃ k : Nat, k4 = (k : Int) := ⟨k4.toNat, by omega⟩
              have hk4 : k ≤ 3 := by omega
              match k, hk4 with
              | 0, _ =>
                refine Wp.unroll ?_
                simp -dsimp [h0, h2, h3, h5, hB, hB30, con_ok, ty]
                refine ⟨2, by omega, by omega, rfl, a' + 1, by omega, ?C9, [] ++ [(68, 0)], ?_, ?_, Or.inr ⟨by simp, ?J9, ?e1_9, ?e2_9⟩⟩
                case e2_9 => simp only [more_push, more_skip]; exact rfl
                case e1_9 => exact listTok_eq (by simp [conC, argsV, intC, List.replicate]) (by simp; omega)
                · simp
                · exact fun a b h => ext_le hck (by omega) (a, b) h
              | 1, _ =>
                refine Wp.unroll ?_
                simp -dsimp [h0, h2, h3, h5, hB, hB30, con_ok, ty]
                refine Wp.unroll ?_
                simp -dsimp [h0, h2, h3, h5, hB, hB30, con_ok, ty]
                refine ⟨2, by omega, by omega, rfl, a' + 1, by omega, ?C10, [] ++ [(68, 1)], ?_, ?_, Or.inr ⟨by simp, ?J10, ?e1_10, ?e2_10⟩⟩
                case e2_10 => simp only [more_push, more_skip]; exact rfl
                case e1_10 => exact listTok_eq (by simp [conC, argsV, intC, List.replicate]) (by simp; omega)
                · simp
                · exact fun a b h => ext_le hck (by omega) (a, b) h
              | 2, _ =>
                refine Wp.unroll ?_
                simp -dsimp [h0, h2, h3, h5, hB, hB30, con_ok, ty]
                refine Wp.unroll ?_
                simp -dsimp [h0, h2, h3, h5, hB, hB30, con_ok, ty]
                refine Wp.unroll ?_
                simp -dsimp [h0, h2, h3, h5, hB, hB30, con_ok, ty]
                refine ⟨2, by omega, by omega, rfl, a' + 1, by omega, ?C11, [] ++ [(68, 2)], ?_, ?_, Or.inr ⟨by simp, ?J11, ?e1_11, ?e2_11⟩⟩
                case e2_11 => simp only [more_push, more_skip]; exact rfl
                case e1_11 => exact listTok_eq (by simp [conC, argsV, intC, List.replicate]) (by simp; omega)
                · simp
                · exact fun a b h => ext_le hck (by omega) (a, b) h
              | 3, _ =>
                refine Wp.unroll ?_
                simp -dsimp [h0, h2, h3, h5, hB, hB30, con_ok, ty]
                refine Wp.unroll ?_
                simp -dsimp [h0, h2, h3, h5, hB, hB30, con_ok, ty]
                refine Wp.unroll ?_
                simp -dsimp [h0, h2, h3, h5, hB, hB30, con_ok, ty]
                refine Wp.unroll ?_
                simp -dsimp [h0, h2, h3, h5, hB, hB30, con_ok, ty]
                refine ⟨2, by omega, by omega, rfl, a' + 1, by omega, ?C12, [] ++ [(68, 3)], ?_, ?_, Or.inr ⟨by simp, ?J12, ?e1_12, ?e2_12⟩⟩
                case e2_12 => simp only [more_push, more_skip]; exact rfl
                case e1_12 => exact listTok_eq (by simp [conC, argsV, intC, List.replicate]) (by simp; omega)
                · simp
                · exact fun a b h => ext_le hck (by omega) (a, b) h
            | 4, _ =>
              have hn2 := next31 L (a' + 1) (by omega)
              simp -dsimp [h0, h2, h3, h5, hB, hB30, hn, hH]
              generalize numN (nth L a') 4 = k4 at hr4
              obtain ⟨k, rfl⟩ : ∃ k : Nat, k4 = (k : Int) := ⟨k4.toNat, by omega⟩
              have hk4 : k ≤ 3 := by omega
              match k, hk4 with
              | 0, _ =>
                refine Wp.unroll ?_
                simp -dsimp [h0, h2, h3, h5, hB, hB30, con_ok, ty]
                refine ⟨3, by omega, by omega, rfl, a' + 1, by omega, ?C13, [] ++ [(69, 0)], ?_, ?_, Or.inr ⟨by simp, ?J13, ?e1_13, ?e2_13⟩⟩
                case e2_13 => simp only [more_push, more_skip]; exact rfl
                case e1_13 => exact listTok_eq (by simp [conC, argsV, intC, List.replicate]) (by simp; omega)
                · simp
                · exact fun a b h => ext_le hck (by omega) (a, b) h
              | 1, _ =>
                refine Wp.unroll ?_
                simp -dsimp [h0, h2, h3, h5, hB, hB30, con_ok, ty]
                refine Wp.unroll ?_
                simp -dsimp [h0, h2, h3, h5, hB, hB30, con_ok, ty]
                refine ⟨3, by omega, by omega, rfl, a' + 1, by omega, ?C14, [] ++ [(69, 1)], ?_, ?_, Or.inr ⟨by simp, ?J14, ?e1_14, ?e2_14⟩⟩
                case e2_14 => simp only [more_push, more_skip]; exact rfl
                case e1_14 => exact listTok_eq (by simp [conC, argsV, intC, List.replicate]) (by simp; omega)
                · simp
                · exact fun a b h => ext_le hck (by omega) (a, b) h
              | 2, _ =>
                refine Wp.unroll ?_
                simp -dsimp [h0, h2, h3, h5, hB, hB30, con_ok, ty]
                refine Wp.unroll ?_
                simp -dsimp [h0, h2, h3, h5, hB, hB30, con_ok, ty]
                refine Wp.unroll ?_
                simp -dsimp [h0, h2, h3, h5, hB, hB30, con_ok, ty]
                refine ⟨3, by omega, by omega, rfl, a' + 1, by omega, ?C15, [] ++ [(69, 2)], ?_, ?_, Or.inr ⟨by simp, ?J15, ?e1_15, ?e2_15⟩⟩
                case e2_15 => simp only [more_push, more_skip]; exact rfl
                case e1_15 => exact listTok_eq (by simp [conC, argsV, intC, List.replicate]) (by simp; omega)
                · simp
                · exact fun a b h => ext_le hck (by omega) (a, b) h
              | 3, _ =>
                refine Wp.unroll ?_
                simp -dsimp [h0, h2, h3, h5, hB, hB30, con_ok, ty]
                refine Wp.unroll ?_
                simp -dsimp [h0, h2, h3, h5, hB, hB30, con_ok, ty]
                refine Wp.unroll ?_
                simp -dsimp [h0, h2, h3, h5, hB, hB30, con_ok, ty]
                refine Wp.unroll ?_
                simp -dsimp [h0, h2, h3, h5, hB, hB30, con_ok, ty]
                refine ⟨3, by omega, by omega, rfl, a' + 1, by omega, ?C16, [] ++ [(69, 3)], ?_, ?_, Or.inr ⟨by simp, ?J16, ?e1_16, ?e2_16⟩⟩
                case e2_16 => simp only [more_push, more_skip]; exact rfl
                case e1_16 => exact listTok_eq (by simp [conC, argsV, intC, List.replicate]) (by simp; omega)
                · simp
                · exact fun a b h => ext_le hck (by omega) (a, b) h
          · have hb1 : (cs.length + 1) * 40 ≤ 35184372088832 := by omega
            have hb2 : cs.length ≤ 35184372088831 := by omega
            match j, hj with
            | 0, _ => exact absurd hj0 (by omega)
            | 1, _ =>
              have hn2 := next31 L (a' + 1) (by omega)
              simp -dsimp [h0, h2, h3, h5, hB, hB30, hn, hH]
              generalize numN (nth L a') 4 = k4 at hr4
              obtain ⟨k, rfl⟩ : ∃ k : Nat, k4 = (k : Int) := ⟨k4.toNat, by omega⟩
              have hk4 : k ≤ 3 := by omega
              match k, hk4 with
              | 0, _ =>
                refine Wp.unroll ?_
                simp -dsimp [h0, h2, h3, h5, hB, hB30, con_ok, ty, hb1, hb2, conC_len]
                refine ⟨a' + 1, by omega, ?C17, cs ++ [(66, 0)], ?_, ?_, Or.inr ⟨by simp, ?J17, ?e1_17, ?e2_17⟩⟩
                case e2_17 => simp only [more_push, more_skip]; exact rfl
                case e1_17 => exact listTok_eq (by simp [conC, argsV, intC, List.replicate]) (by simp; omega)
                · simp; omega
                · exact fun a b h => ext_le hck (by omega) (a, b) h
              | 1, _ =>
                refine Wp.unroll ?_
                simp -dsimp [h0, h2, h3, h5, hB, hB30, con_ok, ty, hb1, hb2, conC_len]
                refine Wp.unroll ?_
                simp -dsimp [h0, h2, h3, h5, hB, hB30, con_ok, ty, hb1, hb2, conC_len]
                refine ⟨a' + 1, by omega, ?C18, cs ++ [(66, 1)], ?_, ?_, Or.inr ⟨by simp, ?J18, ?e1_18, ?e2_18⟩⟩
                case e2_18 => simp only [more_push, more_skip]; exact rfl
                case e1_18 => exact listTok_eq (by simp [conC, argsV, intC, List.replicate]) (by simp; omega)
                · simp; omega
                · exact fun a b h => ext_le hck (by omega) (a, b) h
              | 2, _ =>
                refine Wp.unroll ?_
                simp -dsimp [h0, h2, h3, h5, hB, hB30, con_ok, ty, hb1, hb2, conC_len]
                refine Wp.unroll ?_
                simp -dsimp [h0, h2, h3, h5, hB, hB30, con_ok, ty, hb1, hb2, conC_len]
                refine Wp.unroll ?_
                simp -dsimp [h0, h2, h3, h5, hB, hB30, con_ok, ty, hb1, hb2, conC_len]
                refine ⟨a' + 1, by omega, ?C19, cs ++ [(66, 2)], ?_, ?_, Or.inr ⟨by simp, ?J19, ?e1_19, ?e2_19⟩⟩
                case e2_19 => simp only [more_push, more_skip]; exact rfl
                case e1_19 => exact listTok_eq (by simp [conC, argsV, intC, List.replicate]) (by simp; omega)
                · simp; omega
                · exact fun a b h => ext_le hck (by omega) (a, b) h
              | 3, _ =>
                refine Wp.unroll ?_
                simp -dsimp [h0, h2, h3, h5, hB, hB30, con_ok, ty, hb1, hb2, conC_len]
                refine Wp.unroll ?_
                simp -dsimp [h0, h2, h3, h5, hB, hB30, con_ok, ty, hb1, hb2, conC_len]
                refine Wp.unroll ?_
                simp -dsimp [h0, h2, h3, h5, hB, hB30, con_ok, ty, hb1, hb2, conC_len]
                refine Wp.unroll ?_
                simp -dsimp [h0, h2, h3, h5, hB, hB30, con_ok, ty, hb1, hb2, conC_len]
                refine ⟨a' + 1, by omega, ?C20, cs ++ [(66, 3)], ?_, ?_, Or.inr ⟨by simp, ?J20, ?e1_20, ?e2_20⟩⟩
                case e2_20 => simp only [more_push, more_skip]; exact rfl
                case e1_20 => exact listTok_eq (by simp [conC, argsV, intC, List.replicate]) (by simp; omega)
                · simp; omega
                · exact fun a b h => ext_le hck (by omega) (a, b) h
            | 2, _ =>
              have hn2 := next31 L (a' + 1) (by omega)
              simp -dsimp [h0, h2, h3, h5, hB, hB30, hn, hH]
              generalize numN (nth L a') 4 = k4 at hr4
              obtain ⟨k, rfl⟩ : ∃ k : Nat, k4 = (k : Int) := ⟨k4.toNat, by omega⟩
              have hk4 : k ≤ 3 := by omega
              match k, hk4 with
              | 0, _ =>
                refine Wp.unroll ?_
                simp -dsimp [h0, h2, h3, h5, hB, hB30, con_ok, ty, hb1, hb2, conC_len]
                refine ⟨1, by omega, by omega, rfl, a' + 1, by omega, ?C21, cs ++ [(67, 0)], ?_, ?_, Or.inr ⟨by simp, ?J21, ?e1_21, ?e2_21⟩⟩
                case e2_21 => simp only [more_push, more_skip]; exact rfl
                case e1_21 => exact listTok_eq (by simp [conC, argsV, intC, List.replicate]) (by simp; omega)
                · simp; omega
                · exact fun a b h => ext_le hck (by omega) (a, b) h
              | 1, _ =>
                refine Wp.unroll ?_
                simp -dsimp [h0, h2, h3, h5, hB, hB30, con_ok, ty, hb1, hb2, conC_len]
                refine Wp.unroll ?_
                simp -dsimp [h0, h2, h3, h5, hB, hB30, con_ok, ty, hb1, hb2, conC_len]
                refine ⟨1, by omega, by omega, rfl, a' + 1, by omega, ?C22, cs ++ [(67, 1)], ?_, ?_, Or.inr ⟨by simp, ?J22, ?e1_22, ?e2_22⟩⟩
                case e2_22 => simp only [more_push, more_skip]; exact rfl
                case e1_22 => exact listTok_eq (by simp [conC, argsV, intC, List.replicate]) (by simp; omega)
                · simp; omega
                · exact fun a b h => ext_le hck (by omega) (a, b) h
              | 2, _ =>
                refine Wp.unroll ?_
                simp -dsimp [h0, h2, h3, h5, hB, hB30, con_ok, ty, hb1, hb2, conC_len]
                refine Wp.unroll ?_
                simp -dsimp [h0, h2, h3, h5, hB, hB30, con_ok, ty, hb1, hb2, conC_len]
                refine Wp.unroll ?_
                simp -dsimp [h0, h2, h3, h5, hB, hB30, con_ok, ty, hb1, hb2, conC_len]
                refine ⟨1, by omega, by omega, rfl, a' + 1, by omega, ?C23, cs ++ [(67, 2)], ?_, ?_, Or.inr ⟨by simp, ?J23, ?e1_23, ?e2_23⟩⟩
                case e2_23 => simp only [more_push, more_skip]; exact rfl
                case e1_23 => exact listTok_eq (by simp [conC, argsV, intC, List.replicate]) (by simp; omega)
                · simp; omega
                · exact fun a b h => ext_le hck (by omega) (a, b) h
              | 3, _ =>
                refine Wp.unroll ?_
                simp -dsimp [h0, h2, h3, h5, hB, hB30, con_ok, ty, hb1, hb2, conC_len]
                refine Wp.unroll ?_
                simp -dsimp [h0, h2, h3, h5, hB, hB30, con_ok, ty, hb1, hb2, conC_len]
                refine Wp.unroll ?_
                simp -dsimp [h0, h2, h3, h5, hB, hB30, con_ok, ty, hb1, hb2, conC_len]
                refine Wp.unroll ?_
                simp -dsimp [h0, h2, h3, h5, hB, hB30, con_ok, ty, hb1, hb2, conC_len]
                refine ⟨1, by omega, by omega, rfl, a' + 1, by omega, ?C24, cs ++ [(67, 3)], ?_, ?_, Or.inr ⟨by simp, ?J24, ?e1_24, ?e2_24⟩⟩
                case e2_24 => simp only [more_push, more_skip]; exact rfl
                case e1_24 => exact listTok_eq (by simp [conC, argsV, intC, List.replicate]) (by simp; omega)
                · simp; omega
                · exact fun a b h => ext_le hck (by omega) (a, b) h
            | 3, _ =>
              have hn2 := next31 L (a' + 1) (by omega)
              simp -dsimp [h0, h2, h3, h5, hB, hB30, hn, hH]
              generalize numN (nth L a') 4 = k4 at hr4
              obtain ⟨k, rfl⟩ : ∃ k : Nat, k4 = (k : Int) := ⟨k4.toNat, by omega⟩
              have hk4 : k ≤ 3 := by omega
              match k, hk4 with
              | 0, _ =>
                refine Wp.unroll ?_
                simp -dsimp [h0, h2, h3, h5, hB, hB30, con_ok, ty, hb1, hb2, conC_len]
                refine ⟨2, by omega, by omega, rfl, a' + 1, by omega, ?C25, cs ++ [(68, 0)], ?_, ?_, Or.inr ⟨by simp, ?J25, ?e1_25, ?e2_25⟩⟩
                case e2_25 => simp only [more_push, more_skip]; exact rfl
                case e1_25 => exact listTok_eq (by simp [conC, argsV, intC, List.replicate]) (by simp; omega)
                · simp; omega
                · exact fun a b h => ext_le hck (by omega) (a, b) h
              | 1, _ =>
                refine Wp.unroll ?_
                simp -dsimp [h0, h2, h3, h5, hB, hB30, con_ok, ty, hb1, hb2, conC_len]
                refine Wp.unroll ?_
                simp -dsimp [h0, h2, h3, h5, hB, hB30, con_ok, ty, hb1, hb2, conC_len]
                refine ⟨2, by omega, by omega, rfl, a' + 1, by omega, ?C26, cs ++ [(68, 1)], ?_, ?_, Or.inr ⟨by simp, ?J26, ?e1_26, ?e2_26⟩⟩
                case e2_26 => simp only [more_push, more_skip]; exact rfl
                case e1_26 => exact listTok_eq (by simp [conC, argsV, intC, List.replicate]) (by simp; omega)
                · simp; omega
                · exact fun a b h => ext_le hck (by omega) (a, b) h
              | 2, _ =>
                refine Wp.unroll ?_
                simp -dsimp [h0, h2, h3, h5, hB, hB30, con_ok, ty, hb1, hb2, conC_len]
                refine Wp.unroll ?_
                simp -dsimp [h0, h2, h3, h5, hB, hB30, con_ok, ty, hb1, hb2, conC_len]
                refine Wp.unroll ?_
                simp -dsimp [h0, h2, h3, h5, hB, hB30, con_ok, ty, hb1, hb2, conC_len]
                refine ⟨2, by omega, by omega, rfl, a' + 1, by omega, ?C27, cs ++ [(68, 2)], ?_, ?_, Or.inr ⟨by simp, ?J27, ?e1_27, ?e2_27⟩⟩
                case e2_27 => simp only [more_push, more_skip]; exact rfl
                case e1_27 => exact listTok_eq (by simp [conC, argsV, intC, List.replicate]) (by simp; omega)
                · simp; omega
                · exact fun a b h => ext_le hck (by omega) (a, b) h
              | 3, _ =>
                refine Wp.unroll ?_
                simp -dsimp [h0, h2, h3, h5, hB, hB30, con_ok, ty, hb1, hb2, conC_len]
                refine Wp.unroll ?_
                simp -dsimp [h0, h2, h3, h5, hB, hB30, con_ok, ty, hb1, hb2, conC_len]
                refine Wp.unroll ?_
                simp -dsimp [h0, h2, h3, h5, hB, hB30, con_ok, ty, hb1, hb2, conC_len]
                refine Wp.unroll ?_
                simp -dsimp [h0, h2, h3, h5, hB, hB30, con_ok, ty, hb1, hb2, conC_len]
                refine ⟨2, by omega, by omega, rfl, a' + 1, by omega, ?C28, cs ++ [(68, 3)], ?_, ?_, Or.inr ⟨by simp, ?J28, ?e1_28, ?e2_28⟩⟩
                case e2_28 => simp only [more_push, more_skip]; exact rfl
                case e1_28 => exact listTok_eq (by simp [conC, argsV, intC, List.replicate]) (by simp; omega)
                · simp; omega
                · exact fun a b h => ext_le hck (by omega) (a, b) h
            | 4, _ => exact absurd (List.eq_nil_of_length_eq_zero (by omega)) hne
        · have : j = 0 := by omega
          subst this
          have hcs : C.freeze = consV cs ∧ ∃ J1, H = (hH B L a' J U C .nilS pos).more J1 := by
            rcases hh with ⟨rfl, rfl, J1, rfl⟩ | ⟨hne, J1, rfl, rfl⟩
            · exact ⟨by simp [consV], J1, rfl⟩
            · exact ⟨by cases cs with | nil => exact absurd rfl hne | cons c l => simp [consV], some .tok :: J1, rfl⟩
          obtain ⟨hC, J1, rfl⟩ := hcs
          clear hh
          have hr4 := numN_lt (x := nth L a') (m := 4) (by omega)
          simp -dsimp [h0, h2, h3, h5, hB, hB30, hn, hH]
          generalize numN (nth L a') 4 = k4 at hr4
          obtain ⟨k, rfl⟩ : ∃ k : Nat, k4 = (k : Int) := ⟨k4.toNat, by omega⟩
          clear hn h5 hj0
          have hcl4 : cs.length ≤ 4 := by omega
          refine Wp.loop (fun (j : Nat) ρ H => j ≤ 3 ∧ ρ 0 = .ptr 31 0 ∧ ρ 2 = .ptr (J.length + 32) 0 ∧ ρ 3 = .ptr (J.length + 33) 0 ∧ ρ 8 = .int .i64 j ∧ ∃ (a' : Nat) (D : AV) (ds : List (List UInt8)), a' + 2 * j ≤ a + 40 ∧ ds.length + j ≤ 3 ∧
            ((ds = [] ∧ D = .nilS ∧ ∃ J1 : List (Option Obj), H = (hH B L a' J U C D pos).more J1) ∨
             (ds ≠ [] ∧ ∃ J1 : List (Option Obj), D = .list (ds.map fun s => [.str s]) (.tok (J1.length + (J.length + 34)) 1) ∧ H = ((hH B L a' J U C D pos).more J1).push .tok))) (fun (j : Nat) => j) ?_ k _ _ ?_
          · rintro j ρ H ⟨hj, h0, h2, h3, h5, a', D, ds, ha', hcl, hh⟩
            have hn := next31 L a' (by omega)
            by_cases hj0 : 0 < j
            · have hr7 := numN_lt (x := nth L a') (m := 7) (by omega)
              have h74 : ∃ q : Nat, q ≤ 3 ∧ (numN (nth L a') 7).tmod 4 = (q : Int) := by
                refine ⟨((numN (nth L a') 7).tmod 4).toNat, ?_, ?_⟩
                · have := Int.tmod_lt_of_pos (numN (nth L a') 7) (b := 4) (by omega)
                  omega
                · have := Int.tmod_nonneg 4 hr7.1
                  omega
              obtain ⟨q, hq3, hq⟩ := h74
              rcases hh with ⟨rfl, rfl, J1, rfl⟩ | ⟨hne, J1, rfl, rfl⟩
              · match j, hj with
                | 0, _ => exact absurd hj0 (by omega)
                | 1, _ =>
                  match q, hq3 with
                  | 0, _ =>
                    simp -dsimp [h0, h2, h3, h5, hB, hB30, hn, hH, hq]
                    refine ⟨a' + 1, by omega, ?C101, [] ++ [[69, 113]], ?_, Or.inr ⟨by simp, ?J101, ?e1_101, ?e2_101⟩⟩
                    case e2_101 => simp only [more_push, more_skip]; exact rfl
                    case e1_101 => exact listTok_eq (by simp) (by simp <;> omega)
                    · simp
                  | 1, _ =>
                    simp -dsimp [h0, h2, h3, h5, hB, hB30, hn, hH, hq]
                    refine ⟨a' + 1, by omega, ?C102, [] ++ [[79, 114, 100]], ?_, Or.inr ⟨by simp, ?J102, ?e1_102, ?e2_102⟩⟩
                    case e2_102 => simp only [more_push, more_skip]; exact rfl
                    case e1_102 => exact listTok_eq (by simp) (by simp <;> omega)
                    · simp
                  | 2, _ =>
                    simp -dsimp [h0, h2, h3, h5, hB, hB30, hn, hH, hq]
                    refine ⟨a' + 1, by omega, ?C103, [] ++ [[83, 104, 111, 119]], ?_, Or.inr ⟨by simp, ?J103, ?e1_103, ?e2_103⟩⟩
                    case e2_103 => simp only [more_push, more_skip]; exact rfl
                    case e1_103 => exact listTok_eq (by simp) (by simp <;> omega)
                    · simp
                  | 3, _ =>
                    simp -dsimp [h0, h2, h3, h5, hB, hB30, hn, hH, hq]
                    refine ⟨a' + 1, by omega, ?C104, [] ++ [[78, 117, 109]], ?_, Or.inr ⟨by simp, ?J104, ?e1_104, ?e2_104⟩⟩
                    case e2_104 => simp only [more_push, more_skip]; exact rfl
                    case e1_104 => exact listTok_eq (by simp) (by simp <;> omega)
                    · simp
                | 2, _ =>
                  match q, hq3 with
                  | 0, _ =>
                    simp -dsimp [h0, h2, h3, h5, hB, hB30, hn, hH, hq]
                    refine ⟨1, by omega, by omega, rfl, a' + 1, by omega, ?C105, [] ++ [[69, 113]], ?_, Or.inr ⟨by simp, ?J105, ?e1_105, ?e2_105⟩⟩
                    case e2_105 => simp only [more_push, more_skip]; exact rfl
                    case e1_105 => exact listTok_eq (by simp) (by simp <;> omega)
                    · simp
                  | 1, _ =>
                    simp -dsimp [h0, h2, h3, h5, hB, hB30, hn, hH, hq]
                    refine ⟨1, by omega, by omega, rfl, a' + 1, by omega, ?C106, [] ++ [[79, 114, 100]], ?_, Or.inr ⟨by simp, ?J106, ?e1_106, ?e2_106⟩⟩
                    case e2_106 => simp only [more_push, more_skip]; exact rfl
                    case e1_106 => exact listTok_eq (by simp) (by simp <;> omega)
                    · simp
                  | 2, _ =>
                    simp -dsimp [h0, h2, h3, h5, hB, hB30, hn, hH, hq]
                    refine ⟨1, by omega, by omega, rfl, a' + 1, by omega, ?C107, [] ++ [[83, 104, 111, 119]], ?_, Or.inr ⟨by simp, ?J107, ?e1_107, ?e2_107⟩⟩
                    case e2_107 => simp only [more_push, more_skip]; exact rfl
                    case e1_107 => exact listTok_eq (by simp) (by simp <;> omega)
                    · simp
                  | 3, _ =>
                    simp -dsimp [h0, h2, h3, h5, hB, hB30, hn, hH, hq]
                    refine ⟨1, by omega, by omega, rfl, a' + 1, by omega, ?C108, [] ++ [[78, 117, 109]], ?_, Or.inr ⟨by simp, ?J108, ?e1_108, ?e2_108⟩⟩
                    case e2_108 => simp only [more_push, more_skip]; exact rfl
                    case e1_108 => exact listTok_eq (by simp) (by simp <;> omega)
                    · simp
                | 3, _ =>
                  match q, hq3 with
                  | 0, _ =>
                    simp -dsimp [h0, h2, h3, h5, hB, hB30, hn, hH, hq]
                    refine ⟨2, by omega, by omega, rfl, a' + 1, by omega, ?C109, [] ++ [[69, 113]], ?_, Or.inr ⟨by simp, ?J109, ?e1_109, ?e2_109⟩⟩
                    case e2_109 => simp only [more_push, more_skip]; exact rfl
                    case e1_109 => exact listTok_eq (by simp) (by simp <;> omega)
                    · simp
                  | 1, _ =>
                    simp -dsimp [h0, h2, h3, h5, hB, hB30, hn, hH, hq]
                    refine ⟨2, by omega, by omega, rfl, a' + 1, by omega, ?C110, [] ++ [[79, 114, 100]], ?_, Or.inr ⟨by simp, ?J110, ?e1_110, ?e2_110⟩⟩
                    case e2_110 => simp only [more_push, more_skip]; exact rfl
                    case e1_110 => exact listTok_eq (by simp) (by simp <;> omega)
                    · simp
                  | 2, _ =>
                    simp -dsimp [h0, h2, h3, h5, hB, hB30, hn, hH, hq]
                    refine ⟨2, by omega, by omega, rfl, a' + 1, by omega, ?C111, [] ++ [[83, 104, 111, 119]], ?_, Or.inr ⟨by simp, ?J111, ?e1_111, ?e2_111⟩⟩
                    case e2_111 => simp only [more_push, more_skip]; exact rfl
                    case e1_111 => exact listTok_eq (by simp) (by simp <;> omega)
                    · simp
                  | 3, _ =>
                    simp -dsimp [h0, h2, h3, h5, hB, hB30, hn, hH, hq]
                    refine ⟨2, by omega, by omega, rfl, a' + 1, by omega, ?C112, [] ++ [[78, 117, 109]], ?_, Or.inr ⟨by simp, ?J112, ?e1_112, ?e2_112⟩⟩
                    case e2_112 => simp only [more_push, more_skip]; exact rfl
                    case e1_112 => exact listTok_eq (by simp) (by simp <;> omega)
                    · simp
              · have hb1 : (ds.length + 1) * 16 ≤ 35184372088832 := by omega
                have hb2 : ds.length ≤ 35184372088831 := by omega
                match j, hj with
                | 0, _ => exact absurd hj0 (by omega)
                | 1, _ =>
                  match q, hq3 with
                  | 0, _ =>
                    simp -dsimp [h0, h2, h3, h5, hB, hB30, hn, hH, hq, hb1, hb2]
                    refine ⟨a' + 1, by omega, ?C113, ds ++ [[69, 113]], ?_, Or.inr ⟨by simp, ?J113, ?e1_113, ?e2_113⟩⟩
                    case e2_113 => simp only [more_push, more_skip]; exact rfl
                    case e1_113 => exact listTok_eq (by simp) (by simp <;> omega)
                    · simp; omega
                  | 1, _ =>
                    simp -dsimp [h0, h2, h3, h5, hB, hB30, hn, hH, hq, hb1, hb2]
                    refine ⟨a' + 1, by omega, ?C114, ds ++ [[79, 114, 100]], ?_, Or.inr ⟨by simp, ?J114, ?e1_114, ?e2_114⟩⟩
                    case e2_114 => simp only [more_push, more_skip]; exact rfl
                    case e1_114 => exact listTok_eq (by simp) (by simp; omega)
                    · simp; omega
                  | 2, _ =>
                    simp -dsimp [h0, h2, h3, h5, hB, hB30, hn, hH, hq, hb1, hb2]
                    refine ⟨a' + 1, by omega, ?C115, ds ++ [[83, 104, 111, 119]], ?_, Or.inr ⟨by simp, ?J115, ?e1_115, ?e2_115⟩⟩
                    case e2_115 => simp only [more_push, more_skip]; exact rfl
                    case e1_115 => exact listTok_eq (by simp) (by simp; omega)
                    · simp; omega
                  | 3, _ =>
                    simp -dsimp [h0, h2, h3, h5, hB, hB30, hn, hH, hq, hb1, hb2]
                    refine ⟨a' + 1, by omega, ?C116, ds ++ [[78, 117, 109]], ?_, Or.inr ⟨by simp, ?J116, ?e1_116, ?e2_116⟩⟩
                    case e2_116 => simp only [more_push, more_skip]; exact rfl
                    case e1_116 => exact listTok_eq (by simp) (by simp; omega)
                    · simp; omega
                | 2, _ =>
                  match q, hq3 with
                  | 0, _ =>
                    simp -dsimp [h0, h2, h3, h5, hB, hB30, hn, hH, hq, hb1, hb2]
                    refine ⟨1, by omega, by omega, rfl, a' + 1, by omega, ?C117, ds ++ [[69, 113]], ?_, Or.inr ⟨by simp, ?J117, ?e1_117, ?e2_117⟩⟩
                    case e2_117 => simp only [more_push, more_skip]; exact rfl
                    case e1_117 => exact listTok_eq (by simp) (by simp; omega)
                    · simp; omega
                  | 1, _ =>
                    simp -dsimp [h0, h2, h3, h5, hB, hB30, hn, hH, hq, hb1, hb2]
                    refine ⟨1, by omega, by omega, rfl, a' + 1, by omega, ?C118, ds ++ [[79, 114, 100]], ?_, Or.inr ⟨by simp, ?J118, ?e1_118, ?e2_118⟩⟩
                    case e2_118 => simp only [more_push, more_skip]; exact rfl
                    case e1_118 => exact listTok_eq (by simp) (by simp; omega)
                    · simp; omega
                  | 2, _ =>
                    simp -dsimp [h0, h2, h3, h5, hB, hB30, hn, hH, hq, hb1, hb2]
                    refine ⟨1, by omega, by omega, rfl, a' + 1, by omega, ?C119, ds ++ [[83, 104, 111, 119]], ?_, Or.inr ⟨by simp, ?J119, ?e1_119, ?e2_119⟩⟩
                    case e2_119 => simp only [more_push, more_skip]; exact rfl
                    case e1_119 => exact listTok_eq (by simp) (by simp; omega)
                    · simp; omega
                  | 3, _ =>
                    simp -dsimp [h0, h2, h3, h5, hB, hB30, hn, hH, hq, hb1, hb2]
                    refine ⟨1, by omega, by omega, rfl, a' + 1, by omega, ?C120, ds ++ [[78, 117, 109]], ?_, Or.inr ⟨by simp, ?J120, ?e1_120, ?e2_120⟩⟩
                    case e2_120 => simp only [more_push, more_skip]; exact rfl
                    case e1_120 => exact listTok_eq (by simp) (by simp; omega)
                    · simp; omega
                | 3, _ => exact absurd (List.eq_nil_of_length_eq_zero (by omega)) hne
            · have : j = 0 := by omega
              subst this
              have hds : D.freeze = strsV ds ∧ ∃ J1, H = (hH B L a' J U C D pos).more J1 := by
                rcases hh with ⟨rfl, rfl, J1, rfl⟩ | ⟨hne, J1, rfl, rfl⟩
                · exact ⟨by simp [strsV], J1, rfl⟩
                · exact ⟨by cases ds with | nil => exact absurd rfl hne | cons c l => simp [strsV], some .tok :: J1, rfl⟩
              obtain ⟨hD, J1, rfl⟩ := hds
              clear hh
              have o1 : (varsV vs).one = true := slV_one _
              have o2 : (consV cs).one = true := slV_one _
              have o3 : (strsV ds).one = true := slV_one _
              have z1 := cells_of_one o1
              have z2 := cells_of_one o2
              have z3 := cells_of_one o3
              have f1 : (varsV vs).freeze = varsV vs := slV_frz _
              have f2 : (consV cs).freeze = consV cs := slV_frz _
              have f3 : (strsV ds).freeze = strsV ds := slV_frz _
              simp -dsimp [h0, h2, h3, h5, hB, hB30, hn, hH, hUc, hC, hD, o1, o2, o3, f1, f2, f3]
              refine ⟨⟨vs, cs, ds, pos⟩, ⟨hvl, hcl4, hck, by simp at hcl ⊢; omega⟩, a', by omega, rfl, _, push2_more ..⟩
          · refine ⟨by omega, ?_⟩
            simp -dsimp [hB, h0, h2, h3]
            exact ⟨a' + 1, by omega, _, [], by simp; omega, Or.inl ⟨rfl, rfl, J1, rfl⟩⟩
      · refine ⟨by omega, ?_⟩
        simp -dsimp [hB, h0, h2, h3]
        exact ⟨a' + 2, by omega, _, [], by simp; omega, by simp, Or.inl ⟨rfl, rfl, J1, rfl⟩⟩
  · refine ⟨by omega, ?_⟩
    simp -dsimp [hB]
    exact ⟨a + 1, by omega, rfl⟩
end Go.Am.Ds
