/- AM, an abstract machine over plain values, and that the model does what it does: a part of the proof. -/
import Derived.Test.YtfmfejcoaphmoaaDoorA3
set_option linter.unusedSimpArgs false
set_option linter.unusedVariables false
/- AM against the model: make, append. -/
namespace Go.Am
open Go

variable {E : Env} {c : Bool} {o : Oper} {ρ : Tmps} {H H' : Heap} {v : AV} {φ : Phi} {S : Cells} {w w' : World} {a : Act}

theorem rep_flatten_take {z : List AV} {n m : Nat} (h : n ≤ m) : ∀ (j : Nat) c, (rep n z).flatten[j]? = some c → (rep m z).flatten[j]? = some c := fun j c hj => by
  have : m = n + (m - n) := by omega
  rw [rep] at hj
  rw [rep, this, ← List.replicate_append_replicate, List.flatten_append, List.getElem?_append_left (List.getElem?_eq_some_iff.1 hj).1]
  exact hj

theorem rep_VL {z : List AV} {zs : List Value} (h : VL φ S w z zs) (n : Nat) : VL φ S w (rep n z).flatten (List.replicate n zs).flatten := by
  induction n with
  | zero => exact VL.nil
  | succ n ih => simp only [rep, List.replicate_succ, List.flatten_cons] at *; exact h.append ih

theorem wrap_small {n : Nat} (h : n ≤ 2 ^ 45) : IntKind.i64.wrap (n : Int) = n := by
  simp only [IntKind.wrap, IntKind.bits, IntKind.signed]
  simp
  omega

theorem made_makeSlice {t : TypeId} {l cp : Operand} {kd : Kind} (ho : o.op = .makeSlice t l cp) (hs : aop E c o ρ H = some (v, H', kd)) (hr : VT φ S w ρ a) (hg : GlobOk E.ng φ)
    (hA : ∀ b k, S b k → ∃ v, at_ w b k = some v) : Made E o a φ S w H v H' := by
  simp only [aop, ho] at hs
  have hl := hr.eval hg l
  have hcp := hr.eval hg cp
  split at hs
  · rename_i z sz b ln cn hz hln hcn
    simp only [Option.bind_eq_some_iff, Option.map_eq_some_iff, Prod.mk.injEq] at hz
    obtain ⟨e, he, z', hz', sz', hsz, b', hb, rfl, rfl, rfl⟩ := hz
    have hu := elemOf_inv he
    obtain ⟨it, zv, h3, h4, rfl⟩ := zeroOf_inv hz'
    obtain ⟨it', h3', h5⟩ := sizeOf_inv hsz
    rw [h3] at h3'
    injection h3' with h3'
    subst h3'
    have h6 : it.bytes = b' := by simp only [bytesOf, h3, Option.map_some, Option.some.injEq] at hb; exact hb
    split at hs
    · rename_i hc
      obtain ⟨hc1, hc2, hc3, hc4, hc5⟩ := hc
      obtain ⟨k1, hk1⟩ := asNat_inv hln hl
      obtain ⟨k2, hk2⟩ := asNat_inv hcn hcp
      have hzc := zero_cells (φ := φ) (S := S) (w := w) zv
      have hzl : zv.cells.size = sz' := by rw [← hc4, hzc.1]; simp
      -- the row
      have hrow : ∃ ws : Array Value, (execOp a.eval o).run E.P w = .ok (.value (.slice (some ⟨w.heap.size, 0, none⟩) ln cn)) { w with heap := w.heap.push (.cells ws e) } ∧ ws.toList = (List.replicate cn zv.cells.toList).flatten := by
        refine ⟨(Array.range (cn * sz')).map fun i => zv.cells[i % zv.cells.size]!, ?_, by rw [← hzl, range_zero zv.cells cn (by omega)]⟩
        have w1 : IntKind.i64.wrap (ln : Int) = ln := wrap_small (by unfold room at hc3; omega)
        have w2 : IntKind.i64.wrap (cn : Int) = cn := wrap_small (by unfold room at hc3; omega)
        simp only [execOp, ho, hk1, hk2, Instr.makeSlice, Sem.run_bind, run_underlying hu, Result.andThen, asInt, asIntOf, Sem.run_pure, typeInfo, run_program, h3, w1, w2, h6]
        have hnl : ¬ ((cn : Int) < 0) := by omega
        have hbn : ¬ ((b' : Int) * cn > 2 ^ 48) := by
          have : cn * b' ≤ 2 ^ 45 := hc2
          have h7 : ((b' : Int) * cn) = ((cn * b' : Nat) : Int) := by rw [Int.natCast_mul, Int.mul_comm]
          rw [h7]
          omega
        have hl0 : ¬ ((ln : Int) < 0) := by omega
        have hlc : ¬ ((ln : Int) > cn) := by omega
        simp only [hnl, hbn, hl0, hlc, decide_false, Bool.or_self, Bool.false_eq_true, if_false, or_self, Sem.run_ite, Sem.run_pure, run_askRoom, Go.sizeOf, Sem.run_bind, Result.andThen, typeInfo, run_program, h3, Int.toNat_natCast, h5]
        by_cases h0 : cn * sz' = 0
        · simp [h0, newRow, Result.andThen]
          have hr0 : ∀ (f : Nat → Value), (Array.range 0).map f = #[] := fun f => Array.eq_empty_of_size_eq_zero (by simp)
          simp [hr0]
        · simp [h0, newRow, Result.andThen, run_zeroValue h3 h4]
      obtain ⟨ws, hrun, hws⟩ := hrow
      have hwl : ws.size = cn * sz' := by
        have := congrArg List.length hws
        simpa [hzl] using this
      have hnew : ∀ φ' : Phi, (∀ i l, φ i = some l → φ' i = some l) → VL φ' S { w with heap := w.heap.push (.cells ws e) } (rep cn (ofConst zv).cells).flatten ws.toList := fun φ' h => by
        rw [hws]
        exact rep_VL (hzc.mono h ((grow_new S w (.cells ws e)).vmono hA)) cn
      split at hs
      · rename_i h0
        obtain ⟨rfl, h0⟩ := h0
        simp only [Option.some.injEq, Prod.mk.injEq] at hs
        obtain ⟨rfl, rfl, -⟩ := hs
        refine ⟨.tok, .tok w.heap.size 0 (cn * sz'), _, _, rfl, hrun, grow_new S w _, fun b k h => by rw [h.1]; exact Nat.le_refl _, fun φ' h7 h8 => ⟨⟨ws, e, by simp, by omega⟩, ?_⟩⟩
        exact .list [] (.tok H.next sz') w.heap.size 0 cn sz' (fun _ _ => Go.undef) (Nat.zero_le _) (by simp) (by simp) (by simp) ⟨rfl, by simpa using h8⟩
      · simp only [Option.some.injEq, Prod.mk.injEq] at hs
        obtain ⟨rfl, rfl, -⟩ := hs
        refine ⟨_, .obj w.heap.size 0 (cn * sz'), _, _, rfl, hrun, grow_new S w _, fun b k h => by rw [h.1]; exact Nat.le_refl _, fun φ' h7 h8 => ⟨⟨?_, ⟨ws, e, by simp, by omega⟩, fun j c hj => ?_⟩, ?_⟩⟩
        · rw [flatten_length (sz := sz') (fun e he => by simp only [rep] at he; rw [List.eq_of_mem_replicate he, hc4])]
          simp only [rep, List.length_replicate]
          exact Nat.mul_le_mul_right _ hc1
        · obtain ⟨u, h9, h10⟩ := (hnew φ' h7).get (rep_flatten_take hc1 j c hj)
          exact ⟨u, by rw [Nat.zero_add, at_push_row]; simpa using h9, h10⟩
        · exact .arr _ 0 ln sz' w.heap.size 0 (cn * sz') cn h8 hc1 (by omega)
    · simp at hs
  · simp at hs

/-! ### append -/

theorem growBy_le (n : Nat) : ∀ (r cc : Nat), 256 ≤ cc → Builtin.growBy n r cc ≤ max cc (2 * n)
  | 0, cc, _ => Nat.le_max_left _ _
  | r + 1, cc, h => by
    simp only [Builtin.growBy]
    split
    · exact Nat.le_max_left _ _
    · have := growBy_le n r (cc + (cc + 768) / 4) (by omega)
      omega

theorem nextcap_le {n old : Nat} (h : old < n) : Builtin.nextslicecap n old ≤ 2 * n := by
  unfold Builtin.nextslicecap
  split
  · omega
  · split
    · omega
    · have := growBy_le n 4 old (by omega)
      omega

/-- What is known of the elements that are appended. -/
structure Els (P : Program) (S : Cells) (w : World) (sz n : Nat) (x : Value) (news : List Value) : Prop where
  len : ∀ w, (Builtin.lenOf x).run P w = .ok n w
  firsts : ∀ m, m ≤ n → ∀ d, (Builtin.firstCells sz m x).run P { w with drawn := d } = .ok (news.take (m * sz)).toArray { w with drawn := d }
  size : news.length = n * sz

theorem Els.first {P : Program} {S : Cells} {w : World} {sz n : Nat} {x : Value} {news : List Value} (h : Els P S w sz n x news) (d : Nat) : (Builtin.firstCells sz n x).run P { w with drawn := d } = .ok news.toArray { w with drawn := d } := by
  rw [h.firsts n (Nat.le_refl _) d, ← h.size, List.take_length]

theorem run_firstCells (P : Program) (sz n b off len cap : Nat) (cs : List Value) (hl : cs.length = n * sz) (h : ∀ j v, cs[j]? = some v → at_ w b (off + j) = some v) (d : Nat) :
    (Builtin.firstCells sz n (.slice (some ⟨b, off, none⟩) len cap)).run P { w with drawn := d } = .ok cs.toArray { w with drawn := d } := by
  simp only [Builtin.firstCells, ← hl]
  exact run_loadCells_list (P := P) (w := { w with drawn := d }) ⟨b, off, none⟩ cs fun j u hj => by
    rw [addr_add]; exact h j u hj

theorem freezeL_len (cs : List AV) : (freezeL cs).length = cs.length := by simp [freezeL]

theorem VLL_list {es : List (List AV)} {b off sz : Nat} {f : Nat → Nat → Value} (hz : ∀ e ∈ es, e.length = sz)
    (hs : ∀ i e j c, es[i]? = some e → e[j]? = some c → S b (off + i * sz + j) ∧ at_ w b (off + i * sz + j) = some (f i j))
    (hv : ∀ i e j c, es[i]? = some e → e[j]? = some c → V φ S w c (f i j)) :
    ∃ vs : List Value, VL φ S w es.flatten vs ∧ ∀ j u, vs[j]? = some u → at_ w b (off + j) = some u ∧ S b (off + j) := by
  refine ⟨(List.range (es.length * sz)).map fun k => (at_ w b (off + k)).getD Go.undef, ?_, ?_⟩
  all_goals
    have key : ∀ k, k < es.length * sz → ∃ i j e c, es[i]? = some e ∧ e[j]? = some c ∧ k = i * sz + j ∧ es.flatten[k]? = some c := fun k hk => by
      have h0 : 0 < sz := by
        rcases Nat.eq_zero_or_pos sz with h | h
        · subst h; simp at hk
        · exact h
      have hi : k / sz < es.length := by rw [Nat.div_lt_iff_lt_mul h0]; exact hk
      have hj : k % sz < (es[k / sz]).length := by rw [hz _ (by simp)]; exact Nat.mod_lt _ h0
      have e1 : k = k / sz * sz + k % sz := by rw [Nat.mul_comm]; exact (Nat.div_add_mod k sz).symm
      refine ⟨k / sz, k % sz, es[k / sz], (es[k / sz])[k % sz], by simp [hi], by simp [hj], e1, ?_⟩
      have := flatten_get hz (i := k / sz) (j := k % sz) (e := es[k / sz]) (c := (es[k / sz])[k % sz]) (by simp [hi]) (by simp [hj])
      rw [← e1] at this
      exact this
  · refine ⟨by simp [flatten_length hz], fun k c u h1 h2 => ?_⟩
    have hk : k < es.length * sz := by rw [← flatten_length hz]; exact (List.getElem?_eq_some_iff.1 h1).1
    obtain ⟨i, j, e, c', h3, h4, h5, h6⟩ := key k hk
    rw [h6] at h1; injection h1 with h1; subst h1
    have h7 := (hs i e j c' h3 h4).2
    simp only [List.getElem?_map, List.getElem?_range hk, Option.map_some, Option.some.injEq] at h2
    have e2 : off + k = off + i * sz + j := by omega
    rw [e2, h7] at h2
    simp at h2
    exact h2 ▸ hv i e j c' h3 h4
  · intro k u h2
    have hk : k < es.length * sz := by have := (List.getElem?_eq_some_iff.1 h2).1; simpa using this
    obtain ⟨i, j, e, c', h3, h4, h5, h6⟩ := key k hk
    have h7 := hs i e j c' h3 h4
    simp only [List.getElem?_map, List.getElem?_range hk, Option.map_some, Option.some.injEq] at h2
    have e2 : off + k = off + i * sz + j := by omega
    rw [e2] at h2 ⊢
    rw [h7.2] at h2 ⊢
    simp at h2
    exact ⟨by rw [h2], h7.1⟩

theorem chunk_flatten {sz : Nat} : ∀ (n : Nat) (cs : List AV), cs.length = n * sz → (chunk sz n cs).flatten = cs ∧ (chunk sz n cs).length = n ∧ ∀ e ∈ chunk sz n cs, e.length = sz
  | 0, cs, h => by
    have : cs = [] := List.eq_nil_of_length_eq_zero (by simpa using h)
    subst this
    simp [chunk]
  | n + 1, cs, h => by
    obtain ⟨h1, h2, h3⟩ := chunk_flatten (sz := sz) n (cs.drop sz) (by simp [h, Nat.add_mul])
    refine ⟨by simp [chunk, h1], by simp [chunk, h2], fun e he => ?_⟩
    simp only [chunk, List.mem_cons] at he
    rcases he with rfl | he
    · simp [h, Nat.add_mul]
    · exact h3 e he

theorem elems_sound {P : Program} {sz : Nat} {x : AV} {vx : Value} {xs : List (List AV)} (h : elems H sz x = some xs) (hx : V φ S w x vx) (hst : St φ S H w) :
    ∃ news, Els P S w sz xs.length vx news ∧ VL φ S w xs.flatten news ∧ ∀ e ∈ xs, e.length = sz := by
  cases x <;> simp only [elems, reduceCtorEq] at h
  case nilS =>
    injection h with h; subst h
    rw [hx.nilS_inv]
    exact ⟨[], ⟨fun w => rfl, fun m _ d => by simp [Builtin.firstCells], by simp⟩, VL.nil, by simp⟩
  case list es t =>
    split at h
    · rename_i hal
      injection h with h; subst h
      have hz' : ∀ e ∈ es, e.length = sz := fun e he => by simpa using List.all_eq_true.1 hal e he
      cases hx with
      | list _ _ b off cap sz' f hc hz hs hv ht =>
        have hs2 : ∀ i e j c, es[i]? = some e → e[j]? = some c → S b (off + i * sz + j) ∧ at_ w b (off + i * sz + j) = some (f i j) := fun i e j c h1 h2 => by
          have e1 : sz' = sz := by rw [← hz e (List.mem_of_getElem? h1), hz' e (List.mem_of_getElem? h1)]
          rw [← e1]; exact hs i e j c h1 h2
        obtain ⟨vs, h1, h2⟩ := VLL_list hz' hs2 hv
        have e2 : (es.map freezeL).flatten = freezeL es.flatten := by simp [freezeL, List.map_flatten]; rfl
        have hlen : vs.length = es.length * sz := by rw [← h1.1, flatten_length hz']
        refine ⟨vs, ⟨fun w => by simp [Builtin.lenOf], fun m hm d => ?_, by simpa using hlen⟩, by rw [e2]; exact h1.freeze, fun e he => ?_⟩
        · simp only [List.length_map] at hm
          exact run_firstCells P sz m b off es.length cap (vs.take (m * sz)) (by have := Nat.mul_le_mul_right sz hm; simp; omega) (fun j u hj => (h2 j u (by rw [List.getElem?_take] at hj; split at hj <;> simp_all)).1) d
        · simp only [List.mem_map] at he
          obtain ⟨e', he', rfl⟩ := he
          rw [freezeL_len, hz' e' he']
    · simp at h
  case str s =>
    split at h
    · rename_i h1
      subst h1
      injection h with h; subst h
      obtain ⟨b, rfl, rfl⟩ := hx.str_inv
      refine ⟨b.data.toList.map fun b => .int .u8 b.toNat, ⟨fun w => by simp [Builtin.lenOf], fun m hm d => ?_, by simp⟩, ?_, by simp⟩
      · simp [Builtin.firstCells]
        apply Array.ext'
        simp [List.map_take]
      · refine ⟨?_, fun i c u h2 h3 => ?_⟩
        · rw [flatten_length (sz := 1) (by simp)]; simp
        have e2 : (b.data.toList.map fun b => [AV.int .u8 (b.toNat : Int)]).flatten = b.data.toList.map fun b => AV.int .u8 (b.toNat : Int) := by
          generalize b.data.toList = l
          induction l with
          | nil => rfl
          | cons x l ih => simp [ih]
        rw [e2] at h2
        simp only [List.getElem?_map, Option.map_eq_some_iff] at h2 h3
        obtain ⟨y, h4, rfl⟩ := h2
        obtain ⟨y', h5, rfl⟩ := h3
        rw [h4] at h5; injection h5 with h5; subst h5
        exact .int _ _
    · simp at h
  case arr id off len s =>
    split at h
    · rename_i h1
      subst h1
      simp only [Option.map_eq_some_iff] at h
      obtain ⟨cs, h1, rfl⟩ := h
      simp only [Heap.rng, Option.bind_eq_some_iff] at h1
      obtain ⟨ds, h2, h3⟩ := h1
      obtain ⟨h4, h5⟩ := part_get h3
      have hget : H.get id = some (.cells ds) := by
        unfold Heap.cells at h2
        split at h2
        · rename_i h5; injection h2 with h2; rw [h5, h2]
        · simp at h2
      have hcl : cs.length = len * s := by rw [h4]; simp; omega
      obtain ⟨c1, c2, c3⟩ := chunk_flatten len (freezeL cs) (by rw [freezeL_len, hcl])
      cases hx with
      | arr _ _ _ _ b base total cap hφ hc ht =>
        obtain ⟨h6, h7, h8⟩ := hst.obj id _ _ hget hφ
        have hh : Holds φ S w b (base + off) cs := by
          have := Holds.sub (φ := φ) (S := S) (w := w) (b := b) (off := base) (cs := ds) h8 off (len * s)
          rw [← h4] at this; exact this
        obtain ⟨vs, h9, h10⟩ := hh.list
        have hvl : vs.length = len * s := by rw [← h9.1, hcl]
        refine ⟨vs, ⟨fun w => by simp [Builtin.lenOf, c2], fun m hm d => ?_, by rw [c2]; exact hvl⟩, by rw [c1]; exact h9.freeze, c3⟩
        rw [c2] at hm
        exact run_firstCells P s m b (base + off) len cap (vs.take (m * s)) (by have := Nat.mul_le_mul_right s hm; simp; omega) (fun j u hj => h10 j u (by rw [List.getElem?_take] at hj; split at hj <;> simp_all)) d
    · simp at h

/-- The operation append, its argument's elements known: where there is room. -/
theorem run_append_in {P : Program} {t u ty e : TypeId} {i : TypeInfo} {sz n sLen sCap b off : Nat} {x : Value} {news : List Value} (hu : P.underlying t = some (.slice e)) (hi : P.info? e = some i) (hsz : i.size = sz)
    (h2 : ∃ d, P.underlying u = some d ∧ ∀ k, d ≠ .int k) (he : Els P S w sz n x news) (hroom : sLen + n ≤ sCap) (hw : Writable w b (off + sLen * sz) news.length) (h1 : ∀ v ∈ news, v.oneCell' = true) :
    ∃ w', (Builtin.append_ #[t, u] ty #[.slice (some ⟨b, off, none⟩) sLen sCap, x]).run P w = .ok (.slice (some ⟨b, off, none⟩) (sLen + n) sCap) w' ∧ Wr w b (off + sLen * sz) news w' := by
  obtain ⟨d, hd, hdi⟩ := h2
  have hz : (match d with | .int _ => true | _ => false) = false := by cases d <;> first | rfl | exact absurd rfl (hdi _)
  obtain ⟨w', h3, h4⟩ := wr_store P (w := w) (b := b) (off := off + sLen * sz) (i := 0) (vs := news) (by simpa using hw) h1
  refine ⟨w', ?_, by simpa using h4⟩
  have hf := he.first w.drawn
  simp only [Builtin.append_, Sem.run_bind, run_underlying hu, Result.andThen, run_sizeOf' hi, hsz, run_underlying hd, Sem.run_pure, List.getElem?_toArray, List.getElem?_cons_zero, List.getElem?_cons_succ, hz, Bool.false_eq_true, if_false, he.len, hroom, if_true, Bool.not_false]
  simp only [hf, addr_add, h3, Result.andThen]

/-- The same where there is no room: a new row. -/
theorem run_append_out {P : Program} {t u ty e : TypeId} {i : TypeInfo} {z : Value} {sz bytes n sLen sCap : Nat} {base : Option Addr} {x : Value} {olds news : List Value} (hu : P.underlying t = some (.slice e)) (hi : P.info? e = some i)
    (hsz : i.size = sz) (hby : i.bytes = bytes) (hz : i.zero = some z) (hzs : z.cells.size = sz) (hs0 : 0 < sz)
    (h2 : ∃ d, P.underlying u = some d ∧ ∀ k, d ≠ .int k) (he : Els P S w sz n x news) (hroom : sCap < sLen + n) (hbnd : (sLen + n) * bytes ≤ room ∧ sLen + n ≤ 2 ^ 60)
    (ho : ∀ d, (Builtin.firstCells sz sLen (.slice base sLen sCap)).run P { w with drawn := d } = .ok olds.toArray { w with drawn := d }) (hol : olds.length = sLen * sz) :
    ∃ (cap : Nat) (zs : List Value), sLen + n ≤ cap ∧ (Builtin.append_ #[t, u] ty #[.slice base sLen sCap, x]).run P w =
      .ok (.slice (some ⟨w.heap.size, 0, none⟩) (sLen + n) cap) { w with drawn := w.drawn + 1, heap := w.heap.push (.cells (olds ++ news ++ zs).toArray e) } ∧ (olds ++ news ++ zs).length = cap * sz := by
  obtain ⟨d, hd, hdi⟩ := h2
  have hzz : (match d with | .int _ => true | _ => false) = false := by cases d <;> first | rfl | exact absurd rfl (hdi _)
  have hge := grownCap_ge w (sLen + n) sCap e
  refine ⟨grownCap w (sLen + n) sCap e, (Builtin.zeroCells z.cells (grownCap w (sLen + n) sCap e - (sLen + n))).toList, hge, ?_, ?_⟩
  · have hf := he.first (w.drawn + 1)
    have ho' := ho (w.drawn + 1)
    have hnc : ¬ (Builtin.nextslicecap (sLen + n) sCap * bytes > 2 ^ 48) := by
      have h3 := nextcap_le hroom
      have h4 : Builtin.nextslicecap (sLen + n) sCap * bytes ≤ 2 * (sLen + n) * bytes := Nat.mul_le_mul_right _ h3
      have h5 : 2 * (sLen + n) * bytes = 2 * ((sLen + n) * bytes) := Nat.mul_assoc _ _ _
      have h6 := hbnd.1
      unfold room at h6
      omega
    have hmx : ¬ (((sLen + n : Nat) : Int) > IntKind.i64.max ∧ (false = true ∨ bytes = 0)) := by
      rintro ⟨h3, -⟩
      have : IntKind.i64.max = 9223372036854775807 := by decide
      have := hbnd.2
      omega
    simp only [Builtin.append_, Sem.run_bind, run_underlying hu, Result.andThen, run_sizeOf' hi, hsz, run_underlying hd, Sem.run_pure, List.getElem?_toArray, List.getElem?_cons_zero, List.getElem?_cons_succ, hzz, Bool.false_eq_true, if_false, he.len]
    rw [if_neg (by omega)]
    simp only [typeInfo, run_program, Sem.run_bind, Result.andThen, hi, Sem.run_pure, hby]
    rw [if_neg (by simpa using hmx)]
    simp only [typeInfo, run_program, Sem.run_bind, Result.andThen, hi, Sem.run_pure, hby]
    rw [if_neg hnc]
    simp only [typeInfo, run_program, Sem.run_bind, Result.andThen, hi, Sem.run_pure, hby, run_choose, Question.forced, Bool.false_eq_true, if_false, run_askRoom, Bool.not_false, if_true]
    rw [show (Question.appendCap (sLen + n) sCap e).cut (w.tape w.drawn (.appendCap (sLen + n) sCap e)) = grownCap w (sLen + n) sCap e from rfl]
    rw [ho']
    simp only []
    rw [hf]
    simp only [run_zeroValue hi hz, newRow, Sem.run_bind, run_newObj, Result.andThen, Sem.run_pure]
    have e1 : olds.toArray ++ news.toArray ++ Builtin.zeroCells z.cells (grownCap w (sLen + n) sCap e - (sLen + n)) = (olds ++ news ++ (Builtin.zeroCells z.cells (grownCap w (sLen + n) sCap e - (sLen + n))).toList).toArray := by
      apply Array.ext'; simp
    rw [e1]
  · simp only [List.length_append, hol, he.size, Array.length_toList, Builtin.zeroCells, Array.size_map, Array.size_range, hzs]
    rw [← Nat.add_mul, ← Nat.add_mul]
    congr 1
    omega

end Go.Am

/- AM against the model: append. -/
namespace Go.Am
open Go

variable {E : Env} {c : Bool} {o : Oper} {ρ : Tmps} {H H' H1 : Heap} {v : AV} {φ : Phi} {S : Cells} {w w' : World} {a : Act}

/-- What an append comes to. -/
def Done (φ : Phi) (S : Cells) (w : World) (H : Heap) (v : AV) (H' : Heap) (v' : Value) (w' : World) : Prop :=
  ∃ φ' S', Step φ S H w φ' S' H' w' ∧ St φ' S' H' w' ∧ V φ' S' w' v v'

theorem done_same {v' : Value} (hst : St φ S H w) (hv : V φ S w v v') : Done φ S w H v H v' w := ⟨φ, S, .refl _ _ _ _, hst, hv⟩

/-- A step, then a thing more in new cells. -/
theorem done_push {S1 : Cells} {ob : Obj} {loc : Loc} {v' : Value} (hstep : Step φ S H w φ S1 H1 w') (hst : St φ S1 H1 w') (hnx : H1.next = H.next) (hn : φ H.next = none)
    (ho : ObjOk (φ.add H.next loc) S1 w' ob loc) (hv : V (φ.add H.next loc) S1 w' v v')
    (hnew : ∀ b k, loc.has b k → ¬ S1 b k ∧ ¬ M φ H1 b k ∧ (M φ H b k ∨ w.heap.size ≤ b)) : Done φ S w H v (H1.push ob) v' w' := by
  have hφ := Phi.add_ext (l := loc) hn
  refine ⟨φ.add H.next loc, S1, ⟨hφ, fun i hi => ?_, hstep.s, hstep.keeps, fun b k hm => ?_, hstep.sb, by rw [next_push, hnx]; omega⟩, ?_, hv⟩
  · simp only [Phi.add] at hi
    split at hi
    · rename_i e; rw [next_push, hnx]; omega
    · exact absurd rfl hi
  · obtain ⟨i, o', l, h7, h8, h9⟩ := hm
    rw [get_push] at h7
    simp only [Phi.add] at h8
    split at h7
    · rename_i e
      rw [hnx] at e
      simp [e] at h8
      subst h8
      exact (hnew b k h9).2.2
    · rename_i e
      rw [hnx] at e
      simp [e] at h8
      exact hstep.m b k ⟨i, o', l, h7, h8, h9⟩
  · rw [← hnx]
    refine hst.push (by rw [hnx]; exact hn) (by rw [hnx]; exact ho) fun b k hb => ⟨(hnew b k hb).1, fun b' k' hm => ?_⟩
    rintro ⟨rfl, rfl⟩
    exact (hnew b k hb).2.1 hm

/-- A new row, whose first cells stay. -/
theorem grow_app (S : Cells) (w : World) (row : Array Value) (e : TypeId) (n : Nat) (hn : n ≤ row.size) :
    Grow S w (fun b k => S b k ∨ (b = w.heap.size ∧ k < n)) { w with drawn := w.drawn + 1, heap := w.heap.push (.cells row e) } := by
  refine ⟨fun b o h => ?_, by simp, rfl, rfl, fun b k h => .inl h, fun b k h => ?_⟩
  · have := lt_of_heap h
    simp [Array.getElem?_push_lt this]
    simpa [Array.getElem?_eq_getElem this] using h
  · rcases h with h | ⟨h1, h2⟩
    · exact .inl h
    · subst h1
      refine .inr ⟨Nat.le_refl _, row[k], ?_⟩
      rw [at_of (c := row) (e := e) (fr := (0, 0)) (by simp)]
      simp [Nat.lt_of_lt_of_le h2 hn]

/-- Elements that lie one behind the other. -/
theorem V_list_of {es : List (List AV)} {t : Tag} {b off cap sz : Nat} {vs : List Value} (hz : ∀ e ∈ es, e.length = sz) (hc : es.length ≤ cap) (hv : VL φ S w es.flatten vs)
    (hs : ∀ j u, vs[j]? = some u → S b (off + j) ∧ at_ w b (off + j) = some u) (ht : tagOk φ b off es.length cap t sz) : V φ S w (.list es t) (.slice (some ⟨b, off, none⟩) es.length cap) := by
  refine .list es t b off cap sz (fun i j => vs.getD (i * sz + j) Go.undef) hc hz (fun i e j c h1 h2 => ?_) (fun i e j c h1 h2 => ?_) ht
  all_goals
    obtain ⟨u, h3, h4⟩ := hv.get (flatten_get hz h1 h2)
    have e1 : vs.getD (i * sz + j) Go.undef = u := by rw [List.getD_eq_getElem?_getD, h3]; rfl
  · rw [e1, Nat.add_assoc]; exact hs _ u h3
  · rw [e1]; exact h4

theorem at_push_draw (w : World) (row : Array Value) (e : TypeId) (k : Nat) : at_ { w with drawn := w.drawn + 1, heap := w.heap.push (.cells row e) } w.heap.size k = row[k]? :=
  at_of (e := e) (fr := (0, 0)) (by simp)

/-- Append to a list into a new row. -/
theorem done_list_out {es xs : List (List AV)} {olds news zs : List Value} {e : TypeId} {sz cap : Nat} (hst : St φ S H w) (hst1 : St φ S H1 w) (hM : ∀ b k, M φ H1 b k → M φ H b k) (hnx : H1.next = H.next) (hn : φ H.next = none)
    (hze : ∀ e ∈ es, e.length = sz) (hzx : ∀ e ∈ xs, e.length = sz) (hve : VL φ S w es.flatten olds) (hvx : VL φ S w xs.flatten news) (hcap : es.length + xs.length ≤ cap) (hl : (olds ++ news ++ zs).length = cap * sz) :
    Done φ S w H (.list (es ++ xs) (.tok H.next sz)) (H1.push .tok) (.slice (some ⟨w.heap.size, 0, none⟩) (es.length + xs.length) cap)
      { w with drawn := w.drawn + 1, heap := w.heap.push (.cells (olds ++ news ++ zs).toArray e) } := by
  have hol : olds.length = es.length * sz := by rw [← hve.1, flatten_length hze]
  have hnl : news.length = xs.length * sz := by rw [← hvx.1, flatten_length hzx]
  have hle : (es.length + xs.length) * sz ≤ cap * sz := Nat.mul_le_mul_right _ hcap
  have hgr := grow_app S w (olds ++ news ++ zs).toArray e ((es.length + xs.length) * sz) (by simpa [hl] using (by rw [List.append_assoc] at hl; simp at hl; omega))
  have hstep := hgr.step (φ := φ) H1
  have hvm := hgr.vmono hst.sA
  have hφ := Phi.add_ext (l := Loc.tok w.heap.size ((es.length + xs.length) * sz) ((cap - (es.length + xs.length)) * sz)) hn
  have hsub : (cap - (es.length + xs.length)) * sz = cap * sz - (es.length + xs.length) * sz := Nat.sub_mul _ _ _
  refine done_push (loc := .tok w.heap.size ((es.length + xs.length) * sz) ((cap - (es.length + xs.length)) * sz)) ⟨hstep.ext, fun i h => absurd rfl h, hstep.s, hgr.keeps _, fun b k h => .inl (hM b k h), fun b k h => (hgr.sb b k h).imp id fun h => .inr h.1, by omega⟩
    (hst1.grow hgr) hnx hn ?_ ?_ ?_
  · exact ⟨(olds ++ news ++ zs).toArray, e, by simp, by simp only [List.size_toArray, hl]; omega⟩
  · have h1 : (es ++ xs).length = es.length + xs.length := by simp
    rw [← h1]
    refine V_list_of (vs := olds ++ news) (fun e he => ?_) (by rw [h1]; exact hcap) ?_ (fun j u hj => ?_) ⟨rfl, by rw [h1]; simp [Phi.add]⟩
    · rcases List.mem_append.1 he with h | h
      · exact hze e h
      · exact hzx e h
    · rw [List.flatten_append, h1]
      exact (hve.append hvx).mono hφ hvm
    · have hlt := (List.getElem?_eq_some_iff.1 hj).1
      rw [List.length_append, hol, hnl, ← Nat.add_mul] at hlt
      rw [Nat.zero_add, at_push_draw]
      refine ⟨.inr ⟨rfl, by rw [h1]; exact hlt⟩, ?_⟩
      rw [List.getElem?_toArray, List.getElem?_append_left (by rw [List.length_append, hol, hnl, ← Nat.add_mul]; exact hlt)]
      exact hj
  · rintro b k ⟨rfl, h1, h2⟩
    refine ⟨?_, fun hm => ?_, .inr (Nat.le_refl _)⟩
    · rintro (h3 | ⟨-, h3⟩)
      · obtain ⟨u, hu⟩ := hst.sA _ _ h3
        have := at_lt hu; omega
      · omega
    · have := has_lt hst (hM _ _ hm); omega

/-- Append to a list in its own room. -/
theorem done_list_in {es xs : List (List AV)} {olds news : List Value} {sz cap b off d : Nat} (hst : St φ S H w) (hget : H.get d = some .tok) (hn : φ H.next = none)
    (hze : ∀ e ∈ es, e.length = sz) (hzx : ∀ e ∈ xs, e.length = sz) (hve : VL φ S w es.flatten olds) (hvx : VL φ S w xs.flatten news) (hcap : es.length + xs.length ≤ cap)
    (hs : ∀ j u, olds[j]? = some u → S b (off + j) ∧ at_ w b (off + j) = some u) (hφi : φ d = some (.tok b (off + es.length * sz) ((cap - es.length) * sz))) (hw : Wr w b (off + es.length * sz) news w') :
    Done φ S w H (.list (es ++ xs) (.tok H.next sz)) ((H.put d none).push .tok) (.slice (some ⟨b, off, none⟩) (es.length + xs.length) cap) w' := by
  have hol : olds.length = es.length * sz := by rw [← hve.1, flatten_length hze]
  have hnl : news.length = xs.length * sz := by rw [← hvx.1, flatten_length hzx]
  have hle : (es.length + xs.length) * sz ≤ cap * sz := Nat.mul_le_mul_right _ hcap
  have hsub : (cap - es.length) * sz = cap * sz - es.length * sz := Nat.sub_mul _ _ _
  have hadd : (es.length + xs.length) * sz = es.length * sz + xs.length * sz := Nat.add_mul _ _ _
  have hsub2 : (cap - (es.length + xs.length)) * sz = cap * sz - (es.length + xs.length) * sz := Nat.sub_mul _ _ _
  have hlt := get_lt hget
  obtain ⟨k1, k2, k3⟩ := hst.wrote hget hφi hw (fun j hj => ⟨rfl, by omega, by omega⟩)
  have hown : ∀ b' k, (Loc.tok b (off + es.length * sz) ((cap - es.length) * sz)).has b' k → M φ H b' k := fun b' k h => ⟨d, _, _, hget, hφi, h⟩
  have hfree : ∀ b' k, (Loc.tok b (off + es.length * sz) ((cap - es.length) * sz)).has b' k → ¬ M φ (H.put d none) b' k := by
    rintro b' k hb ⟨i, o, l, h1, h2, h3⟩
    obtain ⟨h4, h5⟩ := put_none_get h1 hlt
    exact hst.disj i d _ _ _ _ h4 h5 hget h2 hφi b' k h3 hb
  have hφ := Phi.add_ext (l := Loc.tok b (off + (es.length + xs.length) * sz) ((cap - (es.length + xs.length)) * sz)) hn
  have hS1 : St φ (fun b' k => S b' k ∨ (b' = b ∧ off + es.length * sz ≤ k ∧ k < off + es.length * sz + news.length)) (H.put d none) w' := by
    refine k3.growS (fun b' k h => .inl h) fun b' k h => h.imp id ?_
    rintro ⟨rfl, h1, h2⟩
    refine ⟨hfree b' k ⟨rfl, by omega, by omega⟩, ?_⟩
    have hj : k - (off + es.length * sz) < news.length := by omega
    have := hw.at_in (j := k - (off + es.length * sz)) (u := news[k - (off + es.length * sz)]) (by simp [hj])
    rw [Nat.add_sub_cancel' h1] at this
    exact ⟨_, this⟩
  have hmono : ∀ b' k, S b' k → (S b' k ∨ (b' = b ∧ off + es.length * sz ≤ k ∧ k < off + es.length * sz + news.length)) ∧ at_ w' b' k = at_ w b' k := fun b' k h => ⟨.inl h, (k2 b' k h).2⟩
  refine done_push (loc := .tok b (off + (es.length + xs.length) * sz) ((cap - (es.length + xs.length)) * sz)) (S1 := fun b' k => S b' k ∨ (b' = b ∧ off + es.length * sz ≤ k ∧ k < off + es.length * sz + news.length)) (H1 := H.put d none)
    ⟨fun _ _ h => h, fun i h => absurd rfl h, fun b k h => .inl h, k1, fun b k h => .inl (M_drop h hlt), fun b' k h => h.imp id fun h => .inl (hown b' k ⟨h.1, h.2.1, by omega⟩), by rw [next_put]; exact Nat.le_refl _⟩
    hS1 (next_put _ _ _) hn ?_ ?_ ?_
  · have hwb : Writable w b (off + es.length * sz) ((cap - es.length) * sz) := hst.obj d _ _ hget hφi
    obtain ⟨cc, e, h1, h2⟩ := hw.writable hwb
    exact ⟨cc, e, h1, by omega⟩
  · have h1 : (es ++ xs).length = es.length + xs.length := by simp
    rw [← h1]
    refine V_list_of (vs := olds ++ news) (fun e he => ?_) (by rw [h1]; exact hcap) ?_ (fun j u hj => ?_) ⟨rfl, by rw [h1]; simp [Phi.add]⟩
    · rcases List.mem_append.1 he with h | h
      · exact hze e h
      · exact hzx e h
    · rw [List.flatten_append, h1]
      exact (hve.append hvx).mono hφ hmono
    · by_cases hj' : j < olds.length
      · rw [List.getElem?_append_left hj'] at hj
        obtain ⟨h2, h3⟩ := hs j u hj
        exact ⟨.inl h2, by rw [(k2 _ _ h2).2, h3]⟩
      · rw [List.getElem?_append_right (by omega)] at hj
        have hlt2 := (List.getElem?_eq_some_iff.1 hj).1
        refine ⟨.inr ⟨rfl, by omega, by omega⟩, ?_⟩
        have := hw.at_in hj
        have e1 : off + es.length * sz + (j - olds.length) = off + j := by omega
        rw [e1] at this
        exact this
  · rintro b' k ⟨rfl, h1, h2⟩
    refine ⟨?_, hfree b' k ⟨rfl, by omega, by omega⟩, .inl (hown b' k ⟨rfl, by omega, by omega⟩)⟩
    rintro (h3 | ⟨-, h3, h4⟩)
    · exact hst.sM _ _ h3 (hown b' k ⟨rfl, by omega, by omega⟩)
    · omega

end Go.Am

/- AM against the model: append on arrays; all that touches the heap. -/
namespace Go.Am
open Go

variable {E : Env} {c : Bool} {o : Oper} {ρ : Tmps} {H H' H1 : Heap} {v : AV} {φ : Phi} {S : Cells} {w w' : World} {a : Act}

theorem done_arr_out {cs : List AV} {xs : List (List AV)} {olds news zs : List Value} {e : TypeId} {sz n cap : Nat} (hst : St φ S H w) (hst1 : St φ S H1 w) (hM : ∀ b k, M φ H1 b k → M φ H b k) (hnx : H1.next = H.next) (hn : φ H.next = none)
    (hcl : cs.length = n * sz) (hzx : ∀ e ∈ xs, e.length = sz) (hve : VL φ S w cs olds) (hvx : VL φ S w xs.flatten news) (hcap : n + xs.length ≤ cap) (hl : (olds ++ news ++ zs).length = cap * sz) :
    Done φ S w H (.arr H.next 0 (n + xs.length) sz) (H1.push (.cells (cs ++ xs.flatten))) (.slice (some ⟨w.heap.size, 0, none⟩) (n + xs.length) cap)
      { w with drawn := w.drawn + 1, heap := w.heap.push (.cells (olds ++ news ++ zs).toArray e) } := by
  have hol : olds.length = n * sz := by rw [← hve.1, hcl]
  have hnl : news.length = xs.length * sz := by rw [← hvx.1, flatten_length hzx]
  have hle : (n + xs.length) * sz ≤ cap * sz := Nat.mul_le_mul_right _ hcap
  have hadd : (n + xs.length) * sz = n * sz + xs.length * sz := Nat.add_mul _ _ _
  have hgr0 := grow_app S w (olds ++ news ++ zs).toArray e 0 (Nat.zero_le _)
  have hgr : Grow S w S { w with drawn := w.drawn + 1, heap := w.heap.push (.cells (olds ++ news ++ zs).toArray e) } := ⟨hgr0.old, hgr0.size, rfl, rfl, fun _ _ h => h, fun _ _ h => .inl h⟩
  have hvm := hgr.vmono hst.sA
  have hφ := Phi.add_ext (l := Loc.obj w.heap.size 0 (cap * sz)) hn
  refine done_push (loc := .obj w.heap.size 0 (cap * sz)) ⟨fun _ _ h => h, fun i h => absurd rfl h, fun _ _ h => h, hgr.keeps _, fun b k h => .inl (hM b k h), fun b k h => .inl h, by omega⟩
    (hst1.grow hgr) hnx hn ⟨?_, ⟨(olds ++ news ++ zs).toArray, e, by simp, by simp only [List.size_toArray, hl]; omega⟩, fun j c hj => ?_⟩ ?_ ?_
  · rw [List.length_append, flatten_length hzx]; omega
  · obtain ⟨u, h1, h2⟩ := ((hve.append hvx).mono hφ hvm).get hj
    have hlt := (List.getElem?_eq_some_iff.1 h1).1
    exact ⟨u, by rw [Nat.zero_add, at_push_draw, List.getElem?_toArray, List.getElem?_append_left hlt]; exact h1, h2⟩
  · exact .arr _ 0 _ sz w.heap.size 0 (cap * sz) cap (by simp [Phi.add]) hcap (by omega)
  · rintro b k ⟨rfl, h1, h2⟩
    refine ⟨fun hs => ?_, fun hm => ?_, .inr (Nat.le_refl _)⟩
    · obtain ⟨u, hu⟩ := hst.sA _ _ hs
      have := at_lt hu; omega
    · have := has_lt hst (hM _ _ hm); omega

theorem done_arr_in {cs : List AV} {xs : List (List AV)} {news : List Value} {sz n b base total cap d : Nat} (hst : St φ S H w) (hget : H.get d = some (.cells cs)) (hφd : φ d = some (.obj b base total)) (hn : φ H.next = none)
    (hcl : cs.length = n * sz) (hzx : ∀ e ∈ xs, e.length = sz) (hvx : VL φ S w xs.flatten news) (hcap : n + xs.length ≤ cap) (ht : cap * sz = total) (hw : Wr w b (base + n * sz) news w') :
    Done φ S w H (.arr H.next 0 (n + xs.length) sz) ((H.put d none).push (.cells (cs ++ xs.flatten))) (.slice (some ⟨b, base, none⟩) (n + xs.length) cap) w' := by
  have hnl : news.length = xs.length * sz := by rw [← hvx.1, flatten_length hzx]
  have hle : (n + xs.length) * sz ≤ cap * sz := Nat.mul_le_mul_right _ hcap
  have hadd : (n + xs.length) * sz = n * sz + xs.length * sz := Nat.add_mul _ _ _
  have hlt := get_lt hget
  obtain ⟨h4, h5, h6⟩ := hst.obj d _ _ hget hφd
  obtain ⟨k1, k2, k3⟩ := hst.wrote hget hφd hw (fun j hj => ⟨rfl, by omega, by omega⟩)
  have hown : ∀ b' k, (Loc.obj b base total).has b' k → M φ H b' k := fun b' k h => ⟨d, _, _, hget, hφd, h⟩
  have hφ := Phi.add_ext (l := Loc.obj b base total) hn
  refine done_push (loc := .obj b base total) ⟨fun _ _ h => h, fun i h => absurd rfl h, fun _ _ h => h, k1, fun b k h => .inl (M_drop h hlt), fun b k h => .inl h, by rw [next_put]; exact Nat.le_refl _⟩
    k3 (next_put _ _ _) hn ⟨?_, hw.writable h5, fun j c hj => ?_⟩ ?_ ?_
  · rw [List.length_append, flatten_length hzx]; omega
  · by_cases hj' : j < cs.length
    · rw [List.getElem?_append_left hj'] at hj
      obtain ⟨u, h7, h8⟩ := h6 j c hj
      exact ⟨u, by rw [hw.at_out (by omega), h7], h8.mono hφ k2⟩
    · rw [List.getElem?_append_right (by omega)] at hj
      obtain ⟨u, h7, h8⟩ := hvx.get hj
      have := hw.at_in h7
      have e1 : base + n * sz + (j - cs.length) = base + j := by omega
      rw [e1] at this
      exact ⟨u, this, h8.mono hφ k2⟩
  · have := V.arr (φ := φ.add H.next (.obj b base total)) (S := S) (w := w') H.next 0 (n + xs.length) sz b base total cap (by simp [Phi.add]) hcap (by omega)
    simpa using this
  · intro b' k hb
    refine ⟨fun hs => hst.sM _ _ hs (hown b' k hb), ?_, .inl (hown b' k hb)⟩
    rintro ⟨i, o, l, h7, h8, h9⟩
    obtain ⟨h10, h11⟩ := put_none_get h7 hlt
    exact hst.disj i d _ _ _ _ h10 h11 hget h8 hφd b' k h9 hb

theorem Heap.cells_get {H : Heap} {d : Nat} {cs : List AV} (h : H.cells d = some cs) : H.get d = some (.cells cs) := by
  unfold Heap.cells at h
  split at h
  · rename_i h5; injection h with h; rw [h5, h]
  · simp at h

theorem run_append_zero {P : Program} {t u ty e : TypeId} {i : TypeInfo} {sz sLen sCap : Nat} {base : Option Addr} {x : Value} {news : List Value} (hb : ∀ a, base = some a → a.spot = none) (hu : P.underlying t = some (.slice e)) (hi : P.info? e = some i) (hsz : i.size = sz)
    (h2 : ∃ d, P.underlying u = some d ∧ ∀ k, d ≠ .int k) (he : Els P S w sz 0 x news) (hroom : sLen ≤ sCap) :
    (Builtin.append_ #[t, u] ty #[.slice base sLen sCap, x]).run P w = .ok (.slice base sLen sCap) w := by
  obtain ⟨d, hd, hdi⟩ := h2
  have hz : (match d with | .int _ => true | _ => false) = false := by cases d <;> first | rfl | exact absurd rfl (hdi _)
  have hnews : news = [] := List.eq_nil_of_length_eq_zero (by simpa using he.size)
  subst hnews
  have hf := he.first w.drawn
  simp only [Builtin.append_, Sem.run_bind, run_underlying hu, Result.andThen, run_sizeOf' hi, hsz, run_underlying hd, Sem.run_pure, List.getElem?_toArray, List.getElem?_cons_zero, List.getElem?_cons_succ, hz, Bool.false_eq_true, if_false, he.len, Nat.add_zero, hroom, if_true, Bool.not_false]
  rw [hf]
  cases base with
  | none => rfl
  | some a => simp [storeCells]

section
variable {P : Program} {t u ty e : TypeId} {i : TypeInfo} {z : Value} {sz bytes : Nat} {s x : AV} {vs vx : Value} {xs : List (List AV)} {news : List Value}

theorem append_nil (hu : P.underlying t = some (.slice e)) (hi : P.info? e = some i)
    (hsz : i.size = sz) (hby : i.bytes = bytes) (hz : i.zero = some z) (hzs : z.cells.size = sz) (hs0 : 0 < sz) (h2 : ∃ d, P.underlying u = some d ∧ ∀ k, d ≠ .int k)
    (hst : St φ S H w) (hn : ∀ i, H.next ≤ i → i < H'.next → φ i = none) (hs : V φ S w .nilS vs) (hE : Els P S w sz xs.length vx news) (hvx : VL φ S w xs.flatten news) (hzx : ∀ e ∈ xs, e.length = sz) (h0 : ¬ xs.length = 0)
    (happ : appendA c H sz bytes .nilS xs = some (v, H')) :
    ∃ v' w', (Builtin.append_ #[t, u] ty #[vs, vx]).run P w = .ok v' w' ∧ Done φ S w H v H' v' w' := by
  unfold appendA at happ
  rw [if_neg h0] at happ
  rw [hs.nilS_inv]
  dsimp only at happ
  split at happ
  · rename_i hbd
    obtain ⟨cap, zs, h3, h4, h5⟩ := run_append_out (ty := ty) (base := none) (sLen := 0) (sCap := 0) (olds := []) hu hi hsz hby hz hzs hs0 h2 hE (by omega) ⟨by simpa using hbd.1, by have := hbd.2; unfold room at this; omega⟩ (fun d => rfl) (by simp)
    refine ⟨_, _, h4, ?_⟩
    split at happ
    · simp only [Option.some.injEq, Prod.mk.injEq] at happ
      obtain ⟨rfl, rfl⟩ := happ
      have := done_arr_out (e := e) (cs := []) (n := 0) hst hst (fun _ _ h => h) rfl (hn _ (Nat.le_refl _) (by rw [next_push]; omega)) (by simp) hzx VL.nil hvx h3 h5
      simpa using this
    · simp only [Option.some.injEq, Prod.mk.injEq] at happ
      obtain ⟨rfl, rfl⟩ := happ
      have := done_list_out (e := e) (es := []) hst hst (fun _ _ h => h) rfl (hn _ (Nat.le_refl _) (by rw [next_push]; omega)) (by simp) hzx VL.nil hvx h3 h5
      simpa using this
  · simp at happ

theorem append_list {es : List (List AV)} {tg : Tag} (hu : P.underlying t = some (.slice e)) (hi : P.info? e = some i)
    (hsz : i.size = sz) (hby : i.bytes = bytes) (hz : i.zero = some z) (hzs : z.cells.size = sz) (hs0 : 0 < sz) (h2 : ∃ d, P.underlying u = some d ∧ ∀ k, d ≠ .int k)
    (hst : St φ S H w) (hn : ∀ i, H.next ≤ i → i < H'.next → φ i = none) (hs : V φ S w (.list es tg) vs) (hE : Els P S w sz xs.length vx news) (hvx : VL φ S w xs.flatten news) (hzx : ∀ e ∈ xs, e.length = sz) (h1c : ∀ v ∈ news, v.oneCell' = true) (h0 : ¬ xs.length = 0)
    (happ : appendA c H sz bytes (.list es tg) xs = some (v, H')) :
    ∃ v' w', (Builtin.append_ #[t, u] ty #[vs, vx]).run P w = .ok v' w' ∧ Done φ S w H v H' v' w' := by
  have hnl : news.length = xs.length * sz := hE.size
  unfold appendA at happ
  rw [if_neg h0] at happ
  dsimp only at happ
  split at happ
  · rename_i hc
    obtain ⟨hbd, hrm, hal⟩ := hc
    have hze : ∀ e ∈ es, e.length = sz := fun e he => by simpa using List.all_eq_true.1 hal e he
    have hx0 : es.length + xs.length ≤ 2 ^ 60 := by unfold room at hrm; omega
    cases hs with
    | list _ _ b off cap sz' f hcap hz' hs1 hv1 ht =>
      have hs2 : ∀ i e j c, es[i]? = some e → e[j]? = some c → S b (off + i * sz + j) ∧ at_ w b (off + i * sz + j) = some (f i j) := fun i e j c h1 h2 => by
        have e1 : sz' = sz := by rw [← hz' e (List.mem_of_getElem? h1), hze e (List.mem_of_getElem? h1)]
        rw [← e1]; exact hs1 i e j c h1 h2
      obtain ⟨olds, hve, hso⟩ := VLL_list hze hs2 hv1
      have hol : olds.length = es.length * sz := by rw [← hve.1, flatten_length hze]
      have hold := fun d => run_firstCells P sz es.length b off es.length cap olds hol (fun j u hj => (hso j u hj).1) d
      cases tg with
      | frozen => simp at happ
      | full =>
        simp only [Option.some.injEq, Prod.mk.injEq] at happ
        obtain ⟨rfl, rfl⟩ := happ
        have hcl : cap = es.length := ht
        obtain ⟨cap', zs, h3, h4, h5⟩ := run_append_out (ty := ty) hu hi hsz hby hz hzs hs0 h2 hE (by omega) ⟨hbd, hx0⟩ hold hol
        exact ⟨_, _, h4, done_list_out (e := e) hst hst (fun _ _ h => h) rfl (hn _ (Nat.le_refl _) (by rw [next_push]; omega)) hze hzx hve hvx h3 h5⟩
      | tok d s' =>
        dsimp only at happ
        split at happ
        · rename_i hd
          obtain ⟨hd, rfl⟩ := hd
          simp only [Option.some.injEq, Prod.mk.injEq] at happ
          obtain ⟨rfl, rfl⟩ := happ
          obtain ⟨rfl, hφd⟩ := ht
          have hlt := get_lt hd
          have hn' := hn _ (Nat.le_refl _) (by rw [next_push, next_put]; omega)
          by_cases hroom : es.length + xs.length ≤ cap
          · have hwb : Writable w b (off + es.length * sz') ((cap - es.length) * sz') := hst.obj d _ _ hd hφd
            have hsub : (cap - es.length) * sz' = cap * sz' - es.length * sz' := Nat.sub_mul _ _ _
            have hle : (es.length + xs.length) * sz' ≤ cap * sz' := Nat.mul_le_mul_right _ hroom
            have hadd : (es.length + xs.length) * sz' = es.length * sz' + xs.length * sz' := Nat.add_mul _ _ _
            have hwb' : Writable w b (off + es.length * sz') news.length := by obtain ⟨cc, e', h5, h6⟩ := hwb; exact ⟨cc, e', h5, by omega⟩
            obtain ⟨w', h3, h4⟩ := run_append_in (ty := ty) (news := news) hu hi hsz h2 hE hroom hwb' h1c
            exact ⟨_, w', h3, done_list_in hst hd hn' hze hzx hve hvx hroom (fun j u hj => ⟨(hso j u hj).2, (hso j u hj).1⟩) hφd h4⟩
          · obtain ⟨cap', zs, h3, h4, h5⟩ := run_append_out (ty := ty) hu hi hsz hby hz hzs hs0 h2 hE (by omega) ⟨hbd, hx0⟩ hold hol
            have := done_list_out (e := e) (H1 := H.put d none) hst (hst.drop d hlt) (fun _ _ h => M_drop h hlt) (next_put _ _ _) hn' hze hzx hve hvx h3 h5
            exact ⟨_, _, h4, this⟩
        · simp at happ
  · simp at happ

theorem append_arr {d off len s' : Nat} (hu : P.underlying t = some (.slice e)) (hi : P.info? e = some i)
    (hsz : i.size = sz) (hby : i.bytes = bytes) (hz : i.zero = some z) (hzs : z.cells.size = sz) (hs0 : 0 < sz) (h2 : ∃ d, P.underlying u = some d ∧ ∀ k, d ≠ .int k)
    (hst : St φ S H w) (hn : ∀ i, H.next ≤ i → i < H'.next → φ i = none) (hs : V φ S w (.arr d off len s') vs) (hE : Els P S w sz xs.length vx news) (hvx : VL φ S w xs.flatten news) (hzx : ∀ e ∈ xs, e.length = sz) (h1c : ∀ v ∈ news, v.oneCell' = true) (h0 : ¬ xs.length = 0)
    (happ : appendA c H sz bytes (.arr d off len s') xs = some (v, H')) :
    ∃ v' w', (Builtin.append_ #[t, u] ty #[vs, vx]).run P w = .ok v' w' ∧ Done φ S w H v H' v' w' := by
  have hnl : news.length = xs.length * sz := hE.size
  unfold appendA at happ
  rw [if_neg h0] at happ
  dsimp only at happ
  split at happ
  · rename_i cs hcs
    have hget := Heap.cells_get hcs
    split at happ
    · rename_i hc
      obtain ⟨hbd, hrm, rfl⟩ := hc
      have hx0 : len + xs.length ≤ 2 ^ 60 := by unfold room at hrm; omega
      cases hs with
      | arr _ _ _ _ b base total cap hφd hcl ht =>
        obtain ⟨h4, h5, h6⟩ := hst.obj d _ _ hget hφd
        have hlt := get_lt hget
        have hadd : (len + xs.length) * s' = len * s' + xs.length * s' := Nat.add_mul _ _ _
        split at happ
        · -- within
          rename_i hin
          simp only [Option.map_eq_some_iff, Prod.mk.injEq] at happ
          obtain ⟨cs', h7, rfl, rfl⟩ := happ
          have hroom : len + xs.length ≤ cap := by
            have : (len + xs.length) * s' ≤ cap * s' := by omega
            exact Nat.le_of_mul_le_mul_right this hs0
          have hwb' : Writable w b (base + off + len * s') news.length := by obtain ⟨cc, e', h8, h9⟩ := h5; exact ⟨cc, e', h8, by omega⟩
          obtain ⟨w', h8, h9⟩ := run_append_in (ty := ty) (news := news) hu hi hsz h2 hE hroom hwb' h1c
          rw [Nat.add_assoc] at h9
          obtain ⟨h10, h11⟩ := hst.store hget hφd h7 hvx h9
          exact ⟨_, w', h8, φ, S, h10, h11, .arr d off _ s' b base total cap hφd hroom ht⟩
        · split at happ
          · rename_i h7 h8
            obtain ⟨rfl, h8⟩ := h8
            simp only [Option.some.injEq, Prod.mk.injEq] at happ
            obtain ⟨rfl, rfl⟩ := happ
            have hn' := hn _ (Nat.le_refl _) (by rw [next_push, next_put]; omega)
            by_cases hroom : len + xs.length ≤ cap
            · have hle : (len + xs.length) * s' ≤ cap * s' := Nat.mul_le_mul_right _ hroom
              have hwb' : Writable w b (base + 0 + len * s') news.length := by obtain ⟨cc, e', h8, h9⟩ := h5; exact ⟨cc, e', h8, by omega⟩
              obtain ⟨w', h9, h10⟩ := run_append_in (ty := ty) (news := news) hu hi hsz h2 hE hroom hwb' h1c
              exact ⟨_, w', h9, done_arr_in hst hget hφd hn' h8.symm hzx hvx hroom (by omega) h10⟩
            · have hh : Holds φ S w b base cs := h6
              obtain ⟨olds, hve, hso⟩ := hh.list
              have hol : olds.length = len * s' := by rw [← hve.1, h8]
              obtain ⟨cap', zs, h9, h10, h11⟩ := run_append_out (ty := ty) hu hi hsz hby hz hzs hs0 h2 hE (by omega) ⟨hbd, hx0⟩ (fun dd => run_firstCells P s' len b (base + 0) len cap olds hol (fun j u hj => by simpa using hso j u hj) dd) hol
              exact ⟨_, _, h10, done_arr_out (e := e) (H1 := H.put d none) hst (hst.drop d hlt) (fun _ _ h => M_drop h hlt) (next_put _ _ _) hn' h8.symm hzx hve hvx h9 h11⟩
          · simp at happ
    · simp at happ
  · simp at happ

theorem append_core (hu : P.underlying t = some (.slice e)) (hi : P.info? e = some i)
    (hsz : i.size = sz) (hby : i.bytes = bytes) (hz : i.zero = some z) (hzs : z.cells.size = sz) (hs0 : 0 < sz) (h2 : ∃ d, P.underlying u = some d ∧ ∀ k, d ≠ .int k)
    (hst : St φ S H w) (hn : ∀ i, H.next ≤ i → i < H'.next → φ i = none) (hs : V φ S w s vs) (hx : V φ S w x vx) (hel : elems H sz x = some xs) (h1 : xs.flatten.all AV.one = true) (happ : appendA c H sz bytes s xs = some (v, H')) :
    ∃ v' w', (Builtin.append_ #[t, u] ty #[vs, vx]).run P w = .ok v' w' ∧ Done φ S w H v H' v' w' := by
  obtain ⟨news, hE, hvx, hzx⟩ := elems_sound (P := P) hel hx hst
  have h1c := hvx.oneCell h1
  by_cases h0 : xs.length = 0
  · unfold appendA at happ
    rw [if_pos h0] at happ
    rw [h0] at hE
    have hz0 := fun (sLen sCap : Nat) (base : Option Addr) (hb : ∀ a, base = some a → a.spot = none) (hr : sLen ≤ sCap) => run_append_zero (ty := ty) hb hu hi hsz h2 hE hr
    split at happ <;> simp only [Option.some.injEq, Prod.mk.injEq, reduceCtorEq] at happ
    all_goals
      obtain ⟨rfl, rfl⟩ := happ
      have hs' := hs
      cases hs
      exact ⟨_, w, hz0 _ _ _ (by simp) (by first | assumption | exact Nat.le_refl _), done_same hst hs'⟩
  · cases s with
    | nilS => exact append_nil hu hi hsz hby hz hzs hs0 h2 hst hn hs hE hvx hzx h0 happ
    | list es tg => exact append_list hu hi hsz hby hz hzs hs0 h2 hst hn hs hE hvx hzx h1c h0 happ
    | arr d off len s' => exact append_arr hu hi hsz hby hz hzs hs0 h2 hst hn hs hE hvx hzx h1c h0 happ
    | _ => unfold appendA at happ; rw [if_neg h0] at happ; simp at happ

end

end Go.Am

/- AM against the model: every operation that is no call. -/
namespace Go.Am
open Go

variable {E : Env} {c : Bool} {o : Oper} {ρ : Tmps} {H H' : Heap} {v : AV} {φ : Phi} {S : Cells} {w : World} {a : Act} {kd : Kind}

theorem did_append {t u : TypeId} {x y : Operand} (ho : o.op = .call { callee := .builtin .append, args := ⟨[x, y]⟩, argTypes := ⟨[t, u]⟩ }) (hs : aop E c o ρ H = some (v, H', kd)) (hr : VT φ S w ρ a) (hg : GlobOk E.ng φ) (hst : St φ S H w)
    (hn : ∀ i, H.next ≤ i → i < H'.next → φ i = none) : Did2 E o a φ S w H v H' := by
  simp only [aop, ho, List.map_cons, List.map_nil] at hs
  have hx := hr.eval hg x
  have hy := hr.eval hg y
  have key : ∀ (z : AV) (sz b : Nat), (elemOf E.P t).bind (fun e => (zeroOf E.P e).bind fun z => (sizeOf E.P e).bind fun sz => (bytesOf E.P e).map fun b => (z, sz, b)) = some (z, sz, b) → (∃ d, E.P.underlying u = some d ∧ ∀ k, d ≠ .int k) →
      (if 0 < sz ∧ z.cells.length = sz then (elems H sz (evalOp E.ng ρ y)).bind fun xs => if xs.flatten.all AV.one then (appendA c H sz b (evalOp E.ng ρ x) xs).map fun (v, H) => (v, H, appKind c (evalOp E.ng ρ x) (evalOp E.ng ρ y)) else none else none) = some (v, H', kd) →
      Did2 E o a φ S w H v H' := by
    intro z sz b hz h2 hs
    simp only [Option.bind_eq_some_iff, Option.map_eq_some_iff, Prod.mk.injEq] at hz
    obtain ⟨e, he, z', hz', sz', hsz, b', hb, rfl, rfl, rfl⟩ := hz
    have hu := elemOf_inv he
    obtain ⟨it, zv, h3, h4, rfl⟩ := zeroOf_inv hz'
    obtain ⟨it', h3', h5⟩ := sizeOf_inv hsz
    rw [h3] at h3'
    injection h3' with h3'
    subst h3'
    have h6 : it.bytes = b' := by simp only [bytesOf, h3, Option.map_some, Option.some.injEq] at hb; exact hb
    split at hs
    · rename_i hc
      simp only [Option.bind_eq_some_iff] at hs
      obtain ⟨xs, hel, hs⟩ := hs
      split at hs
      · rename_i h1
        simp only [Option.map_eq_some_iff, Prod.mk.injEq] at hs
        obtain ⟨⟨v1, H1⟩, h7, rfl, rfl, -⟩ := hs
        have hzl : zv.cells.size = sz' := by rw [← hc.2, (zero_cells (φ := φ) (S := S) (w := w) zv).1]; simp
        obtain ⟨v', w', h8, φ', S', h9, h10, h11⟩ := append_core (P := E.P) (u := u) (ty := o.type) hu h3 h5 h6 h4 hzl hc.1 h2 hst hn hx hy hel h1 h7
        refine ⟨.value v', v', φ', S', w', ?_, .inl rfl, h9, h10, h11⟩
        simp [execOp, ho, resolve, invoke, builtin, h8, Result.andThen]
      · simp at hs
    · simp at hs
  split at hs
  · rename_i z sz b e' hz hu
    exact key z sz b hz ⟨_, hu, by simp⟩ hs
  · rename_i z sz b hz hu
    exact key z sz b hz ⟨_, hu, by simp⟩ hs
  · simp at hs

/-- Slicing an array; text out of an array; two pointers compared: what else looks at the heap. -/
theorem did_slice_arr {t : TypeId} {x : Operand} {lo hi mx : Option Operand} (ho : o.op = .slice t x lo hi mx) (hs : aop E c o ρ H = some (v, H', kd)) (hr : VT φ S w ρ a) (hg : GlobOk E.ng φ) (hst : St φ S H w) : Did2 E o a φ S w H v H' := by
  have hk : kd = .pure := by
    simp only [aop, ho] at hs
    split at hs
    · simp at hs
    · simp only [Option.map_eq_some_iff, Prod.mk.injEq] at hs
      obtain ⟨_, _, _, _, h⟩ := hs
      exact h.symm
  subst hk
  obtain ⟨rfl, h⟩ := did_slice ho hs hr hg
  exact h.did2 hst

/-- What is copied. -/
theorem did_copy {t u : TypeId} {x y : Operand} (ho : o.op = .call { callee := .builtin .copy, args := ⟨[x, y]⟩, argTypes := ⟨[t, u]⟩ }) (hs : aop E c o ρ H = some (v, H', kd)) (hr : VT φ S w ρ a) (hg : GlobOk E.ng φ) (hst : St φ S H w) : Did2 E o a φ S w H v H' := by
  simp only [aop, ho, List.map_cons, List.map_nil] at hs
  have hx := hr.eval hg x
  have hy := hr.eval hg y
  simp only [Option.bind_eq_some_iff, Option.map_eq_some_iff, Prod.mk.injEq] at hs
  obtain ⟨sz, ⟨e, he, hsz⟩, xs, hel, ⟨v1, H1⟩, hs, rfl, rfl, -⟩ := hs
  have hu := elemOf_inv he
  obtain ⟨it, h3, h4⟩ := sizeOf_inv hsz
  obtain ⟨news, hE, hvl, hz⟩ := elems_sound (P := E.P) hel hy hst
  have hd : ∀ m, m ≤ xs.length → (Builtin.firstCells sz m (a.eval y)).run E.P w = .ok (news.take (m * sz)).toArray w := fun m hm => hE.firsts m hm w.drawn
  have none0 : ∀ (base : Option Addr) (cap : Nat), a.eval x = .slice base 0 cap → v1 = i64 0 → H1 = H → Did2 E o a φ S w H v1 H1 := fun base cap hb hv hH => by
    subst hv; subst hH
    refine ⟨.value (.int .i64 0), .int .i64 0, φ, S, w, ?_, .inl rfl, .refl .., hst, .int _ _⟩
    have h0 := hd 0 (Nat.zero_le _)
    simp only [Nat.zero_mul, List.take_zero] at h0
    cases base with
    | none => simp [execOp, ho, resolve, invoke, builtin, Builtin.copy_, hb, run_underlying hu, Result.andThen, hE.len, run_sizeOf' h3, h4, h0, goInt]
    | some ad => simp [execOp, ho, resolve, invoke, builtin, Builtin.copy_, hb, run_underlying hu, Result.andThen, hE.len, run_sizeOf' h3, h4, h0, goInt, storeCells]
  unfold copyA at hs
  split at hs
  · rename_i hax
    simp only [Option.some.injEq, Prod.mk.injEq] at hs
    rw [hax] at hx
    exact none0 none 0 hx.nilS_inv hs.1.symm hs.2.symm
  · rename_i tg hax
    simp only [Option.some.injEq, Prod.mk.injEq] at hs
    rw [hax] at hx
    generalize hav : a.eval x = av at hx
    cases hx with
    | list _ _ b off cap _ _ _ _ _ _ _ => exact none0 _ cap hav hs.1.symm hs.2.symm
  · rename_i id off len s' hax
    rw [hax] at hx
    split at hs
    · rename_i hc
      obtain ⟨rfl, hone⟩ := hc
      simp only [Option.bind_eq_some_iff, Option.map_eq_some_iff, Prod.mk.injEq] at hs
      obtain ⟨cs, h1, cs', h2, rfl, rfl⟩ := hs
      generalize hav : a.eval x = av at hx
      cases hx with
      | arr _ _ _ _ b base total cap hφ hcap ht =>
        have hget := Heap.cells_get h1
        obtain ⟨h5, h6, h7⟩ := hst.obj id _ _ hget hφ
        have hmin : min xs.length len ≤ xs.length := Nat.min_le_left _ _
        have hfl : (xs.take len).flatten.length = min xs.length len * s' := by
          rw [flatten_length (sz := s') (fun e he => hz e (List.mem_of_mem_take he))]
          simp [Nat.min_comm]
        have htake : (xs.take len).flatten = xs.flatten.take (min xs.length len * s') := by
          have h8 : xs.flatten = (xs.take len).flatten ++ (xs.drop len).flatten := by rw [← List.flatten_append, List.take_append_drop]
          conv => rhs; rw [h8]
          rw [List.take_append_of_le_length (Nat.le_of_eq hfl.symm), List.take_of_length_le (Nat.le_of_eq hfl)]
        have hvl2 : VL φ S w (xs.take len).flatten (news.take (min xs.length len * s')) := by
          rw [htake]
          refine ⟨by simp [hvl.1], fun i cc u h8 h9 => ?_⟩
          rw [List.getElem?_take] at h8 h9
          split at h8
          · rename_i hlt; rw [if_pos hlt] at h9; exact hvl.2 i cc u h8 h9
          · simp at h8
        obtain ⟨h8, -, -⟩ := over_get h2
        have hwr : Writable w b (base + off + 0) (news.take (min xs.length len * s')).length := by
          obtain ⟨cc, e', h9, h10⟩ := h6
          exact ⟨cc, e', h9, by rw [← hvl2.1]; omega⟩
        obtain ⟨w', h9, h10⟩ := wr_store E.P hwr (hvl2.oneCell hone)
        simp only [Nat.add_zero] at h10
        obtain ⟨h11, h12⟩ := hst.store hget hφ h2 hvl2 h10
        refine ⟨.value (.int .i64 ((min xs.length len : Nat) : Int)), .int .i64 ((min xs.length len : Nat) : Int), φ, S, w', ?_, .inl rfl, h11, h12, .int _ _⟩
        have h0 := hd _ hmin
        have hnm : Nat.min xs.length len = min xs.length len := rfl
        simp [execOp, ho, resolve, invoke, builtin, Builtin.copy_, hav, run_underlying hu, Result.andThen, hE.len, run_sizeOf' h3, h4, hnm, h0, goInt, h9]
    · simp at hs
  · simp at hs

theorem did_ptrEq {op : BinOp} {t u : TypeId} {x y : Operand} (ho : o.op = .binOp op t x y u) (hs : aop E c o ρ H = some (v, H', kd)) (hr : VT φ S w ρ a) (hg : GlobOk E.ng φ) (hst : St φ S H w) : Did2 E o a φ S w H v H' := by
  by_cases hk : kd = .pure
  · subst hk
    obtain ⟨rfl, h⟩ := did_binOp ho hs hr hg
    exact h.did2 hst
  · simp only [aop, ho] at hs
    have hx := hr.eval hg x
    have hy := hr.eval hg y
    split at hs
    · simp only [Option.some.injEq, Prod.mk.injEq] at hs
      exact absurd hs.2.2.symm hk
    · have rngs : ∀ {d off : Nat}, (H.rng d off 1).isSome = true → ∃ cs, H.get d = some (.cells cs) ∧ off < cs.length := fun {d off} h => by
        obtain ⟨cs, h1⟩ := Option.isSome_iff_exists.1 h
        simp only [Heap.rng, Option.bind_eq_some_iff] at h1
        obtain ⟨ds, h2, h3⟩ := h1
        obtain ⟨-, h4⟩ := part_get h3
        exact ⟨ds, Heap.cells_get h2, by omega⟩
      have same : ∀ {i p j q : Nat} {vx vy : Value} {t : TypeId} {e : TypeId} {n : Nat}, E.P.underlying t = some (.pointer e) → sizeOf E.P e = some n → 0 < n → (H.rng i p 1).isSome = true → (H.rng j q 1).isSome = true → V φ S w (.ptr i p) vx → V φ S w (.ptr j q) vy →
          ∀ d, (Op.equalIn (d + 1) t vx vy).run E.P w = .ok (decide (i = j ∧ p = q)) w := by
        intro i p j q vx vy t e n hu hsz hn hi hj hvx hvy d
        obtain ⟨cs, h1, h2⟩ := rngs hi
        obtain ⟨ds, h3, h4⟩ := rngs hj
        obtain ⟨it, h5, h6⟩ := sizeOf_inv hsz
        cases hvx with
        | ptr _ _ b base total hφi =>
          cases hvy with
          | ptr _ _ b' base' total' hφj =>
            obtain ⟨k1, ⟨c1, e1, k2, k3⟩, -⟩ := hst.obj i _ _ h1 hφi
            obtain ⟨m1, ⟨c2, e2, m2, m3⟩, -⟩ := hst.obj j _ _ h3 hφj
            have hn0 : it.size ≠ 0 := by omega
            have hval : (sameAddr ⟨b, base + p, none⟩ ⟨b', base' + q, none⟩).run E.P w = .ok (decide (i = j ∧ p = q)) w := by
              by_cases hij : i = j
              · subst hij
                rw [hφi] at hφj
                injection hφj with hφj
                injection hφj with q1 q2 q3
                subst q1; subst q2; subst q3
                by_cases hpq : p = q
                · subst hpq; simp [sameAddr]
                · simp [sameAddr, hpq]
              · have hb : (i = j ∧ p = q) = False := by simp [hij]
                by_cases hbb : b = b'
                · subst hbb
                  have : base + p ≠ base' + q := fun e => by
                    have := hst.disj i j _ _ _ _ hij h1 h3 hφi hφj b (base + p) ⟨rfl, by omega, by omega⟩ ⟨rfl, by omega, by omega⟩
                    exact this
                  simp [sameAddr, hij, this]
                · have f1 : w.frozen? ⟨b, base + p, none⟩ = false := by simp [World.frozen?, k2]
                  have f2 : w.frozen? ⟨b', base' + q, none⟩ = false := by simp [World.frozen?, m2]
                  have g1 : w.shape? b = some (e1, c1.size) := by simp [World.shape?, k2]
                  have g2 : w.shape? b' = some (e2, c2.size) := by simp [World.shape?, m2]
                  have f3 : ∀ k, w.frozen? ⟨b, k, none⟩ = false := fun k => by simp [World.frozen?, k2]
                  have f4 : ∀ k, w.frozen? ⟨b', k, none⟩ = false := fun k => by simp [World.frozen?, m2]
                  simp [sameAddr, hbb, f1, f2, noView, viewAt, g1, g2, mayBeOne, stringish, Result.andThen, f3, f4, hij]
            simp [Op.equalIn, run_underlying hu, Result.andThen, run_sizeOf' h5, hn0, hval]
      have fin : ∀ r, ptrEq E.P H t (evalOp E.ng ρ x) (evalOp E.ng ρ y) = some r → (eqGuard .eql t x y (a.eval x) (a.eval y)).run E.P w = .ok () w ∧ (eqGuard .neq t x y (a.eval x) (a.eval y)).run E.P w = .ok () w ∧ (Op.equal t (a.eval x) (a.eval y)).run E.P w = .ok r w ∧
          (∀ op', (op' = .eql ∨ op' = .neq) → Go.binOp op' t (a.eval x) (a.eval y) = if op' = .eql then (do pure (.bool (← Op.equal t (a.eval x) (a.eval y)))) else (do pure (.bool (!(← Op.equal t (a.eval x) (a.eval y)))))) := by
        intro r hr'
        obtain ⟨dp, hd⟩ : ∃ d, ∀ t a b, Op.equal t a b = Op.equalIn (d + 1 + 1) t a b := ⟨9998, fun _ _ _ => rfl⟩
        generalize evalOp E.ng ρ x = ax at *
        generalize evalOp E.ng ρ y = ay at *
        generalize a.eval x = vx at *
        generalize a.eval y = vy at *
        have two : ∀ {t i p j q r}, (match E.P.underlying t with | some (.pointer e) => if (sizeOf E.P e).any (0 < ·) ∧ (H.rng i p 1).isSome ∧ (H.rng j q 1).isSome then some (decide (i = j ∧ p = q)) else none | _ => none) = some r →
            ∃ e n, E.P.underlying t = some (.pointer e) ∧ sizeOf E.P e = some n ∧ 0 < n ∧ (H.rng i p 1).isSome = true ∧ (H.rng j q 1).isSome = true ∧ r = decide (i = j ∧ p = q) := by
          intro t i p j q r h
          split at h
          · rename_i e hu
            split at h
            · rename_i hc
              obtain ⟨hc1, hc2, hc3⟩ := hc
              injection h with h
              cases hsz : sizeOf E.P e with
              | none => simp [hsz] at hc1
              | some n => exact ⟨e, n, hu, hsz, by simpa [hsz] using hc1, hc2, hc3, h.symm⟩
            · simp at h
          · simp at h
        unfold ptrEq at hr'
        dsimp only at hr'
        split at hr'
        · rename_i i p j q _ _
          obtain ⟨e, n, h1, h2, h3, h4, h5, rfl⟩ := two hr'
          have hrun := same h1 h2 h3 h4 h5 hx hy (dp + 1)
          refine ⟨?_, ?_, by rw [hd]; exact hrun, ?_⟩
          · cases hx; cases hy; simp [eqGuard]
          · cases hx; cases hy; simp [eqGuard]
          · cases hx; cases hy; rintro op' (rfl | rfl) <;> simp [Go.binOp]
        · rename_i t1 i p t2 j q _ _
          obtain ⟨ms, hu⟩ : ∃ ms, E.P.underlying t = some (.interface ms) := ⟨_, by assumption⟩
          obtain ⟨vx', rfl, hx'⟩ := hx.ifc_inv
          obtain ⟨vy', rfl, hy'⟩ := hy.ifc_inv
          refine ⟨by simp [eqGuard], by simp [eqGuard], ?_, by rintro op' (rfl | rfl) <;> simp [Go.binOp]⟩
          split at hr'
          · rename_i e12
            subst e12
            split at hr'
            · rename_i hcmp
              obtain ⟨e, n, h1, h2, h3, h4, h5, rfl⟩ := two hr'
              have hrun := same h1 h2 h3 h4 h5 hx' hy' dp
              cases hi : E.P.info? t1 with
              | none => simp [hi] at hcmp
              | some it =>
                have hc : it.comparable = true := by simpa [hi] using hcmp
                rw [hd, Op.equalIn]
                simp [run_underlying hu, Result.andThen, typeInfo, hi, hc, hrun]
            · simp at hr'
          · rename_i hne
            injection hr' with hr'
            subst hr'
            rw [hd, Op.equalIn]
            simp [run_underlying hu, Result.andThen, hne]
        · simp at hr'
      split at hs
      · simp only [Option.map_eq_some_iff, Prod.mk.injEq] at hs
        obtain ⟨r, h3, rfl, rfl, -⟩ := hs
        obtain ⟨k1, -, k2, k3⟩ := fin r h3
        refine Did.did2 (.same' (.bool _) ?_) hst
        simp [execOp, ho, k1, k3, k2, Result.andThen]
      · simp only [Option.map_eq_some_iff, Prod.mk.injEq] at hs
        obtain ⟨r, h3, rfl, rfl, -⟩ := hs
        obtain ⟨-, k1, k2, k3⟩ := fin r h3
        refine Did.did2 (.same' (.bool _) ?_) hst
        simp [execOp, ho, k1, k3, k2, Result.andThen]
      · simp at hs

theorem did_convert_arr {s d : TypeId} {x : Operand} (ho : o.op = .convert s d x) (hs : aop E c o ρ H = some (v, H', kd)) (hr : VT φ S w ρ a) (hg : GlobOk E.ng φ) (hst : St φ S H w) : Did2 E o a φ S w H v H' := by
  by_cases hk : kd = .pure
  · subst hk
    obtain ⟨rfl, h⟩ := did_convert ho hs hr hg hst.sA
    exact h.did2 hst
  · simp only [aop, ho] at hs
    have hx := hr.eval hg x
    split at hs
    · simp only [Option.some.injEq, Prod.mk.injEq] at hs; exact absurd hs.2.2.symm hk
    · simp only [Option.some.injEq, Prod.mk.injEq] at hs; exact absurd hs.2.2.symm hk
    · split at hs
      · split at hs
        · simp only [Option.some.injEq, Prod.mk.injEq] at hs; exact absurd hs.2.2.symm hk
        · simp at hs
      · simp at hs
    · rename_i e hus hud
      split at hs
      · rename_i es hue hel
        simp only [Option.map_eq_some_iff, Prod.mk.injEq] at hs
        obtain ⟨bs, h1, rfl, rfl, h2⟩ := hs
        generalize evalOp E.ng ρ x = ax at *
        cases ax with
        | arr d' off len sz =>
          dsimp only at hel
          generalize hav : a.eval x = av at hx
          obtain ⟨news, hE, hvx, hzx⟩ := elems_sound (P := E.P) hel hx hst
          cases hx with
          | arr _ _ _ _ b base total cap hφ hc ht =>
            have hlen := hE.len w
            simp [Builtin.lenOf] at hlen
            obtain ⟨h3, h4⟩ := bytesOfElems_get h1
            have hf := hE.first w.drawn
            have hnl : news.length = es.length := by simpa using hE.size
            have hlb : (loadCells ⟨b, base + off, none⟩ bs.length).run E.P w = .ok (bs.map fun b => Value.int .u8 (b.toNat : Int)).toArray w := by
              have h5 : (loadCells ⟨b, base + off, none⟩ es.length).run E.P w = .ok news.toArray w := by
                simpa [Builtin.firstCells] using hf
              rw [h3, h5]
              congr 2
              apply List.ext_getElem?
              intro i
              by_cases hi : i < es.length
              · obtain ⟨bb, h6, h7⟩ := h4 i es[i] (by simp [hi])
                have h8 := flatten_get hzx (i := i) (j := 0) (e := es[i]) (c := .int .u8 (bb.toNat : Int)) (by simp [hi]) (by rw [h7]; rfl)
                obtain ⟨uu, h9, h10⟩ := hvx.get h8
                rw [h10.int_inv] at h9
                simp only [Nat.mul_one, Nat.add_zero] at h9
                rw [h9, List.getElem?_map, h6]
                rfl
              · rw [List.getElem?_eq_none (by omega), List.getElem?_eq_none (by simp; omega)]
            have hlen' : len = bs.length := by rw [h3]; exact hlen
            have hrun : (convert s d (.slice (some ⟨b, base + off, none⟩) len cap)).run E.P w = .ok (.string ⟨bs.toArray⟩) w := by
              rw [run_convert_bytes_string w s d e (some ⟨b, base + off, none⟩) len cap hus hue hud]
              rw [run_bytesToString w ⟨b, base + off, none⟩ len cap (bs.map fun b => (b.toNat : Int)) (by rw [hlen', hlb]; simp [Function.comp_def])]
              rw [foldl_push_byteCells]
              simp
            have hV : V φ S w (.str bs) (.string ⟨bs.toArray⟩) := by
              have := V.str (φ := φ) (S := S) (w := w) ⟨bs.toArray⟩
              simpa using this
            refine Did.did2 (.same' hV ?_) hst
            simp [execOp, ho, hav, hrun, Result.andThen]
        | _ => exact absurd h2.symm hk
      · simp at hs
    · simp at hs

end Go.Am
