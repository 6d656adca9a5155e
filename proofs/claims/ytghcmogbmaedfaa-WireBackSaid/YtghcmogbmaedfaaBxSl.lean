/- Lists of rows in memory, and rows that draw taken world by world. No program is in sight. -/
import Derived.Test.YtghcmogbmaedfaaBxMap2
import Derived.Test.YtghcmogbmaedfaaBxList
namespace Go.Bx
open Go
set_option linter.unusedSimpArgs false
set_option linter.unusedVariables false

/-- A list in a block of its own: rows of s cells each. -/
structure Sl (w : World) (E s : Nat) (a : Option Addr) (cap : Nat) (rows : List (List Value)) : Prop where
  l : Lst w E s a rows.length cap rows.flatten
  len : ∀ r ∈ rows, r.length = s
theorem flat_len {s : Nat} : ∀ {rows : List (List Value)}, (∀ r ∈ rows, r.length = s) → rows.flatten.length = rows.length * s
  | [], _ => by simp
  | r :: rs, h => by
    rw [List.flatten_cons, List.length_append, flat_len (fun x hx => h x (by simp [hx])), h r (by simp), List.length_cons, Nat.succ_mul, Nat.add_comm]
theorem flat_get {s : Nat} : ∀ {rows : List (List Value)}, (∀ r ∈ rows, r.length = s) → ∀ {i : Nat} {x : List Value}, rows[i]? = some x → ∀ j u, x[j]? = some u → rows.flatten[i * s + j]? = some u
  | [], _, i, x, hx, _, _, _ => by cases hx
  | r :: rs, h, 0, x, hx, j, u, hj => by
    cases hx
    rw [Nat.zero_mul, Nat.zero_add, List.flatten_cons, List.getElem?_append_left (List.getElem?_eq_some_iff.1 hj).1]; exact hj
  | r :: rs, h, i + 1, x, hx, j, u, hj => by
    have := flat_get (fun y hy => h y (by simp [hy])) (by simpa using hx : rs[i]? = some x) j u hj
    rw [List.flatten_cons, List.getElem?_append_right (by rw [h r (by simp), Nat.succ_mul]; omega), h r (by simp)]
    rw [← this]; congr 1; rw [Nat.succ_mul]; omega
theorem flat_take {s : Nat} : ∀ {rows : List (List Value)}, (∀ r ∈ rows, r.length = s) → ∀ k, k ≤ rows.length → (rows.take k).flatten = rows.flatten.take (k * s)
  | [], _, 0, _ => by simp
  | r :: rs, h, 0, _ => by simp
  | r :: rs, h, k + 1, hk => by
    have hr := h r (by simp)
    rw [List.take_succ_cons, List.flatten_cons, List.flatten_cons, flat_take (fun y hy => h y (by simp [hy])) k (by simpa using hk), List.take_append, hr, Nat.succ_mul]
    rw [show k * s + s - s = k * s by omega, List.take_of_length_le (by rw [hr]; omega : r.length ≤ k * s + s)]

theorem blk_g {b o g : Nat} {s : Option Nat} (h : blk (some ⟨b, o, s⟩) = some g) : b = g := Option.some.inj h
section
variable {w w' : World} {E s : Nat} {a : Option Addr} {cap : Nat} {rows news : List (List Value)} {P : Program} {t by_ : Nat} {d : TypeDesc} {z : Value} {sz1 by1 : Nat} {z1 : Value}
theorem Sl.nil (w : World) (E s : Nat) : Sl w E s none 0 [] := ⟨Lst.nil w E s, fun _ h => by cases h⟩
theorem Sl.made {g : Nat} (hg : w.heap[g]? = some (.cells rows.flatten.toArray E (0, 0))) (h : ∀ r ∈ rows, r.length = s) (hm : rows.length ≤ 1099511627776) : Sl w E s (some ⟨g, 0, none⟩) rows.length rows :=
  ⟨⟨flat_len h, .inr ⟨g, _, rfl, hg, Nat.le_refl _, by simp only [maxLen]; omega, by rw [List.size_toArray, flat_len h], by rw [← flat_len h, List.take_length]⟩⟩, h⟩
theorem Sl.keep (h : Sl w E s a cap rows) (hk : ∀ g, blk a = some g → w'.heap[g]? = w.heap[g]?) : Sl w' E s a cap rows := ⟨h.l.keep hk, h.len⟩
theorem Sl.lt (h : Sl w E s a cap rows) {g : Nat} (hg : blk a = some g) : g < w.heap.size := h.l.lt hg
theorem Sl.chg {F : Nat → Prop} (h : Sl w E s a cap rows) (hC : Chg F w w') (hne : ∀ g, blk a = some g → ¬ F g) : Sl w' E s a cap rows := ⟨h.l.chg hC hne, h.len⟩
theorem Sl.ext (h : Sl w E s a cap rows) (hC : Ext w w') : Sl w' E s a cap rows := ⟨h.l.ext hC, h.len⟩
theorem Sl.take (h : Sl w E s a cap rows) {k : Nat} (hk : k ≤ rows.length) : Sl w E s a cap (rows.take k) :=
  ⟨by have := h.l.take hk; rw [← flat_take h.len k hk] at this; rwa [List.length_take, Nat.min_eq_left hk], fun r hr => h.len r (List.mem_of_mem_take hr)⟩
theorem Sl.at (h : Sl w E s a cap rows) {i : Nat} {x : List Value} (hx : rows[i]? = some x) :
    ∃ g cur, a = some ⟨g, 0, none⟩ ∧ w.heap[g]? = some (.cells cur E (0, 0)) ∧ rows.length ≤ cap ∧ i < rows.length ∧ ∀ j u, x[j]? = some u → cur[i * s + j]? = some u := by
  have hi := (List.getElem?_eq_some_iff.1 hx).1
  obtain ⟨g, cur, h1, h2, h3, h4, h5⟩ := h.l.at (by omega)
  refine ⟨g, cur, h1, h2, h3, hi, fun j u hj => ?_⟩
  have hj' := (List.getElem?_eq_some_iff.1 hj).1
  have hxl := h.len x (List.mem_of_getElem? hx)
  have : i * s + j < rows.length * s := by
    have : (i + 1) * s ≤ rows.length * s := Nat.mul_le_mul_right _ hi
    rw [Nat.succ_mul] at this
    omega
  rw [h5 _ this]
  exact flat_get h.len hx j u hj
theorem Sl.inp (h : Sl w E s a cap rows) : Inp w s a rows := by
  rcases h.l.row with ⟨rfl, h0, _⟩ | ⟨g, cur, rfl, hg, h1, h2, h3, h4⟩
  · exact .inl (List.eq_nil_of_length_eq_zero h0)
  · refine .inr ⟨g, 0, cur, E, (0, 0), rfl, hg, fun i x hx j u hj => ?_⟩
    obtain ⟨g', cur', he, hg', _, _, h5⟩ := h.at hx
    cases he
    rw [hg] at hg'
    cases hg'
    rw [Nat.zero_add]
    exact h5 j u hj
theorem Inp.ext (h : Inp w s a rows) (hE : Ext w w') : Inp w' s a rows := by
  rcases h with rfl | ⟨b, o, c, E, fz, h1, h2, h3⟩
  · exact .inl rfl
  · exact .inr ⟨b, o, c, E, fz, h1, by rw [hE.heap b (lt_of_heap h2)]; exact h2, h3⟩
theorem Inp.chg {F : Nat → Prop} (h : Inp w s a rows) (hE : Chg F w w') (hne : ∀ g, blk a = some g → ¬ F g) : Inp w' s a rows := by
  rcases h with rfl | ⟨b, o, c, E, fz, h1, h2, h3⟩
  · exact .inl rfl
  · exact .inr ⟨b, o, c, E, fz, h1, by rw [hE.heap b (lt_of_heap h2) (hne b (by rw [h1]; rfl))]; exact h2, h3⟩
/-- Nothing is added. -/
theorem ap_none {n : Nat} (hn : n ≤ cap) (ht : TI P t (.slice E) sz1 by1 z1) (hE : TI P E d s by_ z) {b0 : Option Addr} {c : Nat} :
    apR P t (.slice a n cap) (.slice b0 0 c) w = .ok (.slice a n cap) w := by
  obtain ⟨i, hi, hi1, hi2, hi3⟩ := hE.inf
  cases b0 <;> cases a <;>
    simp [apR, Builtin.append_, run_underlying ht.und, sizeOf, typeInfo, hi, Builtin.lenOf, Builtin.firstCells, loadCells, loadCellsFrom, hn, storeCells, pure, Sem.run]
theorem Inp.cells (h : Inp w s a rows) (hr : ∀ r ∈ rows, r.length = s) (hne : rows ≠ []) : ∃ b o c E fz, a = some ⟨b, o, none⟩ ∧ w.heap[b]? = some (.cells c E fz) ∧ ∀ j u, rows.flatten[j]? = some u → c[o + j]? = some u := by
  rcases h with rfl | ⟨b, o, c, E, fz, h1, h2, h3⟩
  · exact absurd rfl hne
  · refine ⟨b, o, c, E, fz, h1, h2, fun j u hj => ?_⟩
    have hl := flat_len hr
    have hjl := (List.getElem?_eq_some_iff.1 hj).1
    rw [hl] at hjl
    have hs : 0 < s := by rcases Nat.eq_zero_or_pos s with rfl | h; · omega
                          · exact h
    have hi : j / s < rows.length := (Nat.div_lt_iff_lt_mul hs).2 hjl
    obtain ⟨x, hx⟩ : ∃ x, rows[j / s]? = some x := ⟨rows[j / s], List.getElem?_eq_getElem hi⟩
    have hxl := hr x (List.mem_of_getElem? hx)
    obtain ⟨v, hv⟩ : ∃ v, x[j % s]? = some v := ⟨x[j % s]'(by rw [hxl]; exact Nat.mod_lt _ hs), List.getElem?_eq_getElem _⟩
    have h4 := flat_get hr hx _ v hv
    have h5 := h3 _ _ hx _ v hv
    rw [Nat.div_add_mod' j s] at h4
    rw [Nat.add_assoc, Nat.div_add_mod' j s] at h5
    rw [hj] at h4
    cases h4
    exact h5
/-- Appending what stands anywhere. -/
theorem Sl.append (h : Sl w E s a cap rows) (ht : TI P t (.slice E) sz1 by1 z1) (hE : TI P E d s by_ z) (hz : z.cells.size = s) (hs : 0 < s) {b0 : Option Addr} {c : Nat} (hI : Inp w s b0 news) (hr : ∀ r ∈ news, r.length = s) (h1 : news.flatten.all isCell = true)
    (hmax : rows.length + news.length ≤ 1099511627776) (hby : by_ ≤ 64) :
    ∃ a' cap' w', apR P t (.slice a rows.length cap) (.slice b0 news.length c) w = .ok (.slice a' (rows ++ news).length cap') w' ∧ Sl w' E s a' cap' (rows ++ news) ∧ Chg (fun k => blk a = some k) w w' ∧ (∀ g, blk a' = some g → blk a = some g ∨ (w.heap.size ≤ g ∧ g < w'.heap.size)) := by
  have hlen : ∀ r ∈ rows ++ news, r.length = s := fun r hm => (List.mem_append.1 hm).elim (h.len r) (hr r)
  by_cases hne : news = []
  · subst hne
    have hn : rows.length ≤ cap := by rcases h.l.row with ⟨_, h0, h2⟩ | ⟨_, _, _, _, h2, _⟩ <;> omega
    refine ⟨a, cap, w, ?_, ?_, Chg.refl _ _, fun g hg => .inl hg⟩
    · rw [List.append_nil]; exact ap_none hn ht hE
    · rw [List.append_nil]; exact h
  · obtain ⟨b, o, cs, T, fz, rfl, hb, hc⟩ := hI.cells hr hne
    have hm : rows.length + news.length ≤ maxLen := by simp only [maxLen]; omega
    have hb2 : (rows.length + news.length) * by_ ≤ 140737488355328 := Nat.le_trans (Nat.mul_le_mul hmax hby) (by decide)
    obtain ⟨a', cap', w', g1, g2, g3, g4⟩ := h.l.append (c := c) ht hE hz hs hb (flat_len hr) hc h1 hm hb2
    refine ⟨a', cap', w', by rw [List.length_append]; exact g1, ⟨?_, hlen⟩, g3, g4⟩
    rw [List.length_append, List.flatten_append]; exact g2
/-- Appending rows that have just been laid for it. -/
theorem Sl.push (h : Sl w E s a cap rows) (ht : TI P t (.slice E) sz1 by1 z1) (hE : TI P E d s by_ z) (hz : z.cells.size = s) (hs : 0 < s) {us : Array Value} {m c b0 : Nat} (hu : us = news.flatten.toArray) (hb : b0 = w.heap.size) (hm : m = news.length) (hr : ∀ r ∈ news, r.length = s) (h1 : news.flatten.all isCell = true)
    (hmax : rows.length + news.length ≤ 1099511627776) (hby : by_ ≤ 64) :
    ∃ a' cap' w', apR P t (.slice a rows.length cap) (.slice (some ⟨b0, 0, none⟩) m c) (w.alloc (.cells us E)) = .ok (.slice a' (rows ++ news).length cap') w' ∧ Sl w' E s a' cap' (rows ++ news) ∧ Chg (fun k => blk a = some k) w w' ∧ w.heap.size < w'.heap.size ∧ (∀ g, blk a' = some g → blk a = some g ∨ (w.heap.size ≤ g ∧ g < w'.heap.size)) := by
  subst hu hb hm
  have h' : Sl (w.alloc (.cells news.flatten.toArray E)) E s a cap rows := h.ext ((Ext.refl w).alloc _)
  obtain ⟨a', c', w', g1, g2, g3, g4⟩ := h'.append (P := P) (c := c) ht hE hz hs (b0 := some ⟨w.heap.size, 0, none⟩) (news := news) (.inr ⟨w.heap.size, 0, _, E, (0, 0), rfl, alloc_new, fun i x hx j u hj => by
    rw [Nat.zero_add]
    have := flat_get hr hx j u hj
    simpa using this⟩) hr h1 hmax hby
  have hsz := g3.size
  rw [alloc_size] at hsz
  refine ⟨a', c', w', g1, g2, ((Chg.refl (fun k => blk a = some k) w).alloc _).trans g3 (fun b _ hb => hb), by omega, fun g hg => ?_⟩
  rcases g4 g hg with h | ⟨h, h'⟩
  · exact .inl h
  · rw [alloc_size] at h; exact .inr ⟨by omega, h'⟩
/-- Rows are laid anew at one place. -/
theorem Sl.set {g : Nat} {cur : Array Value} (h : Sl w E s (some ⟨g, 0, none⟩) cap rows) (hg : w.heap[g]? = some (.cells cur E (0, 0))) {i j : Nat} {x : List Value} (hx : rows[i]? = some x) (hj : j < s) (v : Value) :
    Sl (upd w g (.cells (cur.setIfInBounds (i * s + j) v) E (0, 0))) E s (some ⟨g, 0, none⟩) cap (rows.set i (x.set j v)) := by
  have hi := (List.getElem?_eq_some_iff.1 hx).1
  have hlen : ∀ r ∈ rows.set i (x.set j v), r.length = s := fun r hr => by
    rcases List.mem_or_eq_of_mem_set hr with h1 | rfl
    · exact h.len r h1
    · rw [List.length_set]; exact h.len x (List.mem_of_getElem? hx)
  refine ⟨?_, hlen⟩
  have h1 := h.l.set hg (i * s + j) v
  have e : (rows.set i (x.set j v)).flatten = rows.flatten.set (i * s + j) v := by
    apply List.ext_getElem?
    intro p
    have hs : 0 < s := by omega
    rcases Nat.lt_or_ge p (rows.length * s) with hp | hp
    · have hq : p / s < rows.length := (Nat.div_lt_iff_lt_mul hs).2 hp
      obtain ⟨y, hy⟩ : ∃ y, rows[p / s]? = some y := ⟨rows[p / s], List.getElem?_eq_getElem hq⟩
      have hyl := h.len y (List.mem_of_getElem? hy)
      obtain ⟨u, hu⟩ : ∃ u, y[p % s]? = some u := ⟨y[p % s]'(by rw [hyl]; exact Nat.mod_lt _ hs), List.getElem?_eq_getElem _⟩
      have h4 := flat_get h.len hy _ u hu
      rw [Nat.div_add_mod' p s] at h4
      have hpe : p / s * s + p % s = p := Nat.div_add_mod' p s
      by_cases hpi : p / s = i
      · subst hpi
        have : y = x := by rw [hx] at hy; cases hy; rfl
        subst this
        have h5 : (rows.set (p / s) (y.set j v))[p / s]? = some (y.set j v) := by rw [List.getElem?_set_self hq]
        by_cases hpj : p % s = j
        · subst hpj
          have h6 := flat_get hlen h5 (p % s) v (by rw [List.getElem?_set_self (by rw [hyl]; exact Nat.mod_lt _ hs)])
          rw [hpe] at h6 ⊢
          rw [h6, List.getElem?_set_self (by rw [flat_len h.len]; exact hp)]
        · have h6 := flat_get hlen h5 (p % s) u (by rw [List.getElem?_set_ne (Ne.symm hpj)]; exact hu)
          rw [hpe] at h6
          rw [h6, List.getElem?_set_ne (by omega), h4]
      · have h5 : (rows.set i (x.set j v))[p / s]? = some y := by rw [List.getElem?_set_ne (Ne.symm hpi)]; exact hy
        have h6 := flat_get hlen h5 (p % s) u hu
        rw [hpe] at h6
        rw [h6, List.getElem?_set_ne ?_, h4]
        intro hc
        apply hpi
        rw [← hc, Nat.mul_comm, Nat.mul_add_div hs, Nat.div_eq_of_lt hj, Nat.add_zero]
    · rw [List.getElem?_eq_none (by rw [flat_len hlen, List.length_set]; exact hp), List.getElem?_eq_none (by rw [List.length_set, flat_len h.len]; exact hp)]
  rw [e, List.length_set]
  exact h1
end


/-! ### Rows that draw, world by world -/
section
variable {P : Program} {K : Env → World → Prop} {C : World → Prop} {d : Option Tmp} {op : Op} {ty : TypeId} {e : Env} {w w1 : World} {l : List (GOp × Nat)} {v : Value} {f : FuncId} {args : Array Value}
/-- From here on the world is a given one. -/
theorem xe_at (h : ∀ w', C w' → XE P K ((⟨d, op, ty, none⟩, 2) :: l) (fun u => u = w') e) : XE P K ((⟨d, op, ty, none⟩, 2) :: l) C e := by
  rw [XE_cons2]
  intro w hw
  have := h w hw
  rw [XE_cons2] at this
  exact this w rfl
theorem xx2v (hk : XE P K l (fun u => u = w1) (e.put d v)) (h : rG P op ty e w = .ok (.value v) w1 := by (simp (disch := first | assumption | ((try simp only [upd_size, alloc_size, dr_heap, List.size_toArray, List.length_cons, List.length_nil, Nat.reduceAdd]) <;> omega) | (with_unfolding_all (refine Eq.trans rfl ?_; exact rfl)) | exact Nat.le_of_ble_eq_true rfl | fail) only [push_cast, *, Nat.reduceEqDiff, Nat.reduceAdd, Nat.reduceMul, Nat.reduceSub, Int.reduceToNat, Int.reduceAdd, Int.reduceSub, Int.reduceMul, Int.reduceNeg, ↓reduceIte] <;> rfl)) : XE P K ((⟨d, op, ty, none⟩, 2) :: l) (fun u => u = w) e := by
  rw [XE_cons2]
  rintro _ rfl
  rw [h]
  exact ⟨fun u => u = _, rfl, hk⟩
theorem xx2s (hk : XE P K l (fun u => u = w1) (e.put d undef)) (h : rG P op ty e w = .ok .skip w1 := by (simp (disch := first | assumption | ((try simp only [upd_size, alloc_size, dr_heap, List.size_toArray, List.length_cons, List.length_nil, Nat.reduceAdd]) <;> omega) | (with_unfolding_all (refine Eq.trans rfl ?_; exact rfl)) | exact Nat.le_of_ble_eq_true rfl | fail) only [push_cast, *, Nat.reduceEqDiff, Nat.reduceAdd, Nat.reduceMul, Nat.reduceSub, Int.reduceToNat, Int.reduceAdd, Int.reduceSub, Int.reduceMul, Int.reduceNeg, ↓reduceIte] <;> rfl)) : XE P K ((⟨d, op, ty, none⟩, 2) :: l) (fun u => u = w) e := by
  rw [XE_cons2]
  rintro _ rfl
  rw [h]
  exact ⟨fun u => u = _, rfl, hk⟩
theorem xx1v (hk : XE P K l (fun u => u = w) (e.put d v)) (h : rG P op ty e w = .ok (.value v) w := by (simp (disch := first | assumption | ((try simp only [upd_size, alloc_size, dr_heap, List.size_toArray, List.length_cons, List.length_nil, Nat.reduceAdd]) <;> omega) | (with_unfolding_all (refine Eq.trans rfl ?_; exact rfl)) | exact Nat.le_of_ble_eq_true rfl | fail) only [push_cast, *, Nat.reduceEqDiff, Nat.reduceAdd, Nat.reduceMul, Nat.reduceSub, Int.reduceToNat, Int.reduceAdd, Int.reduceSub, Int.reduceMul, Int.reduceNeg, ↓reduceIte] <;> rfl)) : XE P K ((⟨d, op, ty, none⟩, 1) :: l) (fun u => u = w) e := by
  rw [XE_cons1]
  refine ⟨v, fun w' hw => ?_, hk⟩
  subst hw
  rw [h]; exact ⟨rfl, rfl⟩
theorem xx2e {R : Value → World → Prop} (hc : CallsR P f args w R) (hk : ∀ v w', R v w' → XE P K l (fun u => u = w') (e.put d v)) (h : rG P op ty e w = .ok (.enter f args) w := by (simp (disch := first | assumption | ((try simp only [upd_size, alloc_size, dr_heap, List.size_toArray, List.length_cons, List.length_nil, Nat.reduceAdd]) <;> omega) | (with_unfolding_all (refine Eq.trans rfl ?_; exact rfl)) | exact Nat.le_of_ble_eq_true rfl | fail) only [push_cast, *, Nat.reduceEqDiff, Nat.reduceAdd, Nat.reduceMul, Nat.reduceSub, Int.reduceToNat, Int.reduceAdd, Int.reduceSub, Int.reduceMul, Int.reduceNeg, ↓reduceIte] <;> rfl)) : XE P K ((⟨d, op, ty, none⟩, 2) :: l) (fun u => u = w) e := by
  rw [XE_cons2]
  rintro _ rfl
  rw [h]
  exact hc.mono fun v w' hv => ⟨fun u => u = w', rfl, hk v w' hv⟩
theorem xx_nil (h : K e w) : XE P K [] (fun u => u = w) e := by
  unfold XE
  rintro _ rfl
  exact h
/-- A row that draws, from the first world that is changed: world by world. -/
theorem dx_ {A B : Prop} (q : A) (h : Box A → B := by (intro q; (repeat (first | refine xe0A ?_ | refine xx1v ?_ | refine xx2v ?_ | refine xx2s ?_ | refine g0t ?_ | refine g1t ?_ | refine g2t ?_ | refine g0f ?_ | refine g1f ?_ | refine g2f ?_ | refine g0u ?_ | refine g1u ?_ | refine g2u ?_ | refine xx_nil ?_)); exact q.out)) : B := h ⟨q⟩
theorem rgA {x : Result Next} (h : rG P op ty e w = x := by (simp (disch := first | assumption | ((try simp only [upd_size, alloc_size, dr_heap, List.size_toArray, List.length_cons, List.length_nil, Nat.reduceAdd]) <;> omega) | (with_unfolding_all (refine Eq.trans rfl ?_; exact rfl)) | exact Nat.le_of_ble_eq_true rfl | fail) only [push_cast, *, Nat.reduceEqDiff, Nat.reduceAdd, Nat.reduceMul, Nat.reduceSub, Int.reduceToNat, Int.reduceAdd, Int.reduceSub, Int.reduceMul, Int.reduceNeg, ↓reduceIte] <;> rfl)) : rG P op ty e w = x := h
theorem xf1A {D : World → Prop} (hk : XF P K l (Ext w) D (e.put d v)) (h : ∀ u, Ext w u → rG P op ty e u = .ok (.value v) u := by (intro w' hw'; (simp (disch := first | assumption | ((try simp only [upd_size, alloc_size, dr_heap, List.size_toArray, List.length_cons, List.length_nil, Nat.reduceAdd]) <;> omega) | (with_unfolding_all (refine Eq.trans rfl ?_; exact rfl)) | exact Nat.le_of_ble_eq_true rfl | fail) only [push_cast, *, Nat.reduceEqDiff, Nat.reduceAdd, Nat.reduceMul, Nat.reduceSub, Int.reduceToNat, Int.reduceAdd, Int.reduceSub, Int.reduceMul, Int.reduceNeg, ↓reduceIte] <;> rfl))) : XF P K ((⟨d, op, ty, none⟩, 1) :: l) (Ext w) D e := xf1 h hk
end
section
variable {P : Program} {K : Env → World → Prop} {C : World → Prop} {d : Option Tmp} {op : Op} {ty : TypeId} {e : Env} {w : World} {l : List (GOp × Nat)}
/-- An effect; behind it that world, and what is built on it. -/
theorem xe2w (h : ∀ w', C w' → kN P (fun v w'' => XE P K l (Ext w'') (e.put d v)) (rG P op ty e w')) : XE P K ((⟨d, op, ty, none⟩, 2) :: l) C e := by
  rw [XE_cons2]
  intro w hw
  have := h w hw
  generalize rG P op ty e w = x at *
  have mk : ∀ v w'', XE P K l (Ext w'') (e.put d v) → ∃ C' : World → Prop, C' w'' ∧ XE P K l C' (e.put d v) := fun v w'' hx => ⟨Ext w'', Ext.refl w'', hx⟩
  cases x with
  | ok n w'' =>
    cases n <;> simp only [kN] at this ⊢
    case value => exact mk _ _ this
    case skip => exact mk _ _ this
    case enter => exact this.mono fun v w'' hv => mk _ _ hv
    all_goals exact this
  | halt y w' => exact this
end
/-! ### Rows taken wide, with guards -/
section
variable {P : Program} {K : Env → World → Prop} {C D : World → Prop} {d : Option Tmp} {op : Op} {ty : TypeId} {e : Env} {w w1 : World} {l : List (GOp × Nat)} {v : Value} {t : Tmp} {b : Bool} {k : Nat}
theorem xf_gt {g : Tmp × Bool} (hg : e g.1 = .bool g.2) (h : XF P K ((⟨d, op, ty, none⟩, k) :: l) C D e) : XF P K ((⟨d, op, ty, some g⟩, k) :: l) C D e := by
  obtain ⟨t, b⟩ := g
  have hw : wantG e (some (t, b)) := hg
  match k, h with
  | 0, h => exact .inl ⟨hw, (h.resolve_right fun hh => by obtain ⟨⟨_, _, h0, _⟩, _⟩ := hh; cases h0).2⟩
  | 1, h => exact .inl ⟨hw, (h.resolve_right fun hh => by obtain ⟨⟨_, _, h0, _⟩, _⟩ := hh; cases h0).2⟩
  | 2, h => exact .inl ⟨hw, (h.resolve_right fun hh => by obtain ⟨⟨_, _, h0, _⟩, _⟩ := hh; cases h0).2⟩
  | 3, h => exact .inl ⟨hw, (h.resolve_right fun hh => by obtain ⟨⟨_, _, h0, _⟩, _⟩ := hh; cases h0).2⟩
  | _ + 4, h => exact .inl ⟨hw, (h.resolve_right fun hh => by obtain ⟨⟨_, _, h0, _⟩, _⟩ := hh; cases h0).2⟩
theorem xf_gf {g : Tmp × Bool} (hg : e g.1 ≠ .bool g.2) (h : XF P K l C D (e.put d undef)) : XF P K ((⟨d, op, ty, some g⟩, k) :: l) C D e := by
  obtain ⟨t, b⟩ := g
  have hw : badG e (some (t, b)) := ⟨t, b, rfl, hg⟩
  match k with
  | 0 => exact .inr ⟨hw, h⟩
  | 1 => exact .inr ⟨hw, h⟩
  | 2 => exact .inr ⟨hw, h⟩
  | 3 => exact .inr ⟨hw, h⟩
  | _ + 4 => exact .inr ⟨hw, h⟩
theorem gft (h : XF P K ((⟨d, op, ty, none⟩, k) :: l) C D e) (hg : e t = .bool b := by (simp (disch := first | assumption | ((try simp only [upd_size, alloc_size, dr_heap, List.size_toArray, List.length_cons, List.length_nil, Nat.reduceAdd]) <;> omega) | (with_unfolding_all (refine Eq.trans rfl ?_; exact rfl)) | fail) only [push_cast, *, Nat.reduceEqDiff, ↓reduceIte] <;> fail)) : XF P K ((⟨d, op, ty, some (t, b)⟩, k) :: l) C D e := xf_gt hg h
theorem gff (h : XF P K l C D (e.put d undef)) (hg : e t = .bool (!b) := by (simp (disch := first | assumption | ((try simp only [upd_size, alloc_size, dr_heap, List.size_toArray, List.length_cons, List.length_nil, Nat.reduceAdd]) <;> omega) | (with_unfolding_all (refine Eq.trans rfl ?_; exact rfl)) | fail) only [push_cast, *, Nat.reduceEqDiff, ↓reduceIte] <;> fail)) : XF P K ((⟨d, op, ty, some (t, b)⟩, k) :: l) C D e := xf_gf (by rw [hg]; cases b <;> simp) h
theorem gfu (h : XF P K l C D (e.put d undef)) (hg : e t = undef := by (simp (disch := first | assumption | ((try simp only [upd_size, alloc_size, dr_heap, List.size_toArray, List.length_cons, List.length_nil, Nat.reduceAdd]) <;> omega) | (with_unfolding_all (refine Eq.trans rfl ?_; exact rfl)) | fail) only [push_cast, *, Nat.reduceEqDiff, ↓reduceIte] <;> fail)) : XF P K ((⟨d, op, ty, some (t, b)⟩, k) :: l) C D e := xf_gf (by rw [hg]; cases b <;> simp [undef]) h
theorem xf1qA {f : FuncId} {args : Array Value} (hk : XF P K l (Ext w) D (e.put d v))
    (h : ∀ w', Ext w w' → rG P op ty e w' = .ok (.enter f args) w' := by (intro w' hw'; (simp (disch := first | assumption | ((try simp only [upd_size, alloc_size, dr_heap, List.size_toArray, List.length_cons, List.length_nil, Nat.reduceAdd]) <;> omega) | (with_unfolding_all (refine Eq.trans rfl ?_; exact rfl)) | exact Nat.le_of_ble_eq_true rfl | fail) only [push_cast, *, Nat.reduceEqDiff, Nat.reduceAdd, Nat.reduceMul, Nat.reduceSub, Int.reduceToNat, Int.reduceAdd, Int.reduceSub, Int.reduceMul, Int.reduceNeg, ↓reduceIte] <;> rfl))) (hc : Quiet P f args w v := by (first | with_reducible assumption | exact Sure.quiet (by with_reducible assumption))) : XF P K ((⟨d, op, ty, none⟩, 1) :: l) (Ext w) D e := xf1c h hc hk
/-- Within a row taken wide: readings and quiet calls. -/
theorem dw_ {A B : Prop} (q : A) (h : Box A → B := by (intro q; (repeat (first | refine xf0A ?_ | refine xf3A ?_ | refine xf3qA ?_ | refine xf1A ?_ | refine xf1qA ?_ | refine gft ?_ | refine gff ?_ | refine gfu ?_)); exact q.out)) : B := h ⟨q⟩
end
/-! ### Rows with operations that yield some value with a property that lasts -/
section
variable {P : Program} {F : Nat → Value → World → Prop} {K : Env → World → Prop} {C D : World → Prop} {d : Option Tmp} {op : Op} {ty : TypeId} {e : Env} {w w1 : World} {l : List (GOp × Nat)} {v : Value} {n : Nat}
theorem xy_ (F : Nat → Value → World → Prop) (hF : ∀ k v u u', F k v u → Ext u u' → F k v u') (h : XR P F K l (Ext w) (Ext w) e) : XY P l K e w := ⟨F, Ext w, Ext w, hF, fun d => (Ext.refl w).drawn d, fun _ h => h, Cl_ext, h⟩
theorem xr0A (hk : XR P F K l C D (e.put d v)) (h : ∀ w, rG P op ty e w = .ok (.value v) w := by (intro w'; (simp (disch := first | assumption | ((try simp only [upd_size, alloc_size, dr_heap, List.size_toArray, List.length_cons, List.length_nil, Nat.reduceAdd]) <;> omega) | (with_unfolding_all (refine Eq.trans rfl ?_; exact rfl)) | exact Nat.le_of_ble_eq_true rfl | fail) only [push_cast, *, Nat.reduceEqDiff, Nat.reduceAdd, Nat.reduceMul, Nat.reduceSub, Int.reduceToNat, Int.reduceAdd, Int.reduceSub, Int.reduceMul, Int.reduceNeg, ↓reduceIte] <;> rfl))) : XR P F K ((⟨d, op, ty, none⟩, 0) :: l) C D e := .inl ⟨trivial, v, h, hk⟩
theorem xr4A (hk : XR P F K l C (Ext w) (e.put d v)) (h : ∀ u, Ext w u → rG P op ty e u = .ok (.value v) u := by (intro w' hw'; (simp (disch := first | assumption | ((try simp only [upd_size, alloc_size, dr_heap, List.size_toArray, List.length_cons, List.length_nil, Nat.reduceAdd]) <;> omega) | (with_unfolding_all (refine Eq.trans rfl ?_; exact rfl)) | exact Nat.le_of_ble_eq_true rfl | fail) only [push_cast, *, Nat.reduceEqDiff, Nat.reduceAdd, Nat.reduceMul, Nat.reduceSub, Int.reduceToNat, Int.reduceAdd, Int.reduceSub, Int.reduceMul, Int.reduceNeg, ↓reduceIte] <;> rfl))) : XR P F K ((⟨d, op, ty, none⟩, 4) :: l) C (Ext w) e :=
  .inl ⟨trivial, v, fun u hu => by
    have := h u hu
    unfold rG at this
    unfold WV
    rw [this]
    exact ⟨rfl, rfl⟩, hk⟩
theorem xr4qA {f : FuncId} {args : Array Value} (hk : XR P F K l C (Ext w) (e.put d v)) (h : ∀ u, Ext w u → rG P op ty e u = .ok (.enter f args) u := by (intro w' hw'; (simp (disch := first | assumption | ((try simp only [upd_size, alloc_size, dr_heap, List.size_toArray, List.length_cons, List.length_nil, Nat.reduceAdd]) <;> omega) | (with_unfolding_all (refine Eq.trans rfl ?_; exact rfl)) | exact Nat.le_of_ble_eq_true rfl | fail) only [push_cast, *, Nat.reduceEqDiff, Nat.reduceAdd, Nat.reduceMul, Nat.reduceSub, Int.reduceToNat, Int.reduceAdd, Int.reduceSub, Int.reduceMul, Int.reduceNeg, ↓reduceIte] <;> rfl)))
    (hc : Quiet P f args w v := by (first | with_reducible assumption | exact Sure.quiet (by with_reducible assumption))) (hi : P.inits.idxOf? f = none := by kernel_rfl) : XR P F K ((⟨d, op, ty, none⟩, 4) :: l) C (Ext w) e :=
  .inl ⟨trivial, v, fun u hu => by
    have := h u hu
    unfold rG at this
    unfold WV
    rw [this]
    exact ⟨rfl, hi, Calls.mono (hc u hu) fun en w'' ⟨v', he, hv, hx⟩ => ⟨by rw [he, hv], hx⟩⟩, hk⟩
/-- An effect that only lays new blocks. -/
theorem xr2 (hF : ∀ k v u u', F k v u → Ext u u' → F k v u') (h : ∀ w', C w' → kN P (fun v w'' => Ext w' w'' ∧ (∀ u, Ext w'' u → D u) ∧ XR P F K l (Ext w'') D (e.put d v)) (rG P op ty e w')) : XR P F K ((⟨d, op, ty, none⟩, 2) :: l) C D e := by
  refine .inl ⟨trivial, fun w' hw => ?_⟩
  have := h w' hw
  rw [XV_rG]
  generalize rG P op ty e w' = x at *
  have mk : ∀ v w'', (Ext w' w'' ∧ (∀ u, Ext w'' u → D u) ∧ XR P F K l (Ext w'') D (e.put d v)) → ∃ C' : World → Prop, C' w'' ∧ (∀ u, C' u → D u) ∧ Cl C' ∧ (∀ k u, F k u w' → F k u w'') ∧ XR P F K l C' D (e.put d v) :=
    fun v w'' ⟨hE, hD, hx⟩ => ⟨Ext w'', Ext.refl w'', hD, Cl_ext, fun k u hf => hF k u _ _ hf hE, hx⟩
  cases x with
  | ok n w'' =>
    cases n <;> simp only [kN] at this ⊢
    case value => exact mk _ _ this
    case skip => exact mk _ _ this
    case enter => exact this.mono fun v w'' hv => mk _ _ hv
    all_goals exact this
  | halt y w' => exact this
/-- An effect behind which all that was drawn has been. -/
theorem xr3 (h : ∀ w', C w' → kN P (fun v w'' => XR P F K l (Ext w'') (Ext w'') (e.put d v)) (rG P op ty e w')) : XR P F K ((⟨d, op, ty, none⟩, 3) :: l) C D e := by
  refine .inl ⟨trivial, fun w' hw => ?_⟩
  have := h w' hw
  rw [XV_rG]
  generalize rG P op ty e w' = x at *
  have mk : ∀ v w'', XR P F K l (Ext w'') (Ext w'') (e.put d v) → ∃ C' D' : World → Prop, C' w'' ∧ (∀ u, C' u → D' u) ∧ Cl C' ∧ XR P F K l C' D' (e.put d v) :=
    fun v w'' hx => ⟨Ext w'', Ext w'', Ext.refl w'', fun _ h => h, Cl_ext, hx⟩
  cases x with
  | ok n w'' =>
    cases n <;> simp only [kN] at this ⊢
    case value => exact mk _ _ this
    case skip => exact mk _ _ this
    case enter => exact this.mono fun v w'' hv => mk _ _ hv
    all_goals exact this
  | halt y w' => exact this
/-- A call that yields some value with a property that lasts. -/
theorem xr5 {f : FuncId} {args : Array Value} (hc : ∀ u, D u → CallsR P f args u fun r u' => F n r u' ∧ Ext u u') (hk : ∀ v, (∃ w, C w ∧ F n v w) → XR P F K l (fun w => C w ∧ F n v w) D (e.put d v))
    (h : ∀ u, D u → rG P op ty e u = .ok (.enter f args) u := by (intro w' hw'; (simp (disch := first | assumption | ((try simp only [upd_size, alloc_size, dr_heap, List.size_toArray, List.length_cons, List.length_nil, Nat.reduceAdd]) <;> omega) | (with_unfolding_all (refine Eq.trans rfl ?_; exact rfl)) | exact Nat.le_of_ble_eq_true rfl | fail) only [push_cast, *, Nat.reduceEqDiff, Nat.reduceAdd, Nat.reduceMul, Nat.reduceSub, Int.reduceToNat, Int.reduceAdd, Int.reduceSub, Int.reduceMul, Int.reduceNeg, ↓reduceIte] <;> rfl))) : XR P F K ((⟨d, op, ty, none⟩, n + 5) :: l) C D e :=
  .inl ⟨trivial, fun u hu => by
    have := h u hu
    unfold rG at this
    unfold RV
    rw [this]
    exact ⟨rfl, Calls.mono (hc u hu) fun en w'' ⟨v', he, hv, hx⟩ => ⟨v', he, hx, hv⟩⟩, hk⟩
theorem xr_nil (h : ∀ w, C w → K e w) : XR P F K [] C D e := h
/-- Within such a row: readings and quiet calls. -/
theorem dr_ {A B : Prop} (q : A) (h : Box A → B := by (intro q; (repeat (first | refine xr0A ?_ | refine xr4A ?_ | refine xr4qA ?_)); exact q.out)) : B := h ⟨q⟩
end
/-! ### A loop whose measure is no function of the frame -/
theorem least_ex {p : Nat → Prop} : ∀ {n : Nat}, p n → ∃ m, p m ∧ ∀ k, p k → m ≤ k := by
  intro n
  induction n using Nat.strongRecOn with
  | _ n ih =>
    intro h
    by_cases hk : ∃ k, k < n ∧ p k
    · obtain ⟨k, hk, hp⟩ := hk
      exact ih k hk hp
    · exact ⟨n, h, fun k hp => Nat.le_of_not_lt fun hl => hk ⟨k, hl, hp⟩⟩
open Classical in
noncomputable def leastN (p : Nat → Prop) : Nat := if h : ∃ m, p m ∧ ∀ k, p k → m ≤ k then Classical.choose h else 0
theorem leastN_spec {p : Nat → Prop} {n : Nat} (h : p n) : p (leastN p) ∧ ∀ k, p k → leastN p ≤ k := by
  have hh := least_ex h
  unfold leastN
  rw [dif_pos hh]
  exact Classical.choose_spec hh
section
variable {P : Program} {Q : Exit → Env → World → Prop} {e : Env} {w : World} {c k : GCode} {D : List Nat}
theorem log_ (I : Nat → World → Env → World → Prop) (n0 : Nat) (h0 : I n0 w e w)
    (h : ∀ n e' w', (∀ i, D.contains i = false → e' i = e i) → I n w e' w' → X P c (thenX (fun e2 w2 => ∃ m, m < n ∧ I m w e2 w2) (thenX (X P k Q) Q)) e' w')
    (hD : dG c = D := by (simp only [dG, List.filterMap_cons, List.filterMap_nil, List.cons_append, List.nil_append, List.append_nil] <;> rfl)) : X P (.seq (.loop c) k) Q e w := by
  refine lo_ (fun W e w' => ∃ n, I n W e w') (fun e w' => leastN fun n => I n w e w') ⟨n0, h0⟩ (fun e' w' hf ⟨n, hn⟩ => ?_) hD
  have hl := leastN_spec (p := fun n => I n w e' w') hn
  refine X_mono c (fun ex e2 w2 hq => ?_) (h _ e' w' hf hl.1)
  cases ex with
  | normal =>
    obtain ⟨m, hm, hI⟩ := hq
    exact ⟨⟨m, hI⟩, Nat.lt_of_le_of_lt ((leastN_spec (p := fun n => I n w e2 w2) hI).2 m hI) hm⟩
  | _ => exact hq
end
end Go.Bx
