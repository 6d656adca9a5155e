/- Walks of layer 3: how many nodes functions need, here and in the reference. -/
import Derived.Test.YtghcmogbmaedfaaKeyF
import Derived.Test.YtghcmogbmaedfaaBxSl
import Derived.Test.YtghcmogbmaedfaaSizeP
import Derived.Test.YtghcmogbmaedfaaRef02
namespace Go.Proofs.Ytghcmogbmaedfaa
open Go Go.Bx
set_option linter.unusedSimpArgs false
set_option linter.unusedVariables false
set_option maxRecDepth 100000
set_option maxHeartbeats 4000000
attribute [local irreducible] X XO XE XF XD XW thenX inX retX kN CallsR
/-- A function's cells. -/
def rowF (f : Fun8) : List Value := vcs (fv f)
theorem rowF_len (f : Fun8) : (rowF f).length = 4 := rfl
theorem rowsF_len {l : List Fun8} : ∀ r ∈ l.map rowF, r.length = 4 := fun r hr => by obtain ⟨f, _, rfl⟩ := List.mem_map.1 hr; rfl
theorem rowsF_cells {l : List Fun8} : (l.map rowF).flatten.all isCell = true := by
  rw [List.all_eq_true]
  intro x hx
  obtain ⟨r, hr, hx⟩ := List.mem_flatten.1 hx
  obtain ⟨f, _, rfl⟩ := List.mem_map.1 hr
  simp only [rowF, vcs_fv', List.mem_cons, List.not_mem_nil, or_false] at hx
  rcases hx with rfl | rfl | rfl | rfl <;> rfl
theorem rowF_at {cur : Array Value} {i : Nat} {f : Fun8} (h : ∀ j u, (rowF f)[j]? = some u → cur[i + j]? = some u) : i + 4 ≤ cur.size ∧ Value.agg (cur.extract i (i + 4)) = fv f := by
  have h0 := h 0 _ rfl
  have h1 := h 1 _ rfl
  have h2 := h 2 _ rfl
  have h3 := h 3 _ rfl
  have hs := (Array.getElem?_eq_some_iff.1 h3).1
  refine ⟨by omega, ?_⟩
  rw [← fv_back]
  congr 1
  apply Array.ext_getElem?
  intro j
  rw [Array.getElem?_extract]
  match j with
  | 0 => rw [if_pos (by omega)]; simpa using h0
  | 1 => rw [if_pos (by omega)]; simpa using h1
  | 2 => rw [if_pos (by omega)]; simpa using h2
  | 3 => rw [if_pos (by omega)]; simpa using h3
  | j + 4 => rw [if_neg (by omega)]; simp
/-- An order's cells. -/
structure OrdC (ord : List Int) (cs : Array Value) : Prop where
  agg : aI ord = .agg cs
  size : cs.size = 8
  all : cs.extract 0 8 = cs
  at_ : ∀ (k : Nat) (x : Int), ord[k]? = some x → cs[k]? = some (Value.int IntKind.i64 x)
  vc : vcs (.agg cs) = ord.map (Value.int .i64)
theorem ordC {ord : List Int} (h : ord.length = 8) : ∃ cs, OrdC ord cs := by
  refine ⟨_, rfl, by simpa using h, ?_, fun k x hx => ?_, rfl⟩
  · apply Array.ext_getElem?
    intro j
    rw [Array.getElem?_extract]
    by_cases hj : j < 8
    · rw [if_pos (by simp [h]; omega)]; simp
    · rw [if_neg (by simp [h]; omega), Array.getElem?_eq_none (by simp [h]; omega)]
  · simp [hx]
theorem topTo {ord : List Int} {f : Fun8} {k : Nat} {x : Int} (hk : (ord.take k).find? (depF f) = none) (hx : ord[k]? = some x) :
    (depF f x = true → topF ord f = x) ∧ (depF f x = false → (ord.take (k + 1)).find? (depF f) = none) := by
  have ht : ord.take (k + 1) = ord.take k ++ [x] := by rw [List.take_add_one, hx]; rfl
  constructor
  · intro hd
    have : ord.find? (depF f) = some x := by
      rw [← List.take_append_drop (k + 1) ord, ht, List.find?_append, List.find?_append, hk]
      simp [hd]
    rw [topF, this]; rfl
  · intro hd
    rw [ht, List.find?_append, hk]; simp [hd]
theorem topEnd {ord : List Int} {f : Fun8} (h : ord.length = 8) (hk : (ord.take 8).find? (depF f) = none) : topF ord f = -1 := by
  rw [List.take_of_length_le (by omega)] at hk
  rw [topF, hk]; rfl
theorem top_calls (f : Fun8) (ord : List Int) (ho : ord.length = 8) (w : World) : CallsR Try.prog 48 #[fv f, aI ord] w fun r w' => r = .int .i64 (topF ord f) ∧ Ext w w' := by
  obtain ⟨oc, hc⟩ := ordC ho
  have hsz := hc.size
  have hall := hc.all
  rw [hc.agg]
  refine en2 Try.func48 Try.results48 mixed [] ?_
  intro e0 h0 h1
  refine w_ fun d => ?_
  refine lo_ (fun W e w' => ∃ k : Nat, k ≤ 8 ∧ e 8 = .int .i64 k ∧ e 7 = .agg oc ∧ Box ((ord.take k).find? (depF f) = none) ∧ Ext W w') (fun e _ => 8 - nat (e 8)) ?_ ?_
  · exact ⟨0, by omega, eA rfl, eA rfl, ⟨rfl⟩, ext_⟩
  rintro e w1 hf ⟨k, hk, h8, h7, ⟨hi⟩, hE⟩
  have hs1 := sz_ hE
  by_cases hlt : k < 8
  · obtain ⟨x, hx⟩ : ∃ x, ord[k]? = some x := ⟨ord[k], List.getElem?_eq_getElem (by omega)⟩
    have hat := hc.at_ k x hx
    have ht := topTo hi hx
    clear hx hi
    refine w_ fun d => ?_
    refine callQ (depends_calls f x _) fun w2 hE2 hs2 => ?_
    cases hd : depF f x
    · refine w_ fun d => ?_
      exact ⟨⟨k + 1, by omega, eA rfl, eA rfl, ⟨ht.2 hd⟩, ext_⟩, mA⟩
    · refine w_ fun d => ?_
      exact ⟨by rw [ht.1 hd], ext_⟩
  · obtain rfl : k = 8 := by omega
    have := topEnd ho hi
    refine w_ fun d => ?_
    exact ⟨by rw [this], ext_⟩
theorem refTop_calls (f : Fun8) (ord : List Int) (ho : ord.length = 8) (w : World) : CallsR Try.prog 49 #[fv f, aI ord] w fun r w' => r = .int .i64 (topF ord f) ∧ Ext w w' := by
  obtain ⟨oc, hc⟩ := ordC ho
  have hsz := hc.size
  have hall := hc.all
  rw [hc.agg]
  refine en2 Try.func49 Try.results49 mixed [] ?_
  intro e0 h0 h1
  refine w_ fun d => ?_
  refine lo_ (fun W e w' => ∃ k : Nat, k ≤ 8 ∧ e 5 = .int .i64 k ∧ Box ((ord.take k).find? (depF f) = none) ∧ Ext W w') (fun e _ => 8 - nat (e 5)) ?_ ?_
  · exact ⟨0, by omega, eA rfl, ⟨rfl⟩, ext_⟩
  rintro e w1 hf ⟨k, hk, h5, ⟨hi⟩, hE⟩
  have hs1 := sz_ hE
  by_cases hlt : k < 8
  · obtain ⟨x, hx⟩ : ∃ x, ord[k]? = some x := ⟨ord[k], List.getElem?_eq_getElem (by omega)⟩
    have hat := hc.at_ k x hx
    have ht := topTo hi hx
    have c1 : Sure Try.prog 34 #[fv f, .int .i64 x] (.bool (depF f x)) := refDepends_calls f x
    clear hx hi
    refine w_ fun d => ?_
    intro w2 hE2 hs2
    cases hd : depF f x
    · refine w_ fun d => ?_
      exact ⟨⟨k + 1, by omega, eA rfl, ⟨ht.2 hd⟩, ext_⟩, mA⟩
    · refine w_ fun d => ?_
      exact ⟨by rw [ht.1 hd], ext_⟩
  · obtain rfl : k = 8 := by omega
    have := topEnd ho hi
    refine w_ fun d => ?_
    exact ⟨by rw [this], ext_⟩
/-- The cells of functions. -/
def rowsF (l : List Fun8) : Array Value := (l.map rowF).flatten.toArray
theorem bsF0 {w : World} : bsR Try.prog 41 0 #[] w = .ok (.slice (some ⟨w.heap.size, 0, none⟩) 0 0) (w.alloc (.cells (rowsF []) 24)) := bs41_0
theorem bsF1 {w : World} {f : Fun8} : bsR Try.prog 41 1 #[(0, fv f)] w = .ok (.slice (some ⟨w.heap.size, 0, none⟩) 1 1) (w.alloc (.cells (rowsF [f]) 24)) := bs41_1 _ _ _ _
theorem bsF2 {w : World} {f g : Fun8} : bsR Try.prog 41 2 #[(0, fv f), (1, fv g)] w = .ok (.slice (some ⟨w.heap.size, 0, none⟩) 2 2) (w.alloc (.cells (rowsF [f, g]) 24)) := bs41_2 _ _ _ _ _ _ _ _
attribute [-push_cast] bs41_0 bs41_1 bs41_2
attribute [push_cast] bsF0 bsF1 bsF2
abbrev SlF (w : World) (a : Option Addr) (cap : Nat) (l : List Fun8) : Prop := Sl w 24 4 a cap (l.map rowF)
theorem pushF {w : World} {a : Option Addr} {cap : Nat} {l news : List Fun8} (h : SlF w a cap l) (hm : l.length + news.length ≤ 1099511627776) {k : Nat} (hk : k = news.length) :
    ∃ a' cap' w', apR Try.prog 41 (.slice a l.length cap) (.slice (some ⟨w.heap.size, 0, none⟩) k k) (w.alloc (.cells (rowsF news) 24)) = .ok (.slice a' (l ++ news).length cap') w' ∧
      SlF w' a' cap' (l ++ news) ∧ Chg (fun k => blk a = some k) w w' ∧ w.heap.size < w'.heap.size ∧ (∀ g, blk a' = some g → blk a = some g ∨ (w.heap.size ≤ g ∧ g < w'.heap.size)) := by
  subst hk
  have := Sl.push h T41 T24 rfl (by decide) (c := news.length) (us := (news.map rowF).flatten.toArray) rfl rfl rfl rowsF_len rowsF_cells (by rw [List.length_map, List.length_map]; exact hm) (by decide)
  rw [← List.map_append, List.length_map, List.length_map, List.length_map] at this
  exact this
theorem appF {w : World} {a b0 : Option Addr} {cap c : Nat} {l news : List Fun8} (h : SlF w a cap l) (hI : Inp w 4 b0 (news.map rowF)) (hm : l.length + news.length ≤ 1099511627776) :
    ∃ a' cap' w', apR Try.prog 41 (.slice a l.length cap) (.slice b0 news.length c) w = .ok (.slice a' (l ++ news).length cap') w' ∧
      SlF w' a' cap' (l ++ news) ∧ Chg (fun k => blk a = some k) w w' ∧ (∀ g, blk a' = some g → blk a = some g ∨ (w.heap.size ≤ g ∧ g < w'.heap.size)) := by
  have := Sl.append h T41 T24 rfl (by decide) (c := c) hI rowsF_len rowsF_cells (by rw [List.length_map, List.length_map]; exact hm) (by decide)
  rw [← List.map_append, List.length_map, List.length_map, List.length_map] at this
  exact this
theorem madeF {w : World} {g : Nat} {l : List Fun8} (hg : w.heap[g]? = some (.cells (rowsF l) 24 (0, 0))) (hm : l.length ≤ 1000) : SlF w (some ⟨g, 0, none⟩) l.length l := by
  have := Sl.made (E := 24) (s := 4) hg rowsF_len (by rw [List.length_map]; omega)
  rw [List.length_map] at this
  exact this
theorem atF_ {w : World} {a : Option Addr} {cap : Nat} {l : List Fun8} (h : SlF w a cap l) {i : Nat} {f : Fun8} (hf : l[i]? = some f) :
    ∃ g cur, a = some ⟨g, 0, none⟩ ∧ w.heap[g]? = some (.cells cur 24 (0, 0)) ∧ l.length ≤ cap ∧ i < l.length ∧ i * 4 + 4 ≤ cur.size ∧ Value.agg (cur.extract (i * 4) (i * 4 + 4)) = fv f := by
  obtain ⟨g, cur, h1, h2, h3, h4, h5⟩ := h.at (i := i) (x := rowF f) (by rw [List.getElem?_map, hf]; rfl)
  obtain ⟨h6, h7⟩ := rowF_at h5
  rw [List.length_map] at h3 h4
  exact ⟨g, cur, h1, h2, h3, h4, h6, h7⟩
theorem SlF.ext {w w' : World} {a : Option Addr} {cap : Nat} {l : List Fun8} (h : SlF w a cap l) (hE : Ext w w') : SlF w' a cap l := Sl.ext h hE
structure SizeI (w : World) (oc : Array Value) (ord : List Int) (l : List Fun8) (n : Nat) (e : Env) (w' : World) (a : Option Addr) (cap ck : Nat) (es : List (Ent Fun8)) (work : List Fun8) : Prop where
  h6 : e 6 = .slice a work.length cap
  sl : SlF w' a cap work
  new : ∀ g, blk a = some g → w.heap.size + 2 ≤ g
  ho : w'.heap[w.heap.size]? = some (.cells oc 42 (0, 0))
  hm : w'.heap[w.heap.size + 1]? = some (mObj fv es ck)
  inv : MInv es ck
  one : ∀ e ∈ es, e.2.1 = .int .i64 1
  dfs : Dfs ord l (es.map (·.1)) work
  wt : wts work = n
  le : n ≤ 6561000
  ext : Ext w w'
theorem mput_new {es : List (Ent Fun8)} {f : Fun8} {v : Value} {ck : Nat} (h : mget es f = none) : mput es f v ck = es ++ [(f, v, ck)] ∧ mclock es f ck = ck + 1 := by
  unfold mget at h
  unfold mput mclock
  cases hm : mfind es f with
  | none => exact ⟨rfl, rfl⟩
  | some r => rw [hm] at h; cases h
section
variable {w w' w2 : World} {oc : Array Value} {ord : List Int} {l ws : List Fun8} {n cap ck cap2 : Nat} {e e2 : Env} {a a2 : Option Addr} {es : List (Ent Fun8)} {f : Fun8}
theorem SizeI.skip (hi : SizeI w oc ord l n e w' a cap ck es (ws ++ [f])) (h : f ∈ es.map (·.1) ∨ supF f = 0) (h6 : e2 6 = .slice a ws.length cap) (hE : Ext w' w2) :
    ∃ m, m < n ∧ ∃ a cap ck es work, SizeI w oc ord l m e2 w2 a cap ck es work := by
  have hm := Dfs.meas (ord := ord) (f := f) (ws := ws)
  have hle := hi.le
  have hwt := hi.wt
  refine ⟨wts ws, by omega, a, cap, ck, es, ws, h6, ?_, hi.new, ?_, ?_, hi.inv, hi.one, hi.dfs.skip h, rfl, by omega, hi.ext.trans hE⟩
  · have := Sl.take (k := ws.length) hi.sl (by simp)
    rw [← List.map_take, List.take_left] at this
    exact Sl.ext this hE
  · rw [hE.heap _ (lt_of_heap hi.ho)]; exact hi.ho
  · rw [hE.heap _ (lt_of_heap hi.hm)]; exact hi.hm
theorem SizeI.go (hi : SizeI w oc ord l n e w' a cap ck es (ws ++ [f])) (hk : f ∉ es.map (·.1)) (hs : supF f ≠ 0) (h6 : e2 6 = .slice a2 (ws ++ kids ord f).length cap2) (sl : SlF w2 a2 cap2 (ws ++ kids ord f))
    (new : ∀ g, blk a2 = some g → w.heap.size + 2 ≤ g) (ho : w2.heap[w.heap.size]? = some (.cells oc 42 (0, 0))) (hm : w2.heap[w.heap.size + 1]? = some (mObj fv (mput es f (.int .i64 1) ck) (mclock es f ck))) (hE : Ext w w2) :
    ∃ m, m < n ∧ ∃ a cap ck es work, SizeI w oc ord l m e2 w2 a cap ck es work := by
  have hms := Dfs.meas (ord := ord) (f := f) (ws := ws)
  have hle := hi.le
  have hwt := hi.wt
  have hmg : mget es f = none := mget_none.2 fun e he h => hk (List.mem_map.2 ⟨e, he, h⟩)
  obtain ⟨hp, hc⟩ := mput_new (v := .int .i64 1) (ck := ck) hmg
  refine ⟨wts (ws ++ kids ord f), by omega, a2, cap2, _, _, _, h6, sl, new, ho, hm, hi.inv.put f _, ?_, ?_, rfl, by omega, hE⟩
  · rw [hp]
    intro e he
    rcases List.mem_append.1 he with h1 | h1
    · exact hi.one e h1
    · rw [List.mem_singleton] at h1; subst h1; rfl
  · rw [hp, List.map_append]; exact hi.dfs.go hk hs
end
theorem size_calls (l : List Fun8) (ord : List Int) (ho : ord.length = 8) (hl : l.length ≤ 1000) (a : Option Addr) (c : Nat) (w : World) (hI : Inp w 4 a (l.map rowF)) :
    CallsR Try.prog 50 #[.slice a l.length c, aI ord] w fun r w' => r = .int .i64 (sizeF ord l : Nat) ∧ Ext w w' := by
  obtain ⟨oc, hc⟩ := ordC ho
  have hsz := hc.size
  have hall := hc.all
  have htop := fun f => top_calls f ord ho
  rw [hc.agg] at htop ⊢
  refine en2 Try.func50 Try.results50 mixed [(1007, [2, 1006])] ?_
  intro e0 h0 h1
  have hE0 : Ext w (((w.alloc (.cells oc 42)).alloc (.map #[] 0)).alloc (.cells (rowsF []) 24)) := ext_
  obtain ⟨a', cap', w1, hr, hS, hC, hF⟩ := appF (c := c) (madeF (l := []) (w := ((w.alloc (.cells oc 42)).alloc (.map #[] 0)).alloc (.cells (rowsF []) 24)) (g := w.heap.size + 1 + 1) (hA rfl) (by simp)) (hI.ext hE0) (by simp; omega)
  simp only [List.length_nil, List.nil_append] at hr hS hF
  refine w_ fun d => ?_
  refine log_ (fun n W e w' => ∃ a cap ck es work, SizeI w oc ord l n e w' a cap ck es work) (wts l) ?_ ?_
  · have hne : ∀ k, k < w.heap.size + 1 + 1 → ¬ blk (some (⟨w.heap.size + 1 + 1, 0, none⟩ : Addr)) = some k := fun k hk h => by
      have := blk_g h; omega
    refine ⟨a', cap', 0, [], l, eA rfl, hS, fun g hg => ?_, ?_, ?_, MInv.nil, (fun e h => by cases h), Dfs.init, rfl, ?_, ?_⟩
    · rcases hF g hg with h | h
      · have := blk_g h; omega
      · have := h.1; simp only [alloc_size] at this; omega
    · rw [hC.heap _ (by simp only [alloc_size]; omega) (hne _ (by omega))]; exact hA rfl
    · rw [hC.heap _ (by simp only [alloc_size]; omega) (hne _ (by omega))]; exact hA rfl
    · have := wts_le (l := l); omega
    · exact hC.toExt hE0 fun k hk => hne k (by omega)
  rintro n e w' hf ⟨a1, cap1, ck, es, work, hi⟩
  obtain ⟨h6, sl, new, hbo, hm, inv, one, dfs, hwt, hle, hE⟩ := id hi
  have hs1 := sz_ hE
  have hlm := lt_of_heap hm
  rcases List.eq_nil_or_concat work with rfl | ⟨ws, f, rfl⟩
  · have hsz := dfs.done.size
    rw [List.length_map] at hsz
    simp only [List.length_nil] at h6
    refine w_ fun d => ?_
    exact ⟨rfl, ext_⟩
  rw [List.concat_eq_append] at *
  have hl1 : (ws ++ [f]).length = ws.length + 1 := by simp
  rw [hl1] at h6
  have hmx := len_wts (l := ws ++ [f])
  rw [hl1, hwt] at hmx
  obtain ⟨g, cur, rfl, hg, hcap, _, hx1, hx2⟩ := atF_ sl (i := ws.length) (f := f) (by simp)
  rw [hl1] at hcap
  have hlg := lt_of_heap hg
  have hgn := new g rfl
  have e1 : (ws.length : Int) + 1 - 1 = ws.length := by omega
  have sl' : SlF w' (some ⟨g, 0, none⟩) cap1 ws := by
    have := Sl.take (k := ws.length) sl (by simp)
    rw [← List.map_take, List.take_left] at this
    exact this
  by_cases hk : f ∈ es.map (·.1)
  · have hmg : mget es f = some (.int .i64 1) := by
      obtain ⟨⟨f', v, bb⟩, h1, rfl⟩ := List.mem_map.1 hk
      rw [mget_of_mem inv.keys h1]
      exact congrArg some (one _ h1)
    refine w_ fun d => ?_
    exact hi.skip (.inl hk) (eA rfl) ext_
  have hmg : mget es f = none := mget_none.2 fun e he h => hk (List.mem_map.2 ⟨e, he, h⟩)
  refine w_ fun d => ?_
  refine callQ (support_calls f _) fun w2 hE2 hs2 => ?_
  rcases hsu : supF f with _ | su
  · refine w_ fun d => ?_
    exact hi.skip (.inr hsu) (eA rfl) ext_
  have hE2' : Ext w' w2 := ext_
  have hm2 : w2.heap[w.heap.size + 1]? = some (mObj fv es ck) := by rw [hE2'.heap _ hlm]; exact hm
  have hbo2 : w2.heap[w.heap.size]? = some (.cells oc 42 (0, 0)) := by rw [hE2'.heap _ (lt_of_heap hbo)]; exact hbo
  have h72 : w2.heap[w'.heap.size]? = some (.cells #[vU (word f 0), vU (word f 1), vU (word f 2), vU (word f 3)] 24 (0, 0)) := by rw [hE2.heap _ (by simp only [alloc_size]; omega)]; exact alloc_new
  have hg2 : w2.heap[g]? = some (.cells cur 24 (0, 0)) := by rw [hE2'.heap _ hlg]; exact hg
  have sl2 : SlF w2 (some ⟨g, 0, none⟩) cap1 ws := Sl.ext sl' hE2'
  have hF2 : Ext w w2 := hE.trans hE2'
  clear hm hbo hg sl sl' hE2
  refine w_ fun d => ?_
  refine s_wide ?_
  have hlm2 := lt_of_heap hm2
  refine XW_ext (D := fun u => ∃ es' ck', u.heap[w.heap.size + 1]? = some (mObj fv es' ck') ∧ (mget es' f).getD (.int .i64 0) = .int .i64 0) (fun u hu => ⟨es, ck, by rw [hu.heap _ hlm2]; exact hm2, by rw [hmg]; rfl⟩) ?_
  refine xf0A ?_
  refine xf1A ?_
  refine xf3 (v := .int .i64 0) (fun u hu => by obtain ⟨es', ck', hb', hg'⟩ := hu; exact rgA) ?_
  refine xf0A ?_
  refine xf2 fun w4 hE4 => ?_
  have hs4 := sz_ hE4
  have hm4 : w4.heap[w.heap.size + 1]? = some (mObj fv es ck) := by rw [hE4.heap _ hlm2]; exact hm2
  refine krA ?_
  refine kv ?_
  refine ⟨fun u hu => ⟨_, _, by rw [hu.heap _ (by rw [upd_size]; omega), upd_same (by omega)], by rw [mget_put inv.keys, if_pos rfl]; rfl⟩, ?_⟩
  refine xf0A ?_
  refine xf4 fun w5 hE5 => ?_
  have hs5 := sz_ hE5
  refine krA ?_
  refine ks ?_
  refine xf_nil fun w6 hE6 => ?_
  have hC : Chg (fun k => k = w.heap.size + 1) w2 w6 := ((((hE4.chg (fun k => k = w.heap.size + 1)).upd (fun _ => rfl) _).transE hE5).upd (fun _ => rfl) _).transE hE6
  have hm6 : w6.heap[w.heap.size + 1]? = some (mObj fv (mput es f (.int .i64 1) ck) (mclock es f ck)) := by rw [hE6.heap _ (by rw [upd_size]; omega)]; exact upd_same (by omega)
  have hbo6 := at_chg hbo2 hC (by omega)
  have h76 := at_chg h72 hC (by omega)
  have sl6 : SlF w6 (some ⟨g, 0, none⟩) cap1 ws := Sl.chg sl2 hC fun k hk => by have := blk_g hk; omega
  have hF6 : Ext w w6 := hC.toExt hF2 fun k hk => by omega
  have hl76 := lt_of_heap h76
  have hlm6 := lt_of_heap hm6
  clear hE6 hE5 hE4 hm4 hs4 hs5 hm2 hbo2 h72 hg2 sl2 hF2 hs2 hC hE2' hlm2
  have htf := htop f
  generalize hte : topF ord f = t at htf
  refine w_ fun d => ?_
  refine callQ (htf _) fun w7 hE7 hs7 => ?_
  by_cases ht : 0 ≤ t
  · have hkd : kids ord f = [cofF f t false, cofF f t true] := by rw [kids, hte, if_pos ht]
    have c1 : Sure Try.prog 31 #[fv f, .int .i64 t, .bool false] _ := cof_calls f t false
    have c2 : Sure Try.prog 31 #[fv f, .int .i64 t, .bool true] _ := cof_calls f t true
    refine w_ fun d => ?_
    refine s_draw (XD_ext ?_)
    refine de_ ?_
    refine xe_at fun w8 hE8 => ?_
    have hE68 : Ext w6 w8 := ext_
    obtain ⟨a2, cap2, w9, hr2, sl9, hC9, hlt9, hF9⟩ := pushF (k := 2) (news := [cofF f t false, cofF f t true]) (SlF.ext sl6 hE68) (by simp; omega) rfl
    have hl8 := hE68.size
    refine dx_ ?_
    refine w_ fun d => ?_
    have hF8 : Ext w w8 := hF6.trans hE68
    refine hi.go hk (by omega) (a2 := a2) (cap2 := cap2) (by rw [hkd]; exact eA rfl) (by rw [hkd]; exact sl9) (fun k hk => ?_) ?_ ?_ (hC9.toExt hF8 fun k hk h => by have := blk_g h; omega)
    · rcases hF9 k hk with h | h
      · exact new k h
      · omega
    · rw [hC9.heap _ (by omega) (fun h => by have := blk_g h; omega), hE68.heap _ (lt_of_heap hbo6)]; exact hbo6
    · rw [hC9.heap _ (by omega) (fun h => by have := blk_g h; omega), hE68.heap _ hlm6]; exact hm6
  · have hkd : kids ord f = [] := by rw [kids, hte, if_neg ht]
    refine w_ fun d => ?_
    refine hi.go hk (by omega) (a2 := some ⟨g, 0, none⟩) (cap2 := cap1) (by rw [hkd, List.append_nil]; exact eA rfl) (by rw [hkd, List.append_nil]; exact SlF.ext sl6 hE7) new ?_ ?_ (hF6.trans hE7)
    · rw [hE7.heap _ (lt_of_heap hbo6)]; exact hbo6
    · rw [hE7.heap _ hlm6]; exact hm6
/-! ### The reference -/
structure NodesI (w : World) (oc : Array Value) (ord : List Int) (l : List Fun8) (n : Nat) (e : Env) (w' : World) (a ao : Option Addr) (cap capo ck i : Nat) (es : List (Ent Fun8)) (work out : List Fun8) : Prop where
  h5 : e 5 = .slice ao out.length capo
  h7 : e 7 = .slice a work.length cap
  h8 : e 8 = .int .i64 i
  sl : SlF w' a cap work
  slo : SlF w' ao capo out
  new : ∀ g, blk a = some g → w.heap.size + 2 ≤ g
  newo : ∀ g, blk ao = some g → w.heap.size + 2 ≤ g
  dis : ∀ g, blk a = some g → ¬ blk ao = some g
  ho : w'.heap[w.heap.size]? = some (.cells oc 42 (0, 0))
  hm : w'.heap[w.heap.size + 1]? = some (mObj fv es ck)
  inv : MInv es ck
  one : ∀ e ∈ es, e.2.1 = .int .i64 1
  bfs : Bfs ord l (es.map (·.1)) out work i
  wt : wts (work.drop i) = n
  le : i + n ≤ 6561000
  ext : Ext w w'
theorem wts_drop {work : List Fun8} {i : Nat} {f : Fun8} (h : work[i]? = some f) : wts (work.drop i) = wt f + wts (work.drop (i + 1)) := by
  have hi := (List.getElem?_eq_some_iff.1 h)
  rw [List.drop_eq_getElem_cons hi.1, wts_cons, hi.2]
section
variable {w w' w2 : World} {oc : Array Value} {ord : List Int} {l out work : List Fun8} {n cap capo cap2 capo2 ck i : Nat} {e e2 : Env} {a ao a2 ao2 : Option Addr} {es : List (Ent Fun8)} {f : Fun8}
theorem NodesI.skip (hi : NodesI w oc ord l n e w' a ao cap capo ck i es work out) (hf : work[i]? = some f) (h : f ∈ es.map (·.1)) (h5 : e2 5 = .slice ao out.length capo) (h7 : e2 7 = .slice a work.length cap) (h8 : e2 8 = .int .i64 ((i + 1 : Nat) : Int)) (hE : Ext w' w2) :
    ∃ m, m < n ∧ ∃ a ao cap capo ck i es work out, NodesI w oc ord l m e2 w2 a ao cap capo ck i es work out := by
  have hd := wts_drop hf
  have hp := wt_pos (f := f)
  have hle := hi.le
  have hwt := hi.wt
  refine ⟨_, by omega, a, ao, cap, capo, ck, i + 1, es, work, out, h5, h7, h8, Sl.ext hi.sl hE, Sl.ext hi.slo hE, hi.new, hi.newo, hi.dis, ?_, ?_, hi.inv, hi.one, hi.bfs.skip hf h, rfl, by omega, hi.ext.trans hE⟩
  · rw [hE.heap _ (lt_of_heap hi.ho)]; exact hi.ho
  · rw [hE.heap _ (lt_of_heap hi.hm)]; exact hi.hm
theorem mput_one {f : Fun8} (hk : f ∉ es.map (·.1)) (h1 : ∀ e ∈ es, e.2.1 = .int .i64 1) : (∀ e ∈ mput es f (.int .i64 1) ck, e.2.1 = .int .i64 1) ∧ ∀ g, g ∈ (mput es f (.int .i64 1) ck).map (·.1) ↔ g ∈ es.map (·.1) ∨ g = f := by
  have hmg : mget es f = none := mget_none.2 fun e he h => hk (List.mem_map.2 ⟨e, he, h⟩)
  obtain ⟨hp, hc⟩ := mput_new (v := .int .i64 1) (ck := ck) hmg
  rw [hp]
  refine ⟨fun e he => ?_, fun g => by simp⟩
  rcases List.mem_append.1 he with h2 | h2
  · exact h1 e h2
  · rw [List.mem_singleton] at h2; subst h2; rfl
theorem NodesI.flat (hi : NodesI w oc ord l n e w' a ao cap capo ck i es work out) (hf : work[i]? = some f) (hk : f ∉ es.map (·.1)) (hs : supF f = 0) (h5 : e2 5 = .slice ao out.length capo) (h7 : e2 7 = .slice a work.length cap) (h8 : e2 8 = .int .i64 ((i + 1 : Nat) : Int))
    (hC : Chg (fun k => k = w.heap.size + 1) w' w2) (hm : w2.heap[w.heap.size + 1]? = some (mObj fv (mput es f (.int .i64 1) ck) (mclock es f ck))) :
    ∃ m, m < n ∧ ∃ a ao cap capo ck i es work out, NodesI w oc ord l m e2 w2 a ao cap capo ck i es work out := by
  have hd := wts_drop hf
  have hp := wt_pos (f := f)
  have hle := hi.le
  have hwt := hi.wt
  obtain ⟨h1, h2⟩ := mput_one (ck := ck) hk hi.one
  exact ⟨_, by omega, a, ao, cap, capo, _, i + 1, _, work, out, h5, h7, h8, Sl.chg hi.sl hC (fun k hk => by have := hi.new k hk; omega), Sl.chg hi.slo hC (fun k hk => by have := hi.newo k hk; omega), hi.new, hi.newo, hi.dis, at_chg hi.ho hC (by omega), hm, hi.inv.put f _, h1, hi.bfs.flat hf hs h2, rfl, by omega, hC.toExt hi.ext fun k hk => by omega⟩
theorem NodesI.go (hi : NodesI w oc ord l n e w' a ao cap capo ck i es work out) (hf : work[i]? = some f) (hk : f ∉ es.map (·.1)) (hs : supF f ≠ 0) (h5 : e2 5 = .slice ao2 (out ++ [f]).length capo2) (h7 : e2 7 = .slice a2 (work ++ kids ord f).length cap2) (h8 : e2 8 = .int .i64 ((i + 1 : Nat) : Int))
    (sl : SlF w2 a2 cap2 (work ++ kids ord f)) (slo : SlF w2 ao2 capo2 (out ++ [f])) (new : ∀ g, blk a2 = some g → w.heap.size + 2 ≤ g) (newo : ∀ g, blk ao2 = some g → w.heap.size + 2 ≤ g) (dis : ∀ g, blk a2 = some g → ¬ blk ao2 = some g)
    (ho : w2.heap[w.heap.size]? = some (.cells oc 42 (0, 0))) (hm : w2.heap[w.heap.size + 1]? = some (mObj fv (mput es f (.int .i64 1) ck) (mclock es f ck))) (hE : Ext w w2) :
    ∃ m, m < n ∧ ∃ a ao cap capo ck i es work out, NodesI w oc ord l m e2 w2 a ao cap capo ck i es work out := by
  have hd := wts_drop hf
  have hk' := wts_kids (ord := ord) (f := f)
  have hle := hi.le
  have hwt := hi.wt
  have hil := (List.getElem?_eq_some_iff.1 hf).1
  have hdd : wts ((work ++ kids ord f).drop (i + 1)) = wts (work.drop (i + 1)) + wts (kids ord f) := by rw [List.drop_append_of_le_length (by omega), wts_app]
  obtain ⟨h1, h2⟩ := mput_one (ck := ck) hk hi.one
  exact ⟨_, by omega, a2, ao2, cap2, capo2, _, i + 1, _, _, _, h5, h7, h8, sl, slo, new, newo, dis, ho, hm, hi.inv.put f _, h1, hi.bfs.go hf hk hs h2, rfl, by omega, hE⟩
end
theorem nodes_calls (l : List Fun8) (ord : List Int) (ho : ord.length = 8) (hl : l.length ≤ 1000) (a : Option Addr) (c : Nat) (w : World) (hI : Inp w 4 a (l.map rowF)) :
    CallsR Try.prog 69 #[.slice a l.length c, aI ord] w fun r w' => (∃ ao capo out, r = .slice ao out.length capo ∧ IsNodes ord l out) ∧ Ext w w' := by
  obtain ⟨oc, hc⟩ := ordC ho
  have hsz := hc.size
  have hall := hc.all
  have htop := fun f => refTop_calls f ord ho
  rw [hc.agg] at htop ⊢
  refine en2 Try.func69 Try.results69 mixed [] ?_
  intro e0 h0 h1
  have hE0 : Ext w (((w.alloc (.cells oc 42)).alloc (.map #[] 0)).alloc (.cells (rowsF []) 24)) := ext_
  obtain ⟨a', cap', w1, hr, hS, hC, hF⟩ := appF (c := c) (madeF (l := []) (w := ((w.alloc (.cells oc 42)).alloc (.map #[] 0)).alloc (.cells (rowsF []) 24)) (g := w.heap.size + 1 + 1) (hA rfl) (by simp)) (hI.ext hE0) (by simp; omega)
  simp only [List.length_nil, List.nil_append] at hr hS hF
  refine w_ fun d => ?_
  refine log_ (fun n W e w' => ∃ a ao cap capo ck i es work out, NodesI w oc ord l n e w' a ao cap capo ck i es work out) (wts l) ?_ ?_
  · have hne : ∀ k, k < w.heap.size + 1 + 1 → ¬ blk (some (⟨w.heap.size + 1 + 1, 0, none⟩ : Addr)) = some k := fun k hk h => by
      have := blk_g h; omega
    refine ⟨a', none, cap', 0, 0, 0, [], l, [], eA rfl, eA rfl, eA rfl, hS, Sl.nil _ _ _, fun g hg => ?_, (fun g h => by cases h), (fun g _ h => by cases h), ?_, ?_, MInv.nil, (fun e h => by cases h), Bfs.init, rfl, ?_, ?_⟩
    · rcases hF g hg with h | h
      · have := blk_g h; omega
      · have := h.1; simp only [alloc_size] at this; omega
    · rw [hC.heap _ (by simp only [alloc_size]; omega) (hne _ (by omega))]; exact hA rfl
    · rw [hC.heap _ (by simp only [alloc_size]; omega) (hne _ (by omega))]; exact hA rfl
    · have := wts_le (l := l); omega
    · exact hC.toExt hE0 fun k hk => hne k (by omega)
  rintro n e w' hf ⟨a1, ao, cap1, capo, ck, i, es, work, out, hi⟩
  obtain ⟨h5, h7, h8, sl, slo, new, newo, dis, hbo, hm, inv, one, bfs, hwt, hle, hE⟩ := id hi
  have hs1 := sz_ hE
  have hlm := lt_of_heap hm
  have hil := bfs.le
  have hwl := len_wts (l := work.drop i)
  rw [List.length_drop, hwt] at hwl
  by_cases hlt : i < work.length
  case neg =>
    refine w_ fun d => ?_
    exact ⟨⟨_, _, _, rfl, bfs.done hlt⟩, ext_⟩
  obtain ⟨f, hwf⟩ : ∃ f, work[i]? = some f := ⟨work[i], List.getElem?_eq_getElem hlt⟩
  obtain ⟨g, cur, rfl, hg, hcap, _, hx1, hx2⟩ := atF_ sl hwf
  have hlg := lt_of_heap hg
  have hgn := new g rfl
  by_cases hk : f ∈ es.map (·.1)
  · have hmg : mget es f = some (.int .i64 1) := by
      obtain ⟨⟨f', v, bb⟩, h1, rfl⟩ := List.mem_map.1 hk
      rw [mget_of_mem inv.keys h1]
      exact congrArg some (one _ h1)
    refine w_ fun d => ?_
    exact hi.skip hwf hk (eA rfl) (eA rfl) (eA (by push_cast; rfl)) ext_
  have hmg : mget es f = none := mget_none.2 fun e he h => hk (List.mem_map.2 ⟨e, he, h⟩)
  refine w_ fun d => ?_
  refine callQ (refSupport_calls f _) fun w2 hE2 hs2 => ?_
  have hC2 : Chg (fun k => k = w.heap.size + 1) w' w2 := Chg.transE chg_ hE2
  have hm2 : w2.heap[w.heap.size + 1]? = some (mObj fv (mput es f (.int .i64 1) ck) (mclock es f ck)) := hA rfl
  have h92 : w2.heap[w'.heap.size]? = some (.cells #[vU (word f 0), vU (word f 1), vU (word f 2), vU (word f 3)] 24 (0, 0)) := hA rfl
  rcases hsu : supF f with _ | su
  · refine w_ fun d => ?_
    exact hi.flat hwf hk hsu (eA rfl) (eA rfl) (eA (by push_cast; rfl)) hC2 hm2
  have hbo2 := at_chg hbo hC2 (by omega)
  have sl2 : SlF w2 (some ⟨g, 0, none⟩) cap1 work := Sl.chg sl hC2 fun k hk => by have := blk_g hk; omega
  have slo2 : SlF w2 ao capo out := Sl.chg slo hC2 fun k hk => by have := newo k hk; omega
  have hF2 : Ext w w2 := hC2.toExt hE fun k hk => by omega
  have hl92 := lt_of_heap h92
  have hlg2 := sl2.lt rfl
  have hol : out.length ≤ i := by
    have := sub_len bfs.nodup fun x hx => ((bfs.ot x).1 hx).1
    rw [List.length_take] at this; omega
  have hlo : ∀ k, blk ao = some k → k < w'.heap.size := fun k hk => slo.lt hk
  obtain ⟨ao2, capo2, w3, hro, slo3, hC3, hlt3, hF3⟩ := pushF (k := 1) (news := [f]) slo2 (by simp; omega) rfl
  clear hE2 hbo hm hg sl slo hs2
  have hne3 : ∀ k, k < w.heap.size + 2 → ¬ blk ao = some k := fun k hk h => by have := newo k h; omega
  have hm3 := at_chg hm2 hC3 (hne3 _ (by omega))
  have hbo3 := at_chg hbo2 hC3 (hne3 _ (by omega))
  have h93 := at_chg h92 hC3 fun h => by have := hlo _ h; omega
  have sl3 : SlF w3 (some ⟨g, 0, none⟩) cap1 work := Sl.chg sl2 hC3 fun k hk => dis k hk
  have hF : Ext w w3 := hC3.toExt hF2 fun k hk h => by have := newo k h; omega
  have hd3 : ∀ k, blk ao2 = some k → w.heap.size + 2 ≤ k ∧ k ≠ g ∧ k < w3.heap.size := fun k hk => by
    have := slo3.lt hk
    rcases hF3 k hk with h | h
    · have := newo k h
      exact ⟨by omega, fun e => dis g rfl (by rw [← e]; exact h), by omega⟩
    · exact ⟨by omega, by omega, by omega⟩
  have hl93 := lt_of_heap h93
  have htf := htop f
  generalize hte : topF ord f = t at htf
  refine w_ fun d => ?_
  clear hm2 hbo2 h92 sl2 slo2 hF2 hC2
  refine callQ (htf _) fun w7 hE7 hs7 => ?_
  by_cases ht : 0 ≤ t
  · have hkd : kids ord f = [cofF f t false, cofF f t true] := by rw [kids, hte, if_pos ht]
    have c1 : Sure Try.prog 32 #[fv f, .int .i64 t, .bool false] _ := refCof_calls f t false
    have c2 : Sure Try.prog 32 #[fv f, .int .i64 t, .bool true] _ := refCof_calls f t true
    refine w_ fun d => ?_
    refine s_draw (XD_ext ?_)
    refine de_ ?_
    refine xe_at fun w8 hE8 => ?_
    have hE68 : Ext w3 w8 := ext_
    obtain ⟨a2, cap2, w9, hr2, sl9, hC9, hlt9, hF9⟩ := pushF (k := 2) (news := [cofF f t false, cofF f t true]) (SlF.ext sl3 hE68) (by simp; omega) rfl
    have hl8 := hE68.size
    refine dx_ ?_
    refine w_ fun d => ?_
    have hF8 : Ext w w8 := hF.trans hE68
    refine hi.go hwf hk (by omega) (a2 := a2) (cap2 := cap2) (ao2 := ao2) (capo2 := capo2) (eA rfl) (by rw [hkd]; exact eA rfl) (eA (by push_cast; rfl)) (by rw [hkd]; exact sl9) (Sl.chg (SlF.ext slo3 hE68) hC9 fun k hk h => (hd3 k hk).2.1 (blk_g h).symm) (fun k hk => ?_) (fun k hk => (hd3 k hk).1) (fun k hk h => ?_) ?_ ?_ (hC9.toExt hF8 fun k hk h => by have := blk_g h; omega)
    · rcases hF9 k hk with h | h
      · exact new k h
      · omega
    · have h3 := hd3 k h
      rcases hF9 k hk with h | h4
      · exact h3.2.1 (blk_g h).symm
      · omega
    · rw [hC9.heap _ (by omega) (fun h => by have := blk_g h; omega), hE68.heap _ (lt_of_heap hbo3)]; exact hbo3
    · rw [hC9.heap _ (by omega) (fun h => by have := blk_g h; omega), hE68.heap _ (lt_of_heap hm3)]; exact hm3
  · have hkd : kids ord f = [] := by rw [kids, hte, if_neg ht]
    refine w_ fun d => ?_
    refine hi.go hwf hk (by omega) (a2 := some ⟨g, 0, none⟩) (cap2 := cap1) (ao2 := ao2) (capo2 := capo2) (eA rfl) (by rw [hkd, List.append_nil]; exact eA rfl) (eA (by push_cast; rfl)) (by rw [hkd, List.append_nil]; exact SlF.ext sl3 hE7) (SlF.ext slo3 hE7) new (fun k hk => (hd3 k hk).1) (fun k hk h => (hd3 k h).2.1 (blk_g hk).symm) ?_ ?_ (hF.trans hE7)
    · rw [hE7.heap _ (lt_of_heap hbo3)]; exact hbo3
    · rw [hE7.heap _ (lt_of_heap hm3)]; exact hm3
theorem refSize_calls (l : List Fun8) (ord : List Int) (ho : ord.length = 8) (hl : l.length ≤ 1000) (a : Option Addr) (c : Nat) (w : World) (hI : Inp w 4 a (l.map rowF)) :
    CallsR Try.prog 51 #[.slice a l.length c, aI ord] w fun r w' => r = .int .i64 (sizeF ord l : Nat) ∧ Ext w w' := by
  obtain ⟨oc, hc⟩ := ordC ho
  have hsz := hc.size
  have hall := hc.all
  have hn := nodes_calls l ord ho hl a c
  rw [hc.agg] at hn ⊢
  refine en2 Try.func51 Try.results51 mixed [] ?_
  intro e0 h0 h1
  refine w_ fun d => ?_
  refine (hn _ (hI.ext ext_)).mono ?_
  rintro _ w2 ⟨⟨ao, capo, out, rfl, hN⟩, hE⟩
  have := hN.size
  have hs2 := sz_ hE
  refine w_ fun d => ?_
  exact ⟨rfl, ext_⟩
end Go.Proofs.Ytghcmogbmaedfaa
