/- Walks of layer 18: the request of bytes. -/
import Derived.Test.YtghcmogbmaedfaaWire4
namespace Go.Proofs.Ytghcmogbmaedfaa
open Go Go.Bx
set_option linter.unusedSimpArgs false
set_option linter.unusedVariables false
set_option maxRecDepth 100000
set_option maxHeartbeats 4000000
attribute [local irreducible] X XO XE XF XD XW thenX inX retX kN CallsR
section
variable {P : Program} {R : Value → World → Prop} {e : Env} {w : World} {t u : Nat} {v v2 : Value} {ex : Exit}
theorem resM_cu {a t u b o : Nat} (h : e a = .pointer (some ⟨b, o, none⟩)) (h2 : ldR P t (.pointer (some ⟨b, o, none⟩)) w = .ok v w) : (resM #[.cell a t, .tmp u] e).run P w = .ok (.tuple #[v, e u]) w := by
  have e1 : (resM #[.cell a t] e).run P w = .ok v w := by rw [resM_cell (b := b) (o := o) h]; exact h2
  simp [resM, h, asAddr] at e1 ⊢
  rw [e1]; rfl
theorem rcuA {bk t' : Nat} (h : R (.tuple #[v, v2]) w) (hx : isEnd ex = true := by rfl) (h1 : e t = .pointer (some ⟨bk, 0, none⟩) := by (first | (simp (disch := first | assumption | ((try simp only [upd_size, alloc_size, dr_heap, List.size_toArray, List.length_cons, List.length_nil, Nat.reduceAdd]) <;> omega) | (with_unfolding_all (refine Eq.trans rfl ?_; exact rfl)) | fail) only [push_cast, *, Nat.reduceEqDiff, ↓reduceIte] <;> rfl) | rfl))
    (h2 : ldR P t' (.pointer (some ⟨bk, 0, none⟩)) w = .ok v w := by (simp (disch := first | assumption | ((try simp only [upd_size, alloc_size, dr_heap, List.size_toArray, List.length_cons, List.length_nil, Nat.reduceAdd]) <;> omega) | (with_unfolding_all (refine Eq.trans rfl ?_; exact rfl)) | exact Nat.le_of_ble_eq_true rfl | fail) only [push_cast, *, Nat.reduceEqDiff, Nat.reduceAdd, Nat.reduceMul, ↓reduceIte] <;> rfl))
    (h3 : e u = v2 := by (first | (simp (disch := first | assumption | ((try simp only [upd_size, alloc_size, dr_heap, List.size_toArray, List.length_cons, List.length_nil, Nat.reduceAdd]) <;> omega) | (with_unfolding_all (refine Eq.trans rfl ?_; exact rfl)) | fail) only [push_cast, *, Nat.reduceEqDiff, ↓reduceIte] <;> rfl) | rfl)) : retX P #[.cell t t', .tmp u] R ex e w := ret_of hx (h3 ▸ resM_cu (b := bk) (o := 0) h1 h2) h
end
theorem inp_cut {w : World} {a : Option Addr} {l : List Nat} {i cap : Nat} (h : Inp w 1 a (l.map byteRow)) (hc : l.length ≤ cap) : Inp w 1 (cutAddr a 1 i cap) ((l.drop i).map byteRow) := by
  by_cases hi : l.length ≤ i
  · rw [List.drop_of_length_le hi]; exact .inl rfl
  · rcases h with h | ⟨b, o, c, E, fz, rfl, h2, h3⟩
    · rw [List.map_eq_nil_iff.1 h]; exact .inl (by simp)
    · refine .inr ⟨b, o + i, c, E, fz, ?_, h2, fun j x hx k u hk => ?_⟩
      · unfold cutAddr
        rw [if_neg (by omega), Option.map_some, add_none, Nat.mul_one]
      · rw [List.getElem?_map, List.getElem?_drop, ← List.getElem?_map] at hx
        have := h3 (i + j) x hx k u hk
        rw [← this]; congr 1; omega
theorem inp_take {w : World} {a : Option Addr} {l : List Nat} (i : Nat) (h : Inp w 1 a (l.map byteRow)) : Inp w 1 a ((l.take i).map byteRow) := by
  rcases h with h | ⟨b, o, c, E, fz, rfl, h2, h3⟩
  · rw [List.map_eq_nil_iff.1 h]; exact .inl (by simp)
  · refine .inr ⟨b, o, c, E, fz, rfl, h2, fun j x hx k u hk => h3 j x ?_ k u hk⟩
    rw [List.map_take, List.getElem?_take] at hx
    split at hx
    · exact hx
    · cases hx
theorem inp_all {w : World} {a : Option Addr} {l : List Nat} (h : Inp w 1 a (l.map byteRow)) (hne : l ≠ []) : ∃ b o c E fz, a = some ⟨b, o, none⟩ ∧ w.heap[b]? = some (.cells c E fz) ∧ ∀ (i x : Nat), l[i]? = some x → c[o + i]? = some (Value.int .u8 x) := by
  rcases h with h | ⟨b, o, c, E, fz, rfl, h2, h3⟩
  · exact absurd (List.map_eq_nil_iff.1 h) hne
  · refine ⟨b, o, c, E, fz, rfl, h2, fun i x hx => ?_⟩
    have := h3 i (byteRow x) (by rw [List.getElem?_map, hx]; rfl) 0 _ rfl
    rw [← this]; congr 1; omega
def rq0 : RQ := ⟨0, 0, 0, 0, 0, 0, 0⟩
theorem pl_le (op : Int) : (pl op).length ≤ 3 ∧ ∀ p ∈ pl op, p ≤ 5 := by
  by_cases h : 1 ≤ op ∧ op ≤ 21
  · obtain ⟨k, hk, hk2, _⟩ := pl_in h
    have := parts_nodup_all k hk2
    rw [hk]; exact this.2
  · rw [(pl_out h).1]; simp
theorem get_calls (bs : List Nat) (hb : ∀ x ∈ bs, x < 256) (hl : bs.length ≤ 1000) (a : Option Addr) (cap : Nat) (hcap : bs.length ≤ cap) (w : World) (hI : Inp w 1 a (bs.map byteRow)) :
    CallsR Try.prog 61 #[.slice a bs.length cap] w fun v w' => ((∃ r, getF bs = some r ∧ v = .tuple #[rqV r, .nilIface]) ∨ (getF bs = none ∧ v = .tuple #[rqV rq0, .iface 81 (.int .i64 7)])) ∧ Ext w w' := by
  by_cases h2 : bs.length < 2
  · have hn : getF bs = none := by
      match bs, h2 with
      | [], _ => rfl
      | [_], _ => rfl
    refine en1 Try.func61 Try.results61 mixed [(1003, [2, 6])] ?_
    intro e0 h0
    refine w_ fun d => ?_
    refine rcuA ?_
    exact ⟨.inr ⟨hn, rfl⟩, ext_⟩
  obtain ⟨x0, x1, rest, rfl⟩ : ∃ x0 x1 rest, bs = x0 :: x1 :: rest := by
    match bs, h2 with
    | [], h => simp at h
    | [_], h => simp at h
    | x0 :: x1 :: rest, _ => exact ⟨x0, x1, rest, rfl⟩
  obtain ⟨b, o, c, E, fz, rfl, hbk, hc⟩ := inp_all hI (by simp)
  have c0 := hc 0 x0 rfl
  have c1 := hc 1 x1 rfl
  rw [Nat.add_zero] at c0
  have hx0 := hb x0 (by simp)
  have hx1 := hb x1 (by simp)
  have hlb := lt_of_heap hbk
  have hlen : (x0 :: x1 :: rest).length = rest.length + 1 + 1 := rfl
  rw [hlen] at hl hcap ⊢
  have hrest : ∀ x ∈ rest, x < 256 := fun x hx => hb x (by simp [hx])
  have en : rest.length + 1 + 1 - 2 = rest.length := by omega
  have hIr : Inp w 1 (cutAddr (some ⟨b, o, none⟩) 1 2 cap) (rest.map byteRow) := inp_cut (i := 2) hI hcap
  clear h2 hb hI hc
  refine en1 Try.func61 Try.results61 mixed [(1003, [2, 6])] ?_
  intro e0 h0
  refine w_ fun d => ?_
  refine s_wide (xw_ ?_)
  refine dw_ ?_
  refine xf2A fun u2 hE2 hw2 => ?_
  have hs2 := sz_ hE2
  refine krA ?_
  refine kv ?_
  refine ⟨ext_, ?_⟩
  refine dw_ ?_
  refine xf2A fun u3 hE3 hw3 => ?_
  have hs3 := sz_ hw3
  refine krA ?_
  refine ks ?_
  refine ⟨ext_, ?_⟩
  refine dw_ ?_
  refine xf_nil fun w4 hE4 => ?_
  have hs4 := sz_ hE4
  have hB4 : w4.heap[u2.heap.size]? = some (.cells (rqA ⟨x0, x1, 0, 0, 0, 0, 0⟩) 50 (0, 0)) := hA rfl
  have hZ4 : w4.heap[w.heap.size]? = some (.cells (rqA rq0) 50 (0, 0)) := hA rfl
  have hE0 : Ext w w4 := ext_
  have hB : w.heap.size < u2.heap.size := by omega
  generalize u2.heap.size = B at *
  clear hE2 hw2 hE3 hw3 hs3 hs2
  refine w_ fun d => ?_
  refine (parts_calls x0 _).mono ?_
  rintro _ w5 ⟨⟨ap, cp, rfl, sp, np⟩, hE5⟩
  have hs5 := sz_ hE5
  have hlB4 := lt_of_heap hB4
  have hps := pl_le x0
  have hgo : ∀ r rest', getL (pl x0) rest ⟨x0, x1, 0, 0, 0, 0, 0⟩ = some (r, rest') → getF (x0 :: x1 :: rest) = if rest' = [] then (if mayF r then some r else none) else none := fun r rest' h => by
    unfold getF
    simp only [h]
    cases rest' <;> simp
  have hgn : getL (pl x0) rest ⟨x0, x1, 0, 0, 0, 0, 0⟩ = none → getF (x0 :: x1 :: rest) = none := fun h => by
    unfold getF
    simp only [h]
  generalize getF (x0 :: x1 :: rest) = G at *
  have hok0 : (RQ.ok ⟨x0, x1, 0, 0, 0, 0, 0⟩) := base_ok (by omega) (by omega)
  refine w_ fun d => ?_
  refine lo_ (fun W e w' => ∃ (k : Nat) (l : List Nat) (s : RQ) (a1 : Option Addr) (cap1 : Nat), k ≤ (pl x0).length ∧ e 33 = .int .i64 k ∧ e 0 = .slice a1 l.length cap1 ∧ Inp w 1 a1 (l.map byteRow) ∧ l.length ≤ cap1 ∧ (∀ x ∈ l, x < 256) ∧ l.length ≤ 1000 ∧ s.ok ∧
    Box (getL ((pl x0).drop k) l s = getL (pl x0) rest ⟨x0, x1, 0, 0, 0, 0, 0⟩) ∧ w'.heap[B]? = some (.cells (rqA s) 50 (0, 0)) ∧ w'.heap[w.heap.size]? = some (.cells (rqA rq0) 50 (0, 0)) ∧ SlI w' ap cp (pl x0) ∧ w4.heap.size ≤ w'.heap.size ∧ Ext w w') (fun e _ => (pl x0).length - nat (e 33)) ?_ ?_
  · exact ⟨0, rest, ⟨x0, x1, 0, 0, 0, 0, 0⟩, cutAddr (some ⟨b, o, none⟩) 1 2 cap, cap - 2, by omega, eA rfl, eA rfl, hIr, by omega, hrest, by omega, hok0, ⟨rfl⟩, hA rfl, hA rfl, sp, by omega, ext_⟩
  clear sp hIr hrest
  rintro e w6 hf ⟨k, l, s, a1, cap1, hk, h33, h0', hI, hlc, hlb8, hl1, hok, hgb, hb6, hz6, sp, hsz6, hE6⟩
  have hs6 := sz_ hE6
  by_cases hlt : k < (pl x0).length
  case neg =>
    obtain rfl : k = (pl x0).length := by omega
    have hg := hgb.out
    rw [List.drop_length, getL] at hg
    have hG := hgo s l hg.symm
    clear hg hgb
    cases l with
    | cons y ys =>
      have hn : G = none := by rw [hG]; simp
      clear hG
      refine w_ fun d => ?_
      refine rcuA ?_
      exact ⟨.inr ⟨hn, rfl⟩, ext_⟩
    | nil =>
      rw [if_pos rfl] at hG
      have cm := may_calls s hok
      cases hms : mayF s
      · rw [hms] at hG cm
        have hn : G = none := by rw [hG]; rfl
        clear hG
        refine w_ fun d => ?_
        refine callQ (cm _) fun w7 hE7 hs7 => ?_
        refine w_ fun d => ?_
        refine rcuA ?_
        exact ⟨.inr ⟨hn, rfl⟩, ext_⟩
      · rw [hms] at hG cm
        have hn : G = some s := by rw [hG]; rfl
        clear hG
        refine w_ fun d => ?_
        refine callQ (cm _) fun w7 hE7 hs7 => ?_
        refine w_ fun d => ?_
        refine rcuA ?_
        exact ⟨.inl ⟨s, hn, rfl⟩, ext_⟩
  obtain ⟨p, hp⟩ : ∃ p, (pl x0)[k]? = some p := ⟨(pl x0)[k], List.getElem?_eq_getElem hlt⟩
  have hp5 := hps.2 p (List.mem_of_getElem? hp)
  obtain ⟨b', c', rfl, hb', hc'⟩ := inpI sp hp
  have hlb' := lt_of_heap hb'
  have hk3 := hps.1
  have hw8 := wide_le p
  have hgs : getL ((pl x0).drop k) l s = if l.length < wideV p then none else getL ((pl x0).drop (k + 1)) (l.drop (wideV p)) (setV s p (numB (l.take (wideV p)))) := by
    rw [List.drop_eq_getElem_cons hlt, (List.getElem?_eq_some_iff.1 hp).2, getL]
  rw [hgb.out] at hgs
  have cw := fun w => wide_calls p hp5 w
  generalize hwd : wideV p = wd at *
  by_cases hsh : l.length < wd
  · rw [if_pos hsh] at hgs
    have hn := hgn hgs
    clear hgs hgb hp hwd
    refine w_ fun d => ?_
    refine callQ (cw _) fun w7 hE7 hs7 => ?_
    refine w_ fun d => ?_
    refine rcuA ?_
    exact ⟨.inr ⟨hn, rfl⟩, ext_⟩
  rw [if_neg hsh] at hgs
  have hnt := num_take_lt (p := p) hlb8
  rw [hwd] at hnt
  have htl : (l.take wd).length = wd := by rw [List.length_take]; omega
  have cv := fun (w' : World) (hE : Ext w w') => value_calls (l.take wd) (by rw [htl]; exact hw8) (fun x hx => hlb8 x (List.mem_of_mem_take hx)) a1 cap1 w' (inp_take wd (hI.ext hE))
  rw [htl] at cv
  have hnok := set_ok (p := p) hok hnt
  generalize hnv : numB (l.take wd) = v at *
  clear hwd hp
  refine w_ fun d => ?_
  refine callQ (cw _) fun w7 hE7 hs7 => ?_
  refine w_ fun d => ?_
  refine callQ (cw _) fun w8 hE8 hs8 => ?_
  refine w_ fun d => ?_
  refine callQ (cv _ ext_) fun w9 hE9 hs9 => ?_
  refine w_ fun d => ?_
  have hE69 : Ext w6 w9 := ext_
  have hb9 : w9.heap[B]? = some (.cells (rqV s).cells 50 (0, 0)) := by rw [hE69.heap _ (lt_of_heap hb6)]; exact hb6
  have hz9 : w9.heap[w.heap.size]? = some (.cells (rqA rq0) 50 (0, 0)) := by rw [hE69.heap _ (lt_of_heap hz6)]; exact hz6
  have sp9 := Sl.ext sp hE69
  have hs69 := hE69.size
  have hlB9 := lt_of_heap hb9
  refine (set_calls s p hp5 v hnt B _ hb9).mono ?_
  rintro _ _ ⟨rfl, rfl⟩
  generalize setV s p v = S at *
  refine w_ fun d => ?_
  refine callQ (cw _) fun w10 hE10 hs10 => ?_
  refine w_ fun d => ?_
  refine ⟨⟨k + 1, l.drop wd, S, cutAddr a1 1 wd cap1, cap1 - wd, by omega, eA (by push_cast; rfl), by rw [List.length_drop]; exact eA rfl, inp_cut hI hlc, by rw [List.length_drop]; omega, fun x hx => hlb8 x (List.mem_of_mem_drop hx), by rw [List.length_drop]; omega, hnok, ⟨hgs.symm⟩, hA rfl, hA rfl, ?_, by omega, ext_⟩, mA⟩
  exact Sl.ext (Sl.keep sp9 fun g hg => upd_other (by have := blk_g hg; have := np _ hg; omega)) hE10
end Go.Proofs.Ytghcmogbmaedfaa
