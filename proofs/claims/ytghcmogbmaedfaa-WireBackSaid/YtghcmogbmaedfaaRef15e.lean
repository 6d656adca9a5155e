/- Walks of the reference of layer 18: the request of bytes. -/
import Derived.Test.YtghcmogbmaedfaaRef15d
namespace Go.Proofs.Ytghcmogbmaedfaa
open Go Go.Bx
set_option linter.unusedSimpArgs false
set_option linter.unusedVariables false
set_option maxRecDepth 100000
set_option maxHeartbeats 4000000
attribute [local irreducible] X XO XE XF XD XW thenX inX retX kN CallsR
theorem refWideQ_calls (w : World) : CallsR Try.prog 82 #[.int .u8 63] w fun r w' => r = .int .i64 1 ∧ Ext w w' := by
  refine en1 Try.func82 Try.results82 mixed [] ?_
  intro e0 h0
  refine w_ fun d => ?_
  exact ⟨rfl, ext_⟩
theorem refGet_calls (bs : List Nat) (hb : ∀ x ∈ bs, x < 256) (hl : bs.length ≤ 1000) (a : Option Addr) (cap : Nat) (hcap : bs.length ≤ cap) (w : World) (hI : Inp w 1 a (bs.map byteRow)) :
    CallsR Try.prog 62 #[.slice a bs.length cap] w fun v w' => ((∃ r, getF bs = some r ∧ v = .tuple #[rqV r, .bool true]) ∨ (getF bs = none ∧ v = .tuple #[rqV rq0, .bool false])) ∧ Ext w w' := by
  by_cases h2 : bs.length < 2
  · have hn : getF bs = none := by
      match bs, h2 with
      | [], _ => rfl
      | [_], _ => rfl
    refine en1 Try.func62 Try.results62 mixed [(1003, [2, 6])] ?_
    intro e0 h0
    refine w_ fun d => ?_
    refine rcuA ?_
    exact ⟨.inr ⟨hn, rfl⟩, ext_⟩
  obtain ⟨x0, x1, hx01, hx0, hx1⟩ : ∃ x0 x1, bs = x0 :: x1 :: bs.drop 2 ∧ bs[0]? = some x0 ∧ bs[1]? = some x1 := by
    match bs, h2 with
    | [], h => simp at h
    | [_], h => simp at h
    | x0 :: x1 :: rest, _ => exact ⟨x0, x1, rfl, rfl, rfl⟩
  obtain ⟨b, o, c, E, fz, rfl, hbk, hc⟩ := inp_all hI (fun h => by rw [h] at h2; exact h2 (by decide))
  have c0 := hc 0 x0 hx0
  have c1 := hc 1 x1 hx1
  rw [Nat.add_zero] at c0
  have hb0 := hb x0 (List.mem_of_getElem? hx0)
  have hb1 := hb x1 (List.mem_of_getElem? hx1)
  have hlb := lt_of_heap hbk
  have hgo : ∀ r rest', getL (pl x0) (bs.drop 2) ⟨x0, x1, 0, 0, 0, 0, 0⟩ = some (r, rest') → getF bs = if rest' = [] then (if mayF r then some r else none) else none := fun r rest' h => by
    rw [hx01]
    unfold getF
    simp only [h]
    cases rest' <;> simp
  have hgn : getL (pl x0) (bs.drop 2) ⟨x0, x1, 0, 0, 0, 0, 0⟩ = none → getF bs = none := fun h => by
    rw [hx01]
    unfold getF
    simp only [h]
  have cf := form_calls x0
  have hnum := fun (at_ n : Nat) (hn : n ≤ 8) (h : at_ + n ≤ bs.length) (w' : World) (hE : Ext w w') => num_calls ((bs.drop at_).take n) (by rw [List.length_take]; omega) (fun x hx => hb x (List.mem_of_mem_drop (List.mem_of_mem_take hx))) (cutAddr (some ⟨b, o, none⟩) 1 at_ cap) (cap - at_) w' (inp_take n (inp_cut (i := at_) (hI.ext hE) hcap))
  have hnl : ∀ at_ n : Nat, at_ + n ≤ bs.length → ((bs.drop at_).take n).length = n := fun at_ n h => by rw [List.length_take, List.length_drop]; omega
  have hnlt : ∀ at_ p : Nat, numB ((bs.drop at_).take (wideV p)) < 18446744073709551616 := fun at_ p => num_take_lt fun x hx => hb x (List.mem_of_mem_drop hx)
  have hok0 : (RQ.ok ⟨x0, x1, 0, 0, 0, 0, 0⟩) := base_ok (by omega) (by omega)
  generalize hL : bs.length = L at *
  have hGG : ∃ G, getF bs = G := ⟨_, rfl⟩
  obtain ⟨G, hG⟩ := hGG
  rw [hG] at hgo hgn ⊢
  clear hc hx01 hx0 hx1 hG hI
  refine en1 Try.func62 Try.results62 mixed [(1003, [2, 6])] ?_
  intro e0 h0
  refine w_ fun d => ?_
  refine s_wide (xw_ ?_)
  refine dw_ ?_
  refine xf2A fun u2 hE2 hw2 => ?_
  have hs2 := sz_ hE2
  refine krA ?_
  refine kv ?_
  refine ⟨ext_, ?_⟩
  refine dw_ ?_
  refine xf2A fun u3 hE3 hw3 => ?_
  have hs3 := sz_ hw3
  refine krA ?_
  refine ks ?_
  refine ⟨ext_, ?_⟩
  refine dw_ ?_
  refine xf_nil fun w4 hE4 => ?_
  have hs4 := sz_ hE4
  have hB4 : w4.heap[u2.heap.size]? = some (.cells (rqA ⟨x0, x1, 0, 0, 0, 0, 0⟩) 50 (0, 0)) := hA rfl
  have hZ4 : w4.heap[w.heap.size]? = some (.cells (rqA rq0) 50 (0, 0)) := hA rfl
  have hE0 : Ext w w4 := ext_
  have hB : w.heap.size < u2.heap.size := by omega
  generalize u2.heap.size = B at *
  clear hE2 hw2 hE3 hw3 hs3 hs2
  refine w_ fun d => ?_
  refine callQ (cf _) fun w5 hE5 hs5 => ?_
  have hlB4 := lt_of_heap hB4
  by_cases hin : 1 ≤ (x0 : Int) ∧ (x0 : Int) ≤ 21
  case neg =>
    have hp := pl_out hin
    have hfo : formL x0 = [63] := by rw [formL, hp.2]
    rw [hfo]
    have hn : G = none := by
      rw [hgo _ _ (by rw [hp.1, getL])]
      have : mayF ⟨x0, x1, 0, 0, 0, 0, 0⟩ = false := may_no fun h => hin h.1
      rw [this]; simp
    have hix := ixS (l := [63]) (k := 0) (x := 63) rfl (by decide)
    have e63 : ((63 : Nat) : Int) = 63 := rfl
    have e0 : ((0 : Nat) : Int) = 0 := rfl
    simp only [e63, e0] at hix
    clear hgo hgn hp hfo cf
    have cmF : ∀ (n : Int) (w : World), CallsR Try.prog 55 #[rqV ⟨x0, x1, 0, 0, 0, n, 0⟩] w fun v w' => v = .bool false ∧ Ext w w' := fun n w => by
      have := refMay_calls ⟨x0, x1, 0, 0, 0, n, 0⟩ w
      rwa [may_no fun h => hin h.1] at this
    by_cases h3 : L < 3
    · obtain rfl : L = 2 := by omega
      refine w_ fun d => ?_
      refine un_ 3 ?_
      refine w_ fun d => ?_
      refine callQ (refWideQ_calls _) fun w6 hE6 hs6 => ?_
      refine w_ fun d => ?_
      refine rcuA ?_
      exact ⟨.inr ⟨hn, rfl⟩, ext_⟩
    · have cn := fun (w' : World) (hE : Ext w w') => hnum 2 1 (by decide) (by omega) w' hE
      rw [hnl 2 1 (by omega)] at cn
      have hv := hnlt 2 3
      have hw1 : wideV 3 = 1 := rfl
      rw [hw1] at hv
      generalize numB ((bs.drop 2).take 1) = v at *
      have hws := i64_toS hv
      clear hnum hnl hnlt hw1
      refine w_ fun d => ?_
      refine un_ 3 ?_
      refine w_ fun d => ?_
      refine callQ (refWideQ_calls _) fun w6 hE6 hs6 => ?_
      refine w_ fun d => ?_
      refine callQ (refWideQ_calls _) fun w7 hE7 hs7 => ?_
      refine w_ fun d => ?_
      refine callQ (cn _ ext_) fun w8 hE8 hs8 => ?_
      refine w_ fun d => ?_
      refine callQ (refWideQ_calls _) fun w9 hE9 hs9 => ?_
      refine w_ fun d => ?_
      refine callQ (cmF _ _) fun w10 hE10 hs10 => ?_
      by_cases hL3 : L = 3
      · subst hL3
        refine w_ fun d => ?_
        refine rcuA ?_
        exact ⟨.inr ⟨hn, rfl⟩, ext_⟩
      · refine w_ fun d => ?_
        refine rcuA ?_
        exact ⟨.inr ⟨hn, rfl⟩, ext_⟩
  obtain ⟨kk, hkk, hkk2, hsome⟩ := pl_in hin
  have hnd := parts_nodup_all kk hkk2
  have hfa := (form_all kk hkk2 (by omega)).1
  rw [← hkk] at hnd hfa
  have hflt := @form_lt x0
  obtain ⟨k0, k1, k2, k3, k4, k5⟩ := chr_vals
  clear hkk hsome cf
  generalize hFL : formL x0 = FL at *
  have hFLl : FL.length = (pl x0).length := by rw [hfa, List.length_map]
  have hfab : Box (FL = (pl x0).map chr) := ⟨hfa⟩
  clear hfa hFL
  refine w_ fun d => ?_
  refine lo_ (fun W e w' => ∃ (k t : Nat) (s : RQ) , k ≤ (pl x0).length ∧ e 7 = .int .i64 k ∧ e 6 = .int .i64 t ∧ 2 ≤ t ∧ t ≤ L ∧ s.ok ∧
    Box (getL ((pl x0).drop k) (bs.drop t) s = getL (pl x0) (bs.drop 2) ⟨x0, x1, 0, 0, 0, 0, 0⟩) ∧ w'.heap[B]? = some (.cells (rqA s) 50 (0, 0)) ∧ w'.heap[w.heap.size]? = some (.cells (rqA rq0) 50 (0, 0)) ∧ Ext w w') (fun e _ => (pl x0).length - nat (e 7)) ?_ ?_
  · exact ⟨0, 2, ⟨x0, x1, 0, 0, 0, 0, 0⟩, by omega, eA rfl, eA rfl, by omega, by omega, hok0, ⟨rfl⟩, hA rfl, hA rfl, ext_⟩
  rintro e w6 hf ⟨k, t, s, hk, h7, h6, ht2, htL, hok, hgb, hb6, hz6, hE6⟩
  have hs6 := sz_ hE6
  have hlb6 := lt_of_heap hb6
  by_cases hlt : k < (pl x0).length
  case neg =>
    obtain rfl : k = (pl x0).length := by omega
    have hg := hgb.out
    rw [List.drop_length, getL] at hg
    have hG := hgo s _ hg.symm
    have cm := refMay_calls s
    clear hg hgb hgo hgn
    refine w_ fun d => ?_
    refine callQ (cm _) fun w7 hE7 hs7 => ?_
    by_cases htt : t = L
    · subst htt
      rw [if_pos (List.drop_of_length_le (by omega))] at hG
      cases hms : mayF s
      · rw [hms] at hG
        have hn : G = none := by rw [hG]; rfl
        clear hG
        refine w_ fun d => ?_
        refine rcuA ?_
        exact ⟨.inr ⟨hn, rfl⟩, ext_⟩
      · rw [hms] at hG
        have hn : G = some s := by rw [hG]; rfl
        clear hG
        refine w_ fun d => ?_
        refine rcuA ?_
        exact ⟨.inl ⟨s, hn, rfl⟩, ext_⟩
    · have hn : G = none := by
        rw [hG, if_neg]
        intro h
        have := congrArg List.length h
        rw [List.length_drop, hL] at this
        simp at this; omega
      clear hG
      refine w_ fun d => ?_
      refine rcuA ?_
      exact ⟨.inr ⟨hn, rfl⟩, ext_⟩
  obtain ⟨p, hp⟩ : ∃ p, (pl x0)[k]? = some p := ⟨(pl x0)[k], List.getElem?_eq_getElem hlt⟩
  have hp5 := hnd.2.2 p (List.mem_of_getElem? hp)
  have hk3 : (pl x0).length ≤ 3 := hnd.2.1
  have hw8 := wide_le p
  have hFk : FL[k]? = some (chr p) := by rw [hfab.out, List.getElem?_map, hp]; rfl
  have hix := ixS hFk (chr_lt p)
  have hgs : getL ((pl x0).drop k) (bs.drop t) s = if L - t < wideV p then none else getL ((pl x0).drop (k + 1)) (bs.drop (t + wideV p)) (setV s p (numB ((bs.drop t).take (wideV p)))) := by
    rw [List.drop_eq_getElem_cons hlt, (List.getElem?_eq_some_iff.1 hp).2, getL, List.length_drop, hL, List.drop_drop]
  rw [hgb.out] at hgs
  have cw := fun w => refWide_calls p hp5 w
  have hv := hnlt t p
  have hchk : ∀ w0, w0 = chr p → w0 = chr p := fun _ h => h
  clear hchk hgo
  have hnt : ¬ L - t < wideV p → ∀ (w' : World), Ext w w' → _ := fun h => hnum t (wideV p) hw8 (by omega)
  have hnl' : ¬ L - t < wideV p → ((bs.drop t).take (wideV p)).length = wideV p := fun h => hnl t (wideV p) (by omega)
  clear hnum hnl hnlt
  generalize hwd : wideV p = wd at *
  by_cases hsh : L - t < wd
  · rw [if_pos hsh] at hgs
    have hn := hgn hgs
    have hcmp : (L : Int) - (t : Int) < (wd : Int) := by omega
    clear hgs hgb hp hwd hFk hnt hnl'
    generalize chr p = cp at *
    refine w_ fun d => ?_
    refine callQ (cw _) fun w7 hE7 hs7 => ?_
    refine w_ fun d => ?_
    refine rcuA ?_
    exact ⟨.inr ⟨hn, rfl⟩, ext_⟩
  rw [if_neg hsh] at hgs
  have cn := hnt hsh
  rw [hnl' hsh] at cn
  have hnok := set_ok (p := p) hok hv
  generalize hnv : numB ((bs.drop t).take wd) = v at *
  have hws := i64_toS hv
  have e9 : ((t : Int) + (wd : Int)).toNat = t + wd := by omega
  have e10 : t + wd - t = wd := by omega
  obtain ⟨S, hS⟩ : ∃ S, setV s p v = S := ⟨_, rfl⟩
  rw [hS] at hnok hgs
  have hfin : ∀ (e2 : Env) (w9 : World), e2 7 = .int .i64 ((k : Int) + 1) → e2 6 = .int .i64 ((t : Int) + (wd : Int)) → Ext w6 w9 → (∃ (k t : Nat) (s : RQ) , k ≤ (pl x0).length ∧ e2 7 = .int .i64 k ∧ e2 6 = .int .i64 t ∧ 2 ≤ t ∧ t ≤ L ∧ s.ok ∧
    Box (getL ((pl x0).drop k) (bs.drop t) s = getL (pl x0) (bs.drop 2) ⟨x0, x1, 0, 0, 0, 0, 0⟩) ∧ (upd w9 B (.cells (rqA S) 50 (0, 0))).heap[B]? = some (.cells (rqA s) 50 (0, 0)) ∧ (upd w9 B (.cells (rqA S) 50 (0, 0))).heap[w.heap.size]? = some (.cells (rqA rq0) 50 (0, 0)) ∧ Ext w (upd w9 B (.cells (rqA S) 50 (0, 0)))) := fun e2 w9 h1 h2 h3 => by
    have hz := h3.size
    exact ⟨k + 1, t + wd, _, by omega, by rw [h1]; rfl, by rw [h2]; rfl, by omega, by omega, hnok, ⟨hgs.symm⟩, upd_same (by omega), by rw [upd_other (by omega), h3.heap _ (lt_of_heap hz6)]; exact hz6, (hE6.trans h3).upd (by omega) _⟩
  clear hgs hgb hFk hnv hnt hnl' hgn hp
  rcases (by omega : p = 0 ∨ p = 1 ∨ p = 2 ∨ p = 3 ∨ p = 4 ∨ p = 5) with rfl | rfl | rfl | rfl | rfl | rfl
  all_goals
    have cw' := cw
    refine w_ fun d => ?_
    refine callQ (cw _) fun w7 hE7 hs7 => ?_
    refine w_ fun d => ?_
    refine callQ (cw _) fun w8 hE8 hs8 => ?_
    refine w_ fun d => ?_
    refine callQ (cn _ ext_) fun w9 hE9 hs9 => ?_
    refine w_ fun d => ?_
    refine callQ (cw _) fun w10 hE10 hs10 => ?_
    have hE610 : Ext w6 w10 := ext_
    have hb10 : w10.heap[B]? = some (.cells (rqA s) 50 (0, 0)) := by rw [hE610.heap _ hlb6]; exact hb6
    have hlb10 := lt_of_heap hb10
    clear hE7 hE8 hE9 hE10
    refine w_ fun d => ?_
    subst hS
    exact ⟨hfin _ w10 (eA rfl) (eA rfl) hE610, mA⟩
end Go.Proofs.Ytghcmogbmaedfaa
