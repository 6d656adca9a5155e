/- Layer 18's third law, walked: what was put is got, and the other way round. -/
import Derived.Test.YtghcmogbmaedfaaLaw18b
import Derived.Test.YtghcmogbmaedfaaBxCut
namespace Go.Proofs.Ytghcmogbmaedfaa
open Go Go.Bx
set_option linter.unusedSimpArgs false
set_option linter.unusedVariables false
set_option maxRecDepth 100000
set_option maxHeartbeats 4000000
attribute [local irreducible] X XO XE XF XD XW thenX inX retX kN CallsR
theorem wireBack_calls (r : RQ) (hr : r.ok) (s : RS) (hs : s.ok) (bs : List Nat) (hb : ∀ x ∈ bs, x < 256) (a : Option Addr) (cap : Nat) (hcap : bs.length ≤ cap) (hL : bs.length ≤ 9223372036854775807) (more : Nat) (hmore : more < 256) (w : World) (hI : Inp w 1 a (bs.map byteRow)) :
    CallsR Try.prog 11 #[rqV r, rsV s, .slice a bs.length cap, .int .u8 more] w fun v w' => v = .bool true ∧ Ext w w' := by
  refine en4 Try.func11 Try.results11 mixed [] ?_
  intro e0 h0 h1 h2 h3
  refine cu7_ (fun W e w' => bs.length ≤ 1000 ∧ e 4 = .pointer (some ⟨w.heap.size, 0, none⟩) ∧ e 5 = .pointer (some ⟨w.heap.size + 1, 0, none⟩) ∧ e 9 = .bool true ∧ w'.heap[w.heap.size]? = some (.cells (rqA r) 50 (0, 0)) ∧ w'.heap[w.heap.size + 1]? = some (.cells (rsA s) 52 (0, 0)) ∧ Ext w w') ?_ ?_
  · refine w_ fun d => ?_
    refine callQ (up18_calls _) fun w1 hE1 hs1 => ?_
    by_cases hl : bs.length ≤ 1000
    case neg =>
      refine w_ fun d => ?_
      exact ⟨rfl, ext_⟩
    refine w_ fun d => ?_
    refine (put_calls r hr _).mono ?_
    rintro _ w2 ⟨h | h, hE2⟩
    case inr =>
      obtain ⟨hmr, rfl⟩ := h
      have hs2 := sz_ hE2
      refine w_ fun d => ?_
      exact ⟨hl, eA rfl, eA rfl, eA rfl, hA rfl, hA rfl, ext_⟩
    obtain ⟨hmr, a2, cap2, rfl, sl, new⟩ := h
    have hs2 := sz_ hE2
    have hlen := putB_len hmr
    have hlt := put_lt hmr
    have hcap2 : (putB r).length ≤ cap2 := by
      rcases sl.l.row with ⟨_, h0, _⟩ | ⟨_, _, _, _, h2, _⟩
      · rw [List.length_map] at h0; omega
      · rw [List.length_map] at h2; exact h2
    have hIp := Sl.inp sl
    have hg1 : getF (putB r) = some r := by have := getF_put hr hmr []; rw [List.append_nil, if_pos rfl] at this; exact this
    have hg2 : getF (putB r ++ [more]) = none := by have := getF_put hr hmr [more]; rw [if_neg (by simp)] at this; exact this
    have hg3 := getF_less hr hmr
    refine w_ fun d => ?_
    refine callQ (get_some hlt (by omega) hcap2 hIp ext_ hg1) fun w3 hE3 hs3 => ?_
    refine w_ fun d => ?_
    have capOf : ∀ {w : World} {a : Option Addr} {cap : Nat} {l : List Nat}, SlB w a cap l → l.length ≤ cap := fun {w a cap l} sl => by
      rcases sl.l.row with ⟨_, h0, _⟩ | ⟨_, _, _, _, h2, _⟩
      · rw [List.length_map] at h0; omega
      · rw [List.length_map] at h2; exact h2
    have sl0 : SlB ((w3.alloc (.cells (rqA r) 50)).alloc (.cells #[] 5)) (some ⟨w3.heap.size + 1, 0, none⟩) 0 [] := madeB (hA rfl) rfl (by simp) rfl
    obtain ⟨a4, cap4, w4, hr4, sl4, hC4, hF4⟩ := appB (c := cap2) sl0 (hIp.ext ext_) (by simp; omega)
    simp only [List.length_nil, List.nil_append] at hr4 sl4
    obtain ⟨a5, cap5, w5, hr5, sl5, hC5, hlt5, hF5⟩ := pushB (k := 1) (us := #[.int .u8 (more : Int)]) (news := [more]) sl4 rfl (by simp; omega) rfl
    have hE4 : Ext w3 w4 := hC4.toExt ext_ fun k hk h => by have := blk_g h; omega
    have hE5 : Ext w3 w5 := hC5.toExt hE4 fun k hk h => by
      rcases hF4 k h with h | h
      · have := blk_g h; omega
      · simp only [alloc_size] at h; omega
    have hlt' : ∀ x ∈ putB r ++ [more], x < 256 := fun x hx => by
      rcases List.mem_append.1 hx with h | h
      · exact hlt x h
      · rw [List.mem_singleton] at h; omega
    have hl5 : (putB r ++ [more]).length ≤ 1000 := by rw [List.length_append, List.length_singleton]; omega
    have hz4 := hC4.size
    have hz5 := hC5.size
    simp only [alloc_size] at hz4
    have hb12 : w5.heap[w3.heap.size]? = some (.cells (rqA r) 50 (0, 0)) := by
      rw [hC5.heap _ (by omega) (fun h => by
        rcases hF4 _ h with h | h
        · have := blk_g h; omega
        · simp only [alloc_size] at h; omega), hC4.heap _ (by simp only [alloc_size]; omega) (fun h => by have := blk_g h; omega)]
      exact hA rfl
    refine w_ fun d => ?_
    clear hC4 hC5 hE4 sl0 sl4
    refine callQ (get_none hlt' hl5 (capOf sl5) (Sl.inp sl5) (Ext.refl _) hg2) fun w6 hE6 hs6 => ?_
    refine w_ fun d => ?_
    have e1 : (((putB r).length : Int) - 1).toNat = (putB r).dropLast.length := by rw [List.length_dropLast]; omega
    have hId : Inp w2 1 a2 ((putB r).dropLast.map byteRow) := by rw [List.dropLast_eq_take]; exact inp_take _ hIp
    rw [e1]
    have hE26 : Ext w2 w6 := ext_
    refine callQ (get_none (fun x hx => hlt x ((List.dropLast_sublist _).subset hx)) (by rw [List.length_dropLast]; omega) (by rw [List.length_dropLast]; omega) hId (hE26.alloc _) hg3) fun w7 hE7 hs7 => ?_
    have hb6 : w6.heap[w.heap.size]? = some (.cells (rqA r) 50 (0, 0)) := by
      rw [hE26.heap _ (by omega)]; exact hA rfl
    have hc6 : w6.heap[w.heap.size + 1]? = some (.cells (rsA s) 52 (0, 0)) := by
      rw [hE26.heap _ (by omega)]; exact hA rfl
    have hlb6 := lt_of_heap hc6
    refine w_ fun d => ?_
    exact ⟨hl, eA rfl, eA rfl, eA rfl, hA rfl, hA rfl, ext_⟩
  rintro e w3 hf ⟨hl, h4, h5, h9, hbr, hbs, hE3⟩
  have hlb3 := lt_of_heap hbs
  have hs3 := sz_ hE3
  refine cu3_ (fun W e w' => Ext W w') ?_ ?_
  · refine w_ fun d => ?_
    refine (putResp_calls s hs _).mono ?_
    rintro _ w4 ⟨h | h, hE4⟩
    case inr =>
      obtain ⟨hmr, rfl⟩ := h
      refine w_ fun d => ?_
      exact ext_
    obtain ⟨hmr, a4, cap4, rfl, sl4, new4⟩ := h
    have hl20 : (putR s).length = 20 := putR_len
    have hcap4 : (putR s).length ≤ cap4 := by
      rcases sl4.l.row with ⟨_, h0, _⟩ | ⟨_, _, _, _, h2, _⟩
      · rw [List.length_map] at h0; omega
      · rw [List.length_map] at h2; exact h2
    have cg := fun (w : World) (hE : Ext w4 w) => getR_some (putR_lt hmr) (by omega) hcap4 (Sl.inp sl4) hE (getR_put hs hmr)
    rw [hl20] at cg
    have hs4 := sz_ hE4
    refine w_ fun d => ?_
    refine callQ (cg _ (Ext.refl _)) fun w5 hE5 hs5 => ?_
    refine w_ fun d => ?_
    exact ext_
  rintro e2 w4 hf2 hE34
  have hE4 : Ext w w4 := hE3.trans hE34
  refine cu3_ (fun W e w' => Ext W w') ?_ ?_
  · cases hg : getF bs with
    | none =>
      refine w_ fun d => ?_
      refine callQ (get_none hb hl hcap hI hE4 hg) fun w5 hE5 hs5 => ?_
      refine w_ fun d => ?_
      exact ext_
    | some q =>
      obtain ⟨hmq, hpq, hokq⟩ := getF_inv hb hg
      have hne : bs ≠ [] := by rw [← hpq]; exact putB_ne q
      refine w_ fun d => ?_
      refine callQ (get_some hb hl hcap hI hE4 hg) fun w5 hE5 hs5 => ?_
      refine w_ fun d => ?_
      refine (put_calls q hokq _).mono ?_
      rintro _ w6 ⟨h | h, hE6⟩
      case inr => rw [hmq] at h; cases h.1
      obtain ⟨_, a6, cap6, rfl, sl6, _⟩ := h
      rw [hpq] at sl6 ⊢
      obtain ⟨b6, c6, T6, fz6, rfl, hbk6, hby6⟩ := sl_bytes sl6 hne
      obtain ⟨bI, oI, cI, TI', fzI, rfl, hbkI, hbyI⟩ := inp_bytes hI hne
      have hlI := lt_of_heap hbkI
      have hl6 := lt_of_heap hbk6
      have hE46 : Ext w4 w6 := ext_
      have hE06 : Ext w w6 := hE4.trans hE46
      have hbkI6 : w6.heap[bI]? = some (.cells cI TI' fzI) := by rw [hE06.heap _ hlI]; exact hbkI
      clear hE5 hE6
      refine w_ fun d => ?_
      exact hE46
  rintro e3 w5 hf3 hE45
  have hE5 : Ext w w5 := hE4.trans hE45
  cases hg : getR bs with
  | none =>
    refine w_ fun d => ?_
    refine callQ (getR_none hb hl hcap hI hE5 hg) fun w6 hE6 hs6 => ?_
    refine w_ fun d => ?_
    exact ⟨rfl, ext_⟩
  | some q =>
    obtain ⟨hmq, hpq, hokq⟩ := getR_inv hb hg
    have hne : bs ≠ [] := by rw [← hpq]; exact putR_ne q
    refine w_ fun d => ?_
    refine callQ (getR_some hb hl hcap hI hE5 hg) fun w6 hE6 hs6 => ?_
    refine w_ fun d => ?_
    refine (putResp_calls q hokq _).mono ?_
    rintro _ w7 ⟨h | h, hE7⟩
    case inr => rw [hmq] at h; cases h.1
    obtain ⟨_, a6, cap6, rfl, sl6, _⟩ := h
    rw [hpq] at sl6 ⊢
    obtain ⟨b6, c6, T6, fz6, rfl, hbk6, hby6⟩ := sl_bytes sl6 hne
    obtain ⟨bI, oI, cI, TI', fzI, rfl, hbkI, hbyI⟩ := inp_bytes hI hne
    have hlI := lt_of_heap hbkI
    have hl6 := lt_of_heap hbk6
    have hE57 : Ext w5 w7 := ext_
    have hE07 : Ext w w7 := hE5.trans hE57
    have hbkI6 : w7.heap[bI]? = some (.cells cI TI' fzI) := by rw [hE07.heap _ hlI]; exact hbkI
    clear hE6 hE7
    refine w_ fun d => ?_
    exact ⟨rfl, hE07⟩
end Go.Proofs.Ytghcmogbmaedfaa
