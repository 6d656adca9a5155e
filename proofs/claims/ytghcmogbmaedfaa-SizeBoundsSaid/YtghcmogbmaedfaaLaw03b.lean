/- Layer 3's second law, walked: bounds. -/
import Derived.Test.YtghcmogbmaedfaaLaw03
import Derived.Test.YtghcmogbmaedfaaSizeP3
namespace Go.Proofs.Ytghcmogbmaedfaa
open Go Go.Bx
set_option linter.unusedSimpArgs false
set_option linter.unusedVariables false
set_option maxRecDepth 100000
set_option maxHeartbeats 4000000
attribute [local irreducible] X XO XE XF XD XW thenX inX retX kN CallsR
theorem may_calls (ord : List Int) (ho : ord.length = 8) (w : World) : CallsR Try.prog 52 #[aI ord] w fun r w' => r = .bool (mayF ord) ∧ Ext w w' := by
  obtain ⟨oc, hc⟩ := ordC ho
  have hsz := hc.size
  have hall := hc.all
  rw [hc.agg]
  refine en1 Try.func52 Try.results52 mixed [] ?_
  intro e0 h0
  refine w_ fun d => ?_
  refine lo_ (fun W e w' => ∃ v : Nat, v ≤ 8 ∧ e 3 = .int .i64 v ∧ Box (∀ u : Nat, u < v → ord.count (u : Int) = 1) ∧ Ext W w') (fun e _ => 8 - nat (e 3)) ?_ ?_
  · exact ⟨0, by omega, eA rfl, ⟨fun u hu => by omega⟩, ext_⟩
  rintro e w1 hf ⟨v, hv, h3, ⟨hb⟩, hE⟩
  have hs1 := sz_ hE
  by_cases hlt : v < 8
  case neg =>
    have hm : mayF ord = true := by
      unfold mayF
      rw [List.all_eq_true]
      intro u hu
      have := hb u (by have := List.mem_range.1 hu; omega)
      simpa using this
    refine w_ fun d => ?_
    exact ⟨by rw [hm], ext_⟩
  refine w_ fun d => ?_
  refine lo_ (fun W e' w' => ∃ i n : Nat, i ≤ 8 ∧ n ≤ i ∧ e' 5 = .int .i64 i ∧ e' 4 = .int .i64 n ∧ Box (n = (ord.take i).count (v : Int)) ∧ Ext w1 w') (fun e _ => 8 - nat (e 5)) ?_ ?_
  · exact ⟨0, 0, by omega, by omega, eA rfl, eA rfl, ⟨by simp⟩, ext_⟩
  rintro e2 w2 hf2 ⟨i, n, hi, hn, h5, h4, ⟨hcn⟩, hE2⟩
  have hs2 := sz_ hE2
  by_cases hil : i < 8
  · obtain ⟨x, hx⟩ : ∃ x, ord[i]? = some x := ⟨ord[i], List.getElem?_eq_getElem (by omega)⟩
    have hat := hc.at_ i x hx
    have hct := count_take (v := (v : Int)) hx
    rw [← hcn] at hct
    by_cases hxv : x = (v : Int)
    · rw [if_pos hxv] at hct
      subst hxv
      refine w_ fun d => ?_
      exact ⟨⟨i + 1, n + 1, by omega, by omega, eA (by push_cast; rfl), eA (by push_cast; rfl), ⟨hct.symm⟩, ext_⟩, mA⟩
    · rw [if_neg hxv] at hct
      refine w_ fun d => ?_
      exact ⟨⟨i + 1, n, by omega, by omega, eA (by push_cast; rfl), eA rfl, ⟨hct.symm⟩, ext_⟩, mA⟩
  · obtain rfl : i = 8 := by omega
    rw [List.take_of_length_le (by omega)] at hcn
    by_cases hn1 : n = 1
    · subst hn1
      refine w_ fun d => ?_
      exact ⟨⟨v + 1, by omega, eA (by push_cast; rfl), ⟨fun u hu => by
        by_cases e : u = v
        · subst e; exact hcn.symm
        · exact hb u (by omega)⟩, ext_⟩, mA⟩
    · have hm : mayF ord = false := by
        cases hm : mayF ord
        · rfl
        · have := List.all_eq_true.1 hm v (List.mem_range.2 hlt)
          rw [← hcn] at this
          exact absurd (by simpa using this) hn1
      refine w_ fun d => ?_
      exact ⟨by rw [hm], ext_⟩
theorem sizeBounds_calls (l k : List Fun8) (a a' : Option Addr) (c c' : Nat) (ord : List Int) (ho : ord.length = 8) (f : Fun8) (w : World) (hI : Inp w 4 a (l.map rowF)) (hK : Inp w 4 a' (k.map rowF)) (hl : l.length ≤ 140737488351232) (hk : k.length ≤ 140737488351232) :
    CallsR Try.prog 8 #[.slice a l.length c, .slice a' k.length c', aI ord, fv f] w fun r w' => r = .bool true ∧ Ext w w' := by
  obtain ⟨oc, hc⟩ := ordC ho
  have hsz := hc.size
  have hall := hc.all
  have c1 : Sure Try.prog 45 #[] _ := up3_calls
  have cm : Sure Try.prog 52 #[aI ord] _ := may_calls ord ho
  have ct : Sure Try.prog 48 #[fv f, aI ord] _ := top_calls f ord ho
  have cl := fun (w : World) (h : Inp w 4 a (l.map rowF)) (hl : l.length ≤ 1000) => size_inp (c := c) h ho hl
  have ck := fun (w : World) (h : Inp w 4 a' (k.map rowF)) (hl : k.length ≤ 1000) => size_inp (c := c') h ho hl
  have m1 := size_most (ord := ord) (l := l)
  have m2 := size_most (ord := ord) (l := k)
  have le1 : sizeF ord l ≤ sizeF ord (l ++ k) := size_le fun f h => rch_app.2 (.inl h)
  have le2 : sizeF ord k ≤ sizeF ord (l ++ k) := size_le fun f h => rch_app.2 (.inr h)
  have le3 := size_app (ord := ord) (l := l) (k := k)
  have eq4 : sizeF ord (k ++ l) = sizeF ord (l ++ k) := size_eq fun f => by rw [rch_app, rch_app]; exact Or.comm
  have eq5 : sizeF ord (l ++ l) = sizeF ord l := size_eq fun f => by rw [rch_app]; exact or_self_iff
  generalize en3 : sizeF ord (l ++ k) = n3 at *
  generalize sizeF ord l = n1 at *
  generalize sizeF ord k = n2 at *
  rw [hc.agg] at cm ct cl ck ⊢
  refine en4 Try.func8 Try.results8 mixed [(1006, [5]), (1007, [5]), (1008, [5]), (1016, [10])] ?_
  intro e0 h0 h1 h2 h3
  refine w_ fun d => ?_
  refine callQ (c1 _) fun w1 hE1 hs1 => ?_
  by_cases h20 : l.length + k.length ≤ 20
  case neg =>
    refine w_ fun d => ?_
    exact ⟨rfl, ext_⟩
  refine w_ fun d => ?_
  refine callQ (cl _ (hI.ext ext_) (by omega)).call fun w2 hE2' hs2' => ?_
  refine w_ fun d => ?_
  refine callQ (ck _ (hK.ext ext_) (by omega)).call fun w3 hE3' hs3' => ?_
  refine w_ fun d => ?_
  refine s_wide (xw_ ?_)
  refine dw_ ?_
  refine xf2A fun u2 hE2 hw2 => ?_
  have hs2 := sz_ hE2
  refine krA ?_
  refine kv ?_
  refine ⟨ext_, ?_⟩
  refine dw_ ?_
  refine xf2A fun u3 hE3 hw3 => ?_
  have hs3 := sz_ hw3
  obtain ⟨a4, cap4, u4, hr4, sl4, hC4, hF4⟩ := appF (c := c) (news := l) (SlF.ext (madeF (l := []) (w := u2.alloc (.cells (rowsF []) 24)) (g := u2.heap.size) alloc_new (by simp)) hw3) ((hI).ext ext_) (by simp; omega)
  simp only [List.length_nil, List.nil_append] at hr4 sl4
  have hE4 : Ext w3 u4 := hC4.toExt hE3 fun k hk h => by have := blk_g h; omega
  have hN4 : ∀ g, blk a4 = some g → w3.heap.size ≤ g := fun g hg => by
    rcases hF4 g hg with h | h
    · have := blk_g h; omega
    · omega
  refine krA ?_
  refine kv ?_
  refine ⟨hE4, ?_⟩
  refine dw_ ?_
  refine xf2A fun u5 hE5 hw5 => ?_
  obtain ⟨a6, cap6, u6, hr6, sl6, hC6, hF6⟩ := appF (c := c') (news := k) (SlF.ext sl4 hw5) ((hK).ext ext_) (by omega)
  have hE6 : Ext w3 u6 := hC6.toExt hE5 fun k hk h => by have := hN4 k h; omega
  refine krA ?_
  refine kv ?_
  refine ⟨hE6, ?_⟩
  have cS : Quiet Try.prog 50 #[.slice a6 (l ++ k).length cap6, aI ord] u6 (.int .i64 (sizeF ord (l ++ k) : Nat)) := fun u hu => size_calls _ ord ho (by simp; omega) _ _ u (sl6.inp.ext hu)
  rw [hc.agg, en3] at cS
  refine dw_ ?_
  refine xf_nil fun w4 hEE => ?_
  have hE4' := hE6.trans hEE
  clear hEE cS hr6 sl6 hC6 hF6 hE6 hr4 sl4 hC4 hF4 hE4 hN4 hE5 hw5 hE3 hw3 hE2 hw2 hs2 hs3
  have hs4' := sz_ hE4'
  refine w_ fun d => ?_
  refine s_wide (xw_ ?_)
  refine dw_ ?_
  refine xf2A fun u2 hE2 hw2 => ?_
  have hs2 := sz_ hE2
  refine krA ?_
  refine kv ?_
  refine ⟨ext_, ?_⟩
  refine dw_ ?_
  refine xf2A fun u3 hE3 hw3 => ?_
  have hs3 := sz_ hw3
  obtain ⟨a4, cap4, u4, hr4, sl4, hC4, hF4⟩ := appF (c := c') (news := k) (SlF.ext (madeF (l := []) (w := u2.alloc (.cells (rowsF []) 24)) (g := u2.heap.size) alloc_new (by simp)) hw3) ((hK).ext ext_) (by simp; omega)
  simp only [List.length_nil, List.nil_append] at hr4 sl4
  have hE4 : Ext w4 u4 := hC4.toExt hE3 fun k hk h => by have := blk_g h; omega
  have hN4 : ∀ g, blk a4 = some g → w4.heap.size ≤ g := fun g hg => by
    rcases hF4 g hg with h | h
    · have := blk_g h; omega
    · omega
  refine krA ?_
  refine kv ?_
  refine ⟨hE4, ?_⟩
  refine dw_ ?_
  refine xf2A fun u5 hE5 hw5 => ?_
  obtain ⟨a6, cap6, u6, hr6, sl6, hC6, hF6⟩ := appF (c := c) (news := l) (SlF.ext sl4 hw5) ((hI).ext ext_) (by omega)
  have hE6 : Ext w4 u6 := hC6.toExt hE5 fun k hk h => by have := hN4 k h; omega
  refine krA ?_
  refine kv ?_
  refine ⟨hE6, ?_⟩
  have cS : Quiet Try.prog 50 #[.slice a6 (k ++ l).length cap6, aI ord] u6 (.int .i64 (sizeF ord (k ++ l) : Nat)) := fun u hu => size_calls _ ord ho (by simp; omega) _ _ u (sl6.inp.ext hu)
  rw [hc.agg, eq4] at cS
  refine dw_ ?_
  refine xf_nil fun w5 hEE => ?_
  have hE5' := hE6.trans hEE
  clear hEE cS hr6 sl6 hC6 hF6 hE6 hr4 sl4 hC4 hF4 hE4 hN4 hE5 hw5 hE3 hw3 hE2 hw2 hs2 hs3
  have hs5' := sz_ hE5'
  refine w_ fun d => ?_
  refine s_wide (xw_ ?_)
  refine dw_ ?_
  refine xf2A fun u2 hE2 hw2 => ?_
  have hs2 := sz_ hE2
  refine krA ?_
  refine kv ?_
  refine ⟨ext_, ?_⟩
  refine dw_ ?_
  refine xf2A fun u3 hE3 hw3 => ?_
  have hs3 := sz_ hw3
  obtain ⟨a4, cap4, u4, hr4, sl4, hC4, hF4⟩ := appF (c := c) (news := l) (SlF.ext (madeF (l := []) (w := u2.alloc (.cells (rowsF []) 24)) (g := u2.heap.size) alloc_new (by simp)) hw3) ((hI).ext ext_) (by simp; omega)
  simp only [List.length_nil, List.nil_append] at hr4 sl4
  have hE4 : Ext w5 u4 := hC4.toExt hE3 fun k hk h => by have := blk_g h; omega
  have hN4 : ∀ g, blk a4 = some g → w5.heap.size ≤ g := fun g hg => by
    rcases hF4 g hg with h | h
    · have := blk_g h; omega
    · omega
  refine krA ?_
  refine kv ?_
  refine ⟨hE4, ?_⟩
  refine dw_ ?_
  refine xf2A fun u5 hE5 hw5 => ?_
  obtain ⟨a6, cap6, u6, hr6, sl6, hC6, hF6⟩ := appF (c := c) (news := l) (SlF.ext sl4 hw5) ((hI).ext ext_) (by omega)
  have hE6 : Ext w5 u6 := hC6.toExt hE5 fun k hk h => by have := hN4 k h; omega
  refine krA ?_
  refine kv ?_
  refine ⟨hE6, ?_⟩
  have cS : Quiet Try.prog 50 #[.slice a6 (l ++ l).length cap6, aI ord] u6 (.int .i64 (sizeF ord (l ++ l) : Nat)) := fun u hu => size_calls _ ord ho (by simp; omega) _ _ u (sl6.inp.ext hu)
  rw [hc.agg, eq5] at cS
  refine dw_ ?_
  refine xf_nil fun w6 hEE => ?_
  have hE6' := hE6.trans hEE
  clear hEE cS hr6 sl6 hC6 hF6 hE6 hr4 sl4 hC4 hF4 hE4 hN4 hE5 hw5 hE3 hw3 hE2 hw2 hs2 hs3
  have hs6' := sz_ hE6'
  refine w_ fun d => ?_
  refine callQ (cm _) fun w7 hE7' hs7' => ?_
  cases hm : mayF ord
  · refine w_ fun d => ?_
    exact ⟨rfl, ext_⟩
  have hA := may_once ho hm
  have h77 := size_77 (f := f) hA
  have hsd := fun h => size_sides (ord := ord) (f := f) h
  have hnf := size_not (ord := ord) (f := f)
  have hz := size_zero (ord := ord) (f := f)
  have hzc := sup_zero_iff (f := f)
  have htn := top_none_iff (f := f) hA
  have htp : ¬ 0 ≤ topF ord f → topF ord f = -1 := fun h => (topF_none h).2
  have hkd : 0 ≤ topF ord f → kids ord f = [cofF f (topF ord f) false, cofF f (topF ord f) true] := fun h => by rw [kids, if_pos h]
  have cn : Sure Try.prog 19 #[fv f] _ := not_calls f
  have cC1 : Sure Try.prog 13 #[.bool true] _ := const_calls true
  have cC0 : Sure Try.prog 13 #[.bool false] _ := const_calls false
  have c14 := size_new (w := w7) (l := [f]) (ord := ord) ho (by simp) (k := 1) rfl
  obtain ⟨C1, hC1⟩ : ∃ X, constF true = X := ⟨_, rfl⟩
  obtain ⟨C0, hC0⟩ : ∃ X, constF false = X := ⟨_, rfl⟩
  obtain ⟨nf, hNF⟩ : ∃ X, notF f = X := ⟨_, rfl⟩
  rw [hC1, hC0] at hzc
  rw [hC1] at cC1
  rw [hC0] at cC0
  rw [hNF] at cn hnf
  clear hC1 hC0 hNF
  generalize en6 : sizeF ord [f] = n6 at *
  generalize topF ord f = t at *
  rw [hc.agg] at c14
  refine w_ fun d => ?_
  refine callQ c14.call fun w8 hE8' hs8' => ?_
  refine w_ fun d => ?_
  refine callQ (ct _) fun w9 hE9' hs9' => ?_
  refine w_ fun d => ?_
  clear cm ct cl ck c14
  by_cases hs : supF f = 0
  · obtain rfl := hz.2 hs
    obtain rfl := htn.2 hs
    clear hsd hkd hz htn htp h77
    rcases hzc.1 hs with hf | hf
    · clear hzc hs
      subst hf
      refine s_wide (xw_ ?_)
      refine dw_ ?_
      refine xf2A fun u2 hE2 hw2 => ?_
      have hs2 := sz_ hE2
      refine krA ?_
      refine kv ?_
      refine ⟨ext_, ?_⟩
      have cS := size_new (w := u2) (l := [nf]) (ord := ord) ho (by simp) (k := 1) rfl
      rw [hc.agg, hnf] at cS
      refine dw_ ?_
      refine xf_nil fun w10 hE10' => ?_
      have hE10 : Ext w9 w10 := ext_
      clear hE10' cS hE2 hw2
      have hs10 := sz_ hE10
      refine w_ fun d => ?_
      exact ⟨rfl, ext_⟩
    · by_cases hf1 : f = C1
      · clear hf hzc hs
        subst hf1
        refine s_wide (xw_ ?_)
        refine dw_ ?_
        refine xf2A fun u2 hE2 hw2 => ?_
        have hs2 := sz_ hE2
        refine krA ?_
        refine kv ?_
        refine ⟨ext_, ?_⟩
        have cS := size_new (w := u2) (l := [nf]) (ord := ord) ho (by simp) (k := 1) rfl
        rw [hc.agg, hnf] at cS
        refine dw_ ?_
        refine xf_nil fun w10 hE10' => ?_
        have hE10 : Ext w9 w10 := ext_
        clear hE10' cS hE2 hw2
        have hs10 := sz_ hE10
        refine w_ fun d => ?_
        exact ⟨rfl, ext_⟩
      · clear hzc hs
        subst hf
        refine s_wide (xw_ ?_)
        refine dw_ ?_
        refine xf2A fun u2 hE2 hw2 => ?_
        have hs2 := sz_ hE2
        refine krA ?_
        refine kv ?_
        refine ⟨ext_, ?_⟩
        have cS := size_new (w := u2) (l := [nf]) (ord := ord) ho (by simp) (k := 1) rfl
        rw [hc.agg, hnf] at cS
        refine dw_ ?_
        refine xf_nil fun w10 hE10' => ?_
        have hE10 : Ext w9 w10 := ext_
        clear hE10' cS hE2 hw2
        have hs10 := sz_ hE10
        refine w_ fun d => ?_
        exact ⟨rfl, ext_⟩
  · have ht : 0 ≤ t := Classical.byContradiction fun h => hs (htn.1 (htp h))
    have d1 : ¬ f = C1 := fun h => hs (hzc.2 (.inl h))
    have d0 : ¬ f = C0 := fun h => hs (hzc.2 (.inr h))
    have h7 := hsd ht
    rw [hkd ht] at h7
    have cf0 : Sure Try.prog 32 #[fv f, .int .i64 t, .bool false] _ := refCof_calls f t false
    have cf1 : Sure Try.prog 32 #[fv f, .int .i64 t, .bool true] _ := refCof_calls f t true
    generalize cofF f t false = F0 at *
    generalize cofF f t true = F1 at *
    generalize en7 : sizeF ord [F0, F1] = n7 at *
    subst h7
    clear hsd hkd hz htn htp hzc hs
    refine s_wide (xw_ ?_)
    refine dw_ ?_
    refine xf2A fun u2 hE2 hw2 => ?_
    have hs2 := sz_ hE2
    refine krA ?_
    refine kv ?_
    refine ⟨ext_, ?_⟩
    have cS := size_new (w := u2) (l := [nf]) (ord := ord) ho (by simp) (k := 1) rfl
    rw [hc.agg, hnf] at cS
    refine dw_ ?_
    refine xf_nil fun w10 hE10' => ?_
    have hE10 : Ext w9 w10 := ext_
    clear hE10' cS hE2 hw2
    have hs10 := sz_ hE10
    refine w_ fun d => ?_
    refine s_draw (XD_ext ?_)
    refine de_ ?_
    refine xe2w fun u11 hE11 => ?_
    have hs11 := sz_ hE11
    refine krA ?_
    refine kv ?_
    have cS := size_new (w := u11) (l := [F0, F1]) (ord := ord) ho (by simp) (k := 2) rfl
    rw [hc.agg, en7] at cS
    have e7 : (n7 : Int) + 1 - 1 = n7 := by omega
    refine de_ ?_
    refine xn_ ?_
    intro w12 hE12 hs12
    refine w_ fun d => ?_
    refine callQ (cS w12 hE12) fun w13 hE13 hs13 => ?_
    refine w_ fun d => ?_
    exact ⟨rfl, ext_⟩
end Go.Proofs.Ytghcmogbmaedfaa
