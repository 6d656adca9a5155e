/- Layer 3's first law, walked: how many nodes functions need, here and in the reference. -/
import Derived.Test.YtghcmogbmaedfaaSize
namespace Go.Proofs.Ytghcmogbmaedfaa
open Go Go.Bx
set_option linter.unusedSimpArgs false
set_option linter.unusedVariables false
set_option maxRecDepth 100000
set_option maxHeartbeats 4000000
attribute [local irreducible] X XO XE XF XD XW thenX inX retX kN CallsR
def plainL : List Int := [0, 1, 2, 3, 4, 5, 6, 7]
theorem plain_calls (w : World) : CallsR Try.prog 46 #[] w fun r w' => r = aI plainL ∧ Ext w w' := by
  refine en0 Try.func46 Try.results46 mixed [] ?_
  intro e0
  refine w_ fun d => ?_
  exact ⟨rfl, ext_⟩
theorem refPlain_calls (w : World) : CallsR Try.prog 47 #[] w fun r w' => r = aI plainL ∧ Ext w w' := by
  refine en0 Try.func47 Try.results47 mixed [] ?_
  intro e0
  refine w_ fun d => ?_
  exact ⟨rfl, ext_⟩
theorem up3_a : kids plainL (xorF (varF 0) (varF 1)) = [varF 1, notF (varF 1)] := by decide +kernel
theorem up3_b : kids plainL (varF 1) = [constF false, constF true] := by decide +kernel
theorem up3_c : kids plainL (notF (varF 1)) = [constF true, constF false] := by decide +kernel
theorem up3_d : supF (xorF (varF 0) (varF 1)) ≠ 0 ∧ supF (varF 1) ≠ 0 ∧ supF (notF (varF 1)) ≠ 0 := by decide +kernel
theorem sup_const {b : Bool} : supF (constF b) = 0 := by cases b <;> decide +kernel
theorem up3_n : [xorF (varF 0) (varF 1), varF 1, notF (varF 1)].Nodup := by decide +kernel
theorem up3_t : topF [7, 1, 0, 0, 0, 0, 0, 0] (xorF (varF 0) (varF 1)) = 1 := by decide +kernel
theorem up3_s : sizeF plainL [xorF (varF 0) (varF 1)] = 3 := by
  have ha := up3_a
  have hb := up3_b
  have hc := up3_c
  have hd := up3_d
  have hn := up3_n
  have hk0 : kids plainL (constF false) = [] := kids_flat sup_const
  have hk1 : kids plainL (constF true) = [] := kids_flat sup_const
  have hs0 : supF (constF false) = 0 := sup_const
  have hs1 : supF (constF true) = 0 := sup_const
  generalize constF false = C0 at *
  generalize constF true = C1 at *
  generalize notF (varF 1) = N at *
  generalize xorF (varF 0) (varF 1) = X at *
  generalize varF 1 = V at *
  have hI : IsNodes plainL [X] [X, V, N] := by
    refine ⟨hn, fun f => ⟨fun hf => ?_, fun ⟨hr, hs⟩ => ?_⟩⟩
    · have hX : Rch plainL [X] X := .base (by simp)
      simp only [List.mem_cons, List.not_mem_nil, or_false] at hf
      rcases hf with rfl | rfl | rfl
      · exact ⟨hX, hd.1⟩
      · exact ⟨.step hX (by rw [ha]; simp), hd.2.1⟩
      · exact ⟨.step hX (by rw [ha]; simp), hd.2.2⟩
    · have key : ∀ g, Rch plainL [X] g → g ∈ [X, V, N, C0, C1] := fun g hg => by
        induction hg with
        | base h => simp at h; simp [h]
        | step _ h ih =>
          simp only [List.mem_cons, List.not_mem_nil, or_false] at ih
          rcases ih with rfl | rfl | rfl | rfl | rfl
          · rw [ha] at h; simp at h; rcases h with h | h <;> simp [h]
          · rw [hb] at h; simp at h; rcases h with h | h <;> simp [h]
          · rw [hc] at h; simp at h; rcases h with h | h <;> simp [h]
          · rw [hk0] at h; cases h
          · rw [hk1] at h; cases h
      have := key f hr
      simp only [List.mem_cons, List.not_mem_nil, or_false] at this ⊢
      rcases this with h | h | h | rfl | rfl
      · exact .inl h
      · exact .inr (.inl h)
      · exact .inr (.inr h)
      · exact absurd hs0 hs
      · exact absurd hs1 hs
  exact hI.size.symm
theorem size_flat {ord : List Int} {C : Fun8} (hs : supF C = 0) : sizeF ord [C] = 0 := by
  have hI : IsNodes ord [C] [] := by
    refine ⟨List.nodup_nil, fun f => ⟨(fun h => by cases h), fun ⟨hr, h⟩ => ?_⟩⟩
    have key : ∀ g, Rch ord [C] g → g = C := fun g hg => by
      induction hg with
      | base h => simpa using h
      | step _ h ih => subst ih; rw [kids_flat hs] at h; cases h
    rw [key f hr] at h
    exact absurd hs h
  exact hI.size.symm
/-- Of functions that have just been laid. -/
theorem size_new {w : World} {l : List Fun8} {ord : List Int} (ho : ord.length = 8) (hl : l.length ≤ 1000) {k : Nat} (hk : k = l.length) : Quiet Try.prog 50 #[.slice (some ⟨w.heap.size, 0, none⟩) k k, aI ord] (w.alloc (.cells (rowsF l) 24)) (.int .i64 (sizeF ord l : Nat)) := by
  subst hk
  exact fun u hu => size_calls l ord ho hl _ _ u ((madeF (w := w.alloc (.cells (rowsF l) 24)) (alloc_new) hl).inp.ext hu)
theorem up3_calls (w : World) : CallsR Try.prog 45 #[] w fun r w' => r = .bool true ∧ Ext w w' := by
  have us := up3_s
  have ut := up3_t
  have c1 : Sure Try.prog 15 #[.int .i64 0] _ := var_calls 0
  have c2 : Sure Try.prog 15 #[.int .i64 1] _ := var_calls 1
  have c3 : Sure Try.prog 25 #[fv (varF 0), fv (varF 1)] _ := xor_calls _ _
  have c4 : Sure Try.prog 13 #[.bool true] _ := const_calls true
  have c5 : Sure Try.prog 46 #[] _ := plain_calls
  have ht : sizeF plainL [constF true] = 0 := size_flat sup_const
  generalize constF true = C1 at *
  generalize varF 0 = A at *
  generalize varF 1 = B at *
  generalize xorF A B = X at *
  have c6 : Sure Try.prog 48 #[fv X, .agg #[.int .i64 7, .int .i64 1, .int .i64 0, .int .i64 0, .int .i64 0, .int .i64 0, .int .i64 0, .int .i64 0]] _ := top_calls X [7, 1, 0, 0, 0, 0, 0, 0] rfl
  rw [ut] at c6
  refine en0 Try.func45 Try.results45 mixed [(1002, [2, 14])] ?_
  intro e0
  refine w_ fun d => ?_
  refine callQ (c1 _) fun w1 hE1 hs1 => ?_
  refine w_ fun d => ?_
  refine callQ (c2 _) fun w2 hE2 hs2 => ?_
  refine w_ fun d => ?_
  refine callQ (c3 _) fun w3 hE3 hs3 => ?_
  refine w_ fun d => ?_
  refine s_wide (xw_ ?_)
  refine dw_ ?_
  refine xf2A fun w5 hE5 hw5 => ?_
  have hs5 := sz_ hE5
  refine krA ?_
  refine kv ?_
  refine ⟨ext_, ?_⟩
  have c7 := size_new (w := w5) (l := [X]) (ord := plainL) rfl (by simp) (k := 1) rfl
  rw [us] at c7
  refine dw_ ?_
  refine xf2A fun w6 hE6 hw6 => ?_
  have hs6 := sz_ hw6
  refine krA ?_
  refine kv ?_
  refine ⟨ext_, ?_⟩
  have c8 := size_new (w := w6) (l := [C1]) (ord := plainL) rfl (by simp) (k := 1) rfl
  rw [ht] at c8
  refine dw_ ?_
  refine xf_nil fun w7 hE7 => ?_
  refine w_ fun d => ?_
  exact ⟨rfl, ext_⟩
/-- Of functions that were handed in. -/
theorem size_inp {w : World} {l : List Fun8} {ord : List Int} {a : Option Addr} {c : Nat} (hI : Inp w 4 a (l.map rowF)) (ho : ord.length = 8) (hl : l.length ≤ 1000) : Quiet Try.prog 50 #[.slice a l.length c, aI ord] w (.int .i64 (sizeF ord l : Nat)) :=
  fun u hu => size_calls l ord ho hl _ _ u (hI.ext hu)
theorem refSize_inp {w : World} {l : List Fun8} {ord : List Int} {a : Option Addr} {c : Nat} (hI : Inp w 4 a (l.map rowF)) (ho : ord.length = 8) (hl : l.length ≤ 1000) : Quiet Try.prog 51 #[.slice a l.length c, aI ord] w (.int .i64 (sizeF ord l : Nat)) :=
  fun u hu => refSize_calls l ord ho hl _ _ u (hI.ext hu)
theorem arr_neq {x y : Operand} {w : World} : binR Try.prog .neq 42 x y (aI plainL) (aI plainL) w = .ok (.bool false) w := by
  rw [aI, binR_neqA (by kernel_rfl) (equal_ints T42 T3 rfl rfl)]
  simp
theorem sizeTells_calls (l : List Fun8) (a : Option Addr) (c : Nat) (ord : List Int) (ho : ord.length = 8) (f : Fun8) (w : World) (hI : Inp w 4 a (l.map rowF)) (hl : l.length ≤ 9223372036854775807) :
    CallsR Try.prog 7 #[.slice a l.length c, aI ord, fv f] w fun r w' => r = .bool true ∧ Ext w w' := by
  obtain ⟨oc, hc⟩ := ordC ho
  have hsz := hc.size
  have hall := hc.all
  have c1 : Sure Try.prog 45 #[] _ := up3_calls
  have c2 : Sure Try.prog 46 #[] _ := plain_calls
  have c3 : Sure Try.prog 47 #[] _ := refPlain_calls
  have c4 : Sure Try.prog 48 #[fv f, aI ord] _ := top_calls f ord ho
  have c5 : Sure Try.prog 49 #[fv f, aI ord] _ := refTop_calls f ord ho
  have c6 := fun (w : World) (h : Inp w 4 a (l.map rowF)) (hl : l.length ≤ 20) => size_inp (c := c) h ho (by omega)
  have c7 := fun (w : World) (h : Inp w 4 a (l.map rowF)) (hl : l.length ≤ 20) => refSize_inp (c := c) h ho (by omega)
  have c8 := fun (w : World) (h : Inp w 4 a (l.map rowF)) (hl : l.length ≤ 20) => size_inp (c := c) (ord := plainL) h rfl (by omega)
  have c9 := fun (w : World) (h : Inp w 4 a (l.map rowF)) (hl : l.length ≤ 20) => refSize_inp (c := c) (ord := plainL) h rfl (by omega)
  generalize sizeF ord l = n1 at *
  generalize sizeF plainL l = n2 at *
  generalize topF ord f = t at *
  have hne := fun x y w => arr_neq (x := x) (y := y) (w := w)
  generalize aI plainL = pl at *
  rw [hc.agg] at c4 c5 c6 c7 ⊢
  refine en3 Try.func7 Try.results7 mixed [] ?_
  intro e0 h0 h1 h2
  refine w_ fun d => ?_
  refine callQ (c1 _) fun w1 hE1 hs1 => ?_
  by_cases h20 : l.length ≤ 20
  · refine w_ fun d => ?_
    intro w2 hE2 hs2
    have hI2 : Inp w2 4 a (l.map rowF) := hI.ext ext_
    have d6 := c6 w2 hI2 h20
    have d7 := c7 w2 hI2 h20
    have d8 := c8 w2 hI2 h20
    have d9 := c9 w2 hI2 h20
    refine w_ fun d => ?_
    intro w3 hE3 hs3
    refine w_ fun d => ?_
    exact ⟨rfl, ext_⟩
  · refine w_ fun d => ?_
    exact ⟨rfl, ext_⟩
end Go.Proofs.Ytghcmogbmaedfaa
