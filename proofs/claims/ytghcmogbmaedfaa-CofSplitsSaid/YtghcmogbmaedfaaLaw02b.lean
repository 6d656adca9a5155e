/- Layer 2's second law, walked. -/
import Derived.Test.YtghcmogbmaedfaaLaw02
import Derived.Test.YtghcmogbmaedfaaCofP2
namespace Go.Proofs.Ytghcmogbmaedfaa
open Go Go.Bx
set_option linter.unusedSimpArgs false
set_option linter.unusedVariables false
set_option maxRecDepth 100000
set_option maxHeartbeats 4000000
attribute [local irreducible] X XO XE XF XD XW thenX inX retX kN CallsR
theorem cofSplits_calls (f : Fun8) (v u : Int) (b c : Bool) (w : World) : CallsR Try.prog 6 #[fv f, .int .i64 v, .int .i64 u, .bool b, .bool c] w fun r w' => r = .bool true ∧ Ext w w' := by
  have c0 : Sure Try.prog 30 #[] _ := up2_calls
  have c1 : Sure Try.prog 31 #[fv f, .int .i64 v, .bool true] _ := cof_calls f v true
  have c2 : Sure Try.prog 31 #[fv f, .int .i64 v, .bool false] _ := cof_calls f v false
  have c3 : Sure Try.prog 31 #[fv f, .int .i64 v, .bool b] _ := cof_calls f v b
  have c4 : Sure Try.prog 33 #[fv (cofF f v b), .int .i64 v] (.bool false) := by rw [← dep_cof (f := f) (v := v) (b := b)]; exact depends_calls _ v
  have c5 : Sure Try.prog 15 #[.int .i64 v] _ := var_calls v
  have c6 : Sure Try.prog 27 #[fv (varF v), fv (cofF f v true), fv (cofF f v false)] (fv f) := by
    have := ite_calls (varF v) (cofF f v true) (cofF f v false); rwa [ite_cof] at this
  have c7 : Sure Try.prog 43 #[fv f, .int .i64 v, fv (varF v)] (fv f) := by
    have := compose_calls f v (varF v); rwa [ite_cof] at this
  have c8 : Sure Try.prog 13 #[.bool b] _ := const_calls b
  have c9 : Sure Try.prog 43 #[fv f, .int .i64 v, fv (constF b)] (fv (cofF f v b)) := by
    have := compose_calls f v (constF b); rwa [comp_const] at this
  have c10 : Sure Try.prog 41 #[fv f, .int .i64 v] _ := forall_calls f v
  have c11 : Sure Try.prog 39 #[fv f, .int .i64 v] _ := exists_calls f v
  have c12 : Sure Try.prog 19 #[fv (orF (cofF f v false) (cofF f v true))] _ := not_calls _
  have c13 : Sure Try.prog 21 #[fv (andF (cofF f v false) (cofF f v true)), fv (notF (orF (cofF f v false) (cofF f v true)))] (fv (constF false)) := by
    have := and_calls (andF (cofF f v false) (cofF f v true)) (notF (orF (cofF f v false) (cofF f v true))); rwa [and_not_or] at this
  have c14 : Sure Try.prog 13 #[.bool false] _ := const_calls false
  have c15 : Sure Try.prog 37 #[fv f] _ := count_calls f
  have c16 : Sure Try.prog 37 #[fv (cofF f v true)] _ := count_calls _
  have c17 : Sure Try.prog 37 #[fv (cofF f v false)] _ := count_calls _
  have c18 : Sure Try.prog 31 #[fv f, .int .i64 u, .bool c] _ := cof_calls f u c
  have c19 : Sure Try.prog 31 #[fv (cofF f v b), .int .i64 u, .bool c] _ := cof_calls _ u c
  have c20 : Sure Try.prog 31 #[fv (cofF f u c), .int .i64 v, .bool b] _ := cof_calls _ v b
  have hcomm := fun h : v ≠ u => cof_comm (f := f) (b := b) (c := c) h
  have hcount := count_le (f := f)
  have hcount5 := count_le (f := cofF f v true)
  have hcount6 := count_le (f := cofF f v false)
  have hsplit := fun h => count_split (f := f) (v := v) h
  generalize orF (cofF f v false) (cofF f v true) = X1 at *
  generalize andF (cofF f v false) (cofF f v true) = X2 at *
  generalize cofF (cofF f v b) u c = X3 at *
  generalize cofF (cofF f u c) v b = X4 at *
  generalize cofF f v true = X5 at *
  generalize cofF f v false = X6 at *
  generalize cofF f v b = X7 at *
  generalize cofF f u c = X8 at *
  generalize varF v = X9 at *
  generalize constF b = X10 at *
  generalize constF false = X11 at *
  generalize notF X1 = X12 at *
  generalize countF f = n at *
  generalize countF X5 = n5 at *
  generalize countF X6 = n6 at *
  have hn5 : n5 ≤ 256 := hcount5
  have hn6 : n6 ≤ 256 := hcount6
  clear hcount5 hcount6
  by_cases hv : 0 ≤ v ∧ v < 8
  · have hs := hsplit hv
    clear hsplit
    by_cases hvu : v = u
    · subst hvu
      clear hcomm
      refine en5 Try.func6 Try.results6 mixed [] ?_
      intro e0 h0 h1 h2 h3 h4
      refine w_ fun d => ?_
      refine callQ (c0 _) fun w1 hE1 hs1 => ?_
      refine w_ fun d => ?_
      refine callQ (c1 _) fun w2 hE2 hs2 => ?_
      refine w_ fun d => ?_
      refine callQ (c2 _) fun w3 hE3 hs3 => ?_
      refine w_ fun d => ?_
      intro w4 hE4 hs4
      refine w_ fun d => ?_
      intro w5 hE5 hs5
      refine w_ fun d => ?_
      intro w6 hE6 hs6
      refine w_ fun d => ?_
      exact ⟨rfl, ext_⟩
    · have hX := hcomm hvu
      clear hcomm
      subst hX
      refine en5 Try.func6 Try.results6 mixed [] ?_
      intro e0 h0 h1 h2 h3 h4
      refine w_ fun d => ?_
      refine callQ (c0 _) fun w1 hE1 hs1 => ?_
      refine w_ fun d => ?_
      refine callQ (c1 _) fun w2 hE2 hs2 => ?_
      refine w_ fun d => ?_
      refine callQ (c2 _) fun w3 hE3 hs3 => ?_
      refine w_ fun d => ?_
      intro w4 hE4 hs4
      refine w_ fun d => ?_
      intro w5 hE5 hs5
      refine w_ fun d => ?_
      intro w6 hE6 hs6
      refine w_ fun d => ?_
      intro w7 hE7 hs7
      refine w_ fun d => ?_
      exact ⟨rfl, ext_⟩
  · clear hsplit
    by_cases hvu : v = u
    · subst hvu
      clear hcomm
      refine en5 Try.func6 Try.results6 mixed [] ?_
      intro e0 h0 h1 h2 h3 h4
      refine w_ fun d => ?_
      refine callQ (c0 _) fun w1 hE1 hs1 => ?_
      refine w_ fun d => ?_
      refine callQ (c1 _) fun w2 hE2 hs2 => ?_
      refine w_ fun d => ?_
      refine callQ (c2 _) fun w3 hE3 hs3 => ?_
      by_cases h0' : 0 ≤ v
      · refine w_ fun d => ?_
        intro w4 hE4 hs4
        refine w_ fun d => ?_
        intro w5 hE5 hs5
        refine w_ fun d => ?_
        exact ⟨rfl, ext_⟩
      · refine w_ fun d => ?_
        intro w4 hE4 hs4
        refine w_ fun d => ?_
        intro w5 hE5 hs5
        refine w_ fun d => ?_
        exact ⟨rfl, ext_⟩
    · have hX := hcomm hvu
      clear hcomm
      subst hX
      refine en5 Try.func6 Try.results6 mixed [] ?_
      intro e0 h0 h1 h2 h3 h4
      refine w_ fun d => ?_
      refine callQ (c0 _) fun w1 hE1 hs1 => ?_
      refine w_ fun d => ?_
      refine callQ (c1 _) fun w2 hE2 hs2 => ?_
      refine w_ fun d => ?_
      refine callQ (c2 _) fun w3 hE3 hs3 => ?_
      by_cases h0' : 0 ≤ v
      · refine w_ fun d => ?_
        intro w4 hE4 hs4
        refine w_ fun d => ?_
        intro w5 hE5 hs5
        refine w_ fun d => ?_
        intro w6 hE6 hs6
        refine w_ fun d => ?_
        exact ⟨rfl, ext_⟩
      · refine w_ fun d => ?_
        intro w4 hE4 hs4
        refine w_ fun d => ?_
        intro w5 hE5 hs5
        refine w_ fun d => ?_
        intro w6 hE6 hs6
        refine w_ fun d => ?_
        exact ⟨rfl, ext_⟩
end Go.Proofs.Ytghcmogbmaedfaa
