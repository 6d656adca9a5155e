/- Layer 2's laws, walked. -/
import Derived.Test.YtghcmogbmaedfaaRef02
import Derived.Test.YtghcmogbmaedfaaOnes
namespace Go.Proofs.Ytghcmogbmaedfaa
open Go Go.Bx
set_option linter.unusedSimpArgs false
set_option linter.unusedVariables false
set_option maxRecDepth 100000
set_option maxHeartbeats 4000000
attribute [local irreducible] X XO XE XF XD XW thenX inX retX kN
theorem up2_a : orF (cofF (andF (varF 0) (varF 1)) 0 false) (cofF (andF (varF 0) (varF 1)) 0 true) = varF 1 := by decide +kernel
theorem up2_b : supF (andF (varF 0) (varF 1)) = 3 := by decide +kernel
theorem up2_c : countF (andF (varF 0) (varF 1)) = 64 := by decide +kernel
theorem up2_d : depF (andF (varF 0) (varF 1)) 1 = true := by decide +kernel
theorem up2_e : depF (andF (varF 0) (varF 1)) 2 = false := by decide +kernel
theorem up2_calls (w : World) : CallsR Try.prog 30 #[] w fun r w' => r = .bool true ∧ Ext w w' := by
  have ua := up2_a
  have ub := up2_b
  have uc := up2_c
  have ud := up2_d
  have ue := up2_e
  have c1 : Sure Try.prog 15 #[.int .i64 0] _ := var_calls 0
  have c2 : Sure Try.prog 15 #[.int .i64 1] _ := var_calls 1
  have c3 : Sure Try.prog 21 #[fv (varF 0), fv (varF 1)] _ := and_calls _ _
  generalize varF 0 = A at *
  generalize varF 1 = B at *
  generalize andF A B = X at *
  have c4 : Sure Try.prog 39 #[fv X, .int .i64 0] _ := exists_calls X 0
  have c5 : Sure Try.prog 35 #[fv X] _ := support_calls X
  have c6 : Sure Try.prog 37 #[fv X] _ := count_calls X
  have c7 : Sure Try.prog 33 #[fv X, .int .i64 1] _ := depends_calls X 1
  have c8 : Sure Try.prog 33 #[fv X, .int .i64 2] _ := depends_calls X 2
  rw [ua] at c4; rw [ub] at c5; rw [uc] at c6; rw [ud] at c7; rw [ue] at c8
  clear ua ub uc ud ue
  refine en0 Try.func30 Try.results30 mixed [] ?_
  intro e0
  refine w_ fun d => ?_
  refine callQ (c1 _) fun w1 hE1 hs1 => ?_
  refine w_ fun d => ?_
  refine callQ (c2 _) fun w2 hE2 hs2 => ?_
  refine w_ fun d => ?_
  refine callQ (c3 _) fun w3 hE3 hs3 => ?_
  refine xoA ?_
  refine kv ?_
  refine xoA ?_
  refine ks ?_
  refine xo_nil ?_
  refine q_ fun w4 hE4 hs4 => ?_
  refine w_ fun d => ?_
  exact ⟨rfl, ext_⟩
theorem cofTells_calls (f g : Fun8) (v : Int) (b : Bool) (w : World) : CallsR Try.prog 5 #[fv f, fv g, .int .i64 v, .bool b] w fun r w' => r = .bool true ∧ Ext w w' := by
  have c0 : Sure Try.prog 30 #[] _ := up2_calls
  have c1 : Sure Try.prog 31 #[fv f, .int .i64 v, .bool b] _ := cof_calls f v b
  have d1 : Sure Try.prog 32 #[fv f, .int .i64 v, .bool b] _ := refCof_calls f v b
  have c2 : Sure Try.prog 33 #[fv f, .int .i64 v] _ := depends_calls f v
  have d2 : Sure Try.prog 34 #[fv f, .int .i64 v] _ := refDepends_calls f v
  have c3 : Sure Try.prog 35 #[fv f] _ := support_calls f
  have d3 : Sure Try.prog 36 #[fv f] _ := refSupport_calls f
  have c4 : Sure Try.prog 37 #[fv f] _ := count_calls f
  have d4 : Sure Try.prog 38 #[fv f] _ := refCount_calls f
  have c5 : Sure Try.prog 39 #[fv f, .int .i64 v] _ := exists_calls f v
  have d5 : Sure Try.prog 40 #[fv f, .int .i64 v] _ := refExists_calls f v
  have c6 : Sure Try.prog 41 #[fv f, .int .i64 v] _ := forall_calls f v
  have d6 : Sure Try.prog 42 #[fv f, .int .i64 v] _ := refForall_calls f v
  have c7 : Sure Try.prog 43 #[fv f, .int .i64 v, fv g] _ := compose_calls f v g
  have d7 : Sure Try.prog 44 #[fv f, .int .i64 v, fv g] _ := refCompose_calls f v g
  generalize cofF f v b = X1 at *
  generalize orF (cofF f v false) (cofF f v true) = X2 at *
  generalize andF (cofF f v false) (cofF f v true) = X3 at *
  generalize iteF g (cofF f v true) (cofF f v false) = X4 at *
  generalize depF f v = y1 at *
  generalize supF f = y2 at *
  generalize countF f = y3 at *
  refine en4 Try.func5 Try.results5 mixed [] ?_
  intro e0 h0 h1 h2 h3
  refine w_ fun d => ?_
  refine callQ (c0 _) fun w1 hE1 hs1 => ?_
  refine w_ fun d => ?_
  intro w2 hE2 hs2
  refine w_ fun d => ?_
  intro w3 hE3 hs3
  refine w_ fun d => ?_
  exact ⟨rfl, ext_⟩
end Go.Proofs.Ytghcmogbmaedfaa
