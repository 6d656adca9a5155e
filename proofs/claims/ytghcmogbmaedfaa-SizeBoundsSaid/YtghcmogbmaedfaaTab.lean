/- Walks of layer 1's functions. -/
import Derived.Test.YtghcmogbmaedfaaTy
import Derived.Test.YtghcmogbmaedfaaTabP
namespace Go.Proofs.Ytghcmogbmaedfaa
open Go Go.Bx
set_option linter.unusedSimpArgs false
set_option linter.unusedVariables false
set_option maxRecDepth 100000
set_option maxHeartbeats 4000000
attribute [local irreducible] X XO XE XF XD XW thenX inX retX kN CallsR
theorem not_calls (f : Fun8) (w : World) : CallsR Try.prog 19 #[fv f] w fun r w' => r = fv (notF f) ∧ Ext w w' := by
  refine en1 Try.func19 Try.results19 mixed [] ?_
  intro e0 h0
  refine w_ fun d => ?_
  refine un_ 5 ?_
  refine w_ fun d => ?_
  exact ⟨fv_of4 (word_notF (by decide)) (word_notF (by decide)) (word_notF (by decide)) (word_notF (by decide)), ext_⟩
theorem and_calls (f g : Fun8) (w : World) : CallsR Try.prog 21 #[fv f, fv g] w fun r w' => r = fv (andF f g) ∧ Ext w w' := by
  refine en2 Try.func21 Try.results21 mixed [] ?_
  intro e0 h0 h1
  refine w_ fun d => ?_
  refine un_ 5 ?_
  refine w_ fun d => ?_
  exact ⟨fv_of4 word_andF word_andF word_andF word_andF, ext_⟩
theorem or_calls (f g : Fun8) (w : World) : CallsR Try.prog 23 #[fv f, fv g] w fun r w' => r = fv (orF f g) ∧ Ext w w' := by
  refine en2 Try.func23 Try.results23 mixed [] ?_
  intro e0 h0 h1
  refine w_ fun d => ?_
  refine un_ 5 ?_
  refine w_ fun d => ?_
  exact ⟨fv_of4 word_orF word_orF word_orF word_orF, ext_⟩
theorem xor_calls (f g : Fun8) (w : World) : CallsR Try.prog 25 #[fv f, fv g] w fun r w' => r = fv (xorF f g) ∧ Ext w w' := by
  refine en2 Try.func25 Try.results25 mixed [] ?_
  intro e0 h0 h1
  refine w_ fun d => ?_
  refine un_ 5 ?_
  refine w_ fun d => ?_
  exact ⟨fv_of4 word_xorF word_xorF word_xorF word_xorF, ext_⟩
theorem ite_calls (f g h : Fun8) (w : World) : CallsR Try.prog 27 #[fv f, fv g, fv h] w fun r w' => r = fv (iteF f g h) ∧ Ext w w' := by
  refine en3 Try.func27 Try.results27 mixed [] ?_
  intro e0 h0 h1 h2
  refine w_ fun d => ?_
  refine un_ 5 ?_
  refine w_ fun d => ?_
  exact ⟨fv_of4 (word_iteF (by decide)) (word_iteF (by decide)) (word_iteF (by decide)) (word_iteF (by decide)), ext_⟩
theorem const_calls (b : Bool) (w : World) : CallsR Try.prog 13 #[.bool b] w fun r w' => r = fv (constF b) ∧ Ext w w' := by
  obtain ⟨Z, hZ⟩ : ∃ Z, constF false = Z := ⟨_, rfl⟩
  have z := zero_fv
  rw [hZ] at z
  refine en1 Try.func13 Try.results13 mixed [] ?_
  intro e0 h0
  cases b
  · refine w_ fun d => ?_
    exact ⟨by rw [hZ], ext_⟩
  · refine w_ fun d => ?_
    refine callQ (not_calls Z _) fun w1 hE hs => ?_
    refine w_ fun d => ?_
    exact ⟨by rw [← hZ, notF_const], ext_⟩
theorem low_get : ∀ v : Nat, v < 6 → (#[.int .u64 12297829382473034410, .int .u64 14757395258967641292, .int .u64 17361641481138401520, .int .u64 18374966859414961920, .int .u64 18446462603027742720, .int .u64 18446744069414584320] : Array Value)[v]? = some (vU (lowW v)) := by
  intro v hv
  match v, hv with
  | 0, _ => rfl
  | 1, _ => rfl
  | 2, _ => rfl
  | 3, _ => rfl
  | 4, _ => rfl
  | 5, _ => rfl
theorem low_calls (v : Nat) (hv : v < 6) (w : World) : CallsR Try.prog 66 #[.int .i64 v] w fun r w' => r = vU (lowW v) ∧ Ext w w' := by
  have hg := low_get v hv
  refine en1 Try.func66 Try.results66 mixed [] ?_
  intro e0 h0
  refine w_ fun d => ?_
  exact ⟨rfl, Ext.refl w⟩
theorem var67 : ∀ v : Int, (v = 6 ∨ v = 7) → ∀ k : Nat, k < 4 → Value.int .u64 (IntKind.u64.wrap (0 - bits .and .u64 ((k : Int).fdiv (2 ^ min (v - 6).toNat IntKind.u64.bits)) 1)) = vU (varW v k) := by
  rintro v (rfl | rfl) k hk
  · match k, hk with
    | 0, _ => rfl
    | 1, _ => rfl
    | 2, _ => rfl
    | 3, _ => rfl
  · match k, hk with
    | 0, _ => rfl
    | 1, _ => rfl
    | 2, _ => rfl
    | 3, _ => rfl
theorem var_calls (v : Int) (w : World) : CallsR Try.prog 15 #[.int .i64 v] w fun r w' => r = fv (varF v) ∧ Ext w w' := by
  refine en1 Try.func15 Try.results15 mixed [] ?_
  intro e0 h0
  by_cases hv : 0 ≤ v ∧ v < 6
  · obtain ⟨n, rfl⟩ := Int.eq_ofNat_of_zero_le hv.1
    have hn : n < 6 := by omega
    have e : ∀ k, lowW n = varW (n : Int) k := fun k => by rw [varW, if_pos hv]; rfl
    refine w_ fun d => ?_
    refine un_ 5 ?_
    refine w_ fun d => ?_
    refine callQ (low_calls n hn _) fun w1 hE hs => ?_
    refine w_ fun d => ?_
    refine callQ (low_calls n hn _) fun w2 hE hs => ?_
    refine w_ fun d => ?_
    refine callQ (low_calls n hn _) fun w3 hE hs => ?_
    refine w_ fun d => ?_
    refine callQ (low_calls n hn _) fun w4 hE hs => ?_
    refine w_ fun d => ?_
    exact ⟨fv_of4 ((e 0).trans (word_varF (by decide))) ((e 1).trans (word_varF (by decide))) ((e 2).trans (word_varF (by decide))) ((e 3).trans (word_varF (by decide))), ext_⟩
  · by_cases h67 : v = 6 ∨ v = 7
    · have f4 : ∀ a b c d : Value, a = vU (varW v 0) → b = vU (varW v 1) → c = vU (varW v 2) → d = vU (varW v 3) → Value.agg #[a, b, c, d] = fv (varF v) := by
        rintro _ _ _ _ rfl rfl rfl rfl
        exact fv_of4 (word_varF (by decide)) (word_varF (by decide)) (word_varF (by decide)) (word_varF (by decide))
      rcases h67 with rfl | rfl
      · refine w_ fun d => ?_
        refine un_ 5 ?_
        refine w_ fun d => ?_
        exact ⟨rfl, ext_⟩
      · refine w_ fun d => ?_
        refine un_ 5 ?_
        refine w_ fun d => ?_
        exact ⟨rfl, ext_⟩
    · have h6 : v ≠ 6 := fun h => h67 (.inl h)
      have h7 : v ≠ 7 := fun h => h67 (.inr h)
      have ho : varF v = constF false := varF_out (by omega)
      by_cases h0' : 0 ≤ v
      · have h1' : ¬ v < 6 := by omega
        refine w_ fun d => ?_
        refine un_ 5 ?_
        refine w_ fun d => ?_
        exact ⟨by rw [ho]; first | done | exact zero_fv, ext_⟩
      · refine w_ fun d => ?_
        refine un_ 5 ?_
        refine w_ fun d => ?_
        exact ⟨by rw [ho]; first | done | exact zero_fv, ext_⟩
theorem at_calls (f : Fun8) (x : Int) (w : World) : CallsR Try.prog 17 #[fv f, .int .i64 x] w fun r w' => r = .bool (atF f x) ∧ Ext w w' := by
  refine en2 Try.func17 Try.results17 mixed [] ?_
  intro e0 h0 h1
  by_cases hx : 0 ≤ x ∧ x < 256
  · obtain ⟨n, rfl⟩ := Int.eq_ofNat_of_zero_le hx.1
    have hn : n < 256 := by omega
    have hn4 : n / 64 < 4 := by omega
    have e1 := wd4_get (f := f) hn4
    have e2 := shr6 (n := n)
    have e3 := and63 hn
    refine w_ fun d => ?_
    refine ⟨?_, ext_⟩
    rw [atF_nat _ _ hn, bit_word f n]
  · have ho := atF_out hx f
    by_cases h0' : 0 ≤ x
    · refine w_ fun d => ?_
      exact ⟨by rw [ho], ext_⟩
    · refine w_ fun d => ?_
      exact ⟨by rw [ho], ext_⟩
end Go.Proofs.Ytghcmogbmaedfaa
