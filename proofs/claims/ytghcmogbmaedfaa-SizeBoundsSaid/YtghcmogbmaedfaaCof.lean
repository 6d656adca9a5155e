/- Walks of layer 2's functions: a variable set. -/
import Derived.Test.YtghcmogbmaedfaaTab
import Derived.Test.YtghcmogbmaedfaaCofP
namespace Go.Proofs.Ytghcmogbmaedfaa
open Go Go.Bx
set_option linter.unusedSimpArgs false
set_option linter.unusedVariables false
set_option maxRecDepth 100000
set_option maxHeartbeats 4000000
attribute [local irreducible] X XO XE XF XD XW thenX inX retX kN CallsR
theorem step_all : ∀ v : Nat, v < 8 → IntKind.i64.wrap (1 * 2 ^ min v IntKind.i64.bits) = ((2 ^ v : Nat) : Int) := by decide +kernel
theorem agg_list (f : Fun8) : fv f = .agg (([(word f 0).toNat, (word f 1).toNat, (word f 2).toNat, (word f 3).toNat].map fun n : Nat => (n : Int)).map (Value.int .u64)).toArray := rfl
theorem words_eq (f g : Fun8) : (([(word f 0).toNat, (word f 1).toNat, (word f 2).toNat, (word f 3).toNat].map fun n : Nat => (n : Int)) = ([(word g 0).toNat, (word g 1).toNat, (word g 2).toNat, (word g 3).toNat].map fun n : Nat => (n : Int))) ↔ f = g := by
  constructor
  · intro h
    simp only [List.map_cons, List.map_nil, List.cons.injEq, and_true] at h
    obtain ⟨h0, h1, h2, h3⟩ := h
    refine fn_words fun k hk => ?_
    match k, hk with
    | 0, _ => exact BitVec.eq_of_toNat_eq (by omega)
    | 1, _ => exact BitVec.eq_of_toNat_eq (by omega)
    | 2, _ => exact BitVec.eq_of_toNat_eq (by omega)
    | 3, _ => exact BitVec.eq_of_toNat_eq (by omega)
  · rintro rfl; rfl
theorem fun_eql {x y : Operand} {f g : Fun8} {w : World} : binR Try.prog .eql 24 x y (fv f) (fv g) w = .ok (.bool (decide (f = g))) w := by
  rw [agg_list, agg_list, binR_eqlA (by kernel_rfl) (equal_ints T24 T22 rfl rfl)]
  rw [decide_eq_decide.2 (words_eq f g)]
theorem fun_neq {x y : Operand} {f g : Fun8} {w : World} : binR Try.prog .neq 24 x y (fv f) (fv g) w = .ok (.bool (!decide (f = g))) w := by
  rw [agg_list, agg_list, binR_neqA (by kernel_rfl) (equal_ints T24 T22 rfl rfl)]
  rw [decide_eq_decide.2 (words_eq f g)]
attribute [push_cast] fun_eql fun_neq
theorem fv_cof {f : Fun8} {v : Int} {b : Bool} {a c d g : BitVec 64} (h : ∀ k : Nat, k < 4 → (if k = 0 then a else if k = 1 then c else if k = 2 then d else g) = word (cofF f v b) k) : Value.agg #[vU a, vU c, vU d, vU g] = fv (cofF f v b) :=
  fv_of4 (h 0 (by decide)) (h 1 (by decide)) (h 2 (by decide)) (h 3 (by decide))
theorem cof_calls (f : Fun8) (v : Int) (b : Bool) (w : World) : CallsR Try.prog 31 #[fv f, .int .i64 v, .bool b] w fun r w' => r = fv (cofF f v b) ∧ Ext w w' := by
  refine en3 Try.func31 Try.results31 mixed [(1015, [1])] ?_
  intro e0 h0 h1 h2
  by_cases hv : ¬ (0 ≤ v ∧ v < 8)
  · have ho := cofF_out (f := f) (b := b) hv
    by_cases h0v : v < 0
    · refine w_ fun d => ?_
      exact ⟨by rw [ho], ext_⟩
    · have : 8 ≤ v := by omega
      refine w_ fun d => ?_
      exact ⟨by rw [ho], ext_⟩
  obtain ⟨h0v, h8v⟩ := Classical.not_not.1 hv
  clear hv
  obtain ⟨n, rfl⟩ := Int.eq_ofNat_of_zero_le h0v
  have n8 : n < 8 := by omega
  by_cases hn6 : n < 6
  · have hst := step_all n n8
    have hV : ∀ k, k < 4 → word (varF n) k = lowW n := fun k hk => by rw [← word_varF hk, varW, if_pos (by omega)]; rfl
    have hvar := var_calls (n : Int)
    generalize varF (n : Int) = V at hV hvar
    obtain ⟨V0, V1, V2, V3⟩ := (⟨hV 0 (by decide), hV 1 (by decide), hV 2 (by decide), hV 3 (by decide)⟩ : _ ∧ _ ∧ _ ∧ _)
    have h64 : 2 ^ n ≤ 64 := (by decide : ∀ n : Nat, n < 6 → 2 ^ n ≤ 64) n hn6
    have wt : ∀ k, k < 4 → _ := fun k hk => word_cof_t (f := f) hn6 hk
    have wf : ∀ k, k < 4 → _ := fun k hk => word_cof_f (f := f) hn6 hk
    obtain ⟨S, ⟨hS⟩⟩ : ∃ S : Nat, Box (2 ^ n = S) := ⟨_, ⟨rfl⟩⟩
    rw [hS] at hst h64
    simp only [hS] at wt wf
    have c1 : Sure Try.prog 15 #[.int .i64 n] (fv V) := hvar
    refine w_ fun d => ?_
    refine s_wide (xw_ ?_)
    refine xf0A ?_
    refine xf3qA ?_
    refine xf0A ?_
    refine xf0A ?_
    refine xf2A fun w2 hE2 hw2 => ?_
    have hs2 := hE2.size
    simp only [alloc_size] at hs2
    refine krA ?_
    refine kv ?_
    refine ⟨ext_, ?_⟩
    refine xf2A fun w3 hE3 hw3 => ?_
    have hs3 := hw3.size
    simp only [alloc_size] at hs3
    refine krA ?_
    refine ks ?_
    refine ⟨ext_, ?_⟩
    refine xf0A ?_
    refine xf_nil fun w4 hw4 => ?_
    have hs4 := hw4.size
    simp only [upd_size] at hs4
    refine w_ fun d => ?_
    refine un_ 5 ?_
    cases b
    · refine w_ fun d => ?_
      exact ⟨rfl, ext_⟩
    · refine w_ fun d => ?_
      exact ⟨rfl, ext_⟩
  · obtain ⟨m, rfl⟩ : ∃ m, n = m + 6 := ⟨n - 6, by omega⟩
    have hw : ∀ k, k < 4 → word f (setB k m b) = word (cofF f (m + 6 : Nat) b) k := fun k hk => word_cof_h (by omega) hk
    have e0 : bits .andNot .i64 0 1 = 0 ∧ bits .andNot .i64 1 1 = 0 ∧ bits .andNot .i64 2 1 = 2 ∧ bits .andNot .i64 3 1 = 2 ∧ bits .andNot .i64 0 2 = 0 ∧ bits .andNot .i64 1 2 = 1 ∧ bits .andNot .i64 2 2 = 0 ∧ bits .andNot .i64 3 2 = 1 := by decide +kernel
    have e1 : bits .or .i64 0 1 = 1 ∧ bits .or .i64 1 1 = 1 ∧ bits .or .i64 2 1 = 3 ∧ bits .or .i64 3 1 = 3 ∧ bits .or .i64 0 2 = 2 ∧ bits .or .i64 1 2 = 3 ∧ bits .or .i64 2 2 = 2 ∧ bits .or .i64 3 2 = 3 := by decide +kernel
    have e2 : IntKind.i64.wrap (1 * 2 ^ min 0 IntKind.i64.bits) = 1 ∧ IntKind.i64.wrap (1 * 2 ^ min 1 IntKind.i64.bits) = 2 := by decide +kernel
    have hm : m = 0 ∨ m = 1 := by omega
    rcases hm with rfl | rfl <;> cases b
    · refine w_ fun d => ?_
      refine un_ 5 ?_
      refine w_ fun d => ?_
      exact ⟨fv_of4 (hw 0 (by decide)) (hw 1 (by decide)) (hw 2 (by decide)) (hw 3 (by decide)), ext_⟩
    · refine w_ fun d => ?_
      refine un_ 5 ?_
      refine w_ fun d => ?_
      exact ⟨fv_of4 (hw 0 (by decide)) (hw 1 (by decide)) (hw 2 (by decide)) (hw 3 (by decide)), ext_⟩
    · refine w_ fun d => ?_
      refine un_ 5 ?_
      refine w_ fun d => ?_
      exact ⟨fv_of4 (hw 0 (by decide)) (hw 1 (by decide)) (hw 2 (by decide)) (hw 3 (by decide)), ext_⟩
    · refine w_ fun d => ?_
      refine un_ 5 ?_
      refine w_ fun d => ?_
      exact ⟨fv_of4 (hw 0 (by decide)) (hw 1 (by decide)) (hw 2 (by decide)) (hw 3 (by decide)), ext_⟩
theorem depends_calls (f : Fun8) (v : Int) (w : World) : CallsR Try.prog 33 #[fv f, .int .i64 v] w fun r w' => r = .bool (depF f v) ∧ Ext w w' := by
  have c1 : Sure Try.prog 31 #[fv f, .int .i64 v, .bool false] _ := cof_calls f v false
  have c2 : Sure Try.prog 31 #[fv f, .int .i64 v, .bool true] _ := cof_calls f v true
  refine en2 Try.func33 Try.results33 mixed [] ?_
  intro e0 h0 h1
  refine w_ fun d => ?_
  intro w1 hE hs
  refine w_ fun d => ?_
  exact ⟨by rw [depF_def], ext_⟩
theorem or_pow : ∀ k : Nat, k < 8 → ∀ s : Nat, s < 2 ^ k → bits .or .i64 (s : Int) ((2 ^ k : Nat) : Int) = ((s + 2 ^ k : Nat) : Int) := by decide +kernel
theorem support_calls (f : Fun8) (w : World) : CallsR Try.prog 35 #[fv f] w fun r w' => r = .int .i64 (supF f : Nat) ∧ Ext w w' := by
  refine en1 Try.func35 Try.results35 mixed [] ?_
  intro e0 h0
  refine w_ fun d => ?_
  refine lo_ (fun W e w' => ∃ k s : Nat, k ≤ 8 ∧ e 5 = .int .i64 k ∧ e 3 = .int .i64 s ∧ Box (s = supTo f k) ∧ Ext W w') (fun e _ => 8 - nat (e 5)) ?_ ?_
  · exact ⟨0, 0, by omega, eA rfl, eA rfl, ⟨rfl⟩, ext_⟩
  rintro e w1 hf ⟨k, s, hk, h5, h3, ⟨hs⟩, hE⟩
  have hlt' := supTo_lt f k
  rw [← hs] at hlt'
  by_cases hlt : k < 8
  · have hst := step_all k hlt
    have hor := or_pow k hlt s hlt'
    have hp : 2 ^ k ≤ 128 := (by decide : ∀ k : Nat, k < 8 → 2 ^ k ≤ 128) k hlt
    have hsu : supTo f (k + 1) = supTo f k + if depF f k then 2 ^ k else 0 := rfl
    rw [← hs] at hsu
    obtain ⟨p, ⟨hpk⟩⟩ : ∃ p : Nat, Box (2 ^ k = p) := ⟨_, ⟨rfl⟩⟩
    rw [hpk] at hst hor hsu hp
    clear hs hpk
    refine w_ fun d => ?_
    refine callQ (depends_calls f k _) fun w2 hE2 hs2 => ?_
    cases hd : depF f k
    · refine w_ fun d => ?_
      rw [hd] at hsu
      exact ⟨⟨k + 1, s, by omega, eA rfl, eA rfl, ⟨hsu.symm⟩, ext_⟩, mA⟩
    · refine w_ fun d => ?_
      rw [hd] at hsu
      exact ⟨⟨k + 1, s + p, by omega, eA rfl, eA rfl, ⟨hsu.symm⟩, ext_⟩, mA⟩
  · obtain rfl : k = 8 := by omega
    refine w_ fun d => ?_
    exact ⟨by rw [supF_def], ext_⟩
theorem exists_calls (f : Fun8) (v : Int) (w : World) : CallsR Try.prog 39 #[fv f, .int .i64 v] w fun r w' => r = fv (orF (cofF f v false) (cofF f v true)) ∧ Ext w w' := by
  have c1 : Sure Try.prog 31 #[fv f, .int .i64 v, .bool false] _ := cof_calls f v false
  have c2 : Sure Try.prog 31 #[fv f, .int .i64 v, .bool true] _ := cof_calls f v true
  have c3 : Sure Try.prog 23 #[fv (cofF f v false), fv (cofF f v true)] _ := or_calls _ _
  refine en2 Try.func39 Try.results39 mixed [] ?_
  intro e0 h0 h1
  refine w_ fun d => ?_
  intro w1 hE hs
  refine w_ fun d => ?_
  exact ⟨rfl, ext_⟩
theorem forall_calls (f : Fun8) (v : Int) (w : World) : CallsR Try.prog 41 #[fv f, .int .i64 v] w fun r w' => r = fv (andF (cofF f v false) (cofF f v true)) ∧ Ext w w' := by
  have c1 : Sure Try.prog 31 #[fv f, .int .i64 v, .bool false] _ := cof_calls f v false
  have c2 : Sure Try.prog 31 #[fv f, .int .i64 v, .bool true] _ := cof_calls f v true
  have c3 : Sure Try.prog 21 #[fv (cofF f v false), fv (cofF f v true)] _ := and_calls _ _
  refine en2 Try.func41 Try.results41 mixed [] ?_
  intro e0 h0 h1
  refine w_ fun d => ?_
  intro w1 hE hs
  refine w_ fun d => ?_
  exact ⟨rfl, ext_⟩
theorem compose_calls (f : Fun8) (v : Int) (g : Fun8) (w : World) : CallsR Try.prog 43 #[fv f, .int .i64 v, fv g] w fun r w' => r = fv (iteF g (cofF f v true) (cofF f v false)) ∧ Ext w w' := by
  have c1 : Sure Try.prog 31 #[fv f, .int .i64 v, .bool false] _ := cof_calls f v false
  have c2 : Sure Try.prog 31 #[fv f, .int .i64 v, .bool true] _ := cof_calls f v true
  have c3 : Sure Try.prog 27 #[fv g, fv (cofF f v true), fv (cofF f v false)] _ := ite_calls _ _ _
  refine en3 Try.func43 Try.results43 mixed [] ?_
  intro e0 h0 h1 h2
  refine w_ fun d => ?_
  intro w1 hE hs
  refine w_ fun d => ?_
  exact ⟨rfl, ext_⟩
end Go.Proofs.Ytghcmogbmaedfaa
