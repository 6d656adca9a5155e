/- Walks of the reference of layers 1 to 3: rows, constants, variables, and what is made of functions. -/
import Derived.Test.YtghcmogbmaedfaaTab
namespace Go.Proofs.Ytghcmogbmaedfaa
open Go Go.Bx
set_option linter.unusedSimpArgs false
set_option linter.unusedVariables false
set_option maxRecDepth 100000
set_option maxHeartbeats 4000000
attribute [local irreducible] X XO XE XF XD XW thenX inX retX kN CallsR
theorem half_bit (x v : Nat) : (x / 2 ^ v % 2 == 1) = x.testBit v := by
  rw [Nat.testBit_eq_decide_div_mod_eq]
  cases h : decide (x / 2 ^ v % 2 = 1) <;> simpa using h
theorem bit_tmod (x v : Nat) : (((x : Int) / 2 ^ v).tmod 2 == 1) = x.testBit v := by
  have e : (x : Int) / 2 ^ v = ((x / 2 ^ v : Nat) : Int) := by rw [Int.natCast_ediv, Int.natCast_pow]; rfl
  rw [e, rem2, ← half_bit, Bool.eq_iff_iff]; simp only [beq_iff_eq]; omega
theorem half_step (x k : Nat) : ((x : Int) / 2 ^ k).tdiv 2 = (x : Int) / 2 ^ (k + 1) := by
  have e : ∀ k : Nat, (x : Int) / 2 ^ k = ((x / 2 ^ k : Nat) : Int) := fun k => by rw [Int.natCast_ediv, Int.natCast_pow]; rfl
  rw [e, e, quo2, Nat.pow_succ, ← Nat.div_div_eq_div_mul]
theorem half_le (x k : Nat) : 0 ≤ (x : Int) / 2 ^ k ∧ (x : Int) / 2 ^ k ≤ x := by
  have e : (x : Int) / 2 ^ k = ((x / 2 ^ k : Nat) : Int) := by rw [Int.natCast_ediv, Int.natCast_pow]; rfl
  have := Nat.div_le_self x (2 ^ k)
  rw [e]; exact ⟨Int.natCast_nonneg _, Int.ofNat_le.2 this⟩
theorem refBit_calls (x v : Nat) (hx : x < 256) (hv : v ≤ 256) (w : World) : CallsR Try.prog 29 #[.int .i64 x, .int .i64 v] w fun r w' => r = .bool (x.testBit v) ∧ Ext w w' := by
  refine en2 Try.func29 Try.results29 mixed [] ?_
  intro e0 h0 h1
  refine w_ fun d => ?_
  refine lo_ (fun W e w' => ∃ k : Nat, k ≤ v ∧ e 5 = .int .i64 k ∧ e 0 = .int .i64 ((x : Int) / 2 ^ k) ∧ w' = w) (fun e _ => v - nat (e 5)) ?_ ?_
  · exact ⟨0, by omega, eA rfl, by rw [Int.pow_zero, Int.ediv_one]; exact eA rfl, rfl⟩
  rintro e _ hf ⟨k, hk, h5, h0', rfl⟩
  have h1' := half_le x k
  have h1'' := half_le x (k + 1)
  have h2 := half_step x k
  have h3 := bit_tmod x k
  by_cases hlt : k < v
  · refine w_ fun d => ?_
    refine ⟨⟨k + 1, by omega, eA rfl, eA rfl, rfl⟩, mA⟩
  · obtain rfl : k = v := by omega
    refine w_ fun d => ?_
    exact ⟨rfl, ext_⟩
theorem refAt_calls (f : Fun8) (x : Int) (w : World) : CallsR Try.prog 18 #[fv f, .int .i64 x] w fun r w' => r = .bool (atF f x) ∧ Ext w w' := by
  refine en2 Try.func18 Try.results18 mixed [] ?_
  intro e0 h0 h1
  by_cases hx : 0 ≤ x ∧ x < 256
  · obtain ⟨n, rfl⟩ := Int.eq_ofNat_of_zero_le hx.1
    have hn : n < 256 := by omega
    have hn4 : n / 64 < 4 := by omega
    have e1 := wd4_get (f := f) hn4
    have e2 : (n : Int).tdiv 64 = (n : Int) / 64 := quo64
    have e3 : (n : Int).tmod 64 = (n : Int) % 64 := rem64
    refine w_ fun d => ?_
    refine ⟨?_, ext_⟩
    rw [atF_nat _ _ hn, bit_word f n]
  · have ho := atF_out hx f
    by_cases h0' : x < 0
    · refine w_ fun d => ?_
      exact ⟨by rw [ho], ext_⟩
    · refine w_ fun d => ?_
      exact ⟨by rw [ho], ext_⟩
theorem refAt_p (f : Fun8) (k : Nat) (hk : k < 256) : Sure Try.prog 18 #[fv f, .int .i64 k] (.bool (f.getLsbD k)) := fun w =>
  (refAt_calls f k w).mono fun r w' ⟨h, h2⟩ => ⟨by rw [h, atF_nat f k hk], h2⟩
theorem put_calls (f : Fun8) (x : Nat) (hx : x < 256) (b : Bool) (w : World) : CallsR Try.prog 65 #[fv f, .int .i64 x, .bool b] w fun r w' => r = fv (putF f x b) ∧ Ext w w' := by
  have hn4 : x / 64 < 4 := by omega
  have e1 := wd4_get (f := f) hn4
  have e2 : (x : Int).tdiv 64 = (x : Int) / 64 := quo64
  have e3 : (x : Int).tmod 64 = (x : Int) % 64 := rem64
  have e4 := wd4_put (f := f) hx
  rw [cells_fv] at e4
  refine en3 Try.func65 Try.results65 mixed [] ?_
  intro e0 h0 h1 h2
  cases b
  · refine w_ fun d => ?_
    exact ⟨by rw [putF_f], ext_⟩
  · refine w_ fun d => ?_
    exact ⟨rfl, ext_⟩
theorem put_p (p : Nat → Bool) (k : Nat) (hk : k < 256) {b : Bool} (hb : p k = b) : Sure Try.prog 65 #[fv (tabOf p k), .int .i64 k, .bool b] (fv (tabOf p (k + 1))) := fun w =>
  (put_calls _ k hk b w).mono fun r w' ⟨h, h2⟩ => ⟨by rw [h, ← putF_tab, hb], h2⟩
theorem refConst_calls (b : Bool) (w : World) : CallsR Try.prog 14 #[.bool b] w fun r w' => r = fv (constF b) ∧ Ext w w' := by
  refine en1 Try.func14 Try.results14 mixed [] ?_
  intro e0 h0
  refine w_ fun d => ?_
  refine lo_ (fun W e w' => ∃ k : Nat, k ≤ 256 ∧ e 4 = .int .i64 k ∧ w'.heap[w.heap.size + 1]? = some (.cells (fv (tabOf (fun _ => b) k)).cells 24) ∧ Chg (fun x => x = w.heap.size + 1) W w') (fun e _ => 256 - nat (e 4)) ?_ ?_
  · exact ⟨0, by omega, eA rfl, hA (by rw [← zero_cells]), chg_⟩
  rintro e w1 hf ⟨k, hk, h4, hb, hC⟩
  have hl := lt_of_heap hb
  rw [cells_fv] at hb
  by_cases hlt : k < 256
  · refine w_ fun d => ?_
    refine callQ (put_p (fun _ => b) k hlt rfl _) fun w2 hE hs => ?_
    refine w_ fun d => ?_
    exact ⟨⟨k + 1, by omega, eA rfl, hA rfl, chg_⟩, mA⟩
  · obtain rfl : k = 256 := by omega
    refine w_ fun d => ?_
    exact ⟨by rw [tab256, rows_const], extc_ hC⟩
theorem refVar_calls (v : Int) (w : World) : CallsR Try.prog 16 #[.int .i64 v] w fun r w' => r = fv (varF v) ∧ Ext w w' := by
  refine en1 Try.func16 Try.results16 mixed [] ?_
  intro e0 h0
  by_cases hv : 0 ≤ v ∧ v < 8
  · obtain ⟨n, rfl⟩ := Int.eq_ofNat_of_zero_le hv.1
    have hn : n < 8 := by omega
    refine w_ fun d => ?_
    refine lo_ (fun W e w' => ∃ k : Nat, k ≤ 256 ∧ e 4 = .int .i64 k ∧ w'.heap[w.heap.size + 1]? = some (.cells (fv (tabOf (fun x => x.testBit n) k)).cells 24) ∧ Chg (fun x => x = w.heap.size + 1) W w') (fun e _ => 256 - nat (e 4)) ?_ ?_
    · exact ⟨0, by omega, eA rfl, hA (by rw [← zero_cells]), chg_⟩
    rintro e w1 hf ⟨k, hk, h4, hb, hC⟩
    have hl := lt_of_heap hb
    rw [cells_fv] at hb
    by_cases hlt : k < 256
    · have c1 : Sure Try.prog 29 #[.int .i64 k, .int .i64 n] (.bool (k.testBit n)) := refBit_calls k n hlt (by omega)
      have c2 := put_p (fun x => x.testBit n) k hlt rfl
      refine w_ fun d => ?_
      intro w2 hE hs
      refine w_ fun d => ?_
      exact ⟨⟨k + 1, by omega, eA rfl, hA rfl, chg_⟩, mA⟩
    · obtain rfl : k = 256 := by omega
      refine w_ fun d => ?_
      exact ⟨by rw [tab256, rows_var hn], extc_ hC⟩
  · have ho := varF_out hv
    by_cases h0' : 0 ≤ v
    · refine w_ fun d => ?_
      refine un_ 1 ?_
      refine w_ fun d => ?_
      exact ⟨by rw [ho]; first | done | exact zero_fv, ext_⟩
    · refine w_ fun d => ?_
      refine un_ 1 ?_
      refine w_ fun d => ?_
      exact ⟨by rw [ho]; first | done | exact zero_fv, ext_⟩
theorem refIte_calls (f g h : Fun8) (w : World) : CallsR Try.prog 28 #[fv f, fv g, fv h] w fun r w' => r = fv (iteF f g h) ∧ Ext w w' := by
  refine en3 Try.func28 Try.results28 mixed [] ?_
  intro e0 h0 h1 h2
  refine w_ fun d => ?_
  refine lo_ (fun W e w' => ∃ k : Nat, k ≤ 256 ∧ e 8 = .int .i64 k ∧ w'.heap[w.heap.size + 4]? = some (.cells (fv (tabOf (fun x => if f.getLsbD x then g.getLsbD x else h.getLsbD x) k)).cells 24) ∧ Chg (fun x => x = w.heap.size + 4) W w') (fun e _ => 256 - nat (e 8)) ?_ ?_
  · exact ⟨0, by omega, eA rfl, hA (by rw [← zero_cells]), chg_⟩
  rintro e w1 hf ⟨k, hk, h8, hb, hC⟩
  have hl := lt_of_heap hb
  rw [cells_fv] at hb
  by_cases hlt : k < 256
  · refine w_ fun d => ?_
    refine callQ (refAt_p f k hlt _) fun w2 hE hs => ?_
    cases hfk : f.getLsbD k
    · have c1 := refAt_p h k hlt
      have c2 := put_p (fun x => if f.getLsbD x then g.getLsbD x else h.getLsbD x) k hlt (b := h.getLsbD k) (by simp [hfk])
      refine w_ fun d => ?_
      intro w3 hE2 hs2
      refine w_ fun d => ?_
      exact ⟨⟨k + 1, by omega, eA rfl, hA rfl, chg_⟩, mA⟩
    · have c1 := refAt_p g k hlt
      have c2 := put_p (fun x => if f.getLsbD x then g.getLsbD x else h.getLsbD x) k hlt (b := g.getLsbD k) (by simp [hfk])
      refine w_ fun d => ?_
      intro w3 hE2 hs2
      refine w_ fun d => ?_
      exact ⟨⟨k + 1, by omega, eA rfl, hA rfl, chg_⟩, mA⟩
  · obtain rfl : k = 256 := by omega
    refine w_ fun d => ?_
    exact ⟨by rw [tab256, rows_ite], extc_ hC⟩
theorem refNot_calls (f : Fun8) (w : World) : CallsR Try.prog 20 #[fv f] w fun r w' => r = fv (notF f) ∧ Ext w w' := by
  obtain ⟨A, hA⟩ : ∃ A, constF false = A := ⟨_, rfl⟩
  obtain ⟨B, hB⟩ : ∃ B, constF true = B := ⟨_, rfl⟩
  have c1 : Sure Try.prog 14 #[.bool false] (fv A) := hA ▸ refConst_calls false
  have c2 : Sure Try.prog 14 #[.bool true] (fv B) := hB ▸ refConst_calls true
  have c3 : Sure Try.prog 28 #[fv f, fv A, fv B] (fv (notF f)) := by rw [← iteF_not, hA, hB]; exact refIte_calls _ _ _
  clear hA hB
  refine en1 Try.func20 Try.results20 mixed [] ?_
  intro e0 h0
  refine w_ fun d => ?_
  intro w1 hE hs
  refine w_ fun d => ?_
  exact ⟨rfl, ext_⟩
theorem refAnd_calls (f g : Fun8) (w : World) : CallsR Try.prog 22 #[fv f, fv g] w fun r w' => r = fv (andF f g) ∧ Ext w w' := by
  refine en2 Try.func22 Try.results22 mixed [] ?_
  intro e0 h0 h1
  refine w_ fun d => ?_
  refine callQ (refIte_calls _ _ _ _) fun w1 hE hs => ?_
  refine w_ fun d => ?_
  exact ⟨by rw [iteF_and], ext_⟩
theorem refOr_calls (f g : Fun8) (w : World) : CallsR Try.prog 24 #[fv f, fv g] w fun r w' => r = fv (orF f g) ∧ Ext w w' := by
  refine en2 Try.func24 Try.results24 mixed [] ?_
  intro e0 h0 h1
  refine w_ fun d => ?_
  refine callQ (refIte_calls _ _ _ _) fun w1 hE hs => ?_
  refine w_ fun d => ?_
  exact ⟨by rw [iteF_or], ext_⟩
theorem refXor_calls (f g : Fun8) (w : World) : CallsR Try.prog 26 #[fv f, fv g] w fun r w' => r = fv (xorF f g) ∧ Ext w w' := by
  have c1 : Sure Try.prog 20 #[fv g] (fv (notF g)) := refNot_calls g
  have c3 : Sure Try.prog 28 #[fv f, fv (notF g), fv g] (fv (xorF f g)) := by rw [← iteF_xor]; exact refIte_calls _ _ _
  refine en2 Try.func26 Try.results26 mixed [] ?_
  intro e0 h0 h1
  refine w_ fun d => ?_
  intro w1 hE hs
  refine w_ fun d => ?_
  exact ⟨rfl, ext_⟩
end Go.Proofs.Ytghcmogbmaedfaa
