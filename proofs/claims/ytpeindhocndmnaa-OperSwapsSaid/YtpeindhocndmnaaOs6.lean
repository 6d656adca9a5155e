/- Ref01, Law10, LawKit, LawFv, OpSaid: texts of this work, one behind the other. -/
import Derived.Test.YtpeindhocndmnaaOs5
import Derived.WalkKit
import Derived.ProofKit
import Derived.OpenShut
import Derived.ShutString
import Derived.ChangeOld
import Derived.Below
import Derived.Carry
import Derived.SizedLaws
import Derived.KernelRfl
import Derived.Test.YtpeindhocndmnaaRows
namespace Go.Proofs.Ytpeindhocndmnaa
open Go Go.Bx
set_option linter.unusedSimpArgs false
set_option linter.unusedVariables false
set_option maxRecDepth 100000
set_option maxHeartbeats 4000000
attribute [local irreducible] X XO XE XF XD XW thenX inX retX kN CallsR
theorem refAt_calls (f : Fun8) (x : Int) (w : World) : CallsR Try.prog 72 #[fv f, .int .i64 x] w fun r w' => r = .bool (atF f x) ∧ Ext w w' := by
  refine en2 Try.func72 Try.results72 mixed [] ?_
  intro e0 h0 h1
  by_cases hx : 0 ≤ x ∧ x < 256
  · obtain ⟨n, rfl⟩ := Int.eq_ofNat_of_zero_le hx.1
    have hn : n < 256 := by omega
    have hn4 : n / 64 < 4 := by omega
    have e1 := wd4_get (f := f) hn4
    have e2 : (n : Int).tdiv 64 = (n : Int) / 64 := quo64
    have e3 : (n : Int).tmod 64 = (n : Int) % 64 := rem64
    refine w_ fun d => ?_
    refine ⟨?_, ext_⟩
    rw [atF_nat _ _ hn, bit_word f n]
  · have ho := atF_out hx f
    by_cases h0' : x < 0
    · refine w_ fun d => ?_
      exact ⟨by rw [ho], ext_⟩
    · refine w_ fun d => ?_
      exact ⟨by rw [ho], ext_⟩
theorem refAt_p (f : Fun8) (k : Nat) (hk : k < 256) : Sure Try.prog 72 #[fv f, .int .i64 k] (.bool (f.getLsbD k)) := fun w =>
  (refAt_calls f k w).mono fun r w' ⟨h, h2⟩ => ⟨by rw [h, atF_nat f k hk], h2⟩
theorem put_calls (f : Fun8) (x : Nat) (hx : x < 256) (b : Bool) (w : World) : CallsR Try.prog 114 #[fv f, .int .i64 x, .bool b] w fun r w' => r = fv (putF f x b) ∧ Ext w w' := by
  have hn4 : x / 64 < 4 := by omega
  have e1 := wd4_get (f := f) hn4
  have e2 : (x : Int).tdiv 64 = (x : Int) / 64 := quo64
  have e3 : (x : Int).tmod 64 = (x : Int) % 64 := rem64
  have e4 := wd4_put (f := f) hx
  rw [cells_fv] at e4
  refine en3 Try.func114 Try.results114 mixed [] ?_
  intro e0 h0 h1 h2
  cases b
  · refine w_ fun d => ?_
    exact ⟨by rw [putF_f], ext_⟩
  · refine w_ fun d => ?_
    exact ⟨rfl, ext_⟩
theorem put_p (p : Nat → Bool) (k : Nat) (hk : k < 256) {b : Bool} (hb : p k = b) : Sure Try.prog 114 #[fv (tabOf p k), .int .i64 k, .bool b] (fv (tabOf p (k + 1))) := fun w =>
  (put_calls _ k hk b w).mono fun r w' ⟨h, h2⟩ => ⟨by rw [h, ← putF_tab, hb], h2⟩
theorem refConst_calls (b : Bool) (w : World) : CallsR Try.prog 102 #[.bool b] w fun r w' => r = fv (constF b) ∧ Ext w w' := by
  refine en1 Try.func102 Try.results102 mixed [] ?_
  intro e0 h0
  refine w_ fun d => ?_
  refine lo_ (fun W e w' => ∃ k : Nat, k ≤ 256 ∧ e 4 = .int .i64 k ∧ w'.heap[w.heap.size + 1]? = some (.cells (fv (tabOf (fun _ => b) k)).cells 54) ∧ Chg (fun x => x = w.heap.size + 1) W w') (fun e _ => 256 - nat (e 4)) ?_ ?_
  · exact ⟨0, by omega, eA rfl, hA (by rw [← zero_cells]), chg_⟩
  rintro e w1 hf ⟨k, hk, h4, hb, hC⟩
  have hl := lt_of_heap hb
  rw [cells_fv] at hb
  by_cases hlt : k < 256
  · refine w_ fun d => ?_
    refine callQ (put_p (fun _ => b) k hlt rfl _) fun w2 hE hs => ?_
    refine w_ fun d => ?_
    exact ⟨⟨k + 1, by omega, eA rfl, hA rfl, chg_⟩, mA⟩
  · obtain rfl : k = 256 := by omega
    refine w_ fun d => ?_
    exact ⟨by rw [tab256, rows_const], extc_ hC⟩
theorem refIte_calls (f g h : Fun8) (w : World) : CallsR Try.prog 59 #[fv f, fv g, fv h] w fun r w' => r = fv (iteF f g h) ∧ Ext w w' := by
  refine en3 Try.func59 Try.results59 mixed [] ?_
  intro e0 h0 h1 h2
  refine w_ fun d => ?_
  refine lo_ (fun W e w' => ∃ k : Nat, k ≤ 256 ∧ e 8 = .int .i64 k ∧ w'.heap[w.heap.size + 4]? = some (.cells (fv (tabOf (fun x => if f.getLsbD x then g.getLsbD x else h.getLsbD x) k)).cells 54) ∧ Chg (fun x => x = w.heap.size + 4) W w') (fun e _ => 256 - nat (e 8)) ?_ ?_
  · exact ⟨0, by omega, eA rfl, hA (by rw [← zero_cells]), chg_⟩
  rintro e w1 hf ⟨k, hk, h8, hb, hC⟩
  have hl := lt_of_heap hb
  rw [cells_fv] at hb
  by_cases hlt : k < 256
  · refine w_ fun d => ?_
    refine callQ (refAt_p f k hlt _) fun w2 hE hs => ?_
    cases hfk : f.getLsbD k
    · have c1 := refAt_p h k hlt
      have c2 := put_p (fun x => if f.getLsbD x then g.getLsbD x else h.getLsbD x) k hlt (b := h.getLsbD k) (by simp [hfk])
      refine w_ fun d => ?_
      intro w3 hE2 hs2
      refine w_ fun d => ?_
      exact ⟨⟨k + 1, by omega, eA rfl, hA rfl, chg_⟩, mA⟩
    · have c1 := refAt_p g k hlt
      have c2 := put_p (fun x => if f.getLsbD x then g.getLsbD x else h.getLsbD x) k hlt (b := g.getLsbD k) (by simp [hfk])
      refine w_ fun d => ?_
      intro w3 hE2 hs2
      refine w_ fun d => ?_
      exact ⟨⟨k + 1, by omega, eA rfl, hA rfl, chg_⟩, mA⟩
  · obtain rfl : k = 256 := by omega
    refine w_ fun d => ?_
    exact ⟨by rw [tab256, rows_ite], extc_ hC⟩
theorem refNot_calls (f : Fun8) (w : World) : CallsR Try.prog 42 #[fv f] w fun r w' => r = fv (notF f) ∧ Ext w w' := by
  obtain ⟨A, hA⟩ : ∃ A, constF false = A := ⟨_, rfl⟩
  obtain ⟨B, hB⟩ : ∃ B, constF true = B := ⟨_, rfl⟩
  have c1 : Sure Try.prog 102 #[.bool false] (fv A) := hA ▸ refConst_calls false
  have c2 : Sure Try.prog 102 #[.bool true] (fv B) := hB ▸ refConst_calls true
  have c3 : Sure Try.prog 59 #[fv f, fv A, fv B] (fv (notF f)) := by rw [← iteF_not, hA, hB]; exact refIte_calls _ _ _
  clear hA hB
  refine en1 Try.func42 Try.results42 mixed [] ?_
  intro e0 h0
  refine w_ fun d => ?_
  intro w1 hE hs
  refine w_ fun d => ?_
  exact ⟨rfl, ext_⟩
theorem refAnd_calls (f g : Fun8) (w : World) : CallsR Try.prog 39 #[fv f, fv g] w fun r w' => r = fv (andF f g) ∧ Ext w w' := by
  refine en2 Try.func39 Try.results39 mixed [] ?_
  intro e0 h0 h1
  refine w_ fun d => ?_
  refine callQ (refIte_calls _ _ _ _) fun w1 hE hs => ?_
  refine w_ fun d => ?_
  exact ⟨by rw [iteF_and], ext_⟩
theorem refOr_calls (f g : Fun8) (w : World) : CallsR Try.prog 40 #[fv f, fv g] w fun r w' => r = fv (orF f g) ∧ Ext w w' := by
  refine en2 Try.func40 Try.results40 mixed [] ?_
  intro e0 h0 h1
  refine w_ fun d => ?_
  refine callQ (refIte_calls _ _ _ _) fun w1 hE hs => ?_
  refine w_ fun d => ?_
  exact ⟨by rw [iteF_or], ext_⟩
theorem refXor_calls (f g : Fun8) (w : World) : CallsR Try.prog 41 #[fv f, fv g] w fun r w' => r = fv (xorF f g) ∧ Ext w w' := by
  have c1 : Sure Try.prog 42 #[fv g] (fv (notF g)) := refNot_calls g
  have c3 : Sure Try.prog 59 #[fv f, fv (notF g), fv g] (fv (xorF f g)) := by rw [← iteF_xor]; exact refIte_calls _ _ _
  refine en2 Try.func41 Try.results41 mixed [] ?_
  intro e0 h0 h1
  refine w_ fun d => ?_
  intro w1 hE hs
  refine w_ fun d => ?_
  exact ⟨rfl, ext_⟩
end Go.Proofs.Ytpeindhocndmnaa

namespace Go.Proofs.Ytpeindhocndmnaa
open Go Go.Bx
set_option linter.unusedSimpArgs false
set_option linter.unusedVariables false
set_option maxRecDepth 100000
set_option maxHeartbeats 4000000
attribute [local irreducible] X XO XE XF XD XW thenX inX retX kN CallsR
theorem up10_calls (w : World) : CallsR Try.prog 31 #[] w fun r w' => r = .bool true ∧ Ext w w' := by
  obtain ⟨X, hX⟩ : ∃ X, varF 0 = X := ⟨_, rfl⟩
  have cm := fun W w ps pc (h : CaI W w ps pc (Md.new 5)) => caMk0 h (by decide) (by decide)
  rw [hX] at cm
  have zx : ∀ ord, AllOnce ord → sizeF ord [X] ≤ 1 := fun ord ho => hX ▸ size_var ho
  clear hX
  have zn : ∀ s : Md, ∀ M, Ro s [X] M → sizeF s.ord ([X] ++ [notF X]) ≤ 2 := fun s M R => by
    have h1 := size_snoc (ord := s.ord) (L := [X]) (f := notF X)
    have h2 := zx s.ord R.good.wf.ord.once
    rw [size_not] at h1; omega
  have zc : ∀ s : Md, ∀ M c, Ro s ([X] ++ [notF X]) M → sizeF s.ord ([X] ++ [notF X] ++ [constF c]) ≤ 2 := fun s M c R => by
    have h1 := size_snoc (ord := s.ord) (L := [X]) (f := notF X)
    have h2 := zx s.ord R.good.wf.ord.once
    have h3 := size_snoc (ord := s.ord) (L := [X] ++ [notF X]) (f := constF c)
    rw [size_c] at h3
    rw [size_not] at h1; omega
  have zd : ∀ s : Md, ∀ M c d, Ro s ([X] ++ [notF X] ++ [constF c]) M → sizeF s.ord ([X] ++ [notF X] ++ [constF c] ++ [constF d]) ≤ 2 := fun s M c d R => by
    have h1 := size_snoc (ord := s.ord) (L := [X]) (f := notF X)
    have h2 := zx s.ord R.good.wf.ord.once
    have h3 := size_snoc (ord := s.ord) (L := [X] ++ [notF X]) (f := constF c)
    have h4 := size_snoc (ord := s.ord) (L := [X] ++ [notF X] ++ [constF c]) (f := constF d)
    rw [size_c] at h3 h4
    rw [size_not] at h1; omega
  have c0 := fun u => caNew (M := 5) (by decide) (by decide) u
  refine en0 Try.func31 Try.results31 mixed [] ?_
  intro e0
  refine w_ fun d => ?_
  refine (c0 _).mono ?_
  rintro _ w1 ⟨ps, rfl, h1⟩
  refine w_ fun d => ?_
  refine (iteNew_calls _).mono ?_
  rintro _ w2 ⟨pc, bm, rfl, k1, k2, k3', k4, hE⟩
  have h2 := h1.cache hE k1 k2 k3' k4
  have hW := h2.world
  refine w_ fun d => ?_
  refine (cm _ _ _ _ h2).mono ?_
  rintro _ w3 ⟨s1, rfl, h3, R1, d1⟩
  refine w_ fun d => ?_
  refine (caNot h3 R1 d1 (Int.ofNat_le.2 (Nat.le_trans (zn _ _ R1) (by decide)))).mono ?_
  rintro _ w4 ⟨n, s2, rfl, h4, R2, l2, d2⟩
  have d12 := d1.mono l2
  have hn : n ≠ 2 := fun e => by subst e; exact not_ne (d2.fn d12)
  have hn2 : (n == 2) = false := by simpa using hn
  have ca := caAnd h4 R2 d12 d2 (by rw [and_not]; exact Int.ofNat_le.2 (Nat.le_trans (zc _ _ _ R2) (by decide)))
  rw [and_not] at ca
  refine w_ fun d => ?_
  refine ca.mono ?_
  rintro _ w5 ⟨a, s3, rfl, h5, R3, l3, d3⟩
  obtain rfl : a = 0 := R3.good.canon d3 .c0
  have co := caOr h5 R3 (d12.mono l3) (d2.mono l3) (by rw [or_not]; exact Int.ofNat_le.2 (Nat.le_trans (zd _ _ _ _ R3) (by decide)))
  rw [or_not] at co
  clear ca cm c0 zx zn zc zd
  refine w_ fun d => ?_
  refine co.mono ?_
  rintro _ w6 ⟨b, s4, rfl, h6, R4, l4, d4⟩
  obtain rfl : b = 1 := R4.good.canon d4 .c1
  have hW6 := h6.world
  clear co
  refine w_ fun d => ?_
  exact ⟨rfl, ext_⟩
theorem operSwaps_calls (f g : Fun8) (w : World) : CallsR Try.prog 5 #[fv f, fv g] w fun r w' => r = .bool true ∧ Ext w w' := by
  have c0 := fun u => caNew (M := 1500) (by decide) (by decide) u
  have sz : ∀ (s : Md) (L : List Fun8), Ro s L 1500 → L.length ≤ 18 → ∀ f, (sizeF s.ord (L ++ [f]) : Int) ≤ 1500 := fun s L R h f => R.size (by omega)
  have r1 : Sure Try.prog 39 #[fv f, fv g] (fv (andF f g)) := refAnd_calls f g
  have r2 : Sure Try.prog 40 #[fv f, fv g] (fv (orF f g)) := refOr_calls f g
  have r3 : Sure Try.prog 41 #[fv f, fv g] (fv (xorF f g)) := refXor_calls f g
  have r4 : Sure Try.prog 42 #[fv f] (fv (notF f)) := refNot_calls f
  refine en2 Try.func5 Try.results5 mixed [] ?_
  intro e0 h0 h1
  refine w_ fun d => ?_
  refine (up10_calls _).mono ?_
  rintro _ u1 ⟨rfl, hE1⟩
  have hEu1 : Ext w u1 := Ext.trans (by exact ext_) hE1
  have b2 : u1.heap[w.heap.size]? = some (.cells #[vU (word f 0), vU (word f 1), vU (word f 2), vU (word f 3)] 54) := hE1.at (hA rfl)
  have b3 : u1.heap[w.heap.size + 1]? = some (.cells #[vU (word g 0), vU (word g 1), vU (word g 2), vU (word g 3)] 54) := hE1.at (hA rfl)
  refine w_ fun d => ?_
  refine (c0 _).mono ?_
  rintro _ w1 ⟨ps, rfl, h1⟩
  refine w_ fun d => ?_
  refine (iteNew_calls _).mono ?_
  rintro _ w2 ⟨pc, bm, rfl, k1, k2, k3', k4, hE⟩
  have h2 := h1.cache hE k1 k2 k3' k4
  have R0 : Ro (Md.new 1500) [] 1500 := Ro.new (by decide) (by decide)
  clear k1 k2 k3' k4 hE h1 c0
  have x2 := h2.world.at b2
  have x3 := h2.world.at b3
  have y2 := lt_of_heap x2
  have y3 := lt_of_heap x3
  refine w_ fun d => ?_
  refine (caBuild h2 R0 f (sz _ _ R0 (by decide) _)).mono ?_
  rintro _ w3 ⟨a, s1, rfl, h3, R1, l1, d1⟩
  have x23 := h3.world.at b2
  have x33 := h3.world.at b3
  have y23 := lt_of_heap x23
  have y33 := lt_of_heap x33
  clear x2 x3 y2 y3
  refine w_ fun d => ?_
  refine (caBuild h3 R1 g (sz _ _ R1 (by simp) _)).mono ?_
  rintro _ w4 ⟨b, s2, rfl, h4, R2, l2, d2⟩
  replace d1 := d1.mono l2
  clear h2 h3 R0 R1 l1 l2 x23 x33 y23 y33
  refine w_ fun d => ?_
  refine (caNot h4 R2 d1 (sz _ _ R2 (by simp) _)).mono ?_
  rintro _ w5 ⟨na, s3, rfl, h5, R3, l3, d3⟩
  replace d1 := d1.mono l3
  replace d2 := d2.mono l3
  clear h4 R2 l3
  refine w_ fun d => ?_
  refine (caNot h5 R3 d2 (sz _ _ R3 (by simp) _)).mono ?_
  rintro _ w6 ⟨nb, s4, rfl, h6, R4, l4, d4⟩
  replace d1 := d1.mono l4
  replace d2 := d2.mono l4
  replace d3 := d3.mono l4
  clear h5 R3 l4
  refine w_ fun d => ?_
  refine (caNot h6 R4 d3 (sz _ _ R4 (by simp) _)).mono ?_
  rintro _ w7 ⟨bk, s5, rfl, h7, R5, l5, d5⟩
  replace d1 := d1.mono l5
  replace d2 := d2.mono l5
  replace d3 := d3.mono l5
  replace d4 := d4.mono l5
  rw [notF_notF] at d5
  obtain rfl := R5.good.canon d1 d5
  clear h6 R4 l5 d5
  refine w_ fun d => ?_
  refine (caAnd h7 R5 d1 d2 (sz _ _ R5 (by simp) _)).mono ?_
  rintro _ w8 ⟨an, s6, rfl, h8, R6, l6, d6⟩
  replace d1 := d1.mono l6
  replace d2 := d2.mono l6
  replace d3 := d3.mono l6
  replace d4 := d4.mono l6
  clear h7 R5 l6
  refine w_ fun d => ?_
  refine (caOr h8 R6 d1 d2 (sz _ _ R6 (by simp) _)).mono ?_
  rintro _ w9 ⟨on, s7, rfl, h9, R7, l7, d7⟩
  replace d1 := d1.mono l7
  replace d2 := d2.mono l7
  replace d3 := d3.mono l7
  replace d4 := d4.mono l7
  replace d6 := d6.mono l7
  clear h8 R6 l7
  refine w_ fun d => ?_
  refine (caXor h9 R7 d1 d2 (by simp)).mono ?_
  rintro _ w10 ⟨xn, s8, rfl, h10, R8, l8, d8⟩
  replace d1 := d1.mono l8
  replace d2 := d2.mono l8
  replace d3 := d3.mono l8
  replace d4 := d4.mono l8
  replace d6 := d6.mono l8
  replace d7 := d7.mono l8
  clear h9 R7 l8
  refine w_ fun d => ?_
  refine (caAnd h10 R8 d2 d1 (sz _ _ R8 (by simp) _)).mono ?_
  rintro _ w11 ⟨t1, s9, rfl, h11, R9, l9, d9⟩
  replace d1 := d1.mono l9
  replace d2 := d2.mono l9
  replace d3 := d3.mono l9
  replace d4 := d4.mono l9
  replace d6 := d6.mono l9
  replace d7 := d7.mono l9
  replace d8 := d8.mono l9
  rw [and_swap] at d9
  obtain rfl := R9.good.canon d6 d9
  clear h10 R8 l9 d9
  refine w_ fun d => ?_
  refine (caOr h11 R9 d2 d1 (sz _ _ R9 (by simp) _)).mono ?_
  rintro _ w12 ⟨t2, sa, rfl, h12, Ra, la, da⟩
  replace d1 := d1.mono la
  replace d2 := d2.mono la
  replace d3 := d3.mono la
  replace d4 := d4.mono la
  replace d6 := d6.mono la
  replace d7 := d7.mono la
  replace d8 := d8.mono la
  rw [or_swap] at da
  obtain rfl := Ra.good.canon d7 da
  clear h11 R9 la da
  refine w_ fun d => ?_
  refine (caXor h12 Ra d2 d1 (by simp)).mono ?_
  rintro _ w13 ⟨t3, sb, rfl, h13, Rb, lb, db⟩
  replace d1 := d1.mono lb
  replace d2 := d2.mono lb
  replace d3 := d3.mono lb
  replace d4 := d4.mono lb
  replace d6 := d6.mono lb
  replace d7 := d7.mono lb
  replace d8 := d8.mono lb
  rw [xor_swap] at db
  obtain rfl := Rb.good.canon d8 db
  clear h12 Ra lb db
  refine w_ fun d => ?_
  refine (caOr h13 Rb d3 d4 (sz _ _ Rb (by simp) _)).mono ?_
  rintro _ w14 ⟨bo, sc, rfl, h14, Rc, lc, dc⟩
  replace d1 := d1.mono lc
  replace d3 := d3.mono lc
  replace d6 := d6.mono lc
  replace d7 := d7.mono lc
  replace d8 := d8.mono lc
  rw [or_nots] at dc
  clear h13 Rb lc
  refine w_ fun d => ?_
  refine (caNot h14 Rc d6 (sz _ _ Rc (by simp) _)).mono ?_
  rintro _ w15 ⟨nn, sd, rfl, h15, Rd, ld, dd⟩
  replace d1 := d1.mono ld
  replace d3 := d3.mono ld
  replace d6 := d6.mono ld
  replace d7 := d7.mono ld
  replace d8 := d8.mono ld
  replace dc := dc.mono ld
  obtain rfl := Rd.good.canon dc dd
  clear h14 Rc ld dd
  refine w_ fun d => ?_
  refine (caXor h15 Rd d1 d1 (by simp)).mono ?_
  rintro _ w16 ⟨sf, se, rfl, h16, Re, le, de⟩
  replace d1 := d1.mono le
  replace d3 := d3.mono le
  replace d6 := d6.mono le
  replace d7 := d7.mono le
  replace d8 := d8.mono le
  rw [xor_self] at de
  obtain rfl : sf = 0 := Re.good.canon de .c0
  clear h15 Rd le de
  refine w_ fun d => ?_
  refine (caAnd h16 Re d1 d7 (sz _ _ Re (by simp) _)).mono ?_
  rintro _ w17 ⟨wi, sg, rfl, h17, Rg, lg, dg⟩
  replace d1 := d1.mono lg
  replace d3 := d3.mono lg
  replace d6 := d6.mono lg
  replace d7 := d7.mono lg
  replace d8 := d8.mono lg
  rw [and_or_self] at dg
  obtain rfl := Rg.good.canon d1 dg
  have hW := h17.world
  obtain ⟨own, hS⟩ := h17.sti
  have x2 := hW.at b2
  have x3 := hW.at b3
  have y2 := lt_of_heap x2
  have y3 := lt_of_heap x3
  have q1 := rdTop_calls Rg.good hS d6
  have q2 := rdTop_calls Rg.good hS d7
  have q3 := rdTop_calls Rg.good hS d8
  have q4 := rdTop_calls Rg.good hS d3
  clear h16 Re lg dg sz
  refine w_ fun d => ?_
  intro w18 hE18 hs18
  refine w_ fun d => ?_
  exact ⟨rfl, (hEu1.trans hW).trans (by exact ext_)⟩
end Go.Proofs.Ytpeindhocndmnaa

namespace Go.Bx
open Go Go.ChangeShapes Go.WideShapes Go.ChangeAt Go.RowKit
theorem Ext.below {W W' : World} (h : Ext W W') : Below W.heap.size W W' := ⟨h.os, h.tape, h.output, h.size, h.heap⟩
section
variable {H : Type} {enc : TypeId × Value → H} {P : Program}
theorem trodAll_stays (hl : laidOutB P = true) {W W' : World} (hE : Ext W W') : ∀ {ts : List TypeId} {vs : List Value} {ds : List (DataW H)} {ps : List MemPlace},
    (∀ t ∈ ts, P.readableRec t = true ∧ t < P.types.size) → DataW.TrodAll enc P W 0 (fun _ => true) true ts vs ds ps → (∀ x ∈ ps, x.block < W.heap.size) →
    DataW.TrodAll enc P W' 0 (fun b => decide (b < W.heap.size)) true ts vs ds ps
  | [], [], [], _, _, h, _ => h
  | t :: ts, v :: vs, d :: ds, _, ht, ⟨p, q, h, hs, e⟩, hlt =>
    ⟨p, q, Below.trod hl (ht t (by simp)).1 (ht t (by simp)).2 h hE.below (fun x hx => hlt x (by rw [e]; exact List.mem_append_left _ hx)),
      trodAll_stays hl hE (fun t hm => ht t (by simp [hm])) hs (fun x hx => hlt x (by rw [e]; exact List.mem_append_right _ hx)), e⟩
  | [], [], _ :: _, _, _, h, _ => h.elim
  | [], _ :: _, _, _, _, h, _ => by cases ‹List (DataW H)› <;> exact h.elim
  | _ :: _, [], _, _, _, h, _ => by cases ‹List (DataW H)› <;> exact h.elim
  | _ :: _, _ :: _, [], _, _, h, _ => h.elim
theorem law_post {f : Func} {s : ChangeSpec} {W W' : World} {args : Array Value} {ds gs : List (DataW H)} {before : List MemPlace} {tb : TypeId}
    (hl : laidOutB P = true) (hts : f.params.toList.all (fun t => P.readableRec t && decide (t < P.types.size)) = true) (hv : s.vars = []) (hrt : f.resultTypes = #[tb]) (hb : P.underlying tb = some .bool)
    (hW : DataW.Whole enc P f.params.toList s.vars false W args.toList ds gs before)
    (hfn : (s.fn H (ds ++ gs)).results = [.lit (.bool true)] ∧ (s.fn H (ds ++ gs)).args = ds ∧ (s.fn H (ds ++ gs)).vars = [])
    (hE : Ext W W') : s.post enc P f false true false false W args (.bool true) W' := by
  have hW' := hW
  obtain ⟨p, q, hA, hV, rfl, _, _⟩ := hW
  rw [hv] at hV
  obtain ⟨rfl, rfl⟩ := trodVars_none hV
  have hlt : ∀ x ∈ p, x.block < W.heap.size := fun x hx => hW'.lt x (by simpa using hx)
  refine ⟨ds, [], _, [], p, [], hW', ?_, ?_, ?_, hE.below.frame _, fun h => by cases h⟩
  · rw [hfn.1, hrt]
    exact trodAll_mk1 (shut_bool hb true)
  · rw [hfn.2.1]
    refine trodAll_stays hl hE (fun t ht => ?_) hA hlt
    have := List.all_eq_true.1 hts t ht
    simpa [Bool.and_eq_true] using this
  · rw [hfn.2.2, hv]
    exact rfl
theorem open_arr8 {r : Reach} {W w : World} {base b0 : Nat} {spare : Nat → Bool} {held : Bool} {t e : TypeId} {v : Value} {d : DataW H} {ps : List MemPlace} (ht : P.underlying t = some (.array 8 e)) (he : P.underlying e = some (.int .i64)) (hce : P.cellsOf e = 1) (hct : P.cellsOf t = 8)
    (hval : Value.okWide P W r b0 t v) (hd : DataW.Trod enc P w base spare held t v d ps) :
    ∃ l : List Int, l.length = 8 ∧ v = aI l ∧ ∀ x ∈ l, (Lit.int .i64 x).wf = true := by
  obtain ⟨cs, rfl, hsz, _⟩ : ∃ cs, v = .agg cs ∧ cs.size = P.cellsOf t ∧ Row.okWide P W r b0 t cs := by
    simpa [Value.okWide, ht] using hval
  rw [hct] at hsz
  obtain ⟨fuel, hf⟩ := hd
  obtain ⟨xs, m, rfl, _, _, hxl, hget⟩ := DataW.trod_array ht hf
  have hall : ∀ i, i < 8 → ∃ n : Int, cs[i]? = some (.int .i64 n) ∧ (Lit.int .i64 n).wf = true := by
    intro i hi
    have h1 := hget i hi
    obtain ⟨y, hy⟩ : ∃ y, xs[i]? = some y := ⟨xs[i], List.getElem?_eq_getElem (by omega)⟩
    rw [hy, hce] at h1
    obtain ⟨n, h2, _, hw⟩ := DataW.trod_int he h1
    refine ⟨n, ?_, hw⟩
    have h3 : cs.toList[i]? = some (.int .i64 n) := by
      have : ((cs.toList.drop (i * 1)).take 1)[0]? = some (.int .i64 n) := by
        show ((Value.cells (.agg cs)).toList.drop (i * 1) |>.take 1)[0]? = _
        rw [h2]; rfl
      simpa using this
    simpa using h3
  refine ⟨cs.toList.map (fun v => match v with | .int _ n => n | _ => 0), by simpa using hsz, ?_, ?_⟩
  · show Value.agg cs = .agg _
    congr 1
    apply Array.ext_getElem?
    intro i
    by_cases hi : i < 8
    · obtain ⟨n, hn, _⟩ := hall i hi
      have hn' : cs.toList[i]? = some (.int .i64 n) := by simpa using hn
      simp [hn, hn']
    · rw [Array.getElem?_eq_none (by omega), Array.getElem?_eq_none (by simp; omega)]
  · intro x hx
    obtain ⟨v, hv, rfl⟩ := List.mem_map.1 hx
    obtain ⟨i, hi⟩ := List.mem_iff_getElem?.1 hv
    have hi8 : i < 8 := by
      have := (List.getElem?_eq_some_iff.1 hi).1
      simpa [hsz] using this
    obtain ⟨n, hn, hw⟩ := hall i hi8
    have hn' : cs.toList[i]? = some (.int .i64 n) := by simpa using hn
    rw [hi] at hn'
    cases hn'
    exact hw
theorem open_ints {r : Reach} {W w : World} {base b0 : Nat} {spare : Nat → Bool} {held : Bool} {t e : TypeId} {N : Nat} {k : IntKind} {v : Value} {d : DataW H} {ps : List MemPlace} (ht : P.underlying t = some (.array N e)) (he : P.underlying e = some (.int k)) (hce : P.cellsOf e = 1) (hct : P.cellsOf t = N)
    (hval : Value.okWide P W r b0 t v) (hd : DataW.Trod enc P w base spare held t v d ps) :
    ∃ l : List Int, l.length = N ∧ v = .agg (l.map (Value.int k)).toArray ∧ ∀ x ∈ l, (Lit.int k x).wf = true := by
  obtain ⟨cs, rfl, hsz, _⟩ : ∃ cs, v = .agg cs ∧ cs.size = P.cellsOf t ∧ Row.okWide P W r b0 t cs := by
    simpa [Value.okWide, ht] using hval
  rw [hct] at hsz
  obtain ⟨fuel, hf⟩ := hd
  obtain ⟨xs, m, rfl, _, _, hxl, hget⟩ := DataW.trod_array ht hf
  have hall : ∀ i, i < N → ∃ n : Int, cs[i]? = some (.int k n) ∧ (Lit.int k n).wf = true := by
    intro i hi
    have h1 := hget i hi
    obtain ⟨y, hy⟩ : ∃ y, xs[i]? = some y := ⟨xs[i], List.getElem?_eq_getElem (by omega)⟩
    rw [hy, hce] at h1
    obtain ⟨n, h2, _, hw⟩ := DataW.trod_int he h1
    refine ⟨n, ?_, hw⟩
    have h3 : cs.toList[i]? = some (.int k n) := by
      have : ((cs.toList.drop (i * 1)).take 1)[0]? = some (.int k n) := by
        show ((Value.cells (.agg cs)).toList.drop (i * 1) |>.take 1)[0]? = _
        rw [h2]; rfl
      simpa using this
    simpa using h3
  refine ⟨cs.toList.map (fun v => match v with | .int _ n => n | _ => 0), by simpa using hsz, ?_, ?_⟩
  · show Value.agg cs = .agg _
    congr 1
    apply Array.ext_getElem?
    intro i
    by_cases hi : i < N
    · obtain ⟨n, hn, _⟩ := hall i hi
      have hn' : cs.toList[i]? = some (.int k n) := by simpa using hn
      simp [hn, hn']
    · rw [Array.getElem?_eq_none (by omega), Array.getElem?_eq_none (by simp; omega)]
  · intro x hx
    obtain ⟨v, hv, rfl⟩ := List.mem_map.1 hx
    obtain ⟨i, hi⟩ := List.mem_iff_getElem?.1 hv
    have hiN : i < N := by
      have := (List.getElem?_eq_some_iff.1 hi).1
      simpa [hsz] using this
    obtain ⟨n, hn, hw⟩ := hall i hiN
    have hn' : cs.toList[i]? = some (.int k n) := by simpa using hn
    rw [hi] at hn'
    cases hn'
    exact hw
end
end Go.Bx

namespace Go.Bx
open Go Go.ChangeShapes Go.WideShapes Go.ChangeAt Go.RowKit
section
variable {H : Type} {enc : TypeId × Value → H} {P : Program}
theorem wf_u64 {x : Int} (h : (Lit.int .u64 x).wf = true) : 0 ≤ x ∧ x < 18446744073709551616 := by
  simp [Lit.wf] at h
  have h1 : IntKind.u64.min = 0 := by decide
  have h2 : IntKind.u64.max = 18446744073709551615 := by decide +kernel
  omega
theorem open_func {r : Reach} {W w : World} {base b0 : Nat} {spare : Nat → Bool} {held : Bool} {t e : TypeId} {v : Value} {d : DataW H} {ps : List MemPlace} (ht : P.underlying t = some (.array 4 e)) (he : P.underlying e = some (.int .u64)) (hce : P.cellsOf e = 1) (hct : P.cellsOf t = 4)
    (hval : Value.okWide P W r b0 t v) (hd : DataW.Trod enc P w base spare held t v d ps) : ∃ f : Fun8, v = fv f := by
  obtain ⟨l, hl, rfl, hw⟩ := open_ints ht he hce hct hval hd
  obtain ⟨a, b, c, d, rfl⟩ := list4 hl
  have ha := wf_u64 (hw a (by simp))
  have hb := wf_u64 (hw b (by simp))
  have hc := wf_u64 (hw c (by simp))
  have hd := wf_u64 (hw d (by simp))
  refine ⟨join fun k => BitVec.ofNat 64 (([a, b, c, d].getD k 0).toNat), ?_⟩
  rw [← w4_join]
  simp only [List.map_cons, List.map_nil, isU ha.1 ha.2, isU hb.1 hb.2, isU hc.1 hc.2, isU hd.1 hd.2]
  rfl
end
end Go.Bx

namespace Go.Proofs.Ytpeindhocndmnaa
open Go Go.Bx Go.ChangeShapes Go.WideShapes Go.ChangeAt Go.RowKit
set_option linter.unusedVariables false
set_option maxRecDepth 100000
theorem own : ownKnob Try.prog.godebug = none := by kernel_rfl
theorem laidOut : laidOutB Try.prog = true := by kernel_rfl
theorem operSwaps_lifted (os : Os) (started : os.Started) (H : Type) (enc : TypeId × Value → H) :
    ReturnsInHanded {} Try.checked os 5 .any (Rows.operSwapsSpec.pre6 enc Try.prog Try.f5 Rows.operSwapsRow.domain false) (Rows.operSwapsSpec.post enc Try.prog Try.f5 false true false false) := by
  refine returnsInHanded_of_change_sized (C := Try.checked) own started (by kernel_rfl) Try.func5
    (ChangeSpec.witness6 (enc := enc) (C := Try.checked) false ⟨#[], #[.agg #[.int .u64 0, .int .u64 0, .int .u64 0, .int .u64 0], .agg #[.int .u64 0, .int .u64 0, .int .u64 0, .int .u64 0]], []⟩ 8 (by kernel_rfl) (by kernel_rfl) (by kernel_rfl) (by kernel_rfl)) ?_
  intro W base args ds gs before hval0 hW hcnd hsz0 _
  have hsz : (DataW.weightsEach Try.prog (Try.f5.params.toList ++ Rows.operSwapsSpec.plain.varTypes Try.prog) (ds ++ gs)).all (· ≤ reachBytes) = true := hsz0
  have hval : ∀ (j : Nat) t v, Try.f5.params[j]? = some t → args[j]? = some v → Value.okWide Try.prog W .any base t v := hval0
  have hW' := hW
  obtain ⟨p, q, hA0, hV, rfl, hfz, hnd⟩ := hW
  have hA : DataW.TrodAll enc Try.prog W 0 (fun _ => true) true Try.f5.params.toList args.toList ds p := hA0
  rw [Try.params5] at hA hval hsz
  obtain ⟨v0, vs0, d0, ds0, p0, q0, hargs, rfl, rfl, h0, r0⟩ := trodAll_cons hA
  obtain ⟨v1, vs1, d1, ds1, p1, q1, rfl, rfl, rfl, h1, r1⟩ := trodAll_cons r0
  obtain ⟨rfl, rfl, rfl⟩ := trodAll_nil r1
  obtain rfl : args = #[v0, v1] := by cases args; simp_all
  obtain ⟨rfl, rfl⟩ := trodVars_none hV
  obtain ⟨a0, rfl⟩ := open_func Try.underlying54 Try.underlying52 (by kernel_rfl) (by kernel_rfl) (hval 0 _ v0 rfl rfl) h0
  obtain ⟨a1, rfl⟩ := open_func Try.underlying54 Try.underlying52 (by kernel_rfl) (by kernel_rfl) (hval 1 _ v1 rfl rfl) h1
  refine (operSwaps_calls a0 a1 W).mono fun v W' ⟨hv, hE⟩ => ?_
  subst hv
  exact law_post laidOut (by kernel_rfl) rfl rfl Try.underlying4 hW' ⟨rfl, rfl, rfl⟩ hE
theorem operSwaps_over : Rows.operSwapsRow.holds Try.pinned (OpenSpec.ofChange Rows.operSwapsSpec) :=
  OpenClaim.holds_of_wide 5 Try.f5 rfl rfl rfl rfl rfl rfl rfl ⟨rfl, rfl, rfl, rfl, rfl⟩ rfl rfl rfl rfl rfl (by kernel_rfl) Try.func5 (by kernel_rfl)
    (of_decide_eq_true (by kernel_rfl)) (by unfold Func.isWrapper; first | (rw [if_pos (by decide +kernel)]; kernel_rfl) | (rw [if_neg (by decide +kernel)]; exact ⟨rfl, rfl⟩))
    (fun os started H enc _ => operSwaps_lifted os started H enc)
theorem operSwaps_holds : Rows.OperSwapsSaid := operSwaps_over
#print axioms operSwaps_holds
end Go.Proofs.Ytpeindhocndmnaa

