/- Walks of the reference of layer 18: numbers as bytes, what may be. -/
import Derived.Test.YtghcmogbmaedfaaRef15
namespace Go.Proofs.Ytghcmogbmaedfaa
open Go Go.Bx
set_option linter.unusedSimpArgs false
set_option linter.unusedVariables false
set_option maxRecDepth 100000
set_option maxHeartbeats 4000000
attribute [local irreducible] X XO XE XF XD XW thenX inX retX kN CallsR
theorem high_calls (v n : Nat) (hn : n ≤ 8) (hv : v < 18446744073709551616) (w : World) : CallsR Try.prog 78 #[.int .u64 v, .int .i64 n] w fun r w' => (∃ a cap, r = .slice a (hiB n v).length cap ∧ SlB w' a cap (hiB n v) ∧ ∀ g, blk a = some g → w.heap.size ≤ g) ∧ Ext w w' := by
  refine en2 Try.func78 Try.results78 mixed [] ?_
  intro e0 h0 h1
  refine w_ fun d => ?_
  refine lo_ (fun W e w' => ∃ (i u : Nat) (X : List Nat) (a : Option Addr) (cap : Nat), i ≤ n ∧ e 6 = .int .i64 i ∧ e 0 = .int .u64 u ∧ Box (u = v / 256 ^ i) ∧ u ≤ v ∧ e 5 = .slice a X.length cap ∧ Box (X = hiB i v) ∧ X.length = i ∧ SlB w' a cap X ∧ (∀ g, blk a = some g → w.heap.size ≤ g) ∧ Ext w w') (fun e _ => n - nat (e 6)) ?_ ?_
  · exact ⟨0, v, [], none, 0, by omega, eA rfl, eA rfl, ⟨by simp⟩, Nat.le_refl v, eA rfl, ⟨rfl⟩, rfl, Sl.nil _ _ _, (fun g h => by cases h), ext_⟩
  rintro e w1 hf ⟨i, u, X, a, cap, hi, h6, h0', hub, huv, h5, hXb, hXl, sl, new, hE⟩
  have hs1 := sz_ hE
  by_cases hlt : i < n
  · have e1 : (u : Int).tmod 256 = ((u % 256 : Nat) : Int) := by rw [Int.tmod_eq_emod_of_nonneg (by omega)]; rfl
    have e2 : (u : Int).tdiv 256 = ((u / 256 : Nat) : Int) := by rw [Int.tdiv_eq_ediv_of_nonneg (by omega)]; rfl
    obtain ⟨x, ⟨hx⟩⟩ : ∃ x, Box (u % 256 = x) := ⟨_, ⟨rfl⟩⟩
    obtain ⟨q, ⟨hq⟩⟩ : ∃ q, Box (u / 256 = q) := ⟨_, ⟨rfl⟩⟩
    have hx8 : x < 256 := by omega
    have hqv : q ≤ v := by omega
    rw [hx] at e1
    rw [hq] at e2
    have hnX : x :: X = hiB (i + 1) v := by rw [hiB, ← hXb.out, ← hx, hub.out]
    have hnq : Box (q = v / 256 ^ (i + 1)) := ⟨by rw [← hq, hub.out, Nat.pow_succ, Nat.div_div_eq_div_mul]⟩
    clear hx hq
    obtain ⟨a2, cap2, w2, hr, sl2, hC2, hF⟩ := appB (c := cap) (l := [x]) (news := X) (madeB (w := w1.alloc (.cells #[.int .u8 (x : Int)] 5)) (g := w1.heap.size) (cap := 1) alloc_new rfl (by simp) rfl) ((Sl.inp sl).ext ext_) (by simp; omega)
    have hL : ([x] ++ X).length = i + 1 := by simp; omega
    rw [hL] at hr
    have hr' : apR Try.prog 53 (.slice (some ⟨w1.heap.size, 0, none⟩) 1 1) (.slice a i cap) (w1.alloc (.cells #[.int .u8 (x : Int)] 5)) = .ok (.slice a2 (i + 1) cap2) w2 := by rw [← hXl]; rw [hXl]; rw [hXl] at hr; exact hr
    clear hr hL
    have hE2 : Ext w w2 := hC2.toExt ext_ fun k hk h => by have := blk_g h; omega
    simp only [alloc_size] at hF
    refine w_ fun d => ?_
    refine ⟨⟨i + 1, q, x :: X, a2, cap2, by omega, eA (by push_cast; rfl), eA rfl, hnq, hqv, by rw [List.length_cons, hXl]; exact eA rfl, ⟨hnX⟩, by rw [List.length_cons, hXl], sl2, fun g hg => ?_, hE2⟩, mA⟩
    rcases hF g hg with h | h
    · have := blk_g h; omega
    · omega
  · obtain rfl : i = n := by omega
    have hX := hXb.out
    clear hXb
    subst hX
    refine w_ fun d => ?_
    exact ⟨⟨a, cap, by rw [hXl], sl, new⟩, ext_⟩
theorem num_calls (l : List Nat) (hl : l.length ≤ 8) (hb : ∀ x ∈ l, x < 256) (a : Option Addr) (cap : Nat) (w : World) (hI : Inp w 1 a (l.map byteRow)) :
    CallsR Try.prog 83 #[.slice a l.length cap] w fun r w' => r = .int .u64 (numB l : Nat) ∧ Ext w w' := by
  refine en1 Try.func83 Try.results83 mixed [] ?_
  intro e0 h0
  refine w_ fun d => ?_
  refine lo_ (fun W e w' => ∃ k y : Nat, k ≤ l.length ∧ e 4 = .int .i64 k ∧ e 3 = .int .u64 y ∧ Box (y = numB (l.take k)) ∧ Ext W w') (fun e _ => 8 - nat (e 4)) ?_ ?_
  · exact ⟨0, 0, by omega, eA rfl, eA rfl, ⟨rfl⟩, ext_⟩
  rintro e w1 hf ⟨k, y, hk, h8, h3, ⟨hy⟩, hE⟩
  by_cases hlt : k < l.length
  · obtain ⟨x, hx⟩ : ∃ x, l[k]? = some x := ⟨l[k], List.getElem?_eq_getElem hlt⟩
    obtain ⟨b, o, c, E, fz, rfl, hbk, hc⟩ := inpB (hI.ext hE) hx
    have hx8 := hb x (List.mem_of_getElem? hx)
    have hyl := num_lt (l := l.take k) fun z hz => hb z (List.mem_of_mem_take hz)
    have hpw : 256 ^ (l.take k).length ≤ 256 ^ 7 := Nat.pow_le_pow_right (by decide) (by rw [List.length_take]; omega)
    have e7 : 256 ^ 7 = 72057594037927936 := by decide
    rw [← hy] at hyl
    have ht : numB (l.take (k + 1)) = 256 * y + x := by rw [List.take_add_one, hx]; show numB (l.take k ++ [x]) = _; rw [num_snoc, ← hy]
    have hys : y < 72057594037927936 := by omega
    clear hx hpw hy e7 hyl
    refine w_ fun d => ?_
    refine ⟨⟨k + 1, 256 * y + x, by omega, eA (by push_cast; rfl), eA (by push_cast; rfl), ⟨ht.symm⟩, ext_⟩, mA⟩
  · obtain rfl : k = l.length := by omega
    rw [List.take_length] at hy
    refine w_ fun d => ?_
    exact ⟨rfl, ext_⟩
end Go.Proofs.Ytghcmogbmaedfaa
