/- Walks of layer 18: numbers as bytes. -/
import Derived.Test.YtghcmogbmaedfaaWire
namespace Go.Proofs.Ytghcmogbmaedfaa
open Go Go.Bx
set_option linter.unusedSimpArgs false
set_option linter.unusedVariables false
set_option maxRecDepth 100000
set_option maxHeartbeats 4000000
attribute [local irreducible] X XO XE XF XD XW thenX inX retX kN CallsR
theorem shr64 {x k : Nat} (hk : k ≤ 64) : (x : Int).fdiv (2 ^ min k IntKind.u64.bits) = ((x / 2 ^ k : Nat) : Int) := by
  have : min k IntKind.u64.bits = k := by simp only [IntKind.bits]; omega
  rw [this, Int.fdiv_eq_ediv_of_nonneg _ (Int.pow_nonneg (by decide)), Int.natCast_ediv, Int.natCast_pow]; rfl
theorem u8_wrap (q : Nat) : IntKind.u8.wrap (q : Int) = ((q % 256 : Nat) : Int) := by
  simp only [IntKind.wrap, IntKind.signed, IntKind.bits]
  simp
theorem number_calls (bs : List Nat) (v n : Nat) (hn : n ≤ 8) (hl : bs.length ≤ 1000) (a : Option Addr) (cap : Nat) (w : World) (h : SlB w a cap bs) :
    CallsR Try.prog 72 #[.slice a bs.length cap, .int .u64 v, .int .i64 n] w fun r w' => (∃ a' cap', r = .slice a' (bs ++ hiB n v).length cap' ∧ SlB w' a' cap' (bs ++ hiB n v) ∧ ∀ g, blk a' = some g → blk a = some g ∨ w.heap.size ≤ g) ∧ Chg (fun k => blk a = some k) w w' := by
  refine en3 Try.func72 Try.results72 mixed [] ?_
  intro e0 h0 h1 h2
  refine w_ fun d => ?_
  refine lo_ (fun W e w' => ∃ (k : Nat) (X : List Nat) (a1 : Option Addr) (cap1 : Nat), X.length + k = n ∧ X ++ hiB k v = hiB n v ∧ e 7 = .int .i64 ((k : Int) - 1) ∧ e 0 = .slice a1 (bs ++ X).length cap1 ∧ SlB w' a1 cap1 (bs ++ X) ∧ (∀ g, blk a1 = some g → blk a = some g ∨ w.heap.size ≤ g) ∧ Chg (fun k => blk a = some k) w w') (fun e _ => upI (e 7)) ?_ ?_
  · exact ⟨n, [], a, cap, by simp, by simp, eA rfl, by rw [List.append_nil]; exact eA rfl, by rw [List.append_nil]; exact h, fun g hg => .inl hg, Chg.refl _ _⟩
  rintro e w1 hf ⟨k, X, a1, cap1, hk, hX, h7, h0', sl, new, hC⟩
  cases k with
  | zero =>
    have h7' : e 7 = .int .i64 (-1) := by rw [h7]; rfl
    have : X = hiB n v := by rw [← hX]; simp [hiB]
    subst this
    clear h7
    refine w_ fun d => ?_
    exact ⟨⟨a1, cap1, rfl, sl, new⟩, hC⟩
  | succ m =>
    have h7' : e 7 = .int .i64 (m : Int) := by rw [h7]; congr 1; omega
    clear h7
    have e8 : (8 * (m : Int)).toNat = 8 * m := by omega
    obtain ⟨q, ⟨hq⟩⟩ : ∃ q, Box (v / 256 ^ m = q) := ⟨_, ⟨rfl⟩⟩
    have hsh : (v : Int).fdiv (2 ^ min (8 * m) IntKind.u64.bits) = (q : Int) := by
      rw [shr64 (by omega), Nat.pow_mul, ← hq]
    obtain ⟨x, ⟨hx⟩⟩ : ∃ x, Box (q % 256 = x) := ⟨_, ⟨rfl⟩⟩
    have hw : IntKind.u8.wrap (q : Int) = (x : Int) := by rw [u8_wrap, hx]
    have hXl : (bs ++ X).length ≤ 1010 := by rw [List.length_append]; omega
    obtain ⟨a2, cap2, w2, hr, sl2, hC2, hlt, hF⟩ := pushB (k := 1) (us := #[.int .u8 (x : Int)]) (news := [x]) sl rfl (by rw [List.length_singleton]; omega) rfl
    generalize hL : (bs ++ X).length = L at *
    refine w_ fun d => ?_
    refine ⟨⟨m, X ++ [x], a2, cap2, by rw [List.length_append, List.length_singleton]; omega, ?_, eA (by push_cast; rfl), by rw [← List.append_assoc]; exact eA rfl, by rw [← List.append_assoc]; exact sl2, ?_, ?_⟩, ?_⟩
    · rw [← hX, hiB, hq, hx, List.append_assoc]
      try rfl
    · intro g hg
      rcases hF g hg with h | h
      · exact new g h
      · have := hC.size; exact .inr (by omega)
    · refine hC.trans hC2 fun b hb hg => (new b hg).resolve_right (by omega)
    · exact mS
theorem bor_u64 {y x : Nat} (hy : y < 2 ^ 56) (hx : x < 256) : bits .or .u64 ((256 * y : Nat) : Int) (x : Int) = ((256 * y + x : Nat) : Int) := by
  have h1 : IntKind.u64.wrap (((256 * y ||| x : Nat)) : Int) = ((256 * y ||| x : Nat) : Int) := by
    have : 256 * y ||| x < 2 ^ 64 := Nat.or_lt_two_pow (by omega) (by omega)
    rw [wrap_u64 (by omega) (by omega)]
  have h2 : 256 * y ||| x = 256 * y + x := by
    have := Nat.shiftLeft_add_eq_or_of_lt (a := y) (b := x) (i := 8) hx
    rw [Nat.shiftLeft_eq, Nat.mul_comm] at this
    exact this.symm
  have hl : 256 * y ||| x < 2 ^ 64 := Nat.or_lt_two_pow (by omega) (by omega)
  have e : (BitVec.ofNat 64 (256 * y) ||| BitVec.ofNat 64 x).toNat = 256 * y ||| x := by
    rw [BitVec.toNat_or, BitVec.toNat_ofNat, BitVec.toNat_ofNat, Nat.mod_eq_of_lt (by omega), Nat.mod_eq_of_lt (by omega)]
  rw [← h2]
  show IntKind.u64.wrap (((BitVec.ofInt 64 ((256 * y : Nat) : Int) ||| BitVec.ofInt 64 (x : Int) : BitVec 64).toNat : Nat) : Int) = _
  rw [BitVec.ofInt_natCast, BitVec.ofInt_natCast, e]
  exact h1
theorem value_calls (l : List Nat) (hl : l.length ≤ 8) (hb : ∀ x ∈ l, x < 256) (a : Option Addr) (cap : Nat) (w : World) (hI : Inp w 1 a (l.map byteRow)) :
    CallsR Try.prog 81 #[.slice a l.length cap] w fun r w' => r = .int .u64 (numB l : Nat) ∧ Ext w w' := by
  refine en1 Try.func81 Try.results81 mixed [] ?_
  intro e0 h0
  refine w_ fun d => ?_
  refine lo_ (fun W e w' => ∃ k y : Nat, k ≤ l.length ∧ e 8 = .int .i64 k ∧ e 3 = .int .u64 y ∧ Box (y = numB (l.take k)) ∧ Ext w w') (fun e _ => 8 - nat (e 8)) ?_ ?_
  · exact ⟨0, 0, by omega, eA rfl, eA rfl, ⟨rfl⟩, ext_⟩
  rintro e w1 hf ⟨k, y, hk, h8, h3, ⟨hy⟩, hE⟩
  by_cases hlt : k < l.length
  · obtain ⟨x, hx⟩ : ∃ x, l[k]? = some x := ⟨l[k], List.getElem?_eq_getElem hlt⟩
    obtain ⟨b, o, c, E, fz, rfl, hbk, hc⟩ := inpB (hI.ext hE) hx
    have hx8 := hb x (List.mem_of_getElem? hx)
    have hyl := num_lt (l := l.take k) fun z hz => hb z (List.mem_of_mem_take hz)
    have hpw : 256 ^ (l.take k).length ≤ 256 ^ 7 := Nat.pow_le_pow_right (by decide) (by rw [List.length_take]; omega)
    have e7 : 256 ^ 7 = 72057594037927936 := by decide
    rw [← hy] at hyl
    have hys : y < 2 ^ 56 := by omega
    have ht : numB (l.take (k + 1)) = 256 * y + x := by rw [List.take_add_one, hx]; show numB (l.take k ++ [x]) = _; rw [num_snoc, ← hy]
    obtain ⟨z, ⟨hz⟩⟩ : ∃ z, Box (256 * y = z) := ⟨_, ⟨rfl⟩⟩
    obtain ⟨t, ⟨hzt⟩⟩ : ∃ t, Box (256 * y + x = t) := ⟨_, ⟨rfl⟩⟩
    have hsl : IntKind.u64.wrap ((y : Int) * 2 ^ min 8 IntKind.u64.bits) = (z : Int) := by
      rw [show ((y : Int) * 2 ^ min 8 IntKind.u64.bits) = ((256 * y : Nat) : Int) by rw [show min 8 IntKind.u64.bits = 8 from rfl]; omega, wrap_u64 (by omega) (by omega), hz]
    have hor : bits .or .u64 (z : Int) (x : Int) = (t : Int) := by rw [← hz, bor_u64 hys hx8, hzt]
    rw [hzt] at ht
    clear hx hzt hz hpw e7 hyl hy
    refine w_ fun d => ?_
    exact ⟨⟨k + 1, t, by omega, eA (by push_cast; rfl), eA rfl, ⟨ht.symm⟩, ext_⟩, mA⟩
  · obtain rfl : k = l.length := by omega
    rw [List.take_length] at hy
    refine w_ fun d => ?_
    exact ⟨rfl, ext_⟩
end Go.Proofs.Ytghcmogbmaedfaa
