/- Functions of eight variables as words of 256 bits, and the four numbers that hold one. No program is in sight. -/
import Derived.Test.YtghcmogbmaedfaaBxOps
import Derived.Test.YtghcmogbmaedfaaBxList
namespace Go.Bx
open Go
set_option linter.unusedSimpArgs false
set_option linter.unusedVariables false

abbrev Fun8 := BitVec 256
/-- The k-th of the four words. -/
def word (f : Fun8) (k : Nat) : BitVec 64 := f.extractLsb' (64 * k) 64
def vU (a : BitVec 64) : Value := .int .u64 (a.toNat : Int)
def w4 (h : Nat → BitVec 64) : Array Value := #[vU (h 0), vU (h 1), vU (h 2), vU (h 3)]
def fv (f : Fun8) : Value := .agg (w4 (word f))
/-- The function that four words hold. -/
def join (h : Nat → BitVec 64) : Fun8 := h 3 ++ (h 2 ++ (h 1 ++ h 0 : BitVec 128) : BitVec 192)

theorem word_bit (f : Fun8) (k i : Nat) (hi : i < 64) : (word f k).getLsbD i = f.getLsbD (64 * k + i) := by
  simp [word, BitVec.getLsbD_extractLsb', hi]
theorem bit_word (f : Fun8) (x : Nat) : f.getLsbD x = (word f (x / 64)).getLsbD (x % 64) := by
  rw [word_bit _ _ _ (Nat.mod_lt _ (by decide)), Nat.div_add_mod]
theorem word_ext {a b : BitVec 64} (h : ∀ i, i < 64 → a.getLsbD i = b.getLsbD i) : a = b := BitVec.eq_of_getLsbD_eq h
theorem fn_ext {f g : Fun8} (h : ∀ i, i < 256 → f.getLsbD i = g.getLsbD i) : f = g := BitVec.eq_of_getLsbD_eq h
theorem word_and (f g : Fun8) (k : Nat) : word (f &&& g) k = word f k &&& word g k := by
  refine word_ext fun i hi => ?_
  simp [word_bit _ _ _ hi]
theorem word_or (f g : Fun8) (k : Nat) : word (f ||| g) k = word f k ||| word g k := by
  refine word_ext fun i hi => ?_
  simp [word_bit _ _ _ hi]
theorem word_xor (f g : Fun8) (k : Nat) : word (f ^^^ g) k = word f k ^^^ word g k := by
  refine word_ext fun i hi => ?_
  simp [word_bit _ _ _ hi]
theorem word_not (f : Fun8) (k : Nat) (hk : k < 4) : word (~~~f) k = ~~~word f k := by
  refine word_ext fun i hi => ?_
  have : 64 * k + i < 256 := by omega
  rw [word_bit _ _ _ hi, BitVec.getLsbD_not, BitVec.getLsbD_not, word_bit _ _ _ hi]
  simp [hi, this]
theorem fn_words {f g : Fun8} (h : ∀ k, k < 4 → word f k = word g k) : f = g := by
  refine fn_ext fun i hi => ?_
  rw [bit_word f, bit_word g, h _ (by omega)]
theorem w4_congr {h h' : Nat → BitVec 64} (he : ∀ k, k < 4 → h k = h' k) : w4 h = w4 h' := by
  simp only [w4, he 0 (by decide), he 1 (by decide), he 2 (by decide), he 3 (by decide)]
theorem vU_inj {a b : BitVec 64} (h : vU a = vU b) : a = b := by
  simp only [vU, Value.int.injEq, true_and] at h
  exact BitVec.eq_of_toNat_eq (by omega)
theorem w4_inj {h h' : Nat → BitVec 64} (he : w4 h = w4 h') : ∀ k, k < 4 → h k = h' k := by
  simp only [w4, Array.mk.injEq, List.cons.injEq, and_true] at he
  obtain ⟨h0, h1, h2, h3⟩ := he
  intro k hk
  match k, hk with
  | 0, _ => exact vU_inj h0
  | 1, _ => exact vU_inj h1
  | 2, _ => exact vU_inj h2
  | 3, _ => exact vU_inj h3
theorem fv_inj {f g : Fun8} : fv f = fv g ↔ f = g :=
  ⟨fun h => fn_words (w4_inj (by simpa [fv] using h)), fun h => by rw [h]⟩
theorem fv_of {h : Nat → BitVec 64} {f : Fun8} (he : ∀ k, k < 4 → h k = word f k) : Value.agg (w4 h) = fv f := by rw [w4_congr he]; rfl
theorem word_join (h : Nat → BitVec 64) (k : Nat) (hk : k < 4) : word (join h) k = h k := by
  refine word_ext fun i hi => ?_
  rw [word_bit _ _ _ hi]
  simp only [join, BitVec.getLsbD_append]
  match k, hk with
  | 0, _ => rw [if_pos (by omega), if_pos (by omega), if_pos (by omega)]; exact congrArg _ (by omega)
  | 1, _ => rw [if_pos (by omega), if_pos (by omega), if_neg (by omega)]; exact congrArg _ (by omega)
  | 2, _ => rw [if_pos (by omega), if_neg (by omega)]; exact congrArg _ (by omega)
  | 3, _ => rw [if_neg (by omega)]; exact congrArg _ (by omega)
theorem w4_join (h : Nat → BitVec 64) : Value.agg (w4 h) = fv (join h) := fv_of fun k hk => (word_join h k hk).symm

/-! ### Operations on words -/
theorem ofInt_nat (a : BitVec 64) : BitVec.ofInt 64 (a.toNat : Int) = a := by
  rw [BitVec.ofInt_natCast, BitVec.ofNat_toNat, BitVec.setWidth_eq]
theorem wrap_nat (a : BitVec 64) : IntKind.u64.wrap (a.toNat : Int) = (a.toNat : Int) := by
  have := a.isLt
  exact wrap_u64 (by omega) (by omega)
theorem bits_and64 (a b : BitVec 64) : bits .and .u64 (a.toNat : Int) (b.toNat : Int) = ((a &&& b).toNat : Int) := by
  unfold bits; simp only [IntKind.bits, ofInt_nat]; exact wrap_nat _
theorem bits_or64 (a b : BitVec 64) : bits .or .u64 (a.toNat : Int) (b.toNat : Int) = ((a ||| b).toNat : Int) := by
  unfold bits; simp only [IntKind.bits, ofInt_nat]; exact wrap_nat _
theorem bits_xor64 (a b : BitVec 64) : bits .xor .u64 (a.toNat : Int) (b.toNat : Int) = ((a ^^^ b).toNat : Int) := by
  unfold bits; simp only [IntKind.bits, ofInt_nat]; exact wrap_nat _
section
variable {P : Program} {w : World} {t : TypeId} {x y : Operand} {a b : BitVec 64} {n : Int} {k' : IntKind}
theorem bU_and : binR P .and t x y (vU a) (vU b) w = .ok (vU (a &&& b)) w := by rw [vU, vU, binR_and, bits_and64]; rfl
theorem bU_or : binR P .or t x y (vU a) (vU b) w = .ok (vU (a ||| b)) w := by rw [vU, vU, binR_or, bits_or64]; rfl
theorem bU_xor : binR P .xor t x y (vU a) (vU b) w = .ok (vU (a ^^^ b)) w := by rw [vU, vU, binR_xor, bits_xor64]; rfl
theorem uU_not : unR P .xor (vU a) w = .ok (vU (~~~a)) w := by
  rw [vU, unR_xor]
  have : (if IntKind.u64.signed then (-1 : Int) else IntKind.u64.max) = ((BitVec.allOnes 64).toNat : Int) := by decide +kernel
  rw [this, bits_xor64, BitVec.allOnes_xor]; rfl
theorem bU_shr (h0 : 0 ≤ n) (h1 : n ≤ 64) : binR P .shr t x y (vU a) (.int k' n) w = .ok (vU (a >>> n.toNat)) w := by
  have hm : min n.toNat IntKind.u64.bits = n.toNat := by simp only [IntKind.bits]; omega
  rw [vU, binR_shr (by omega), hm, vU, BitVec.toNat_ushiftRight, Nat.shiftRight_eq_div_pow, Int.fdiv_eq_ediv_of_nonneg _ (Int.pow_nonneg (by decide))]
  rfl
theorem bU_shl (h0 : 0 ≤ n) (h1 : n ≤ 64) : binR P .shl t x y (vU a) (.int k' n) w = .ok (vU (a <<< n.toNat)) w := by
  have hm : min n.toNat IntKind.u64.bits = n.toNat := by simp only [IntKind.bits]; omega
  rw [vU, binR_shl (by omega), hm, vU, BitVec.toNat_shiftLeft, Nat.shiftLeft_eq, IntKind.wrap_u64]
  rfl
theorem bU_neg : unR P .neg (vU a) w = .ok (vU (-a)) w := by
  have := a.isLt
  rw [vU, unR_neg, vU, IntKind.wrap_u64, BitVec.toNat_neg]
  congr 2
  omega
theorem bU_eq : binR P .eql t x y (vU a) (vU b) w = .ok (.bool (a == b)) w := by
  rw [vU, vU, binR_eql]
  congr 2
  rw [Bool.eq_iff_iff]; simp only [beq_iff_eq]
  exact ⟨fun h => BitVec.eq_of_toNat_eq (by omega), fun h => by rw [h]⟩
theorem bU_and1 : binR P .and t x y (vU a) (.int .u64 1) w = .ok (vU (a &&& 1#64)) w := bU_and (b := 1#64)
theorem bU_eq1 : binR P .eql t x y (vU a) (.int .u64 1) w = .ok (.bool (a == 1#64)) w := bU_eq (b := 1#64)
theorem bU_shl1 (h0 : 0 ≤ n) (h1 : n ≤ 64) : binR P .shl t x y (.int .u64 1) (.int k' n) w = .ok (vU (1#64 <<< n.toNat)) w := bU_shl (a := 1#64) h0 h1
theorem bU_rem2 : binR P .rem t x y (vU a) (.int .u64 2) w = .ok (.int .u64 ((a.toNat : Int).tmod 2)) w := binR_rem (by decide)
end

/-- A number that is a word. -/
theorem isU {n : Int} (h0 : 0 ≤ n) (h1 : n < 18446744073709551616) : Value.int .u64 n = vU (BitVec.ofNat 64 n.toNat) := by
  rw [vU, BitVec.toNat_ofNat, Nat.mod_eq_of_lt (by omega)]
  congr 1; omega
/-- A bit, by a shift and a mask; by a shift and a rest. -/
theorem bit_and (a : BitVec 64) (i : Nat) : (a >>> i &&& 1#64 == 1#64) = a.getLsbD i := by
  rw [Bool.eq_iff_iff, beq_iff_eq]
  constructor
  · intro h
    have h2 : (a >>> i &&& 1#64).getLsbD 0 = true := by rw [h]; rfl
    simpa [BitVec.getLsbD_and, BitVec.getLsbD_ushiftRight] using h2
  · intro h
    refine word_ext fun j hj => ?_
    rw [BitVec.getLsbD_and, BitVec.getLsbD_ushiftRight, BitVec.getLsbD_one]
    cases j with
    | zero => simp [h]
    | succ j => simp
theorem bit_rem (a : BitVec 64) (i : Nat) : (((a >>> i).toNat : Int).tmod 2 == 1) = a.getLsbD i := by
  rw [BitVec.getLsbD, Bool.eq_iff_iff, beq_iff_eq, BitVec.toNat_ushiftRight, Nat.testBit_eq_decide_div_mod_eq, Nat.shiftRight_eq_div_pow, decide_eq_true_iff,
    Int.tmod_eq_emod_of_nonneg (Int.natCast_nonneg _)]
  generalize a.toNat / 2 ^ i = n
  omega

/-! ### Four words, one set -/
def setF (h : Nat → BitVec 64) (k : Nat) (a : BitVec 64) : Nat → BitVec 64 := fun i => if i = k then a else h i
theorem w4_size {h : Nat → BitVec 64} : (w4 h).size = 4 := rfl
theorem w4_get {h : Nat → BitVec 64} {k : Nat} (hk : k < 4) : (w4 h)[k]? = some (vU (h k)) := by
  match k, hk with
  | 0, _ => rfl
  | 1, _ => rfl
  | 2, _ => rfl
  | 3, _ => rfl
theorem w4_set {h : Nat → BitVec 64} {k : Nat} {a : BitVec 64} (hk : k < 4) : (w4 h).setIfInBounds k (vU a) = w4 (setF h k a) := by
  match k, hk with
  | 0, _ => rfl
  | 1, _ => rfl
  | 2, _ => rfl
  | 3, _ => rfl
theorem w4_over {h h' : Nat → BitVec 64} : ((((w4 h).setIfInBounds 0 (vU (h' 0))).setIfInBounds 1 (vU (h' 1))).setIfInBounds 2 (vU (h' 2))).setIfInBounds 3 (vU (h' 3)) = w4 h' := rfl
theorem w4_list {h : Nat → BitVec 64} : (w4 h).toList = [vU (h 0), vU (h 1), vU (h 2), vU (h 3)] := rfl
theorem vcs_w4 {h : Nat → BitVec 64} : vcs (.agg (w4 h)) = [vU (h 0), vU (h 1), vU (h 2), vU (h 3)] := rfl
theorem vcs_fv {f : Fun8} : vcs (fv f) = [vU (word f 0), vU (word f 1), vU (word f 2), vU (word f 3)] := rfl
theorem vcs_vU {a : BitVec 64} : vcs (vU a) = [vU a] := rfl

/-! ### A function by its rows -/
def tabOf (p : Nat → Bool) : Nat → Fun8
  | 0 => 0#256
  | n + 1 => if p n then tabOf p n ||| BitVec.twoPow 256 n else tabOf p n
theorem tabOf_bit (p : Nat → Bool) : ∀ (n i : Nat), i < 256 → (tabOf p n).getLsbD i = (decide (i < n) && p i)
  | 0, i, _ => by simp [tabOf]
  | n + 1, i, hi => by
    have ih := tabOf_bit p n i hi
    by_cases hp : p n
    · rw [tabOf, if_pos hp]
      simp only [BitVec.getLsbD_or, BitVec.getLsbD_twoPow, ih]
      by_cases hin : i = n
      · subst hin; simp [hi, hp]
      · have : (decide (i < n + 1)) = decide (i < n) := by rw [decide_eq_decide]; omega
        have h2 : (n == i) = false := by simpa using fun h => hin h.symm
        simp [this]; omega
    · rw [tabOf, if_neg hp, ih]
      by_cases hin : i = n
      · subst hin; simp at hp; simp [hp]
      · have : (decide (i < n + 1)) = decide (i < n) := by rw [decide_eq_decide]; omega
        rw [this]
theorem tabOf_eq {p : Nat → Bool} {f : Fun8} (h : ∀ i, i < 256 → f.getLsbD i = p i) : tabOf p 256 = f := by
  refine fn_ext fun i hi => ?_
  rw [tabOf_bit p 256 i hi, h i hi]; simp [hi]
/-- One row more. -/
theorem word_put (f : Fun8) (x k : Nat) (hx : x < 256) (hk : k < 4) : word (f ||| BitVec.twoPow 256 x) k = if k = x / 64 then word f k ||| (1#64 <<< (x % 64)) else word f k := by
  refine word_ext fun i hi => ?_
  rw [word_bit _ _ _ hi]
  simp only [BitVec.getLsbD_or, BitVec.getLsbD_twoPow]
  by_cases hkx : k = x / 64
  · rw [if_pos hkx]
    simp only [BitVec.getLsbD_or, word_bit _ _ _ hi, BitVec.getLsbD_shiftLeft, BitVec.getLsbD_one]
    congr 1
    rw [Bool.eq_iff_iff]
    simp only [beq_iff_eq, Bool.and_eq_true, decide_eq_true_eq, Bool.not_eq_true', decide_eq_false_iff_not]
    omega
  · rw [if_neg hkx, word_bit _ _ _ hi]
    have : x ≠ 64 * k + i := by omega
    have h2 : ((x == 64 * k + i) : Bool) = false := by simpa using this
    simp [this, h2]
end Go.Bx
