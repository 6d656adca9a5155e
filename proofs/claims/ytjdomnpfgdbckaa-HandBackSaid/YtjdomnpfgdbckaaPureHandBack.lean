/- Proved: what Pack packs Unpack unpacks and the other way round; unlike handles have unlike numbers; with any bit turned it is another handle, or none. No condition but that each number is one of its kind. -/
import Derived.Test.YtjdomnpfgdbckaaPHandBackx2
namespace Go.Proofs.Ytjdomnpfgdbckaa.Pure
open Go.RowKit Go.Proofs.Ytjdomnpfgdbckaa.PHandBack Go.Proofs.YtjdomnpfgdbckaaW.PrintWords Go.Proofs.YtjdomnpfgdbckaaW.PrintLast Go.Proofs.YtjdomnpfgdbckaaW.PrintMore

namespace HandBackAux
def pk (a b c : Int) : Int := if a < 1 then 0 else if a > 8 then 0 else if b < 0 then 0 else if b > 15 then 0 else if c < 0 then 0 else if c > 15 then 0 else 72057594037927936 * a + 281474976710656 * b + c

theorem wraps_u64 (n : Int) (h₀ : 0 ≤ n) (h₁ : n < 2 ^ 64) : IntKind.u64.wrap n = n := by rw [IntKind.wrap_u64]; omega

theorem or_add (i : Nat) (x y : Int) (hx₀ : 0 ≤ x) (hx : x % 2 ^ i = 0) (hx₁ : x < 2 ^ 64) (hy₀ : 0 ≤ y) (hy : y < 2 ^ i) (hy₁ : y < 2 ^ 64) : bits .or .u64 x y = x + y :=
  bits_join .u64 64 (by decide) wraps_u64 i x y hx₀ hx hx₁ hy₀ hy hy₁
theorem and255 (x : Int) (h0 : 0 ≤ x) (h1 : x < 2 ^ 64) : bits .and .u64 x 255 = x % 256 :=
  bits_mask .u64 64 (by decide) wraps_u64 8 (by decide) x h0 h1

theorem pack (a b c : Int) : hand_Pack.f a b c = some (pk a b c) := by
  unfold hand_Pack.f pk
  simp only [IntKind.wrap_u64]
  by_cases h1 : a < 1
  · rw [if_pos h1, if_pos h1]
  rw [if_neg h1, if_neg h1]
  by_cases h2 : a > 8
  · rw [if_pos h2, if_pos h2]
  rw [if_neg h2, if_neg h2]
  by_cases h3 : b < 0
  · rw [if_pos h3, if_pos h3]
  rw [if_neg h3, if_neg h3]
  by_cases h4 : b > 15
  · rw [if_pos (show b ≥ 16 by omega), if_pos h4]
  rw [if_neg (show ¬ b ≥ 16 by omega), if_neg h4]
  by_cases h5 : c < 0
  · rw [if_pos h5, if_pos h5]
  rw [if_neg h5, if_neg h5]
  by_cases h6 : c > 15
  · rw [if_pos h6, if_pos h6]
  rw [if_neg h6, if_neg h6]
  congr 1
  rw [show a % 18446744073709551616 * 72057594037927936 % 18446744073709551616 = 72057594037927936 * a by omega,
    show b % 18446744073709551616 * 281474976710656 % 18446744073709551616 = 281474976710656 * b by omega,
    show c % 18446744073709551616 = c by omega]
  rw [or_add 56 (72057594037927936 * a) (281474976710656 * b) (by omega) (by omega) (by omega) (by omega) (by omega) (by omega)]
  rw [or_add 48 (72057594037927936 * a + 281474976710656 * b) c (by omega) (by omega) (by omega) (by omega) (by omega) (by omega)]


theorem pk_zero (a b c : Int) (h : ¬ (1 ≤ a ∧ a ≤ 8 ∧ 0 ≤ b ∧ b ≤ 15 ∧ 0 ≤ c ∧ c ≤ 15)) : pk a b c = 0 := by
  unfold pk
  repeat' split
  all_goals first | rfl | omega
theorem pk_good (a b c : Int) (h : 1 ≤ a ∧ a ≤ 8 ∧ 0 ≤ b ∧ b ≤ 15 ∧ 0 ≤ c ∧ c ≤ 15) : pk a b c = 72057594037927936 * a + 281474976710656 * b + c := by
  unfold pk
  repeat' split
  all_goals first | rfl | omega

/-- What Unpack tells. -/
def un (h : Int) : Int × Int × Int × Bool :=
  if h = 0 then (0, 0, 0, false) else if pk (h / 72057594037927936) (h / 281474976710656 % 256) (h % 256) = h then (h / 72057594037927936, h / 281474976710656 % 256, h % 256, true) else (0, 0, 0, false)

theorem unpack (h : Int) (h0 : 0 ≤ h) (h1 : h < 18446744073709551616) : hand_Unpack.f h = some (un h) := by
  unfold hand_Unpack.f un
  rw [and255 _ (by omega) (by omega), and255 _ (by omega) (by omega)]
  rw [show wrap64 (h / 72057594037927936) = h / 72057594037927936 by unfold wrap64; omega, show wrap64 (h / 281474976710656 % 256) = h / 281474976710656 % 256 by unfold wrap64; omega, show wrap64 (h % 256) = h % 256 by unfold wrap64; omega]
  simp only [pack, Option.bind_some]
  split
  · rfl
  · split <;> rfl

theorem un_good (a b c : Int) (h : 1 ≤ a ∧ a ≤ 8 ∧ 0 ≤ b ∧ b ≤ 15 ∧ 0 ≤ c ∧ c ≤ 15) : un (pk a b c) = (a, b, c, true) := by
  unfold un
  rw [pk_good a b c h, if_neg (by omega)]
  rw [show (72057594037927936 * a + 281474976710656 * b + c) / 72057594037927936 = a by omega, show (72057594037927936 * a + 281474976710656 * b + c) / 281474976710656 % 256 = b by omega, show (72057594037927936 * a + 281474976710656 * b + c) % 256 = c by omega]
  rw [pk_good a b c h, if_pos rfl]

theorem un_is (h : Int) (x y z : Int) (e : un h = (x, y, z, true)) : pk x y z = h := by
  unfold un at e
  split at e
  · simp at e
  · split at e
    · rename_i hp
      simp only [Prod.mk.injEq] at e
      obtain ⟨rfl, rfl, rfl, _⟩ := e
      exact hp
    · simp at e

theorem upOk : bowerlaw15_up.f = some true := by
  unfold bowerlaw15_up.f
  rw [unpack _ (by decide) (by decide)]
  simp only [pack]
  decide +kernel

theorem xor_ne (n : Int) (h0 : 0 ≤ n) (h1 : n < 18446744073709551616) (b : Int) (b0 : 0 ≤ b) (b1 : b ≤ 63) :
    0 ≤ bits .xor .u64 n (shl .u64 1 b) ∧ bits .xor .u64 n (shl .u64 1 b) < 18446744073709551616 ∧ bits .xor .u64 n (shl .u64 1 b) ≠ n := by
  obtain ⟨n, rfl⟩ := Int.eq_ofNat_of_zero_le h0
  obtain ⟨b, rfl⟩ := Int.eq_ofNat_of_zero_le b0
  have hb : b ≤ 63 := by omega
  have hp : 2 ^ b < 18446744073709551616 := Nat.lt_of_le_of_lt (Nat.pow_le_pow_right (by decide) hb) (by decide : 2 ^ 63 < 18446744073709551616)
  have e : shl .u64 1 (b : Int) = ((2 ^ b : Nat) : Int) := by
    have hbits : IntKind.u64.bits = 64 := rfl
    unfold shl
    rw [Int.toNat_natCast, hbits, Nat.min_eq_left (by omega), IntKind.wrap_u64]
    have h2 : ((2 : Int) ^ b) = ((2 ^ b : Nat) : Int) := by simp
    rw [h2, Int.one_mul]
    have hc : (0 : Int) ≤ ((2 ^ b : Nat) : Int) := Int.natCast_nonneg _
    omega
  rw [e, bits_xor_u64_nat n (2 ^ b) (by omega) hp]
  have hx : n ^^^ 2 ^ b < 2 ^ 64 := Nat.xor_lt_two_pow (by omega) (by omega)
  refine ⟨Int.natCast_nonneg _, by omega, ?_⟩
  intro he
  have he' : n ^^^ 2 ^ b = n := by omega
  have h2 : 2 ^ b = 0 := by
    have := congrArg (fun t => n ^^^ t) he'
    simp only [← Nat.xor_assoc, Nat.xor_self, Nat.zero_xor] at this
    exact this
  have := Nat.two_pow_pos b
  omega

theorem pk_lt (a b c : Int) : 0 ≤ pk a b c ∧ pk a b c < 18446744073709551616 := by
  unfold pk
  repeat' split
  all_goals omega

/-- The law's three steps. -/
theorem j3 (k : Nat) (a b c bit : Int) (good : Bool) (_hg : good = decide (1 ≤ a ∧ a ≤ 8 ∧ 0 ≤ b ∧ b ≤ 15 ∧ 0 ≤ c ∧ c ≤ 15)) : bowerlaw15_HandBack.j3 (k + 1) a b c bit true (pk a b c) good false = some true := by
  simp only [bowerlaw15_HandBack.j3, Bool.false_eq_true, if_false]
  split
  · rfl
  split
  · rfl
  split
  · rename_i h1 h2 h3
    have hw : IntKind.u64.wrap bit = bit := by rw [IntKind.wrap_u64]; omega
    rw [hw, if_pos (by omega)]
    have hp := pk_lt a b c
    have hx := xor_ne (pk a b c) hp.1 hp.2 bit (by omega) (by omega)
    rw [unpack _ hx.1 hx.2.1]
    simp only [Option.bind_some, if_true]
    split
    · rename_i h4
      split
      · rename_i h5
        split
        · rename_i h6
          by_cases h7 : (un (bits .xor .u64 (pk a b c) (shl .u64 1 bit))).2.2.1 = c
          · exfalso
            refine hx.2.2 ?_
            generalize bits .xor .u64 (pk a b c) (shl .u64 1 bit) = y at h4 h5 h6 h7 ⊢
            refine (un_is y a b c ?_).symm
            rw [← h5, ← h6, ← h7, ← h4]
          · simp [h7]
        · rfl
      · rfl
    · rfl
  · rfl

theorem j2 (k : Nat) (a b c h bit : Int) (h0 : 0 ≤ h) (h1 : h < 18446744073709551616) (good : Bool) (hg : good = decide (1 ≤ a ∧ a ≤ 8 ∧ 0 ≤ b ∧ b ≤ 15 ∧ 0 ≤ c ∧ c ≤ 15)) : bowerlaw15_HandBack.j2 (k + 2) a b c h bit true (pk a b c) good false = some true := by
  simp only [bowerlaw15_HandBack.j2, Bool.false_eq_true, if_false]
  rw [unpack h h0 h1]
  simp only [Option.bind_some, pack]
  split
  · rename_i h2
    have : pk (un h).1 (un h).2.1 (un h).2.2.1 = h := un_is h _ _ _ (by rw [← h2])
    rw [this]
    simp only [bne_self_eq_false]
    exact j3 k a b c bit good hg
  · exact j3 k a b c bit good hg

theorem j1 (k : Nat) (a b c o m h bit : Int) (h0 : 0 ≤ h) (h1 : h < 18446744073709551616) (good : Bool) (hg : good = decide (1 ≤ a ∧ a ≤ 8 ∧ 0 ≤ b ∧ b ≤ 15 ∧ 0 ≤ c ∧ c ≤ 15)) : bowerlaw15_HandBack.j1 (k + 3) a b c o m h bit true (pk a b c) good false = some true := by
  simp only [bowerlaw15_HandBack.j1, Bool.false_eq_true, if_false]
  simp only [Option.bind_some, pack]
  split
  · exact j2 k a b c h bit h0 h1 good hg
  split
  · exact j2 k a b c h bit h0 h1 good hg
  rename_i g1 g2
  have hgood : 1 ≤ a ∧ a ≤ 8 ∧ 0 ≤ b ∧ b ≤ 15 ∧ 0 ≤ c ∧ c ≤ 15 := Classical.byContradiction fun hn => g1 (pk_zero a b c hn)
  have hgood2 : 1 ≤ a ∧ a ≤ 8 ∧ 0 ≤ o ∧ o ≤ 15 ∧ 0 ≤ m ∧ m ≤ 15 := Classical.byContradiction fun hn => g2 (pk_zero a o m hn)
  split
  · rename_i h2
    have : ((pk a b c == pk a o m) != (c == m)) = false := by
      rw [pk_good _ _ _ hgood, pk_good _ _ _ hgood2, ← h2]
      by_cases h3 : c = m
      · simp [h3]
      · have h4 : (72057594037927936 * a + 281474976710656 * b + c == 72057594037927936 * a + 281474976710656 * b + m) = false := by rw [beq_eq_false_iff_ne]; omega
        rw [h4, beq_eq_false_iff_ne.2 h3]; rfl
    rw [this]
    exact j2 k a b c h bit h0 h1 good hg
  · rename_i h2
    have : ((pk a b c == pk a o m) != false) = false := by
      rw [pk_good _ _ _ hgood, pk_good _ _ _ hgood2]
      have h4 : (72057594037927936 * a + 281474976710656 * b + c == 72057594037927936 * a + 281474976710656 * o + m) = false := by rw [beq_eq_false_iff_ne]; omega
      rw [h4]; rfl
    rw [this]
    exact j2 k a b c h bit h0 h1 good hg

theorem j0 (k : Nat) (a b c o m h bit : Int) (h0 : 0 ≤ h) (h1 : h < 18446744073709551616) (good : Bool) (hg : good = decide (1 ≤ a ∧ a ≤ 8 ∧ 0 ≤ b ∧ b ≤ 15 ∧ 0 ≤ c ∧ c ≤ 15)) : bowerlaw15_HandBack.j0 (k + 4) a b c o m h bit true (pk a b c) good = some true := by
  have hp := pk_lt a b c
  simp only [bowerlaw15_HandBack.j0]
  rw [unpack _ hp.1 hp.2]
  simp only [Option.bind_some]
  have e := j1 k a b c o m h bit h0 h1 good hg
  by_cases hgd : 1 ≤ a ∧ a ≤ 8 ∧ 0 ≤ b ∧ b ≤ 15 ∧ 0 ≤ c ∧ c ≤ 15
  · have hgt : good = true := by rw [hg]; exact decide_eq_true hgd
    subst hgt
    rw [un_good _ _ _ hgd]
    have hne : pk a b c ≠ 0 := by rw [pk_good _ _ _ hgd]; omega
    have hne' : (pk a b c != 0) = true := by simpa using hne
    simp only [hne', bne_self_eq_false, Bool.false_eq_true, if_false, if_true]
    exact e
  · have hgf : good = false := by rw [hg]; exact decide_eq_false hgd
    subst hgf
    have hz := pk_zero _ _ _ hgd
    rw [hz] at e ⊢
    simp only [un, if_true, bne_self_eq_false, Bool.false_eq_true, if_false]
    exact e
end HandBackAux
open HandBackAux

/-- The statement over numbers alone. -/
theorem HandBack : bowerlaw15_HandBack.Pure := by
  intro a0 a1 a2 a3 a4 a5 a6 _ _ _ _ _ w5 _
  have hb : 0 ≤ a5 ∧ a5 < 18446744073709551616 := by
    simp [Lit.wf, IntKind.min, IntKind.max, IntKind.bits, IntKind.signed] at w5
    omega
  refine ⟨4, ?_⟩
  unfold bowerlaw15_HandBack.f
  rw [upOk]
  simp only [Option.bind_some, pack]
  repeat' split
  all_goals (refine j0 0 a0 a1 a2 a3 a4 a5 a6 hb.1 hb.2 _ ?_; simp only [Bool.false_eq, decide_eq_decide, decide_eq_false_iff_not]; omega)

end Go.Proofs.Ytjdomnpfgdbckaa.Pure
