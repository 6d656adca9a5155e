/- Proved: for every tenant, slot, generation and every handle's number, the program's Pack and Unpack tell what the document's do, and its example holds; no condition but that each number is one of its kind. -/
import Derived.Test.YtjdomnpfgdbckaaPHandTellsx1
namespace Go.Proofs.Ytjdomnpfgdbckaa.Pure
open Go.RowKit Go.Proofs.Ytjdomnpfgdbckaa.PHandTells Go.Proofs.YtjdomnpfgdbckaaW.PrintWords Go.Proofs.YtjdomnpfgdbckaaW.PrintLast

namespace HandTellsAux
def pk (a b c : Int) : Int := if a < 1 then 0 else if a > 8 then 0 else if b < 0 then 0 else if b > 15 then 0 else if c < 0 then 0 else if c > 15 then 0 else 72057594037927936 * a + 281474976710656 * b + c

theorem ref_pack (a b c : Int) : bowerref15_Pack.f a b c = some (pk a b c) := by
  unfold bowerref15_Pack.f pk
  simp only [IntKind.wrap_u64]
  repeat' split
  all_goals first | rfl | omega | skip
  congr 1
  omega

theorem wraps_u64 (n : Int) (h₀ : 0 ≤ n) (h₁ : n < 2 ^ 64) : IntKind.u64.wrap n = n := by rw [IntKind.wrap_u64]; omega

theorem or_add (i : Nat) (x y : Int) (hx₀ : 0 ≤ x) (hx : x % 2 ^ i = 0) (hx₁ : x < 2 ^ 64) (hy₀ : 0 ≤ y) (hy : y < 2 ^ i) (hy₁ : y < 2 ^ 64) : bits .or .u64 x y = x + y :=
  bits_join .u64 64 (by decide) wraps_u64 i x y hx₀ hx hx₁ hy₀ hy hy₁
theorem and255 (x : Int) (h0 : 0 ≤ x) (h1 : x < 2 ^ 64) : bits .and .u64 x 255 = x % 256 :=
  bits_mask .u64 64 (by decide) wraps_u64 8 (by decide) x h0 h1

theorem pack (a b c : Int) : hand_Pack.f a b c = some (pk a b c) := by
  unfold hand_Pack.f pk
  simp only [IntKind.wrap_u64]
  by_cases h1 : a < 1
  · rw [if_pos h1, if_pos h1]
  rw [if_neg h1, if_neg h1]
  by_cases h2 : a > 8
  · rw [if_pos h2, if_pos h2]
  rw [if_neg h2, if_neg h2]
  by_cases h3 : b < 0
  · rw [if_pos h3, if_pos h3]
  rw [if_neg h3, if_neg h3]
  by_cases h4 : b > 15
  · rw [if_pos (show b ≥ 16 by omega), if_pos h4]
  rw [if_neg (show ¬ b ≥ 16 by omega), if_neg h4]
  by_cases h5 : c < 0
  · rw [if_pos h5, if_pos h5]
  rw [if_neg h5, if_neg h5]
  by_cases h6 : c > 15
  · rw [if_pos h6, if_pos h6]
  rw [if_neg h6, if_neg h6]
  congr 1
  rw [show a % 18446744073709551616 * 72057594037927936 % 18446744073709551616 = 72057594037927936 * a by omega,
    show b % 18446744073709551616 * 281474976710656 % 18446744073709551616 = 281474976710656 * b by omega,
    show c % 18446744073709551616 = c by omega]
  rw [or_add 56 (72057594037927936 * a) (281474976710656 * b) (by omega) (by omega) (by omega) (by omega) (by omega) (by omega)]
  rw [or_add 48 (72057594037927936 * a + 281474976710656 * b) c (by omega) (by omega) (by omega) (by omega) (by omega) (by omega)]

theorem unpack (h : Int) (h0 : 0 ≤ h) (h1 : h < 18446744073709551616) : hand_Unpack.f h = bowerref15_Unpack.f h := by
  unfold hand_Unpack.f bowerref15_Unpack.f
  rw [and255 _ (by omega) (by omega), and255 _ (by omega) (by omega)]
  rw [Int.tdiv_eq_ediv_of_nonneg h0, Int.tdiv_eq_ediv_of_nonneg h0, Int.tmod_eq_emod_of_nonneg h0]
  rw [show IntKind.u64.wrap (h / 72057594037927936) = h / 72057594037927936 by rw [IntKind.wrap_u64]; omega,
    show IntKind.u64.wrap (h / 281474976710656) = h / 281474976710656 by rw [IntKind.wrap_u64]; omega]
  rw [Int.tmod_eq_emod_of_nonneg (show 0 ≤ h / 281474976710656 by omega)]
  simp only [pack, ref_pack]

theorem unpack_some (h : Int) : ∃ r, hand_Unpack.f h = some r := by
  unfold hand_Unpack.f
  simp only [pack, Option.bind_some]
  repeat' split
  all_goals exact ⟨_, rfl⟩

theorem upOk : bowerlaw15_up.f = some true := by
  unfold bowerlaw15_up.f
  rw [unpack _ (by decide) (by decide)]
  simp only [pack]
  unfold bowerref15_Unpack.f
  simp only [ref_pack]
  decide +kernel
end HandTellsAux
open HandTellsAux

/-- The statement over numbers alone. -/
theorem HandTells : bowerlaw15_HandTells.Pure := by
  intro a0 a1 a2 a3 _ _ _ w3
  have hb : 0 ≤ a3 ∧ a3 < 18446744073709551616 := by
    simp [Lit.wf, IntKind.min, IntKind.max, IntKind.bits, IntKind.signed] at w3
    omega
  unfold bowerlaw15_HandTells.f
  obtain ⟨r, hr⟩ := unpack_some a3
  have hr2 := hr
  rw [unpack a3 hb.1 hb.2] at hr2
  rw [upOk, hr, hr2]
  simp [pack, ref_pack]

end Go.Proofs.Ytjdomnpfgdbckaa.Pure
