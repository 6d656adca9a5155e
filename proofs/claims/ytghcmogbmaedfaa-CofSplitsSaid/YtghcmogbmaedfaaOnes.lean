/- Walks of layer 2: how many rows. -/
import Derived.Test.YtghcmogbmaedfaaCof
namespace Go.Proofs.Ytghcmogbmaedfaa
open Go Go.Bx
set_option linter.unusedSimpArgs false
set_option linter.unusedVariables false
set_option maxRecDepth 100000
set_option maxHeartbeats 4000000
attribute [local irreducible] X XO XE XF XD XW thenX inX retX kN
theorem band_u64 {x c : Nat} (hx : x < 2 ^ 64) : bits .and .u64 (x : Int) (c : Int) = ((x &&& c : Nat) : Int) := by
  have hl : x &&& c < 2 ^ 64 := Nat.lt_of_le_of_lt Nat.and_le_left hx
  have e : (BitVec.ofNat 64 x &&& BitVec.ofNat 64 c).toNat = x &&& c := by
    rw [BitVec.toNat_and, BitVec.toNat_ofNat, BitVec.toNat_ofNat, ← Nat.and_mod_two_pow, Nat.mod_eq_of_lt hl]
  show IntKind.u64.wrap (((BitVec.ofInt 64 (x : Int) &&& BitVec.ofInt 64 (c : Int) : BitVec 64).toNat : Nat) : Int) = _
  rw [BitVec.ofInt_natCast, BitVec.ofInt_natCast, e]
  generalize x &&& c = n at hl
  exact wrap_u64 (n := (n : Int)) (by omega) (by omega)
theorem band_127 {x : Nat} (hx : x < 2 ^ 63) : bits .and .i64 (x : Int) 127 = ((x % 128 : Nat) : Int) := by
  have e : (BitVec.ofNat 64 x &&& BitVec.ofNat 64 127).toNat = x % 128 := by
    rw [BitVec.toNat_and, BitVec.toNat_ofNat, BitVec.toNat_ofNat, Nat.mod_eq_of_lt (by omega)]
    exact Nat.and_two_pow_sub_one_eq_mod x 7
  show IntKind.i64.wrap (((BitVec.ofInt 64 (x : Int) &&& BitVec.ofNat 64 127 : BitVec 64).toNat : Nat) : Int) = _
  rw [BitVec.ofInt_natCast, e]
  generalize hn : x % 128 = n
  exact wrap_i64 (n := (n : Int)) (by omega) (by omega)
theorem shr_u64 {x k : Nat} (hk : k ≤ 64) : (x : Int).fdiv (2 ^ min k IntKind.u64.bits) = ((x / 2 ^ k : Nat) : Int) := by
  have hm : min k IntKind.u64.bits = k := by simp only [IntKind.bits]; omega
  rw [hm, Int.fdiv_eq_ediv_of_nonneg _ (Int.pow_nonneg (by decide)), Int.natCast_ediv, Int.natCast_pow]
  rfl
theorem spread {a b c d e f g i y3 y4 y5 y6 : Nat} (h : y3 = a + 256 * (b + 256 * (c + 256 * (d + 256 * (e + 256 * (f + 256 * (g + 256 * i))))))) (la : a ≤ 8) (lb : b ≤ 8) (lc : c ≤ 8) (ld : d ≤ 8) (le : e ≤ 8) (lf : f ≤ 8) (lg : g ≤ 8) (li : i ≤ 8)
    (h4 : y3 + y3 / 2 ^ 8 = y4) (h5 : y4 + y4 / 2 ^ 16 = y5) (h6 : y5 + y5 / 2 ^ 32 = y6) : y4 < 2 ^ 61 ∧ y5 < 2 ^ 62 ∧ y6 < 2 ^ 63 ∧ y6 % 128 = a + b + c + d + e + f + g + i := by
  have e1 : y3 / 2 ^ 8 = b + 256 * (c + 256 * (d + 256 * (e + 256 * (f + 256 * (g + 256 * i))))) := by
    clear h4 h5 h6
    rw [h]; generalize b + 256 * (c + 256 * (d + 256 * (e + 256 * (f + 256 * (g + 256 * i))))) = R; omega
  have g4 : y4 = ((a + b) + 256 * (b + c)) + 65536 * ((c + d) + 256 * ((d + e) + 256 * ((e + f) + 256 * ((f + g) + 256 * (g + i)))) + 1099511627776 * i) := by
    rw [← h4, e1, h]; clear h4 h5 h6 e1 h; omega
  have e2 : y4 / 2 ^ 16 = (c + d) + 256 * ((d + e) + 256 * ((e + f) + 256 * ((f + g) + 256 * (g + i)))) + 1099511627776 * i := by
    rw [g4]; clear h4 h5 h6 e1 g4 h
    generalize (c + d) + 256 * ((d + e) + 256 * ((e + f) + 256 * ((f + g) + 256 * (g + i)))) + 1099511627776 * i = R; omega
  have g5 : y5 = ((a + b + c + d) + 256 * (b + c + d + e) + 65536 * (c + d + e + f) + 16777216 * (d + e + f + g)) + 4294967296 * ((e + f + g + i) + 256 * (f + g + i) + 65536 * (g + i) + 16777216 * i) := by
    rw [← h5, e2, g4]; clear h4 h5 h6 e1 g4 e2 h; omega
  have e3 : y5 / 2 ^ 32 = (e + f + g + i) + 256 * (f + g + i) + 65536 * (g + i) + 16777216 * i := by
    rw [g5]; clear h4 h5 h6 e1 g4 e2 h g5
    generalize (e + f + g + i) + 256 * (f + g + i) + 65536 * (g + i) + 16777216 * i = R; omega
  have g6 : y6 = (a + b + c + d + e + f + g + i) + 128 * (2 * (b + c + d + e + f + g + i) + 512 * (c + d + e + f + g + i) + 131072 * (d + e + f + g + i) + 33554432 * ((e + f + g + i) + 256 * (f + g + i) + 65536 * (g + i) + 16777216 * i)) := by
    rw [← h6, e3, g5]; clear h4 h5 h6 e1 g4 e2 h g5 e3; omega
  refine ⟨?_, ?_, ?_, ?_⟩
  · rw [g4]; clear h4 h5 h6 e1 g4 e2 h g5 e3 g6; omega
  · rw [g5]; clear h4 h5 h6 e1 g4 e2 h g5 e3 g6; omega
  · rw [g6]; clear h4 h5 h6 e1 g4 e2 h g5 e3 g6; omega
  · rw [g6]; clear h4 h5 h6 e1 g4 e2 h g5 e3 g6
    rw [Nat.add_mul_mod_self_left, Nat.mod_eq_of_lt (by omega)]
theorem ones_calls (x : Nat) (hx : x < 2 ^ 64) (w : World) : CallsR Try.prog 68 #[.int .u64 x] w fun r w' => r = .int .i64 (cnt (fun i => x.testBit i) 64 : Nat) ∧ Ext w w' := by
  obtain ⟨y1, y2, y3, h1, h2, h3, l1, l2, l3, a, b, c, d, e, f, g, i, h4, la, lb, lc, ld, le, lf, lg, li, hsum⟩ := pop_all hx
  obtain ⟨p4, ⟨hp4⟩⟩ : ∃ p, Box (y3 / 2 ^ 8 = p) := ⟨_, ⟨rfl⟩⟩
  obtain ⟨y4, ⟨hy4⟩⟩ : ∃ p, Box (y3 + p4 = p) := ⟨_, ⟨rfl⟩⟩
  obtain ⟨p5, ⟨hp5⟩⟩ : ∃ p, Box (y4 / 2 ^ 16 = p) := ⟨_, ⟨rfl⟩⟩
  obtain ⟨y5, ⟨hy5⟩⟩ : ∃ p, Box (y4 + p5 = p) := ⟨_, ⟨rfl⟩⟩
  obtain ⟨p6, ⟨hp6⟩⟩ : ∃ p, Box (y5 / 2 ^ 32 = p) := ⟨_, ⟨rfl⟩⟩
  obtain ⟨y6, ⟨hy6⟩⟩ : ∃ p, Box (y5 + p6 = p) := ⟨_, ⟨rfl⟩⟩
  obtain ⟨k4, k5, k6, k7⟩ := spread h4 la lb lc ld le lf lg li (hp4.symm ▸ hy4) (hp5.symm ▸ hy5) (hp6.symm ▸ hy6)
  rw [hsum] at k7
  rw [← k7]
  clear k7 hsum h4 la lb lc ld le lf lg li
  clear a b c d e f g i
  obtain ⟨p1, ⟨hp1⟩⟩ : ∃ p, Box (x / 2 ^ 1 = p) := ⟨_, ⟨rfl⟩⟩
  obtain ⟨q1, ⟨hq1⟩⟩ : ∃ p, Box (p1 &&& 6148914691236517205 = p) := ⟨_, ⟨rfl⟩⟩
  obtain ⟨r1, ⟨hr1⟩⟩ : ∃ p, Box (x &&& 6148914691236517205 = p) := ⟨_, ⟨rfl⟩⟩
  obtain ⟨p2, ⟨hp2⟩⟩ : ∃ p, Box (y1 / 2 ^ 2 = p) := ⟨_, ⟨rfl⟩⟩
  obtain ⟨q2, ⟨hq2⟩⟩ : ∃ p, Box (p2 &&& 3689348814741910323 = p) := ⟨_, ⟨rfl⟩⟩
  obtain ⟨r2, ⟨hr2⟩⟩ : ∃ p, Box (y1 &&& 3689348814741910323 = p) := ⟨_, ⟨rfl⟩⟩
  obtain ⟨p3, ⟨hp3⟩⟩ : ∃ p, Box (y2 / 2 ^ 4 = p) := ⟨_, ⟨rfl⟩⟩
  obtain ⟨s3, ⟨hs3⟩⟩ : ∃ p, Box (p3 + y2 = p) := ⟨_, ⟨rfl⟩⟩
  obtain ⟨z, ⟨hz⟩⟩ : ∃ p, Box (y6 % 128 = p) := ⟨_, ⟨rfl⟩⟩
  rw [hz]
  have a4 : q1 + r1 = y1 := by rw [← h1, pop1, hr1, ← hq1, ← hp1]
  have b4 : q2 + r2 = y2 := by rw [← h2, pop2, hr2, ← hq2, ← hp2]
  have c4 : s3 &&& 1085102592571150095 = y3 := by rw [← h3, pop3, ← hs3, ← hp3]
  have ls : s3 < 2 ^ 64 := by rw [← hs3, ← hp3]; exact l3
  have lp1 : p1 < 2 ^ 64 := by rw [← hp1]; exact Nat.lt_of_le_of_lt (Nat.div_le_self _ _) hx
  have lp2 : p2 < 2 ^ 64 := by rw [← hp2]; exact Nat.lt_of_le_of_lt (Nat.div_le_self _ _) l1
  have a1 : (x : Int).fdiv (2 ^ min 1 IntKind.u64.bits) = (p1 : Int) := by rw [shr_u64 (by decide), hp1]
  have a2 : bits .and .u64 (p1 : Int) 6148914691236517205 = (q1 : Int) := by rw [← hq1]; exact band_u64 lp1
  have a3 : bits .and .u64 (x : Int) 6148914691236517205 = (r1 : Int) := by rw [← hr1]; exact band_u64 hx
  have b1 : (y1 : Int).fdiv (2 ^ min 2 IntKind.u64.bits) = (p2 : Int) := by rw [shr_u64 (by decide), hp2]
  have b2 : bits .and .u64 (p2 : Int) 3689348814741910323 = (q2 : Int) := by rw [← hq2]; exact band_u64 lp2
  have b3 : bits .and .u64 (y1 : Int) 3689348814741910323 = (r2 : Int) := by rw [← hr2]; exact band_u64 l1
  have c1 : (y2 : Int).fdiv (2 ^ min 4 IntKind.u64.bits) = (p3 : Int) := by rw [shr_u64 (by decide), hp3]
  have c3 : bits .and .u64 (s3 : Int) 1085102592571150095 = (y3 : Int) := by rw [← c4]; exact band_u64 ls
  have d1 : (y3 : Int).fdiv (2 ^ min 8 IntKind.u64.bits) = (p4 : Int) := by rw [shr_u64 (by decide), hp4]
  have d3 : (y4 : Int).fdiv (2 ^ min 16 IntKind.u64.bits) = (p5 : Int) := by rw [shr_u64 (by decide), hp5]
  have d5 : (y5 : Int).fdiv (2 ^ min 32 IntKind.u64.bits) = (p6 : Int) := by rw [shr_u64 (by decide), hp6]
  have d8 : bits .and .i64 (y6 : Int) 127 = (z : Int) := by rw [← hz]; exact band_127 k6
  clear h1 h2 h3 hp1 hq1 hr1 hp2 hq2 hr2 hp3 hp4 hp5 hp6 hz c4
  have w2 : ∀ {p q n : Nat}, p + q = n → n < 2 ^ 64 → IntKind.u64.wrap ((p : Int) + q) = (n : Int) := fun h h2 => by rw [wrap_u64 (by omega) (by omega)]; omega
  have a5 := w2 a4 l1
  have b5 := w2 b4 l2
  have c2 := w2 hs3 ls
  have d2 := w2 hy4 (by omega)
  have d4 := w2 hy5 (by omega)
  have d6 := w2 hy6 (by omega)
  clear w2 a4 b4 hs3 hy4 hy5 hy6
  have d7 : IntKind.i64.wrap (y6 : Int) = (y6 : Int) := wrap_i64 (by omega) (by omega)
  refine en1 Try.func68 Try.results68 mixed [] ?_
  intro e0 h0
  refine w_ fun d => ?_
  exact ⟨rfl, ext_⟩
theorem pop_word (a : BitVec 64) : cnt (fun i => a.toNat.testBit i) 64 = popW a := cnt_congr fun i _ => (BitVec.testBit_toNat a)
theorem ixfv {f : Fun8} {i : Int} {k : IntKind} {w : World} (h0 : 0 ≤ i) (h1 : i < 4) : iR Try.prog 24 (fv f) (.int k i) w = opt1 "part: no such cell" w ((#[vU (word f 0), vU (word f 1), vU (word f 2), vU (word f 3)] : Array Value)[i.toNat * 1]?) := ix24 h0 h1
attribute [push_cast] ixfv
theorem count_calls (f : Fun8) (w : World) : CallsR Try.prog 37 #[fv f] w fun r w' => r = .int .i64 (countF f : Nat) ∧ Ext w w' := by
  have hc : ∀ k w, CallsR Try.prog 68 #[vU (word f k)] w fun r w' => r = .int .i64 (popW (word f k) : Nat) ∧ Ext w w' := fun k w => by
    rw [← pop_word]; exact ones_calls _ (word f k).isLt w
  have hl : ∀ k, popW (word f k) ≤ 64 := fun k => cnt_le _ _
  have hs : popW (word f 0) + popW (word f 1) + popW (word f 2) + popW (word f 3) = countF f := by
    rw [countF_def]
    show _ = countTo f 4
    rw [countTo_succ, countTo_succ, countTo_succ, countTo_succ]
    simp [countTo, cnt]
  have l0 := hl 0
  have l1 := hl 1
  have l2 := hl 2
  have l3 := hl 3
  obtain ⟨n, ⟨hn⟩⟩ : ∃ n, Box (countF f = n) := ⟨_, ⟨rfl⟩⟩
  rw [hn] at hs ⊢
  refine en1 Try.func37 Try.results37 mixed [] ?_
  intro e0 h0
  refine w_ fun d => ?_
  refine un_ 5 ?_
  refine w_ fun d => ?_
  refine callQ (hc 0 _) fun w1 hE1 hs1 => ?_
  refine w_ fun d => ?_
  refine callQ (hc 1 _) fun w2 hE2 hs2 => ?_
  refine w_ fun d => ?_
  refine callQ (hc 2 _) fun w3 hE3 hs3 => ?_
  refine w_ fun d => ?_
  refine callQ (hc 3 _) fun w4 hE4 hs4 => ?_
  refine w_ fun d => ?_
  exact ⟨congrArg _ (by omega), ext_⟩
end Go.Proofs.Ytghcmogbmaedfaa
