/- Layer 2's plain facts: a variable set, a support, a count. No program is in sight. -/
import Derived.Test.YtghcmogbmaedfaaTabP
namespace Go.Bx
open Go
set_option linter.unusedSimpArgs false
set_option linter.unusedVariables false
set_option maxRecDepth 100000

/-- Row x, with v set to b. -/
def setB (x v : Nat) (b : Bool) : Nat := if x.testBit v then (if b then x else x - 2 ^ v) else (if b then x + 2 ^ v else x)
theorem setB_lt_all : ∀ v : Nat, v < 8 → ∀ x : Nat, x < 256 → (setB x v false < 256 ∧ setB x v true < 256) := by decide +kernel
theorem setB_lt {x v : Nat} {b : Bool} (hx : x < 256) (hv : v < 8) : setB x v b < 256 := by
  cases b
  · exact (setB_lt_all v hv x hx).1
  · exact (setB_lt_all v hv x hx).2
theorem setB_set_all : ∀ v : Nat, v < 8 → ∀ x : Nat, x < 256 → ∀ b c : Bool, setB (setB x v b) v c = setB x v c := by decide +kernel
theorem setB_comm_all : ∀ v : Nat, v < 8 → ∀ u : Nat, u < 8 → v ≠ u → ∀ x : Nat, x < 256 → ∀ b c : Bool, setB (setB x v b) u c = setB (setB x u c) v b := by decide +kernel
theorem setB_self_all : ∀ v : Nat, v < 8 → ∀ x : Nat, x < 256 → setB x v (x.testBit v) = x := by decide +kernel
theorem setB_pair_all : ∀ v : Nat, v < 8 → ∀ x : Nat, x < 256 → (x.testBit v = false → (setB x v false = x ∧ setB x v true = x + 2 ^ v ∧ x + 2 ^ v < 256)) := by decide +kernel

def cofF (f : Fun8) (v : Int) (b : Bool) : Fun8 := if 0 ≤ v ∧ v < 8 then tabOf (fun x => f.getLsbD (setB x v.toNat b)) 256 else f
theorem cofF_out {f : Fun8} {v : Int} {b : Bool} (h : ¬ (0 ≤ v ∧ v < 8)) : cofF f v b = f := if_neg h
theorem cofF_in {f : Fun8} {v : Nat} {b : Bool} (h : v < 8) : cofF f v b = tabOf (fun x => f.getLsbD (setB x v b)) 256 := by
  rw [cofF, if_pos (by omega)]; rfl
theorem cofF_bit {f : Fun8} {v : Nat} {b : Bool} (h : v < 8) {x : Nat} (hx : x < 256) : (cofF f v b).getLsbD x = f.getLsbD (setB x v b) := by
  rw [cofF_in h, tabOf_bit _ _ _ hx]; simp [hx]
def depF (f : Fun8) (v : Int) : Bool := !decide (cofF f v false = cofF f v true)
theorem depF_out {f : Fun8} {v : Int} (h : ¬ (0 ≤ v ∧ v < 8)) : depF f v = false := by simp [depF, cofF_out h]
/-- It depends on v: there is a row at which it is another one. -/
theorem depF_iff {f : Fun8} {v : Nat} (h : v < 8) : depF f v = true ↔ ∃ x, x < 256 ∧ x.testBit v = false ∧ f.getLsbD x ≠ f.getLsbD (x + 2 ^ v) := by
  constructor
  · intro hd
    apply Classical.byContradiction
    intro hn
    have he : cofF f v false = cofF f v true := by
      refine fn_ext fun x hx => ?_
      rw [cofF_bit h hx, cofF_bit h hx]
      have hy := setB_lt (b := false) hx h
      apply Classical.byContradiction
      intro hne
      refine hn ⟨setB x v false, hy, ?_, ?_⟩
      · have := (by decide +kernel : ∀ v : Nat, v < 8 → ∀ x : Nat, x < 256 → (setB x v false).testBit v = false) v h x hx
        exact this
      · have := (by decide +kernel : ∀ v : Nat, v < 8 → ∀ x : Nat, x < 256 → setB x v false + 2 ^ v = setB x v true) v h x hx
        rw [this]; exact hne
    simp [depF, he] at hd
  · rintro ⟨x, hx, hb, hne⟩
    have := setB_pair_all v h x hx hb
    simp only [depF, Bool.not_eq_true', decide_eq_false_iff_not]
    intro he
    have e := congrArg (fun g : Fun8 => g.getLsbD x) he
    simp only [cofF_bit h hx, this.1, this.2.1] at e
    exact hne e

/-- On which of the first k variables it depends. -/
def supTo (f : Fun8) : Nat → Nat
  | 0 => 0
  | k + 1 => supTo f k + if depF f k then 2 ^ k else 0
def supF (f : Fun8) : Nat := supTo f 8
theorem supTo_lt (f : Fun8) : ∀ k, supTo f k < 2 ^ k
  | 0 => by simp [supTo]
  | k + 1 => by
    have := supTo_lt f k
    rw [supTo, Nat.pow_succ]
    split <;> omega

/-! ### How many -/
def cnt (p : Nat → Bool) : Nat → Nat
  | 0 => 0
  | n + 1 => cnt p n + if p n then 1 else 0
theorem cnt_le (p : Nat → Bool) : ∀ n, cnt p n ≤ n
  | 0 => Nat.le_refl _
  | n + 1 => by
    have := cnt_le p n
    rw [cnt]; split <;> omega
theorem cnt_congr {p q : Nat → Bool} : ∀ {n : Nat}, (∀ i, i < n → p i = q i) → cnt p n = cnt q n
  | 0, _ => rfl
  | n + 1, h => by
    rw [cnt, cnt, cnt_congr (n := n) fun i hi => h i (by omega), h n (by omega)]
theorem cnt_add (p : Nat → Bool) (a : Nat) : ∀ b, cnt p (a + b) = cnt p a + cnt (fun i => p (a + i)) b
  | 0 => by simp [cnt]
  | b + 1 => by
    rw [← Nat.add_assoc, cnt, cnt_add p a b, cnt]; omega
def countF (f : Fun8) : Nat := cnt (fun x => f.getLsbD x) 256
def popW (a : BitVec 64) : Nat := cnt (fun x => a.getLsbD x) 64
/-- The first k words' count. -/
def countTo (f : Fun8) (k : Nat) : Nat := cnt (fun x => f.getLsbD x) (64 * k)
theorem countTo_succ (f : Fun8) (k : Nat) : countTo f (k + 1) = countTo f k + popW (word f k) := by
  rw [countTo, Nat.mul_succ, cnt_add, countTo, popW]
  congr 1
  exact cnt_congr fun i hi => (word_bit f k i hi).symm

/-! ### Counting by fields -/
def fd (B : Nat) : List Nat → Nat
  | [] => 0
  | d :: l => d + B * fd B l
def ps : List Nat → List Nat
  | a :: b :: l => (a + b) :: ps l
  | _ => []
def bl (x : Nat) : Nat → List Nat
  | 0 => []
  | n + 1 => x % 2 :: bl (x / 2) n
theorem bl_len : ∀ (n x : Nat), (bl x n).length = n
  | 0, _ => rfl
  | n + 1, x => by simp [bl, bl_len n]
theorem bl_lt : ∀ (n x : Nat), ∀ d ∈ bl x n, d ≤ 1
  | 0, _, d, h => by simp [bl] at h
  | n + 1, x, d, h => by
    simp only [bl, List.mem_cons] at h
    rcases h with rfl | h
    · omega
    · exact bl_lt n _ d h
theorem fd_bl : ∀ (n x : Nat), x < 2 ^ n → fd 2 (bl x n) = x
  | 0, x, h => by simp at h; simp [bl, fd, h]
  | n + 1, x, h => by
    rw [bl, fd, fd_bl n _ (by rw [Nat.pow_succ] at h; omega)]; omega
theorem bl_sum : ∀ (n x : Nat), (bl x n).sum = cnt (fun i => x.testBit i) n := by
  intro n
  have h : ∀ n x, (bl x n).sum = cnt (fun i => x.testBit i) n := by
    intro n
    induction n with
    | zero => intro x; rfl
    | succ n ih =>
      intro x
      rw [bl, List.sum_cons, ih, Nat.add_comm n 1, cnt_add]
      have e : cnt (fun i => x.testBit i) 1 = x % 2 := by
        simp only [cnt, Nat.testBit_zero, decide_eq_true_eq]; split <;> omega
      rw [e]
      congr 1
      exact cnt_congr fun i _ => by rw [Nat.add_comm 1 i, Nat.testBit_succ]
  exact h n
theorem and_split (b : Nat) {d e h k : Nat} (hd : d < 2 ^ b) (he : e < 2 ^ b) : (d + 2 ^ b * h) &&& (e + 2 ^ b * k) = (d &&& e) + 2 ^ b * (h &&& k) := by
  have hde : d &&& e < 2 ^ b := Nat.lt_of_le_of_lt Nat.and_le_left hd
  refine Nat.eq_of_testBit_eq fun i => ?_
  rw [Nat.testBit_and, Nat.add_comm d, Nat.add_comm e, Nat.add_comm (d &&& e), Nat.testBit_two_pow_mul_add _ hd, Nat.testBit_two_pow_mul_add _ he, Nat.testBit_two_pow_mul_add _ hde]
  split <;> simp
/-- The mask of every other field. -/
def mk (b : Nat) : Nat → Nat
  | 0 => 0
  | n + 1 => (2 ^ b - 1) + 2 ^ (b + b) * mk b n
theorem low_and (b a r : Nat) (ha : a < 2 ^ b) : (a + 2 ^ b * r) &&& (2 ^ b - 1) = a := by
  rw [Nat.and_two_pow_sub_one_eq_mod, Nat.add_mul_mod_self_left, Nat.mod_eq_of_lt ha]
theorem fd_step (b : Nat) (hb : 0 < b) : ∀ (n : Nat) (l : List Nat), l.length = n + n → (∀ d ∈ l, d < 2 ^ b) →
    (fd (2 ^ b) l / 2 ^ b &&& mk b n) + (fd (2 ^ b) l &&& mk b n) = fd (2 ^ (b + b)) (ps l)
  | 0, l, hl, _ => by
    have : l = [] := List.eq_nil_of_length_eq_zero hl
    subst this; simp [fd, ps, mk]
  | n + 1, [a], hl, hd => by simp at hl; omega
  | n + 1, a :: c :: l, hl, hd => by
    have hp : 0 < 2 ^ b := Nat.pow_pos (by decide)
    have ha := hd a (by simp)
    have hc := hd c (by simp)
    have ih := fd_step b hb n l (by simp at hl; omega) fun d h => hd d (by simp [h])
    have hB : 2 ^ (b + b) = 2 ^ b * 2 ^ b := Nat.pow_add ..
    obtain ⟨X, hX⟩ : ∃ X, fd (2 ^ b) l = X := ⟨_, rfl⟩
    simp only [fd, ps, mk, hX] at ih ⊢
    have h1 : (a + 2 ^ b * (c + 2 ^ b * X)) / 2 ^ b = c + 2 ^ b * X := by
      rw [Nat.add_mul_div_left _ _ hp, Nat.div_eq_of_lt ha, Nat.zero_add]
    have hm1 : 2 ^ b - 1 < 2 ^ (b + b) := by
      have : 2 ^ b ≤ 2 ^ (b + b) := Nat.pow_le_pow_right (by decide) (by omega)
      omega
    have hXs : c + 2 ^ b * X = (c + 2 ^ b * (X % 2 ^ b)) + 2 ^ (b + b) * (X / 2 ^ b) := by
      have := Nat.mod_add_div X (2 ^ b)
      rw [hB, Nat.mul_assoc, Nat.add_assoc, ← Nat.mul_add]
      exact congrArg (fun z => c + 2 ^ b * z) this.symm
    have hXm : X % 2 ^ b < 2 ^ b := Nat.mod_lt _ hp
    have low1 : c + 2 ^ b * (X % 2 ^ b) < 2 ^ (b + b) := by
      rw [hB]
      calc c + 2 ^ b * (X % 2 ^ b) < 2 ^ b + 2 ^ b * (X % 2 ^ b) := by omega
        _ = 2 ^ b * (X % 2 ^ b + 1) := by rw [Nat.mul_succ]; omega
        _ ≤ 2 ^ b * 2 ^ b := Nat.mul_le_mul_left _ hXm
    have h2 : a + 2 ^ b * (c + 2 ^ b * X) = (a + 2 ^ b * c) + 2 ^ (b + b) * X := by rw [hB, Nat.mul_add, Nat.mul_assoc]; omega
    have low2 : a + 2 ^ b * c < 2 ^ (b + b) := by
      rw [hB]
      calc a + 2 ^ b * c < 2 ^ b + 2 ^ b * c := by omega
        _ = 2 ^ b * (c + 1) := by rw [Nat.mul_succ]; omega
        _ ≤ 2 ^ b * 2 ^ b := Nat.mul_le_mul_left _ hc
    rw [h1, h2, hXs, and_split _ low1 hm1, and_split _ low2 hm1, low_and _ _ _ hc, low_and _ _ _ ha, ← ih, Nat.mul_add]
    omega
theorem ps_len : ∀ (n : Nat) (l : List Nat), l.length = n + n → (ps l).length = n
  | 0, l, hl => by rw [List.eq_nil_of_length_eq_zero hl]; rfl
  | n + 1, [a], hl => by simp at hl; omega
  | n + 1, a :: c :: l, hl => by simp [ps, ps_len n l (by simp at hl; omega)]
theorem ps_sum : ∀ (n : Nat) (l : List Nat), l.length = n + n → (ps l).sum = l.sum
  | 0, l, hl => by rw [List.eq_nil_of_length_eq_zero hl]; rfl
  | n + 1, [a], hl => by simp at hl; omega
  | n + 1, a :: c :: l, hl => by simp [ps, ps_sum n l (by simp at hl; omega), Nat.add_assoc]
theorem ps_le (m : Nat) : ∀ (n : Nat) (l : List Nat), l.length = n + n → (∀ d ∈ l, d ≤ m) → ∀ d ∈ ps l, d ≤ m + m
  | 0, l, hl, _, d, h => by rw [List.eq_nil_of_length_eq_zero hl] at h; simp [ps] at h
  | n + 1, [a], hl, hm, d, h => by simp at hl; omega
  | n + 1, a :: c :: l, hl, hm, d, h => by
    simp only [ps, List.mem_cons] at h
    rcases h with rfl | h
    · have := hm a (by simp); have := hm c (by simp); omega
    · exact ps_le m n l (by simp at hl; omega) (fun d h => hm d (by simp [h])) d h
theorem fd_mod {l : List Nat} (hl : ∀ d ∈ l, d ≤ 4) : fd 16 l % 16 ≤ 4 := by
  cases l with
  | nil => simp [fd]
  | cons a l => have := hl a (by simp); simp only [fd]; omega
theorem fd_step3 : ∀ (n : Nat) (l : List Nat), l.length = n + n → (∀ d ∈ l, d ≤ 4) → ((fd 16 l / 16 + fd 16 l) &&& mk 4 n) = fd 256 (ps l)
  | 0, l, hl, _ => by
    have : l = [] := List.eq_nil_of_length_eq_zero hl
    subst this; simp [fd, ps, mk]
  | n + 1, [a], hl, hd => by simp at hl; omega
  | n + 1, a :: c :: l, hl, hd => by
    have ha := hd a (by simp)
    have hc := hd c (by simp)
    have hl' : ∀ d ∈ l, d ≤ 4 := fun d h => hd d (by simp [h])
    have hm := fd_mod hl'
    have ih := fd_step3 n l (by simp at hl; omega) hl'
    obtain ⟨X, hX⟩ : ∃ X, fd 16 l = X := ⟨_, rfl⟩
    simp only [fd, ps, mk, hX] at ih hm ⊢
    have e : (a + 16 * (c + 16 * X)) / 16 + (a + 16 * (c + 16 * X)) = ((a + c) + 2 ^ 4 * (c + X % 16)) + 2 ^ (4 + 4) * (X / 16 + X) := by omega
    rw [e, and_split _ (by omega) (by decide), low_and _ _ _ (by omega), ih]
theorem fd_le : ∀ (l : List Nat) (B m : Nat), (∀ d ∈ l, d ≤ m) → m < B → fd B l < B ^ l.length
  | [], B, m, _, _ => by simp [fd]
  | a :: l, B, m, h, hm => by
    have ih := fd_le l B m (fun d hd => h d (by simp [hd])) hm
    have := h a (by simp)
    rw [fd, List.length_cons, Nat.pow_succ, Nat.mul_comm]
    calc a + fd B l * B < B + fd B l * B := by omega
      _ = (fd B l + 1) * B := by rw [Nat.succ_mul]; omega
      _ ≤ B ^ l.length * B := Nat.mul_le_mul_right _ ih
theorem list8f {l : List Nat} (h : l.length = 8) : ∃ a b c d e f g i, l = [a, b, c, d, e, f, g, i] := by
  match l, h with
  | [a, b, c, d, e, f, g, i], _ => exact ⟨a, b, c, d, e, f, g, i, rfl⟩
/-- What OnesCount64 does with numbers. -/
def pop1 (x : Nat) : Nat := (x / 2 &&& 6148914691236517205) + (x &&& 6148914691236517205)
def pop2 (x : Nat) : Nat := (x / 4 &&& 3689348814741910323) + (x &&& 3689348814741910323)
def pop3 (x : Nat) : Nat := (x / 16 + x) &&& 1085102592571150095
theorem pop_all {x : Nat} (hx : x < 2 ^ 64) : ∃ y1 y2 y3 : Nat, pop1 x = y1 ∧ pop2 y1 = y2 ∧ pop3 y2 = y3 ∧ y1 < 2 ^ 64 ∧ y2 < 2 ^ 64 ∧ y2 / 16 + y2 < 2 ^ 64 ∧
    ∃ a b c d e f g i : Nat, y3 = a + 256 * (b + 256 * (c + 256 * (d + 256 * (e + 256 * (f + 256 * (g + 256 * i)))))) ∧ a ≤ 8 ∧ b ≤ 8 ∧ c ≤ 8 ∧ d ≤ 8 ∧ e ≤ 8 ∧ f ≤ 8 ∧ g ≤ 8 ∧ i ≤ 8 ∧ a + b + c + d + e + f + g + i = cnt (fun i => x.testBit i) 64 := by
  obtain ⟨l, hl⟩ : ∃ l, bl x 64 = l := ⟨_, rfl⟩
  have len : l.length = 64 := by rw [← hl, bl_len]
  have le0 : ∀ d ∈ l, d ≤ 1 := by rw [← hl]; exact bl_lt 64 x
  have e0 : fd 2 l = x := by rw [← hl, fd_bl _ _ hx]
  have s1 := fd_step 1 (by decide) 32 l len fun d h => by have := le0 d h; omega
  have len1 := ps_len 32 l len
  have le1 := ps_le 1 32 l len le0
  have su1 := ps_sum 32 l len
  have s2 := fd_step 2 (by decide) 16 (ps l) len1 fun d h => by have := le1 d h; omega
  have len2 := ps_len 16 _ len1
  have le2 := ps_le 2 16 _ len1 le1
  have su2 := ps_sum 16 _ len1
  have s3 := fd_step3 8 (ps (ps l)) len2 le2
  have len3 := ps_len 8 _ len2
  have le3 := ps_le 4 8 _ len2 le2
  have su3 := ps_sum 8 _ len2
  have lt1 := fd_le (ps l) 4 2 le1 (by decide)
  have lt2 := fd_le (ps (ps l)) 16 4 le2 (by decide)
  rw [len1] at lt1
  rw [len2] at lt2
  have m1 : mk 1 32 = 6148914691236517205 := by decide +kernel
  have m2 : mk 2 16 = 3689348814741910323 := by decide +kernel
  have m3 : mk 4 8 = 1085102592571150095 := by decide +kernel
  rw [m1] at s1; rw [m2] at s2; rw [m3] at s3
  refine ⟨fd 4 (ps l), fd 16 (ps (ps l)), fd 256 (ps (ps (ps l))), ?_, s2, s3, by omega, by omega, ?_, ?_⟩
  · rw [← s1, ← e0]; rfl
  · obtain ⟨q, hq⟩ : ∃ q, ps (ps l) = q := ⟨_, rfl⟩
    rw [hq] at le2 len2 lt2 ⊢
    have : q ≠ [] := by intro h; rw [h] at len2; simp at len2
    have hlast : fd 16 q ≤ 5 * 16 ^ 15 := by
      have gen : ∀ (q : List Nat) (n : Nat), q.length = n + 1 → (∀ d ∈ q, d ≤ 4) → fd 16 q < 5 * 16 ^ n := by
        intro q
        induction q with
        | nil => intro n h; simp at h
        | cons a q ih =>
          intro n h hd
          have ha := hd a (by simp)
          cases n with
          | zero =>
            have : q = [] := List.eq_nil_of_length_eq_zero (by simpa using h)
            subst this; simp [fd]; omega
          | succ n =>
            have := ih n (by simpa using h) fun d h => hd d (by simp [h])
            rw [fd, Nat.pow_succ]; omega
      exact Nat.le_of_lt (gen q 15 len2 le2)
    have : (16 : Nat) ^ 15 = 1152921504606846976 := by decide +kernel
    rw [this] at hlast
    have : (2 : Nat) ^ 64 = 18446744073709551616 := by decide +kernel
    omega
  · obtain ⟨a, b, c, d, e, f, g, i, hq⟩ := list8f len3
    rw [hq] at le3 su3 ⊢
    have su : a + b + c + d + e + f + g + i = cnt (fun i => x.testBit i) 64 := by
      rw [← bl_sum, hl, ← su1, ← su2, ← su3]; simp [Nat.add_assoc]
    refine ⟨a, b, c, d, e, f, g, i, by simp [fd], ?_, ?_, ?_, ?_, ?_, ?_, ?_, ?_, su⟩ <;> exact le3 _ (by simp)
theorem cofF_rows {f : Fun8} {v : Nat} {b : Bool} (h : v < 8) : ofRows (fun x => f.getLsbD (setB x v b)) = cofF f v b := fn_ext fun i hi => by rw [bt_rows hi, cofF_bit h hi]
theorem low_bit_all : ∀ v : Nat, v < 6 → ∀ i : Nat, i < 64 → (lowW v).getLsbD i = i.testBit v := by decide +kernel
theorem cofT1_all : ∀ v : Nat, v < 6 → ∀ k : Nat, k < 4 → ∀ i : Nat, i < 64 → setB (64 * k + i) v true = (bif i.testBit v then 64 * k + i else 64 * k + (i + 2 ^ v)) := by decide +kernel
theorem cofT2_all : ∀ v : Nat, v < 6 → ∀ i : Nat, i < 64 → i.testBit v = false → i + 2 ^ v < 64 ∧ (i + 2 ^ v).testBit v = true := by decide +kernel
theorem cofT3_all : ∀ v : Nat, v < 6 → ∀ i : Nat, i < 64 → i.testBit v = true → 64 ≤ i + 2 ^ v ∨ (i + 2 ^ v).testBit v = false := by decide +kernel
theorem cofF1_all : ∀ v : Nat, v < 6 → ∀ k : Nat, k < 4 → ∀ i : Nat, i < 64 → setB (64 * k + i) v false = (bif i.testBit v then 64 * k + (i - 2 ^ v) else 64 * k + i) := by decide +kernel
theorem cofF2_all : ∀ v : Nat, v < 6 → ∀ i : Nat, i < 64 → i.testBit v = true → 2 ^ v ≤ i ∧ (i - 2 ^ v).testBit v = false := by decide +kernel
theorem cofF3_all : ∀ v : Nat, v < 6 → ∀ i : Nat, i < 64 → i.testBit v = false → i < 2 ^ v ∨ (i - 2 ^ v).testBit v = true := by decide +kernel
theorem cofH_all : ∀ v : Nat, v < 2 → ∀ k : Nat, k < 4 → ∀ i : Nat, i < 64 → ∀ b : Bool, setB (64 * k + i) (v + 6) b = 64 * setB k v b + i := by decide +kernel
theorem setB4_all : ∀ v : Nat, v < 2 → ∀ k : Nat, k < 4 → ∀ b : Bool, setB k v b < 4 := by decide +kernel
theorem word_cof_t {f : Fun8} {v k : Nat} (hv : v < 6) (hk : k < 4) : (word f k &&& lowW v) ||| (word f k &&& lowW v) >>> 2 ^ v = word (cofF f v true) k := by
  refine word_ext fun i hi => ?_
  have h1 := cofT1_all v hv k hk i hi
  have h2 := cofT2_all v hv i hi
  have h3 := cofT3_all v hv i hi
  rw [word_bit _ _ _ hi, cofF_bit (by omega) (by omega), h1]
  simp only [BitVec.getLsbD_or, BitVec.getLsbD_and, BitVec.getLsbD_ushiftRight, low_bit_all v hv i hi]
  rw [Nat.add_comm (2 ^ v) i]
  cases hb : i.testBit v
  · obtain ⟨h4, h5⟩ := h2 hb
    rw [low_bit_all v hv _ h4, h5, word_bit _ _ _ h4]; simp
  · have e : (lowW v).getLsbD (i + 2 ^ v) = false := by
      by_cases hlt : i + 2 ^ v < 64
      · rw [low_bit_all v hv _ hlt]
        rcases h3 hb with h | h
        · omega
        · exact h
      · exact BitVec.getLsbD_of_ge _ _ (by omega)
    rw [e, word_bit _ _ _ hi]; simp
theorem word_cof_f {f : Fun8} {v k : Nat} (hv : v < 6) (hk : k < 4) : (word f k &&& ~~~lowW v) ||| (word f k &&& ~~~lowW v) <<< 2 ^ v = word (cofF f v false) k := by
  refine word_ext fun i hi => ?_
  have h1 := cofF1_all v hv k hk i hi
  have h2 := cofF2_all v hv i hi
  have h3 := cofF3_all v hv i hi
  rw [word_bit _ _ _ hi, cofF_bit (by omega) (by omega), h1]
  simp only [BitVec.getLsbD_or, BitVec.getLsbD_and, BitVec.getLsbD_shiftLeft, BitVec.getLsbD_not, low_bit_all v hv i hi, hi, decide_true, Bool.true_and]
  cases hb : i.testBit v
  · rw [word_bit _ _ _ hi]
    rcases h3 hb with h | h
    · simp [h]
    · rw [low_bit_all v hv _ (Nat.lt_of_le_of_lt (Nat.sub_le _ _) hi), h]; simp
  · obtain ⟨h4, h5⟩ := h2 hb
    have h6 : i - 2 ^ v < 64 := Nat.lt_of_le_of_lt (Nat.sub_le _ _) hi
    rw [low_bit_all v hv _ h6, h5, word_bit _ _ _ h6]
    have : ¬ i < 2 ^ v := by omega
    simp [this, h6]
theorem word_cof_h {f : Fun8} {v k : Nat} {b : Bool} (hv : v < 2) (hk : k < 4) : word f (setB k v b) = word (cofF f (v + 6 : Nat) b) k := by
  refine word_ext fun i hi => ?_
  have := setB4_all v hv k hk b
  rw [word_bit _ _ _ hi, word_bit _ _ _ hi, cofF_bit (by omega) (by omega), cofH_all v hv k hk i hi]
theorem bits_andNot64 (a b : BitVec 64) : bits .andNot .u64 (a.toNat : Int) (b.toNat : Int) = ((a &&& ~~~b).toNat : Int) := by
  unfold bits; simp only [IntKind.bits, ofInt_nat]; exact wrap_nat _
theorem bU_andNot {P : Program} {w : World} {t : TypeId} {x y : Operand} {a b : BitVec 64} : binR P .andNot t x y (vU a) (vU b) w = .ok (vU (a &&& ~~~b)) w := by rw [vU, vU, binR_andNot, bits_andNot64]; rfl
theorem depF_def {f : Fun8} {v : Int} : depF f v = !decide (cofF f v false = cofF f v true) := rfl
theorem supF_def {f : Fun8} : supF f = supTo f 8 := rfl
theorem countF_def {f : Fun8} : countF f = cnt (fun x => f.getLsbD x) 256 := rfl
attribute [push_cast] bU_andNot
attribute [irreducible] cofF depF supF countF
end Go.Bx
