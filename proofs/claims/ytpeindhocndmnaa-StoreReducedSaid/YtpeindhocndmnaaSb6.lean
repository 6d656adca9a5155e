/- CofP, CofP2, ArP, ArW, UnM, OrdC, PermW, StP, StP2, StO, StW, StW2, StW3, StA: texts of this work, one behind the other. -/
import Derived.Test.YtpeindhocndmnaaSb5
/- Layer 2's plain facts: a variable set, a support, a count. No program is in sight. -/
namespace Go.Bx
open Go
set_option linter.unusedSimpArgs false
set_option linter.unusedVariables false
set_option maxRecDepth 100000

/-- Row x, with v set to b. -/
def setB (x v : Nat) (b : Bool) : Nat := if x.testBit v then (if b then x else x - 2 ^ v) else (if b then x + 2 ^ v else x)
theorem setB_lt_all : ∀ v : Nat, v < 8 → ∀ x : Nat, x < 256 → (setB x v false < 256 ∧ setB x v true < 256) := by decide +kernel
theorem setB_lt {x v : Nat} {b : Bool} (hx : x < 256) (hv : v < 8) : setB x v b < 256 := by
  cases b
  · exact (setB_lt_all v hv x hx).1
  · exact (setB_lt_all v hv x hx).2
theorem setB_set_all : ∀ v : Nat, v < 8 → ∀ x : Nat, x < 256 → ∀ b c : Bool, setB (setB x v b) v c = setB x v c := by decide +kernel
theorem setB_comm_all : ∀ v : Nat, v < 8 → ∀ u : Nat, u < 8 → v ≠ u → ∀ x : Nat, x < 256 → ∀ b c : Bool, setB (setB x v b) u c = setB (setB x u c) v b := by decide +kernel
theorem setB_self_all : ∀ v : Nat, v < 8 → ∀ x : Nat, x < 256 → setB x v (x.testBit v) = x := by decide +kernel
theorem setB_pair_all : ∀ v : Nat, v < 8 → ∀ x : Nat, x < 256 → (x.testBit v = false → (setB x v false = x ∧ setB x v true = x + 2 ^ v ∧ x + 2 ^ v < 256)) := by decide +kernel

def cofF (f : Fun8) (v : Int) (b : Bool) : Fun8 := if 0 ≤ v ∧ v < 8 then tabOf (fun x => f.getLsbD (setB x v.toNat b)) 256 else f
theorem cofF_out {f : Fun8} {v : Int} {b : Bool} (h : ¬ (0 ≤ v ∧ v < 8)) : cofF f v b = f := if_neg h
theorem cofF_in {f : Fun8} {v : Nat} {b : Bool} (h : v < 8) : cofF f v b = tabOf (fun x => f.getLsbD (setB x v b)) 256 := by
  rw [cofF, if_pos (by omega)]; rfl
theorem cofF_bit {f : Fun8} {v : Nat} {b : Bool} (h : v < 8) {x : Nat} (hx : x < 256) : (cofF f v b).getLsbD x = f.getLsbD (setB x v b) := by
  rw [cofF_in h, tabOf_bit _ _ _ hx]; simp [hx]
def depF (f : Fun8) (v : Int) : Bool := !decide (cofF f v false = cofF f v true)
theorem depF_out {f : Fun8} {v : Int} (h : ¬ (0 ≤ v ∧ v < 8)) : depF f v = false := by simp [depF, cofF_out h]
/-- It depends on v: there is a row at which it is another one. -/
theorem depF_iff {f : Fun8} {v : Nat} (h : v < 8) : depF f v = true ↔ ∃ x, x < 256 ∧ x.testBit v = false ∧ f.getLsbD x ≠ f.getLsbD (x + 2 ^ v) := by
  constructor
  · intro hd
    apply Classical.byContradiction
    intro hn
    have he : cofF f v false = cofF f v true := by
      refine fn_ext fun x hx => ?_
      rw [cofF_bit h hx, cofF_bit h hx]
      have hy := setB_lt (b := false) hx h
      apply Classical.byContradiction
      intro hne
      refine hn ⟨setB x v false, hy, ?_, ?_⟩
      · have := (by decide +kernel : ∀ v : Nat, v < 8 → ∀ x : Nat, x < 256 → (setB x v false).testBit v = false) v h x hx
        exact this
      · have := (by decide +kernel : ∀ v : Nat, v < 8 → ∀ x : Nat, x < 256 → setB x v false + 2 ^ v = setB x v true) v h x hx
        rw [this]; exact hne
    simp [depF, he] at hd
  · rintro ⟨x, hx, hb, hne⟩
    have := setB_pair_all v h x hx hb
    simp only [depF, Bool.not_eq_true', decide_eq_false_iff_not]
    intro he
    have e := congrArg (fun g : Fun8 => g.getLsbD x) he
    simp only [cofF_bit h hx, this.1, this.2.1] at e
    exact hne e

/-- On which of the first k variables it depends. -/
def supTo (f : Fun8) : Nat → Nat
  | 0 => 0
  | k + 1 => supTo f k + if depF f k then 2 ^ k else 0
def supF (f : Fun8) : Nat := supTo f 8
theorem supTo_lt (f : Fun8) : ∀ k, supTo f k < 2 ^ k
  | 0 => by simp [supTo]
  | k + 1 => by
    have := supTo_lt f k
    rw [supTo, Nat.pow_succ]
    split <;> omega

/-! ### How many -/
def cnt (p : Nat → Bool) : Nat → Nat
  | 0 => 0
  | n + 1 => cnt p n + if p n then 1 else 0
theorem cnt_le (p : Nat → Bool) : ∀ n, cnt p n ≤ n
  | 0 => Nat.le_refl _
  | n + 1 => by
    have := cnt_le p n
    rw [cnt]; split <;> omega
theorem cnt_congr {p q : Nat → Bool} : ∀ {n : Nat}, (∀ i, i < n → p i = q i) → cnt p n = cnt q n
  | 0, _ => rfl
  | n + 1, h => by
    rw [cnt, cnt, cnt_congr (n := n) fun i hi => h i (by omega), h n (by omega)]
theorem cnt_add (p : Nat → Bool) (a : Nat) : ∀ b, cnt p (a + b) = cnt p a + cnt (fun i => p (a + i)) b
  | 0 => by simp [cnt]
  | b + 1 => by
    rw [← Nat.add_assoc, cnt, cnt_add p a b, cnt]; omega
def countF (f : Fun8) : Nat := cnt (fun x => f.getLsbD x) 256
def popW (a : BitVec 64) : Nat := cnt (fun x => a.getLsbD x) 64
/-- The first k words' count. -/
def countTo (f : Fun8) (k : Nat) : Nat := cnt (fun x => f.getLsbD x) (64 * k)
theorem countTo_succ (f : Fun8) (k : Nat) : countTo f (k + 1) = countTo f k + popW (word f k) := by
  rw [countTo, Nat.mul_succ, cnt_add, countTo, popW]
  congr 1
  exact cnt_congr fun i hi => (word_bit f k i hi).symm

/-! ### Counting by fields -/
def fd (B : Nat) : List Nat → Nat
  | [] => 0
  | d :: l => d + B * fd B l
def ps : List Nat → List Nat
  | a :: b :: l => (a + b) :: ps l
  | _ => []
def bl (x : Nat) : Nat → List Nat
  | 0 => []
  | n + 1 => x % 2 :: bl (x / 2) n
theorem bl_len : ∀ (n x : Nat), (bl x n).length = n
  | 0, _ => rfl
  | n + 1, x => by simp [bl, bl_len n]
theorem bl_lt : ∀ (n x : Nat), ∀ d ∈ bl x n, d ≤ 1
  | 0, _, d, h => by simp [bl] at h
  | n + 1, x, d, h => by
    simp only [bl, List.mem_cons] at h
    rcases h with rfl | h
    · omega
    · exact bl_lt n _ d h
theorem fd_bl : ∀ (n x : Nat), x < 2 ^ n → fd 2 (bl x n) = x
  | 0, x, h => by simp at h; simp [bl, fd, h]
  | n + 1, x, h => by
    rw [bl, fd, fd_bl n _ (by rw [Nat.pow_succ] at h; omega)]; omega
theorem bl_sum : ∀ (n x : Nat), (bl x n).sum = cnt (fun i => x.testBit i) n := by
  intro n
  have h : ∀ n x, (bl x n).sum = cnt (fun i => x.testBit i) n := by
    intro n
    induction n with
    | zero => intro x; rfl
    | succ n ih =>
      intro x
      rw [bl, List.sum_cons, ih, Nat.add_comm n 1, cnt_add]
      have e : cnt (fun i => x.testBit i) 1 = x % 2 := by
        simp only [cnt, Nat.testBit_zero, decide_eq_true_eq]; split <;> omega
      rw [e]
      congr 1
      exact cnt_congr fun i _ => by rw [Nat.add_comm 1 i, Nat.testBit_succ]
  exact h n
theorem and_split (b : Nat) {d e h k : Nat} (hd : d < 2 ^ b) (he : e < 2 ^ b) : (d + 2 ^ b * h) &&& (e + 2 ^ b * k) = (d &&& e) + 2 ^ b * (h &&& k) := by
  have hde : d &&& e < 2 ^ b := Nat.lt_of_le_of_lt Nat.and_le_left hd
  refine Nat.eq_of_testBit_eq fun i => ?_
  rw [Nat.testBit_and, Nat.add_comm d, Nat.add_comm e, Nat.add_comm (d &&& e), Nat.testBit_two_pow_mul_add _ hd, Nat.testBit_two_pow_mul_add _ he, Nat.testBit_two_pow_mul_add _ hde]
  split <;> simp
/-- The mask of every other field. -/
def mk (b : Nat) : Nat → Nat
  | 0 => 0
  | n + 1 => (2 ^ b - 1) + 2 ^ (b + b) * mk b n
theorem low_and (b a r : Nat) (ha : a < 2 ^ b) : (a + 2 ^ b * r) &&& (2 ^ b - 1) = a := by
  rw [Nat.and_two_pow_sub_one_eq_mod, Nat.add_mul_mod_self_left, Nat.mod_eq_of_lt ha]
theorem fd_step (b : Nat) (hb : 0 < b) : ∀ (n : Nat) (l : List Nat), l.length = n + n → (∀ d ∈ l, d < 2 ^ b) →
    (fd (2 ^ b) l / 2 ^ b &&& mk b n) + (fd (2 ^ b) l &&& mk b n) = fd (2 ^ (b + b)) (ps l)
  | 0, l, hl, _ => by
    have : l = [] := List.eq_nil_of_length_eq_zero hl
    subst this; simp [fd, ps, mk]
  | n + 1, [a], hl, hd => by simp at hl; omega
  | n + 1, a :: c :: l, hl, hd => by
    have hp : 0 < 2 ^ b := Nat.pow_pos (by decide)
    have ha := hd a (by simp)
    have hc := hd c (by simp)
    have ih := fd_step b hb n l (by simp at hl; omega) fun d h => hd d (by simp [h])
    have hB : 2 ^ (b + b) = 2 ^ b * 2 ^ b := Nat.pow_add ..
    obtain ⟨X, hX⟩ : ∃ X, fd (2 ^ b) l = X := ⟨_, rfl⟩
    simp only [fd, ps, mk, hX] at ih ⊢
    have h1 : (a + 2 ^ b * (c + 2 ^ b * X)) / 2 ^ b = c + 2 ^ b * X := by
      rw [Nat.add_mul_div_left _ _ hp, Nat.div_eq_of_lt ha, Nat.zero_add]
    have hm1 : 2 ^ b - 1 < 2 ^ (b + b) := by
      have : 2 ^ b ≤ 2 ^ (b + b) := Nat.pow_le_pow_right (by decide) (by omega)
      omega
    have hXs : c + 2 ^ b * X = (c + 2 ^ b * (X % 2 ^ b)) + 2 ^ (b + b) * (X / 2 ^ b) := by
      have := Nat.mod_add_div X (2 ^ b)
      rw [hB, Nat.mul_assoc, Nat.add_assoc, ← Nat.mul_add]
      exact congrArg (fun z => c + 2 ^ b * z) this.symm
    have hXm : X % 2 ^ b < 2 ^ b := Nat.mod_lt _ hp
    have low1 : c + 2 ^ b * (X % 2 ^ b) < 2 ^ (b + b) := by
      rw [hB]
      calc c + 2 ^ b * (X % 2 ^ b) < 2 ^ b + 2 ^ b * (X % 2 ^ b) := by omega
        _ = 2 ^ b * (X % 2 ^ b + 1) := by rw [Nat.mul_succ]; omega
        _ ≤ 2 ^ b * 2 ^ b := Nat.mul_le_mul_left _ hXm
    have h2 : a + 2 ^ b * (c + 2 ^ b * X) = (a + 2 ^ b * c) + 2 ^ (b + b) * X := by rw [hB, Nat.mul_add, Nat.mul_assoc]; omega
    have low2 : a + 2 ^ b * c < 2 ^ (b + b) := by
      rw [hB]
      calc a + 2 ^ b * c < 2 ^ b + 2 ^ b * c := by omega
        _ = 2 ^ b * (c + 1) := by rw [Nat.mul_succ]; omega
        _ ≤ 2 ^ b * 2 ^ b := Nat.mul_le_mul_left _ hc
    rw [h1, h2, hXs, and_split _ low1 hm1, and_split _ low2 hm1, low_and _ _ _ hc, low_and _ _ _ ha, ← ih, Nat.mul_add]
    omega
theorem ps_len : ∀ (n : Nat) (l : List Nat), l.length = n + n → (ps l).length = n
  | 0, l, hl => by rw [List.eq_nil_of_length_eq_zero hl]; rfl
  | n + 1, [a], hl => by simp at hl; omega
  | n + 1, a :: c :: l, hl => by simp [ps, ps_len n l (by simp at hl; omega)]
theorem ps_sum : ∀ (n : Nat) (l : List Nat), l.length = n + n → (ps l).sum = l.sum
  | 0, l, hl => by rw [List.eq_nil_of_length_eq_zero hl]; rfl
  | n + 1, [a], hl => by simp at hl; omega
  | n + 1, a :: c :: l, hl => by simp [ps, ps_sum n l (by simp at hl; omega), Nat.add_assoc]
theorem ps_le (m : Nat) : ∀ (n : Nat) (l : List Nat), l.length = n + n → (∀ d ∈ l, d ≤ m) → ∀ d ∈ ps l, d ≤ m + m
  | 0, l, hl, _, d, h => by rw [List.eq_nil_of_length_eq_zero hl] at h; simp [ps] at h
  | n + 1, [a], hl, hm, d, h => by simp at hl; omega
  | n + 1, a :: c :: l, hl, hm, d, h => by
    simp only [ps, List.mem_cons] at h
    rcases h with rfl | h
    · have := hm a (by simp); have := hm c (by simp); omega
    · exact ps_le m n l (by simp at hl; omega) (fun d h => hm d (by simp [h])) d h
theorem fd_mod {l : List Nat} (hl : ∀ d ∈ l, d ≤ 4) : fd 16 l % 16 ≤ 4 := by
  cases l with
  | nil => simp [fd]
  | cons a l => have := hl a (by simp); simp only [fd]; omega
theorem fd_step3 : ∀ (n : Nat) (l : List Nat), l.length = n + n → (∀ d ∈ l, d ≤ 4) → ((fd 16 l / 16 + fd 16 l) &&& mk 4 n) = fd 256 (ps l)
  | 0, l, hl, _ => by
    have : l = [] := List.eq_nil_of_length_eq_zero hl
    subst this; simp [fd, ps, mk]
  | n + 1, [a], hl, hd => by simp at hl; omega
  | n + 1, a :: c :: l, hl, hd => by
    have ha := hd a (by simp)
    have hc := hd c (by simp)
    have hl' : ∀ d ∈ l, d ≤ 4 := fun d h => hd d (by simp [h])
    have hm := fd_mod hl'
    have ih := fd_step3 n l (by simp at hl; omega) hl'
    obtain ⟨X, hX⟩ : ∃ X, fd 16 l = X := ⟨_, rfl⟩
    simp only [fd, ps, mk, hX] at ih hm ⊢
    have e : (a + 16 * (c + 16 * X)) / 16 + (a + 16 * (c + 16 * X)) = ((a + c) + 2 ^ 4 * (c + X % 16)) + 2 ^ (4 + 4) * (X / 16 + X) := by omega
    rw [e, and_split _ (by omega) (by decide), low_and _ _ _ (by omega), ih]
theorem fd_le : ∀ (l : List Nat) (B m : Nat), (∀ d ∈ l, d ≤ m) → m < B → fd B l < B ^ l.length
  | [], B, m, _, _ => by simp [fd]
  | a :: l, B, m, h, hm => by
    have ih := fd_le l B m (fun d hd => h d (by simp [hd])) hm
    have := h a (by simp)
    rw [fd, List.length_cons, Nat.pow_succ, Nat.mul_comm]
    calc a + fd B l * B < B + fd B l * B := by omega
      _ = (fd B l + 1) * B := by rw [Nat.succ_mul]; omega
      _ ≤ B ^ l.length * B := Nat.mul_le_mul_right _ ih
theorem list8f {l : List Nat} (h : l.length = 8) : ∃ a b c d e f g i, l = [a, b, c, d, e, f, g, i] := by
  match l, h with
  | [a, b, c, d, e, f, g, i], _ => exact ⟨a, b, c, d, e, f, g, i, rfl⟩
/-- What OnesCount64 does with numbers. -/
def pop1 (x : Nat) : Nat := (x / 2 &&& 6148914691236517205) + (x &&& 6148914691236517205)
def pop2 (x : Nat) : Nat := (x / 4 &&& 3689348814741910323) + (x &&& 3689348814741910323)
def pop3 (x : Nat) : Nat := (x / 16 + x) &&& 1085102592571150095
theorem pop_all {x : Nat} (hx : x < 2 ^ 64) : ∃ y1 y2 y3 : Nat, pop1 x = y1 ∧ pop2 y1 = y2 ∧ pop3 y2 = y3 ∧ y1 < 2 ^ 64 ∧ y2 < 2 ^ 64 ∧ y2 / 16 + y2 < 2 ^ 64 ∧
    ∃ a b c d e f g i : Nat, y3 = a + 256 * (b + 256 * (c + 256 * (d + 256 * (e + 256 * (f + 256 * (g + 256 * i)))))) ∧ a ≤ 8 ∧ b ≤ 8 ∧ c ≤ 8 ∧ d ≤ 8 ∧ e ≤ 8 ∧ f ≤ 8 ∧ g ≤ 8 ∧ i ≤ 8 ∧ a + b + c + d + e + f + g + i = cnt (fun i => x.testBit i) 64 := by
  obtain ⟨l, hl⟩ : ∃ l, bl x 64 = l := ⟨_, rfl⟩
  have len : l.length = 64 := by rw [← hl, bl_len]
  have le0 : ∀ d ∈ l, d ≤ 1 := by rw [← hl]; exact bl_lt 64 x
  have e0 : fd 2 l = x := by rw [← hl, fd_bl _ _ hx]
  have s1 := fd_step 1 (by decide) 32 l len fun d h => by have := le0 d h; omega
  have len1 := ps_len 32 l len
  have le1 := ps_le 1 32 l len le0
  have su1 := ps_sum 32 l len
  have s2 := fd_step 2 (by decide) 16 (ps l) len1 fun d h => by have := le1 d h; omega
  have len2 := ps_len 16 _ len1
  have le2 := ps_le 2 16 _ len1 le1
  have su2 := ps_sum 16 _ len1
  have s3 := fd_step3 8 (ps (ps l)) len2 le2
  have len3 := ps_len 8 _ len2
  have le3 := ps_le 4 8 _ len2 le2
  have su3 := ps_sum 8 _ len2
  have lt1 := fd_le (ps l) 4 2 le1 (by decide)
  have lt2 := fd_le (ps (ps l)) 16 4 le2 (by decide)
  rw [len1] at lt1
  rw [len2] at lt2
  have m1 : mk 1 32 = 6148914691236517205 := by decide +kernel
  have m2 : mk 2 16 = 3689348814741910323 := by decide +kernel
  have m3 : mk 4 8 = 1085102592571150095 := by decide +kernel
  rw [m1] at s1; rw [m2] at s2; rw [m3] at s3
  refine ⟨fd 4 (ps l), fd 16 (ps (ps l)), fd 256 (ps (ps (ps l))), ?_, s2, s3, by omega, by omega, ?_, ?_⟩
  · rw [← s1, ← e0]; rfl
  · obtain ⟨q, hq⟩ : ∃ q, ps (ps l) = q := ⟨_, rfl⟩
    rw [hq] at le2 len2 lt2 ⊢
    have : q ≠ [] := by intro h; rw [h] at len2; simp at len2
    have hlast : fd 16 q ≤ 5 * 16 ^ 15 := by
      have gen : ∀ (q : List Nat) (n : Nat), q.length = n + 1 → (∀ d ∈ q, d ≤ 4) → fd 16 q < 5 * 16 ^ n := by
        intro q
        induction q with
        | nil => intro n h; simp at h
        | cons a q ih =>
          intro n h hd
          have ha := hd a (by simp)
          cases n with
          | zero =>
            have : q = [] := List.eq_nil_of_length_eq_zero (by simpa using h)
            subst this; simp [fd]; omega
          | succ n =>
            have := ih n (by simpa using h) fun d h => hd d (by simp [h])
            rw [fd, Nat.pow_succ]; omega
      exact Nat.le_of_lt (gen q 15 len2 le2)
    have : (16 : Nat) ^ 15 = 1152921504606846976 := by decide +kernel
    rw [this] at hlast
    have : (2 : Nat) ^ 64 = 18446744073709551616 := by decide +kernel
    omega
  · obtain ⟨a, b, c, d, e, f, g, i, hq⟩ := list8f len3
    rw [hq] at le3 su3 ⊢
    have su : a + b + c + d + e + f + g + i = cnt (fun i => x.testBit i) 64 := by
      rw [← bl_sum, hl, ← su1, ← su2, ← su3]; simp [Nat.add_assoc]
    refine ⟨a, b, c, d, e, f, g, i, by simp [fd], ?_, ?_, ?_, ?_, ?_, ?_, ?_, ?_, su⟩ <;> exact le3 _ (by simp)
theorem cofF_rows {f : Fun8} {v : Nat} {b : Bool} (h : v < 8) : ofRows (fun x => f.getLsbD (setB x v b)) = cofF f v b := fn_ext fun i hi => by rw [bt_rows hi, cofF_bit h hi]
theorem low_bit_all : ∀ v : Nat, v < 6 → ∀ i : Nat, i < 64 → (lowW v).getLsbD i = i.testBit v := by decide +kernel
theorem cofT1_all : ∀ v : Nat, v < 6 → ∀ k : Nat, k < 4 → ∀ i : Nat, i < 64 → setB (64 * k + i) v true = (bif i.testBit v then 64 * k + i else 64 * k + (i + 2 ^ v)) := by decide +kernel
theorem cofT2_all : ∀ v : Nat, v < 6 → ∀ i : Nat, i < 64 → i.testBit v = false → i + 2 ^ v < 64 ∧ (i + 2 ^ v).testBit v = true := by decide +kernel
theorem cofT3_all : ∀ v : Nat, v < 6 → ∀ i : Nat, i < 64 → i.testBit v = true → 64 ≤ i + 2 ^ v ∨ (i + 2 ^ v).testBit v = false := by decide +kernel
theorem cofF1_all : ∀ v : Nat, v < 6 → ∀ k : Nat, k < 4 → ∀ i : Nat, i < 64 → setB (64 * k + i) v false = (bif i.testBit v then 64 * k + (i - 2 ^ v) else 64 * k + i) := by decide +kernel
theorem cofF2_all : ∀ v : Nat, v < 6 → ∀ i : Nat, i < 64 → i.testBit v = true → 2 ^ v ≤ i ∧ (i - 2 ^ v).testBit v = false := by decide +kernel
theorem cofF3_all : ∀ v : Nat, v < 6 → ∀ i : Nat, i < 64 → i.testBit v = false → i < 2 ^ v ∨ (i - 2 ^ v).testBit v = true := by decide +kernel
theorem cofH_all : ∀ v : Nat, v < 2 → ∀ k : Nat, k < 4 → ∀ i : Nat, i < 64 → ∀ b : Bool, setB (64 * k + i) (v + 6) b = 64 * setB k v b + i := by decide +kernel
theorem setB4_all : ∀ v : Nat, v < 2 → ∀ k : Nat, k < 4 → ∀ b : Bool, setB k v b < 4 := by decide +kernel
theorem word_cof_t {f : Fun8} {v k : Nat} (hv : v < 6) (hk : k < 4) : (word f k &&& lowW v) ||| (word f k &&& lowW v) >>> 2 ^ v = word (cofF f v true) k := by
  refine word_ext fun i hi => ?_
  have h1 := cofT1_all v hv k hk i hi
  have h2 := cofT2_all v hv i hi
  have h3 := cofT3_all v hv i hi
  rw [word_bit _ _ _ hi, cofF_bit (by omega) (by omega), h1]
  simp only [BitVec.getLsbD_or, BitVec.getLsbD_and, BitVec.getLsbD_ushiftRight, low_bit_all v hv i hi]
  rw [Nat.add_comm (2 ^ v) i]
  cases hb : i.testBit v
  · obtain ⟨h4, h5⟩ := h2 hb
    rw [low_bit_all v hv _ h4, h5, word_bit _ _ _ h4]; simp
  · have e : (lowW v).getLsbD (i + 2 ^ v) = false := by
      by_cases hlt : i + 2 ^ v < 64
      · rw [low_bit_all v hv _ hlt]
        rcases h3 hb with h | h
        · omega
        · exact h
      · exact BitVec.getLsbD_of_ge _ _ (by omega)
    rw [e, word_bit _ _ _ hi]; simp
theorem word_cof_f {f : Fun8} {v k : Nat} (hv : v < 6) (hk : k < 4) : (word f k &&& ~~~lowW v) ||| (word f k &&& ~~~lowW v) <<< 2 ^ v = word (cofF f v false) k := by
  refine word_ext fun i hi => ?_
  have h1 := cofF1_all v hv k hk i hi
  have h2 := cofF2_all v hv i hi
  have h3 := cofF3_all v hv i hi
  rw [word_bit _ _ _ hi, cofF_bit (by omega) (by omega), h1]
  simp only [BitVec.getLsbD_or, BitVec.getLsbD_and, BitVec.getLsbD_shiftLeft, BitVec.getLsbD_not, low_bit_all v hv i hi, hi, decide_true, Bool.true_and]
  cases hb : i.testBit v
  · rw [word_bit _ _ _ hi]
    rcases h3 hb with h | h
    · simp [h]
    · rw [low_bit_all v hv _ (Nat.lt_of_le_of_lt (Nat.sub_le _ _) hi), h]; simp
  · obtain ⟨h4, h5⟩ := h2 hb
    have h6 : i - 2 ^ v < 64 := Nat.lt_of_le_of_lt (Nat.sub_le _ _) hi
    rw [low_bit_all v hv _ h6, h5, word_bit _ _ _ h6]
    have : ¬ i < 2 ^ v := by omega
    simp [this, h6]
theorem word_cof_h {f : Fun8} {v k : Nat} {b : Bool} (hv : v < 2) (hk : k < 4) : word f (setB k v b) = word (cofF f (v + 6 : Nat) b) k := by
  refine word_ext fun i hi => ?_
  have := setB4_all v hv k hk b
  rw [word_bit _ _ _ hi, word_bit _ _ _ hi, cofF_bit (by omega) (by omega), cofH_all v hv k hk i hi]
theorem bits_andNot64 (a b : BitVec 64) : bits .andNot .u64 (a.toNat : Int) (b.toNat : Int) = ((a &&& ~~~b).toNat : Int) := by
  unfold bits; simp only [IntKind.bits, ofInt_nat]; exact wrap_nat _
theorem bU_andNot {P : Program} {w : World} {t : TypeId} {x y : Operand} {a b : BitVec 64} : binR P .andNot t x y (vU a) (vU b) w = .ok (vU (a &&& ~~~b)) w := by rw [vU, vU, binR_andNot, bits_andNot64]; rfl
theorem depF_def {f : Fun8} {v : Int} : depF f v = !decide (cofF f v false = cofF f v true) := rfl
theorem supF_def {f : Fun8} : supF f = supTo f 8 := rfl
theorem countF_def {f : Fun8} : countF f = cnt (fun x => f.getLsbD x) 256 := rfl
attribute [push_cast] bU_andNot
attribute [irreducible] cofF depF supF countF
end Go.Bx

/- Layer 2's plain laws: what a set variable comes to. No program is in sight. -/
namespace Go.Bx
open Go
set_option linter.unusedSimpArgs false
set_option linter.unusedVariables false
set_option maxRecDepth 100000
section
variable {f g h : Fun8} {v w : Int} {b c : Bool}
theorem cof_ext {f g : Fun8} (hb : ∀ x, x < 256 → f.getLsbD x = g.getLsbD x) : f = g := fn_ext hb
theorem setB_bit_all : ∀ v : Nat, v < 8 → ∀ x : Nat, x < 256 → ∀ b : Bool, (setB x v b).testBit v = b := by decide +kernel
theorem setB_other_all : ∀ v : Nat, v < 8 → ∀ u : Nat, u < 8 → v ≠ u → ∀ x : Nat, x < 256 → ∀ b : Bool, (setB x v b).testBit u = x.testBit u := by decide +kernel
theorem nat8 (hv : 0 ≤ v ∧ v < 8) : ∃ n : Nat, v = n ∧ n < 8 := ⟨v.toNat, by omega, by omega⟩
theorem cof_cof : cofF (cofF f v b) v c = cofF f v b := by
  by_cases hv : 0 ≤ v ∧ v < 8
  · obtain ⟨n, rfl, hn⟩ := nat8 hv
    refine fn_ext fun x hx => ?_
    rw [cofF_bit hn hx, cofF_bit hn (setB_lt hx hn), cofF_bit hn hx, setB_set_all n hn x hx c b]
  · rw [cofF_out hv, cofF_out hv]
theorem dep_cof : depF (cofF f v b) v = false := by rw [depF_def, cof_cof, cof_cof]; simp
theorem cof_comm (h : v ≠ w) : cofF (cofF f v b) w c = cofF (cofF f w c) v b := by
  by_cases hv : 0 ≤ v ∧ v < 8
  · by_cases hw : 0 ≤ w ∧ w < 8
    · obtain ⟨n, rfl, hn⟩ := nat8 hv
      obtain ⟨m, rfl, hm⟩ := nat8 hw
      refine fn_ext fun x hx => ?_
      rw [cofF_bit hm hx, cofF_bit hn (setB_lt hx hm), cofF_bit hn hx, cofF_bit hm (setB_lt hx hn), setB_comm_all n hn m hm (by omega) x hx b c]
    · rw [cofF_out hw, cofF_out hw]
  · rw [cofF_out hv, cofF_out hv]
theorem ite_cof : iteF (varF v) (cofF f v true) (cofF f v false) = f := by
  by_cases hv : 0 ≤ v ∧ v < 8
  · obtain ⟨n, rfl, hn⟩ := nat8 hv
    refine fn_ext fun x hx => ?_
    have hs := setB_self_all n hn x hx
    rw [bt_ite hx, bt_var hn hx, cofF_bit hn hx, cofF_bit hn hx]
    cases hb : x.testBit n
    · rw [hb] at hs; simp [hs]
    · rw [hb] at hs; simp [hs]
  · rw [cofF_out hv, cofF_out hv, iteF_same]
theorem ite_const : iteF (constF b) g h = if b then g else h := by
  refine fn_ext fun x hx => ?_
  rw [bt_ite hx, bt_const hx]
  cases b <;> rfl
theorem comp_const : iteF (constF b) (cofF f v true) (cofF f v false) = cofF f v b := by rw [ite_const]; cases b <;> rfl
theorem and_not_or : andF (andF f g) (notF (orF f g)) = constF false := by
  refine fn_ext fun x hx => ?_
  rw [bt_and, bt_and, bt_not hx, bt_or, bt_const hx]
  cases f.getLsbD x <;> cases g.getLsbD x <;> rfl
theorem count_le : countF f ≤ 256 := by rw [countF_def]; exact cnt_le _ _
theorem cnt_pt {p q r t : Nat → Bool} : ∀ {n : Nat}, (∀ x, x < n → ((if p x then 1 else 0) + (if q x then 1 else 0) : Nat) = (if r x then 1 else 0) + (if t x then 1 else 0)) → cnt p n + cnt q n = cnt r n + cnt t n
  | 0, _ => rfl
  | n + 1, h => by
    have h1 := cnt_pt (n := n) fun x hx => h x (by omega)
    have h2 := h n (by omega)
    simp only [cnt]; omega
/-- The other one of two neighbouring blocks of s. -/
def sw (s x : Nat) : Nat := if x / s % 2 = 0 then x + s else x - s
theorem cnt_sw (p : Nat → Bool) {s : Nat} (hs : 0 < s) : ∀ m, cnt (fun x => p (sw s x)) (s * (2 * m)) = cnt p (s * (2 * m))
  | 0 => rfl
  | m + 1 => by
    have e : s * (2 * (m + 1)) = s * (2 * m) + (s + s) := by rw [show 2 * (m + 1) = 2 * m + 2 by omega, Nat.mul_add]; omega
    have d1 : ∀ i, i < s → sw s (s * (2 * m) + i) = s * (2 * m) + (s + i) := fun i hi => by
      unfold sw
      rw [Nat.mul_add_div hs, Nat.div_eq_of_lt hi, if_pos (by omega)]; omega
    have d2 : ∀ i, i < s → sw s (s * (2 * m) + (s + i)) = s * (2 * m) + i := fun i hi => by
      unfold sw
      rw [Nat.mul_add_div hs, Nat.add_div_left _ hs, Nat.div_eq_of_lt hi, if_neg (by omega)]; omega
    rw [e, cnt_add (fun x => p (sw s x)) (s * (2 * m)) (s + s), cnt_add _ s s, cnt_sw p hs m, cnt_add p (s * (2 * m)) (s + s), cnt_add _ s s]
    have c1 : cnt (fun i => p (sw s (s * (2 * m) + i))) s = cnt (fun i => p (s * (2 * m) + (s + i))) s := cnt_congr fun i hi => by rw [d1 i hi]
    have c2 : cnt (fun i => p (sw s (s * (2 * m) + (s + i)))) s = cnt (fun i => p (s * (2 * m) + i)) s := cnt_congr fun i hi => by rw [d2 i hi]
    rw [c1, c2]; omega
theorem setB_sw_all : ∀ v : Nat, v < 8 → ∀ x : Nat, x < 256 → if x.testBit v then (setB x v true = x ∧ setB x v false = sw (2 ^ v) x) else (setB x v true = sw (2 ^ v) x ∧ setB x v false = x) := by decide +kernel
theorem count_split (hv : 0 ≤ v ∧ v < 8) : countF (cofF f v true) + countF (cofF f v false) = 2 * countF f := by
  obtain ⟨n, rfl, hn⟩ := nat8 hv
  have e : ∀ b, countF (cofF f n b) = cnt (fun x => f.getLsbD (setB x n b)) 256 := fun b => by
    rw [countF_def]; exact cnt_congr fun i hi => cofF_bit hn hi
  rw [e, e, cnt_pt (r := fun x => f.getLsbD x) (t := fun x => f.getLsbD (sw (2 ^ n) x)) fun x hx => by
    have := setB_sw_all n hn x hx
    cases hb : x.testBit n
    · rw [hb] at this; simp only [Bool.false_eq_true, if_false] at this; rw [this.1, this.2]; omega
    · rw [hb] at this; simp only [if_true] at this; rw [this.1, this.2]]
  obtain ⟨m, hm⟩ := (by
    obtain ⟨m, h⟩ := (by decide : ∀ n : Nat, n < 8 → ∃ m : Fin 129, 256 = 2 ^ n * (2 * m.val)) n hn
    exact ⟨m.val, h⟩ : ∃ m, 256 = 2 ^ n * (2 * m))
  have := cnt_sw (fun x => f.getLsbD x) (s := 2 ^ n) (Nat.pow_pos (by decide)) m
  rw [← hm] at this
  rw [this, countF_def]; omega
end
end Go.Bx

/- Layers 4 and 6 by plain means: numbers that are taken, and orders. No program is in sight. -/
namespace Go.Bx
open Go
set_option linter.unusedSimpArgs false
set_option linter.unusedVariables false

/-! ### Orders -/
def lvl (l : List Int) (v : Int) : Int := match l.idxOf? v with | some i => (i : Int) | none => -1
theorem lvl_first {l : List Int} {v : Int} {k : Nat} (h : l[k]? = some v) (hno : ∀ i, i < k → l[i]? ≠ some v) : lvl l v = k := by
  obtain ⟨hk, hv⟩ := List.getElem?_eq_some_iff.1 h
  unfold lvl
  have : l.idxOf? v = some k := by
    rw [List.idxOf?_eq_some_iff]
    refine ⟨hk, by simpa using hv, fun j hj hne => ?_⟩
    have h2 := hno j hj
    rw [List.getElem?_eq_getElem (by omega)] at h2
    exact h2 (by simpa using hne)
  rw [this]
theorem lvl_none {l : List Int} {v : Int} (hno : ∀ i, i < l.length → l[i]? ≠ some v) : lvl l v = -1 := by
  unfold lvl
  have : l.idxOf? v = none := by
    rw [List.idxOf?_eq_none_iff]
    intro hm
    obtain ⟨i, hi, he⟩ := List.getElem_of_mem hm
    exact hno i hi (by rw [List.getElem?_eq_getElem hi, he])
  rw [this]
def swp (l : List Int) (i : Int) : List Int := if 0 ≤ i ∧ i < 7 then (l.set i.toNat (l.getD (i.toNat + 1) 0)).set (i.toNat + 1) (l.getD i.toNat 0) else l
theorem swp_length (l : List Int) (i : Int) : (swp l i).length = l.length := by unfold swp; split <;> simp
theorem swp_at (l : List Int) (hl : l.length = 8) (i : Int) (h0 : 0 ≤ i) (h7 : i < 7) (j : Nat) :
    (swp l i)[j]? = if j = i.toNat then l[i.toNat + 1]? else if j = i.toNat + 1 then l[i.toNat]? else l[j]? := by
  have h1 : swp l i = (l.set i.toNat (l.getD (i.toNat + 1) 0)).set (i.toNat + 1) (l.getD i.toNat 0) := if_pos ⟨h0, h7⟩
  generalize hn : i.toNat = n at *
  rw [h1]
  by_cases hj : j = n
  · subst hj
    rw [List.getElem?_set_ne (by omega), List.getElem?_set_self (by omega), List.getElem?_eq_getElem (show j + 1 < l.length by omega)]
    simp [List.getD, List.getElem?_eq_getElem (show j + 1 < l.length by omega)]
  · by_cases hj1 : j = n + 1
    · subst hj1
      rw [List.getElem?_set_self (by simp; omega), List.getElem?_eq_getElem (show n < l.length by omega)]
      simp [List.getD, List.getElem?_eq_getElem (show n < l.length by omega)]
    · rw [List.getElem?_set_ne (by omega), List.getElem?_set_ne (by omega), if_neg hj, if_neg hj1]

/-- Each variable stands at one level. -/
structure OrdOK (l : List Int) : Prop where
  len : l.length = 8
  all : ∀ v : Int, 0 ≤ v → v < 8 → ∃ k : Nat, k < 8 ∧ l[k]? = some v
  one : ∀ (i j : Nat) (v : Int), l[i]? = some v → l[j]? = some v → i = j
  rng : ∀ (k : Nat) (v : Int), l[k]? = some v → 0 ≤ v ∧ v < 8
theorem OrdOK.lvl {l : List Int} (h : OrdOK l) {k : Nat} {v : Int} (hk : l[k]? = some v) : lvl l v = k :=
  lvl_first hk fun i hi he => by have := h.one _ _ _ hk he; omega
theorem OrdOK.at {l : List Int} (h : OrdOK l) {v : Int} (h0 : 0 ≤ v) (h1 : v < 8) : ∃ k : Nat, k < 8 ∧ l[k]? = some v ∧ Go.Bx.lvl l v = k := by
  obtain ⟨k, hk, he⟩ := h.all v h0 h1
  exact ⟨k, hk, he, h.lvl he⟩
theorem OrdOK.inj {l : List Int} (h : OrdOK l) {u v : Int} (hu : 0 ≤ u ∧ u < 8) (hv : 0 ≤ v ∧ v < 8) (he : Go.Bx.lvl l u = Go.Bx.lvl l v) : u = v := by
  obtain ⟨k, _, h1, h2⟩ := h.at hu.1 hu.2
  obtain ⟨j, _, h3, h4⟩ := h.at hv.1 hv.2
  have : k = j := by omega
  subst this
  rw [h1] at h3; cases h3; rfl
theorem OrdOK.lt {l : List Int} (h : OrdOK l) {v : Int} (hv : 0 ≤ v ∧ v < 8) : 0 ≤ Go.Bx.lvl l v ∧ Go.Bx.lvl l v < 8 := by
  obtain ⟨k, hk, _, h2⟩ := h.at hv.1 hv.2
  omega
def plain : List Int := [0, 1, 2, 3, 4, 5, 6, 7]
theorem OrdOK.plain : OrdOK plain := by
  have key : ∀ (i : Nat) (v : Int), Go.Bx.plain[i]? = some v → v = i ∧ i < 8 := by
    intro i v h
    match i, h with
    | 0, h => cases h; exact ⟨rfl, by decide⟩
    | 1, h => cases h; exact ⟨rfl, by decide⟩
    | 2, h => cases h; exact ⟨rfl, by decide⟩
    | 3, h => cases h; exact ⟨rfl, by decide⟩
    | 4, h => cases h; exact ⟨rfl, by decide⟩
    | 5, h => cases h; exact ⟨rfl, by decide⟩
    | 6, h => cases h; exact ⟨rfl, by decide⟩
    | 7, h => cases h; exact ⟨rfl, by decide⟩
    | n + 8, h => cases h
  refine ⟨rfl, fun v h0 h1 => ⟨v.toNat, by omega, ?_⟩, fun i j v h h' => ?_, fun k v h => ?_⟩
  · obtain ⟨n, rfl⟩ := Int.eq_ofNat_of_zero_le h0
    have : n < 8 := by omega
    match n, this with
    | 0, _ => rfl
    | 1, _ => rfl
    | 2, _ => rfl
    | 3, _ => rfl
    | 4, _ => rfl
    | 5, _ => rfl
    | 6, _ => rfl
    | 7, _ => rfl
  · have := key _ _ h; have := key _ _ h'; omega
  · have := key _ _ h; omega
theorem OrdOK.swp {l : List Int} (h : OrdOK l) (i : Int) : OrdOK (swp l i) := by
  by_cases hi : 0 ≤ i ∧ i < 7
  · have at_ := swp_at l h.len i hi.1 hi.2
    generalize hn : i.toNat = n at at_
    have hn7 : n < 7 := by omega
    -- the place where what stands at j stood
    have src : ∀ (j : Nat) (v : Int), (Go.Bx.swp l i)[j]? = some v ↔ l[if j = n then n + 1 else if j = n + 1 then n else j]? = some v := by
      intro j v
      rw [at_]
      by_cases h1 : j = n
      · rw [if_pos h1, if_pos h1]
      · rw [if_neg h1, if_neg h1]
        by_cases h2 : j = n + 1
        · rw [if_pos h2, if_pos h2]
        · rw [if_neg h2, if_neg h2]
    refine ⟨by rw [swp_length]; exact h.len, fun v h0 h1 => ?_, fun a b v ha hb => ?_, fun k v hk => h.rng _ v ((src _ _).1 hk)⟩
    · obtain ⟨k, hk, he⟩ := h.all v h0 h1
      refine ⟨if k = n then n + 1 else if k = n + 1 then n else k, by split <;> (try split) <;> omega, (src _ _).2 ?_⟩
      rw [← he]; congr 1
      split <;> (try split) <;> (try split) <;> omega
    · have := h.one _ _ _ ((src _ _).1 ha) ((src _ _).1 hb)
      split at this <;> split at this <;> (try split at this) <;> (try split at this) <;> omega
  · rw [show Go.Bx.swp l i = l from if_neg hi]; exact h
/-- The levels after the exchange. -/
theorem OrdOK.swp_lvl {l : List Int} (h : OrdOK l) {n : Nat} (hn : n < 7) {x y : Int} (hx : l[n]? = some x) (hy : l[n + 1]? = some y) :
    Go.Bx.lvl (Go.Bx.swp l n) y = n ∧ Go.Bx.lvl (Go.Bx.swp l n) x = (n : Int) + 1 ∧ ∀ v, v ≠ x → v ≠ y → 0 ≤ v ∧ v < 8 → Go.Bx.lvl (Go.Bx.swp l n) v = Go.Bx.lvl l v := by
  have hs := h.swp (n : Int)
  have at_ := swp_at l h.len (n : Int) (by omega) (by omega)
  have e : ((n : Int)).toNat = n := by omega
  rw [e] at at_
  refine ⟨hs.lvl (by rw [at_, if_pos rfl]; exact hy), ?_, fun v h1 h2 hr => ?_⟩
  · have := hs.lvl (k := n + 1) (v := x) (by rw [at_, if_neg (by omega), if_pos rfl]; exact hx)
    rw [this]; omega
  · obtain ⟨k, hk, he, hl⟩ := h.at hr.1 hr.2
    have n1 : k ≠ n := fun e => h1 (by subst e; rw [hx] at he; cases he; rfl)
    have n2 : k ≠ n + 1 := fun e => h2 (by subst e; rw [hy] at he; cases he; rfl)
    rw [hl]
    exact hs.lvl (by rw [at_, if_neg n1, if_neg n2]; exact he)

/-! ### Numbers that are taken -/
structure Ar where
  most : Int
  T : List Bool
  Fr : List Int
def Ar.has (a : Ar) (n : Int) : Bool := decide (0 ≤ n) && a.T.getD n.toNat false
def Ar.many (a : Ar) : Int := (a.T.length : Int) - a.Fr.length
def Ar.takeB (a : Ar) (n : Int) (R : List Int) : Ar := ⟨a.most, a.T.set n.toNat true, R⟩
def Ar.takeN (a : Ar) : Ar := ⟨a.most, a.T ++ [true], []⟩
def Ar.give (a : Ar) (n : Int) : Ar := ⟨a.most, a.T.set n.toNat false, a.Fr ++ [n]⟩
/-- The number that comes, and what is then. -/
def Ar.take (a : Ar) : Option (Int × Ar) :=
  match a.Fr.getLast? with
  | some n => some (n, a.takeB n a.Fr.dropLast)
  | none => if (a.T.length : Int) = a.most then none else some (a.T.length, a.takeN)
structure Ar.OK (a : Ar) : Prop where
  nodup : a.Fr.Nodup
  mem : ∀ n : Int, n ∈ a.Fr ↔ 0 ≤ n ∧ a.T[n.toNat]? = some false
  lim : (a.T.length : Int) ≤ a.most
  m0 : 0 ≤ a.most
  most : a.most ≤ 20000
theorem Ar.has_iff {a : Ar} {n : Int} : a.has n = true ↔ 0 ≤ n ∧ a.T[n.toNat]? = some true := by
  unfold Ar.has
  rw [Bool.and_eq_true, List.getD_eq_getElem?_getD]
  constructor
  · rintro ⟨h1, h2⟩
    refine ⟨by simpa using h1, ?_⟩
    cases h : a.T[n.toNat]? with
    | none => rw [h] at h2; cases h2
    | some b => rw [h] at h2; simpa using h2
  · rintro ⟨h1, h2⟩
    exact ⟨by simpa using h1, by rw [h2]; rfl⟩
theorem Ar.has_lt {a : Ar} {n : Int} (h : a.has n = true) : 0 ≤ n ∧ n < a.T.length := by
  have := Ar.has_iff.1 h
  have h2 := (List.getElem?_eq_some_iff.1 this.2).1
  omega
theorem sub_len' {α : Type} [DecidableEq α] : ∀ {l m : List α}, l.Nodup → (∀ x ∈ l, x ∈ m) → l.length ≤ m.length
  | [], m, _, _ => by simp
  | x :: l, m, hn, h => by
    have hx := h x (by simp)
    have hn' := List.nodup_cons.1 hn
    have := sub_len' (m := m.erase x) hn'.2 fun y hy => (List.mem_erase_of_ne (by intro e; subst e; exact hn'.1 hy)).2 (h y (by simp [hy]))
    rw [List.length_erase_of_mem hx] at this
    have := List.length_pos_of_mem hx
    simp only [List.length_cons]; omega
def upto (n : Nat) : List Int := (List.range n).map fun k : Nat => (k : Int)
theorem mem_upto {n : Nat} {x : Int} : x ∈ upto n ↔ 0 ≤ x ∧ x < n := by
  unfold upto
  rw [List.mem_map]
  constructor
  · rintro ⟨k, hk, rfl⟩; rw [List.mem_range] at hk; omega
  · rintro ⟨h1, h2⟩; exact ⟨x.toNat, List.mem_range.2 (by omega), by omega⟩
theorem nodup_upto (n : Nat) : (upto n).Nodup := by
  unfold upto
  rw [List.nodup_iff_pairwise_ne, List.pairwise_map]
  exact List.Pairwise.imp (fun h => by omega) List.pairwise_lt_range
theorem len_upto (n : Nat) : (upto n).length = n := by simp [upto]
section
variable {a : Ar}
/-- Any list of just what is taken has as many. -/
theorem Ar.OK.count (h : a.OK) {l : List Int} (hn : l.Nodup) (hm : ∀ n, n ∈ l ↔ a.has n = true) : (l.length : Int) = a.many := by
  have nd : (l ++ a.Fr).Nodup := by
    rw [List.nodup_append]
    refine ⟨hn, h.nodup, fun x hx y hy e => ?_⟩
    subst e
    have h1 := (Ar.has_iff.1 ((hm x).1 hx)).2
    rw [((h.mem x).1 hy).2] at h1; cases h1
  have mm : ∀ x, x ∈ l ++ a.Fr ↔ x ∈ upto a.T.length := by
    intro x
    rw [mem_upto, List.mem_append, hm, h.mem, Ar.has_iff]
    constructor
    · rintro (⟨h1, h2⟩ | ⟨h1, h2⟩) <;> (have := (List.getElem?_eq_some_iff.1 h2).1; omega)
    · rintro ⟨h1, h2⟩
      have hl : x.toNat < a.T.length := by omega
      rw [List.getElem?_eq_getElem hl]
      cases hb : a.T[x.toNat]
      · exact .inr ⟨h1, rfl⟩
      · exact .inl ⟨h1, rfl⟩
  have l1 := sub_len' nd fun x hx => (mm x).1 hx
  have l2 := sub_len' (nodup_upto a.T.length) fun x hx => (mm x).2 hx
  rw [len_upto, List.length_append] at l1 l2
  unfold Ar.many; omega
theorem Ar.OK.many_le (h : a.OK) : 0 ≤ a.many ∧ a.many ≤ a.most := by
  have l1 := sub_len' h.nodup fun x hx => (mem_upto (n := a.T.length)).2 (by
    have := (h.mem x).1 hx
    have h2 := (List.getElem?_eq_some_iff.1 this.2).1
    omega)
  rw [len_upto] at l1
  have := h.lim
  unfold Ar.many; omega
theorem Ar.OK.frlen (h : a.OK) : a.Fr.length ≤ a.T.length := by have := h.many_le; unfold Ar.many at this; omega
theorem Ar.OK.start {m : Int} (h0 : 0 ≤ m) (h1 : m ≤ 20000) : (Ar.mk m [] []).OK := ⟨List.nodup_nil, fun n => by simp, by simpa using h0, h0, h1⟩
inductive Ar.Take (a : Ar) : Option (Int × Ar) → Prop
  | back (R : List Int) (n : Int) (hF : a.Fr = R ++ [n]) (h0 : 0 ≤ n) (h1 : n < a.T.length) (hf : a.has n = false) : Take a (some (n, a.takeB n R))
  | full (hF : a.Fr = []) (hm : (a.T.length : Int) = a.most) : Take a none
  | new (hF : a.Fr = []) (hm : (a.T.length : Int) < a.most) : Take a (some ((a.T.length : Int), a.takeN))
theorem Ar.OK.takes (h : a.OK) : a.Take a.take := by
  unfold Ar.take
  rcases List.eq_nil_or_concat a.Fr with e | ⟨R, n, e⟩
  · rw [e, List.getLast?_nil]
    by_cases hm : (a.T.length : Int) = a.most
    · simp only [hm, ↓reduceIte]; exact .full e hm
    · simp only [hm, ↓reduceIte]; exact .new e (by have := h.lim; omega)
  · rw [List.concat_eq_append] at e
    rw [e, List.getLast?_append, List.getLast?_singleton, List.dropLast_concat]
    have hm := (h.mem n).1 (by rw [e]; simp)
    have := (List.getElem?_eq_some_iff.1 hm.2).1
    refine .back R n e hm.1 (by omega) ?_
    cases hb : a.has n
    · rfl
    · have := (Ar.has_iff.1 hb).2; rw [hm.2] at this; cases this
theorem Ar.has_takeB {n m : Int} {R : List Int} (h0 : 0 ≤ n) (h1 : n < a.T.length) : (a.takeB n R).has m = (a.has m || decide (m = n)) := by
  have key : (a.takeB n R).has m = true ↔ (a.has m || decide (m = n)) = true := by
    rw [Ar.has_iff, Bool.or_eq_true, Ar.has_iff]
    simp only [Ar.takeB, decide_eq_true_eq]
    by_cases e : m = n
    · subst e; rw [List.getElem?_set_self (by omega)]; simp [h0]
    · constructor
      · rintro ⟨h2, h3⟩
        rw [List.getElem?_set_ne (by omega)] at h3; exact .inl ⟨h2, h3⟩
      · rintro (⟨h2, h3⟩ | h)
        · rw [List.getElem?_set_ne (by omega)]; exact ⟨h2, h3⟩
        · exact absurd h e
  cases h2 : (a.takeB n R).has m <;> cases h3 : (a.has m || decide (m = n)) <;> simp_all
theorem Ar.has_takeN {m : Int} : a.takeN.has m = (a.has m || decide (m = a.T.length)) := by
  have key : a.takeN.has m = true ↔ (a.has m || decide (m = a.T.length)) = true := by
    rw [Ar.has_iff, Bool.or_eq_true, Ar.has_iff]
    simp only [Ar.takeN, decide_eq_true_eq]
    constructor
    · rintro ⟨h2, h3⟩
      rw [List.getElem?_append] at h3
      split at h3
      · exact .inl ⟨h2, h3⟩
      · have := (List.getElem?_eq_some_iff.1 h3).1
        simp at this; right; omega
    · rintro (⟨h2, h3⟩ | rfl)
      · exact ⟨h2, by rw [List.getElem?_append_left (List.getElem?_eq_some_iff.1 h3).1]; exact h3⟩
      · exact ⟨by omega, by simp⟩
  cases h2 : a.takeN.has m <;> cases h3 : (a.has m || decide (m = a.T.length)) <;> simp_all
theorem Ar.has_give {n m : Int} (h : a.has n = true) : (a.give n).has m = (a.has m && !decide (m = n)) := by
  have hl := Ar.has_lt h
  have key : (a.give n).has m = true ↔ (a.has m && !decide (m = n)) = true := by
    rw [Ar.has_iff, Bool.and_eq_true, Ar.has_iff]
    simp only [Ar.give, Bool.not_eq_true', decide_eq_false_iff_not]
    by_cases e : m = n
    · subst e; rw [List.getElem?_set_self (by omega)]; simp
    · constructor
      · rintro ⟨h2, h3⟩
        rw [List.getElem?_set_ne (by omega)] at h3; exact ⟨⟨h2, h3⟩, e⟩
      · rintro ⟨⟨h2, h3⟩, _⟩
        rw [List.getElem?_set_ne (by omega)]; exact ⟨h2, h3⟩
  cases h2 : (a.give n).has m <;> cases h3 : (a.has m && !decide (m = n)) <;> simp_all
theorem Ar.OK.taken {n : Int} {b : Ar} (h : a.OK) (ht : a.take = some (n, b)) : b.OK ∧ b.most = a.most ∧ b.many = a.many + 1 ∧ a.has n = false ∧ 0 ≤ n ∧ n ≤ a.T.length ∧ (∀ m, b.has m = (a.has m || decide (m = n))) ∧ b.T.length = (if n = a.T.length then a.T.length + 1 else a.T.length) := by
  have hk := h.takes
  rw [ht] at hk
  generalize he : some (n, b) = o at hk
  cases hk with
  | full => cases he
  | back R k hF h0 h1 hf =>
    cases he
    refine ⟨⟨?_, fun m => ?_, ?_, h.m0, h.most⟩, rfl, ?_, hf, h0, by omega, fun m => Ar.has_takeB h0 h1, by rw [if_neg (by omega)]; simp [Ar.takeB]⟩
    · have := h.nodup; rw [hF, List.nodup_append] at this; exact this.1
    · have hm := h.mem m
      rw [hF, List.mem_append, List.mem_singleton] at hm
      have hnd := h.nodup
      rw [hF, List.nodup_append] at hnd
      by_cases e : m = n
      · subst e
        constructor
        · intro hR; exact absurd rfl (hnd.2.2 m hR m (by simp))
        · rintro ⟨_, h3⟩; simp only [Ar.takeB] at h3; rw [List.getElem?_set_self (by omega)] at h3; cases h3
      · simp only [Ar.takeB]
        constructor
        · intro hR
          have := hm.1 (.inl hR)
          exact ⟨this.1, by rw [List.getElem?_set_ne (by omega)]; exact this.2⟩
        · rintro ⟨h2, h3⟩
          rw [List.getElem?_set_ne (by omega)] at h3
          exact (hm.2 ⟨h2, h3⟩).resolve_right e
    · simpa [Ar.takeB] using h.lim
    · have : a.Fr.length = R.length + 1 := by rw [hF]; simp
      simp only [Ar.many, Ar.takeB, List.length_set, this]; omega
  | new hF hm =>
    cases he
    have hno : a.has (a.T.length : Int) = false := by
      cases hb : a.has (a.T.length : Int)
      · rfl
      · have := Ar.has_lt hb; omega
    refine ⟨⟨List.nodup_nil, fun m => ?_, ?_, h.m0, h.most⟩, rfl, ?_, hno, by omega, Int.le_refl _, fun m => Ar.has_takeN, by rw [if_pos rfl]; simp [Ar.takeN]⟩
    · have hm := h.mem m
      rw [hF] at hm
      constructor
      · intro h; cases h
      · rintro ⟨h2, h3⟩
        simp only [Ar.takeN] at h3
        rw [List.getElem?_append] at h3
        split at h3
        · exact hm.2 ⟨h2, h3⟩
        · have hh := (List.getElem?_eq_some_iff.1 h3).1
          simp at hh
          have e : m.toNat - a.T.length = 0 := by omega
          rw [e] at h3; cases h3
    · simp only [Ar.takeN, List.length_append, List.length_singleton]; omega
    · simp only [Ar.many, Ar.takeN, hF, List.length_append, List.length_singleton, List.length_nil]; omega
theorem Ar.OK.room (h : a.OK) : a.take = none ↔ a.many = a.most := by
  have hk := h.takes
  constructor
  · intro ht
    rw [ht] at hk
    generalize he : (none : Option (Int × Ar)) = o at hk
    cases hk with
    | full hF hm => unfold Ar.many; rw [hF, hm]; simp
    | back => cases he
    | new => cases he
  · intro hm
    cases ht : a.take with
    | none => rfl
    | some x =>
      obtain ⟨n, b⟩ := x
      have := h.taken ht
      have h2 := this.1.many_le
      omega
theorem Ar.OK.given {n : Int} (h : a.OK) (hn : a.has n = true) : (a.give n).OK ∧ (a.give n).many = a.many - 1 := by
  have hl := Ar.has_lt hn
  have ht := (Ar.has_iff.1 hn).2
  refine ⟨⟨?_, fun m => ?_, by simpa [Ar.give] using h.lim, h.m0, h.most⟩, by simp only [Ar.many, Ar.give, List.length_set, List.length_append, List.length_singleton]; omega⟩
  · simp only [Ar.give]
    rw [List.nodup_append]
    refine ⟨h.nodup, by simp, fun x hx y hy e => ?_⟩
    rw [List.mem_singleton] at hy
    subst e hy
    have := ((h.mem x).1 hx).2
    rw [ht] at this; cases this
  · simp only [Ar.give, List.mem_append, List.mem_singleton]
    rw [h.mem]
    by_cases e : m = n
    · subst e; rw [List.getElem?_set_self (by omega)]; simp [hl.1]
    · constructor
      · rintro (⟨h2, h3⟩ | h2)
        · exact ⟨h2, by rw [List.getElem?_set_ne (by omega)]; exact h3⟩
        · exact absurd h2 e
      · rintro ⟨h2, h3⟩
        rw [List.getElem?_set_ne (by omega)] at h3
        exact .inl ⟨h2, h3⟩
end
end Go.Bx

/- Walks of layer 4. -/
namespace Go.Proofs.Ytpeindhocndmnaa
open Go Go.Bx
set_option linter.unusedSimpArgs false
set_option linter.unusedVariables false
set_option maxRecDepth 100000
set_option maxHeartbeats 4000000
attribute [local irreducible] X XO XE XF XD XW thenX inX retX kN CallsR
def iV (n : Int) : Value := .int .i64 n
/-- An arena in memory. -/
structure ArO (F : Nat → Prop) (w : World) (p : Nat) (a : Ar) (ta : Option Addr) (tc : Nat) (fa : Option Addr) (fc : Nat) : Prop where
  at_ : w.heap[p]? = some (.cells #[.int .i64 a.most, .slice ta a.T.length tc, .slice fa a.Fr.length fc] 171)
  T : SlC w 4 ta tc (a.T.map .bool)
  Fr : SlC w 3 fa fc (a.Fr.map (.int .i64))
  fp : F p
  ft : ∀ g, blk ta = some g → F g
  ff : ∀ g, blk fa = some g → F g
  lt : ∀ k, F k → k < w.heap.size
def ArI (F : Nat → Prop) (w : World) (p : Nat) (a : Ar) : Prop := ∃ ta tc fa fc, ArO F w p a ta tc fa fc
section
variable {F : Nat → Prop} {w w' : World} {p : Nat} {a : Ar}
theorem ArI.keep (h : ArI F w p a) (hk : ∀ k, F k → w'.heap[k]? = w.heap[k]?) (hs : w.heap.size ≤ w'.heap.size) : ArI F w' p a := by
  obtain ⟨ta, tc, fa, fc, h⟩ := h
  exact ⟨ta, tc, fa, fc, by rw [hk p h.fp]; exact h.at_, h.T.keep fun g hg => hk g (h.ft g hg), h.Fr.keep fun g hg => hk g (h.ff g hg), h.fp, h.ft, h.ff, fun k hk' => Nat.lt_of_lt_of_le (h.lt k hk') hs⟩
theorem ArI.wider {G : Nat → Prop} (h : ArI F w p a) (hFG : ∀ k, F k → G k) (hG : ∀ k, G k → k < w.heap.size) : ArI G w p a := by
  obtain ⟨ta, tc, fa, fc, h⟩ := h
  exact ⟨ta, tc, fa, fc, h.at_, h.T, h.Fr, hFG _ h.fp, fun g hg => hFG _ (h.ft g hg), fun g hg => hFG _ (h.ff g hg), hG⟩
theorem ArI.lt (h : ArI F w p a) : ∀ k, F k → k < w.heap.size := by obtain ⟨_, _, _, _, h⟩ := h; exact h.lt
theorem ArI.ext (h : ArI F w p a) (hE : Ext w w') : ArI F w' p a := h.keep (fun k hk => hE.heap k (h.lt k hk)) hE.size
theorem ArI.grown (h : ArI F w p a) (hE : Ext w w') : ArI (Grow F w w') w' p a := (h.ext hE).wider (fun k hk => .inl hk) fun k hk => hk.elim (fun h1 => Nat.lt_of_lt_of_le (h.lt k h1) hE.size) fun h1 => h1.2
theorem ArI.fp (h : ArI F w p a) : F p := by obtain ⟨_, _, _, _, h⟩ := h; exact h.fp
theorem ArI.tag (h : ArI F w p a) : ∃ c, w.heap[p]? = some (.cells c 171 (0, 0)) := by obtain ⟨_, _, _, _, h⟩ := h; exact ⟨_, h.at_⟩
end
theorem arHas_calls {F : Nat → Prop} {w : World} {p : Nat} {a : Ar} (h : ArI F w p a) (n : Int) : Quiet Try.prog 92 #[.pointer (some ⟨p, 0, none⟩), .int .i64 n] w (.bool (a.has n)) := by
  intro u hu
  have h := h.ext hu
  clear hu
  obtain ⟨ta, tc, fa, fc, hp, hT, hF, fp, ft, ff, hlt⟩ := h
  by_cases hn : 0 ≤ n ∧ n < a.T.length
  · obtain ⟨b, hb⟩ : ∃ b, a.T[n.toNat]? = some b := ⟨a.T[n.toNat]'(by omega), List.getElem?_eq_getElem (by omega)⟩
    obtain ⟨g, cur, rfl, hg, hc, _, hat⟩ := hT.at (i := n.toNat) (v := .bool b) (by rw [List.getElem?_map, hb]; rfl)
    have hr : a.has n = b := by unfold Ar.has; rw [List.getD, hb]; simp [hn.1]
    rw [hr]
    rw [List.length_map] at hc
    have hn0 := hn.1
    have hn1 := hn.2
    clear hb hr hn
    refine en2 Try.func92 Try.results92 mixed [] ?_
    intro e0 h0 h1
    refine w_ fun d => ?_
    exact ⟨rfl, ext_⟩
  · have hr : a.has n = false := by
      cases hh : a.has n
      · rfl
      · exact absurd (Ar.has_lt hh) hn
    rw [hr]
    clear hr
    by_cases hn0 : 0 ≤ n
    · have hn1 : ¬ n < a.T.length := by omega
      clear hn
      refine en2 Try.func92 Try.results92 mixed [] ?_
      intro e0 h0 h1
      refine w_ fun d => ?_
      exact ⟨rfl, ext_⟩
    · clear hn
      refine en2 Try.func92 Try.results92 mixed [] ?_
      intro e0 h0 h1
      refine w_ fun d => ?_
      exact ⟨rfl, ext_⟩
theorem arMany_calls {F : Nat → Prop} {w : World} {p : Nat} {a : Ar} (h : ArI F w p a) (ho : a.OK) : Quiet Try.prog 107 #[.pointer (some ⟨p, 0, none⟩)] w (.int .i64 a.many) := by
  intro u hu
  have h := h.ext hu
  clear hu
  obtain ⟨ta, tc, fa, fc, hp, hT, hF, fp, ft, ff, hlt⟩ := h
  have h1 := ho.lim
  have h2 := ho.most
  have h3 := ho.frlen
  have hm : (a.T.length : Int) - a.Fr.length = a.many := rfl
  have hm2 := ho.many_le
  clear ho
  refine en1 Try.func107 Try.results107 mixed [] ?_
  intro e0 h0
  refine w_ fun d => ?_
  exact ⟨rfl, ext_⟩
/-- An error. -/
def errV (c : Int) : Value := if c = 0 then .nilIface else .iface 127 (.int .i64 c)
theorem errV0 : errV 0 = .nilIface := rfl
theorem errV1 : errV 1 = .iface 127 (.int .i64 1) := rfl
theorem errV2 : errV 2 = .iface 127 (.int .i64 2) := rfl
theorem arNew_calls (most : Int) (h0' : 0 ≤ most) (h1' : most ≤ 20000) (w : World) :
    CallsR Try.prog 84 #[.int .i64 most] w fun r w' => r = .pointer (some ⟨w.heap.size, 0, none⟩) ∧ ArI (fun k => k = w.heap.size) w' w.heap.size ⟨most, [], []⟩ ∧ w'.heap.size = w.heap.size + 1 ∧ Ext w w' := by
  refine en1 Try.func84 Try.results84 mixed [] ?_
  intro e0 h0
  refine w_ fun d => ?_
  refine ⟨rfl, ⟨none, 0, none, 0, hA rfl, SlC.nil _ _, SlC.nil _ _, rfl, (fun g h => by cases h), (fun g h => by cases h), fun k hk => ?_⟩, by rw [alloc_size], ext_⟩
  rw [hk, alloc_size]; omega
theorem arNew_none (most : Int) (h : ¬ (0 ≤ most ∧ most ≤ 20000)) : Sure Try.prog 84 #[.int .i64 most] (.pointer none) := by
  intro w
  by_cases hm : 0 ≤ most
  · have hm2 : ¬ most ≤ 20000 := fun h' => h ⟨hm, h'⟩
    clear h
    refine en1 Try.func84 Try.results84 mixed [] ?_
    intro e0 h0
    refine w_ fun d => ?_
    exact ⟨rfl, ext_⟩
  · clear h
    refine en1 Try.func84 Try.results84 mixed [] ?_
    intro e0 h0
    refine w_ fun d => ?_
    exact ⟨rfl, ext_⟩
theorem arTake_calls {F : Nat → Prop} {w : World} {p : Nat} {a : Ar} (h : ArI F w p a) (ho : a.OK) :
    CallsR Try.prog 131 #[.pointer (some ⟨p, 0, none⟩)] w fun r w' => ∃ b, ((∃ n, a.take = some (n, b) ∧ r = .tuple #[.int .i64 n, .nilIface]) ∨ (a.take = none ∧ b = a ∧ r = .tuple #[.int .i64 0, .iface 127 (.int .i64 2)])) ∧ ArI (Grow F w w') w' p b ∧ Chg F w w' := by
  obtain ⟨ta, tc, fa, fc, hp, hT, hF, fp, ft, ff, hlt⟩ := h
  have hlim := ho.lim
  have hmost := ho.most
  have hpl := lt_of_heap hp
  have hfl := ho.frlen
  have hk := ho.takes
  clear ho
  generalize a.take = o at hk
  cases hk with
  | back R n hFr h0' h1' hf =>
    have e1 : a.Fr.length = R.length + 1 := by rw [hFr]; simp
    have hRl : R.length ≤ 1099511627776 := by omega
    rw [hFr] at hF
    obtain ⟨g, cur, rfl, hg, hc, _, hat⟩ := hF.at (i := R.length) (v := .int .i64 n) (by simp)
    have hgp : g ≠ p := hF.ne rfl hp (by decide)
    obtain ⟨b, hb⟩ : ∃ b, a.T[n.toNat]? = some b := ⟨a.T[n.toNat]'(by omega), List.getElem?_eq_getElem (by omega)⟩
    obtain ⟨gt, curt, rfl, hgt, hct, _, hatt⟩ := hT.at (i := n.toNat) (v := .bool b) (by rw [List.getElem?_map, hb]; rfl)
    have hgtp : gt ≠ p := hT.ne rfl hp (by decide)
    have hgg : gt ≠ g := hT.ne rfl hg (by decide)
    have e2 : (R.length : Int) + 1 - 1 = R.length := by omega
    have hszt : n.toNat < curt.size := (Array.getElem?_eq_some_iff.1 hatt).1
    rw [e1] at hp
    rw [List.length_map, List.length_append, List.length_singleton] at hc
    rw [List.length_map] at hct
    clear hFr hb e1
    have hpg := hgp.symm
    have hpgt := hgtp.symm
    refine en1 Try.func131 Try.results131 mixed [] ?_
    intro e0 h0
    refine w_ fun d => ?_
    have hT1 : SlC (upd w p (.cells #[.int .i64 a.most, .slice (some ⟨gt, 0, none⟩) a.T.length tc, .slice (some ⟨g, 0, none⟩) R.length fc] 171)) 4 (some ⟨gt, 0, none⟩) tc (a.T.map .bool) := hT.upd fun x hx => by have := blk_g hx; omega
    have hF1 := (hF.take (k := R.length) (by simp)).upd (b := p) (o := .cells #[.int .i64 a.most, .slice (some ⟨gt, 0, none⟩) a.T.length tc, .slice (some ⟨g, 0, none⟩) R.length fc] 171) fun x hx => by have := blk_g hx; omega
    rw [List.map_append, List.take_left' (by simp)] at hF1
    have hT2 := hT1.set (hA rfl) (i := n.toNat) (by rw [List.length_map]; omega) (.bool true)
    rw [← List.map_set] at hT2
    have hF2 := hF1.upd (b := gt) (o := .cells (curt.setIfInBounds n.toNat (.bool true)) 4) fun x hx => by have := blk_g hx; omega
    refine ⟨_, .inl ⟨n, rfl, rfl⟩, ?_, ?_⟩
    · rw [Grow.size (w2 := w) (by simp only [upd_size]), Grow.eq_self]
      refine ⟨_, tc, _, fc, ?_, hT2, hF2, fp, ft, ff, fun k hk => by simp only [upd_size]; exact hlt k hk⟩
      have : (a.takeB n R).T.length = a.T.length := by simp [Ar.takeB]
      rw [this]; exact hA rfl
    · have := fp; have := ft gt rfl
      exact chg_
  | full hFr hm =>
    have e1 : a.Fr.length = 0 := by rw [hFr]; rfl
    rw [e1] at hp
    have hm2 : ((a.T.length : Int) == a.most) = true := by simpa using hm
    refine en1 Try.func131 Try.results131 mixed [] ?_
    intro e0 h0
    refine w_ fun d => ?_
    refine ⟨a, .inr (by simp), ?_, chg_⟩
    rw [Grow.size (w2 := w) (by simp only [dr_heap]), Grow.eq_self]
    exact ArI.ext ⟨ta, tc, fa, fc, by rw [e1]; exact hp, hT, hF, fp, ft, ff, hlt⟩ ext_
  | new hFr hm =>
    have e1 : a.Fr.length = 0 := by rw [hFr]; rfl
    rw [e1] at hp
    rw [hFr] at hF
    have hne : ((a.T.length : Int) == a.most) = false := by simpa using (by omega : (a.T.length : Int) ≠ a.most)
    refine en1 Try.func131 Try.results131 mixed [] ?_
    intro e0 h0
    refine w_ fun d => ?_
    have hE0 : Ext w (dr w d) := ext_
    have hp0 := hp
    rw [← hE0.heap p hpl] at hp0
    have hT0 := hT.ext hE0
    have hF0 := hF.ext hE0
    obtain ⟨a', c', w1, hr, hT1, hC1, hs1, hB1⟩ := hT0.push (P := Try.prog) (news := [.bool true]) T44 T4 rfl rfl (by rw [List.length_map]; simp; omega) (by decide) (k := 1) rfl rfl
    have hl1 : (a.T.map Value.bool ++ [Value.bool true]).length = a.T.length + 1 := by simp
    rw [List.length_map, hl1] at hr
    have hta : ∀ g, blk ta = some g → g ≠ p := fun g hg => hT0.ne hg hp0 (by decide)
    have hp1 : w1.heap[p]? = some (.cells #[.int .i64 a.most, .slice ta a.T.length tc, .slice fa 0 fc] 171) := by rw [hC1.heap _ hpl fun h => hta p h rfl]; exact hp
    have hF1 := hF0.chg hC1 fun g hg hb => by
      obtain ⟨c2, h2⟩ := hT0.tag hb
      exact hF0.ne hg h2 (by decide) rfl
    have hpl1 := lt_of_heap hp1
    have hCw := (hE0.chg F).trans hC1 fun b _ hb => ft b hb
    simp only [alloc_dr, dr_heap] at hr hs1 hB1
    have e3 : (a.T.length : Int) + 1 - 1 = a.T.length := by omega
    clear hp0 hT0 hF0 hC1 hE0
    refine w_ fun d => ?_
    have ha' : ∀ g, blk a' = some g → g ≠ p := fun g hg => hT1.ne hg hp1 (by decide)
    have hfa : ∀ g, blk fa = some g → g ≠ p := fun g hg => hF1.ne hg hp1 (by decide)
    refine ⟨_, .inl ⟨_, rfl, rfl⟩, ?_, chg_⟩
    refine ⟨a', c', fa, fc, ?_, ?_, ?_, .inl fp, fun g hg => ?_, fun g hg => .inl (ff g hg), fun k hk => ?_⟩
    · have : a.takeN.T.length = a.T.length + 1 := by simp [Ar.takeN]
      rw [this]; exact hA rfl
    · have := hT1.upd (b := p) (o := .cells #[.int .i64 a.most, .slice a' (a.T.length + 1) c', .slice fa 0 fc] 171) ha'
      rw [show a.takeN.T.map Value.bool = a.T.map Value.bool ++ [Value.bool true] by simp [Ar.takeN]]
      exact this
    · exact hF1.upd hfa
    · rcases hB1 g hg with h | ⟨h, h'⟩
      · exact .inl (ft g h)
      · exact .inr ⟨h, by simp only [upd_size]; exact h'⟩
    · rcases hk with hk | hk
      · have := hlt k hk; simp only [upd_size]; omega
      · exact hk.2
theorem arGive_calls {F : Nat → Prop} {w : World} {p : Nat} {a : Ar} (h : ArI F w p a) (ho : a.OK) (n : Int) :
    CallsR Try.prog 132 #[.pointer (some ⟨p, 0, none⟩), .int .i64 n] w fun r w' => (if a.has n then r = .nilIface ∧ ArI (Grow F w w') w' p (a.give n) else r = .iface 127 (.int .i64 1) ∧ ArI (Grow F w w') w' p a) ∧ Chg F w w' := by
  have c1 := arHas_calls h n
  cases hh : a.has n
  · rw [hh] at c1
    simp only [Bool.false_eq_true, ↓reduceIte]
    refine en2 Try.func132 Try.results132 mixed [] ?_
    intro e0 h0 h1
    refine w_ fun d => ?_
    refine callQ c1.call fun w1 hE1 hs1 => ?_
    refine w_ fun d => ?_
    exact ⟨⟨rfl, h.grown hE1⟩, chg_⟩
  · rw [hh] at c1
    simp only [↓reduceIte]
    obtain ⟨hn0, hn1⟩ := Ar.has_lt hh
    obtain ⟨hn2, hb⟩ := Ar.has_iff.1 hh
    have hfl := ho.frlen
    have hlim := ho.lim
    have hmost := ho.most
    clear hh hn2 ho
    refine en2 Try.func132 Try.results132 mixed [] ?_
    intro e0 h0 h1
    refine w_ fun d => ?_
    refine callQ c1.call fun w1 hE1 hs1 => ?_
    have h' := h.ext hE1
    have hlt0 := h.lt
    clear c1 h
    obtain ⟨ta, tc, fa, fc, hp, hT, hF, fp, ft, ff, hlt⟩ := h'
    have hCE := hE1.chg F
    have hpl := lt_of_heap hp
    obtain ⟨gt, curt, rfl, hgt, hct, _, hatt⟩ := hT.at (i := n.toNat) (v := .bool true) (by rw [List.getElem?_map, hb]; rfl)
    rw [List.length_map] at hct
    have hgtp : gt ≠ p := hT.ne rfl hp (by decide)
    have hpgt := hgtp.symm
    have hszt : n.toNat < curt.size := (Array.getElem?_eq_some_iff.1 hatt).1
    have hfp : ∀ g, blk fa = some g → g ≠ p := fun g hg => hF.ne hg hp (by decide)
    have hfg : ∀ g, blk fa = some g → g ≠ gt := fun g hg => hF.ne hg hgt (by decide)
    have hgl := lt_of_heap hgt
    have hF1 := hF.upd (b := gt) (o := .cells (curt.setIfInBounds n.toNat (.bool false)) 4) hfg
    have hT1 := hT.set hgt (i := n.toNat) (by rw [List.length_map]; omega) (.bool false)
    rw [← List.map_set] at hT1
    obtain ⟨a', c', w2, hr, hF2, hC2, hs2, hB2⟩ := hF1.push (P := Try.prog) (news := [.int .i64 n]) T34 T3 rfl rfl (by rw [List.length_map]; simp; omega) (by decide) (k := 1) rfl rfl
    have hl1 : (a.Fr.map (Value.int .i64) ++ [Value.int .i64 n]).length = a.Fr.length + 1 := by simp
    rw [List.length_map, hl1] at hr
    simp only [upd_size] at hr hs2 hB2
    have hp2 : w2.heap[p]? = some (.cells #[.int .i64 a.most, .slice (some ⟨gt, 0, none⟩) a.T.length tc, .slice fa a.Fr.length fc] 171) := by
      rw [hC2.heap _ (by simp only [upd_size]; exact hpl) fun h => hfp p h rfl, upd_other hgtp]; exact hp
    have hT2 := hT1.chg hC2 fun g hg hb => by
      have := blk_g hg
      exact hfg g hb this.symm
    have hpl2 := lt_of_heap hp2
    have hCw := (hCE.upd (b := gt) (fun _ => ft gt rfl) (.cells (curt.setIfInBounds n.toNat (.bool false)) 4)).trans hC2 fun b _ hb => ff b hb
    clear hC2
    refine w_ fun d => ?_
    have ha' : ∀ g, blk a' = some g → g ≠ p := fun g hg => hF2.ne hg hp2 (by decide)
    refine ⟨⟨rfl, _, tc, a', c', ?_, ?_, ?_, .inl fp, fun g hg => .inl (ft g hg), fun g hg => ?_, fun k hk => ?_⟩, chg_⟩
    · rw [show (a.give n).T.length = a.T.length by simp [Ar.give], show (a.give n).Fr.length = a.Fr.length + 1 by simp [Ar.give]]
      exact hA rfl
    · exact hT2.upd fun g hg => by have := blk_g hg; omega
    · rw [show (a.give n).Fr.map (Value.int .i64) = a.Fr.map (Value.int .i64) ++ [Value.int .i64 n] by simp [Ar.give]]
      exact hF2.upd ha'
    · rcases hB2 g hg with h | ⟨h, h'⟩
      · exact .inl (ff g h)
      · exact .inr ⟨by omega, by simp only [upd_size]; exact h'⟩
    · rcases hk with hk | hk
      · have := hlt k hk; simp only [upd_size]; omega
      · exact hk.2
end Go.Proofs.Ytpeindhocndmnaa

/- Layer 5 as what others see of it: pairs, and what stands for each. -/
namespace Go.Proofs.Ytpeindhocndmnaa
open Go Go.Bx
set_option linter.unusedSimpArgs false
set_option linter.unusedVariables false
set_option maxRecDepth 100000
set_option maxHeartbeats 4000000
attribute [local irreducible] X XO XE XF XD XW thenX inX retX kN CallsR
theorem mem_fn {T : Tb} (I : TbInv homeN T) {k : Ky} {v v' : Int} (h : MemT T k v) (h' : MemT T k v') : v = v' := by
  obtain ⟨p, hp⟩ := h
  obtain ⟨p', hp'⟩ := h'
  obtain rfl := I.nodup _ _ _ _ _ hp hp'
  rw [hp] at hp'; cases hp'; rfl
def UqM (F : Nat → Prop) (w : World) (p : Nat) (M : Ky → Option Int) (c : Int) : Prop :=
  ∃ g T, UqI w p g c T ∧ TabI T c ∧ (∀ k v, M k = some v ↔ MemT T k v) ∧ T.length ≤ 80000 ∧ F p ∧ F g ∧ ∀ k, F k → k < w.heap.size
section
variable {F : Nat → Prop} {w w' : World} {p : Nat} {M : Ky → Option Int} {c : Int}
theorem UqM.keep (h : UqM F w p M c) (hk : ∀ k, F k → w'.heap[k]? = w.heap[k]?) (hs : w.heap.size ≤ w'.heap.size) : UqM F w' p M c := by
  obtain ⟨g, T, h1, h2, h3, h4, h5, h6, h7⟩ := h
  exact ⟨g, T, ⟨by rw [hk p h5]; exact h1.at_, by rw [hk g h6]; exact h1.sl, h1.pw, h1.pos, h1.lim⟩, h2, h3, h4, h5, h6, fun k hk' => Nat.lt_of_lt_of_le (h7 k hk') hs⟩
theorem UqM.wider {G : Nat → Prop} (h : UqM F w p M c) (hFG : ∀ k, F k → G k) (hG : ∀ k, G k → k < w.heap.size) : UqM G w p M c := by
  obtain ⟨g, T, h1, h2, h3, h4, h5, h6, h7⟩ := h
  exact ⟨g, T, h1, h2, h3, h4, hFG _ h5, hFG _ h6, hG⟩
theorem UqM.lt (h : UqM F w p M c) : ∀ k, F k → k < w.heap.size := by obtain ⟨g, T, h1, h2, h3, h4, h5, h6, h7⟩ := h; exact h7
theorem UqM.fp (h : UqM F w p M c) : F p := by obtain ⟨g, T, h1, h2, h3, h4, h5, h6, h7⟩ := h; exact h5
theorem UqM.ext (h : UqM F w p M c) (hE : Ext w w') : UqM F w' p M c := h.keep (fun k hk => hE.heap k (h.lt k hk)) hE.size
theorem UqM.of {M' : Ky → Option Int} {c' : Int} (h : UqM F w p M c) (hM : ∀ k v, M k = some v ↔ M' k = some v) (hc : c = c') : UqM F w p M' c' := by
  obtain ⟨g, T, h1, h2, h3, h4, h5, h6, h7⟩ := h
  subst hc
  exact ⟨g, T, h1, h2, fun k v => (hM k v).symm.trans (h3 k v), h4, h5, h6, h7⟩
end
theorem uqNew_calls (w : World) : CallsR Try.prog 85 #[] w fun r w' => ∃ p, r = .pointer (some ⟨p, 0, none⟩) ∧ UqM (fun k => w.heap.size ≤ k ∧ k < w'.heap.size) w' p (fun _ => none) 0 ∧ Ext w w' := by
  refine (unew_calls w).mono ?_
  rintro r w' ⟨g, p, rfl, h, hg, hp, hE⟩
  refine ⟨p, rfl, ⟨g, _, h, ⟨inv_rep (by decide), cnt_rep 8, by simp, by decide⟩, fun k v => ?_, by simp, ⟨hp, lt_of_heap h.at_⟩, ⟨hg, lt_of_heap h.sl⟩, fun k hk => hk.2⟩, hE⟩
  constructor
  · intro h; cases h
  · rintro ⟨q, hq⟩
    unfold occ at hq; rw [List.getElem?_replicate] at hq; split at hq <;> cases hq
section
variable {F : Nat → Prop} {w w' : World} {p : Nat} {M : Ky → Option Int} {c : Int}
theorem uqGet_calls (h : UqM F w p M c) (lo hi : Int) : Quiet Try.prog 130 #[.pointer (some ⟨p, 0, none⟩), .int .i64 lo, .int .i64 hi] w (.tuple #[.int .i64 ((M (lo, hi)).getD 0), .bool (M (lo, hi)).isSome]) := by
  intro u hu
  obtain ⟨g, T, h1, h2, h3, h4, h5, h6, h7⟩ := h.ext hu
  obtain ⟨i, hil, hf⟩ := h2.find (lo, hi)
  refine (uget_calls h1 hil hf).mono ?_
  rintro r w' ⟨rfl, hE⟩
  refine ⟨?_, hE⟩
  rcases finds_mem' h2.inv hf with ⟨a, b⟩ | ⟨v, a⟩
  · rw [a]
    cases hm : M (lo, hi) with
    | none => rfl
    | some v => exact absurd ((h3 _ _).1 hm) (b v)
  · rw [a, (h3 _ _).2 ⟨i, a⟩]; rfl
theorem uqPut_calls (h : UqM F w p M c) (hc : c ≤ 19999) {lo hi : Int} (n : Int) (hm : M (lo, hi) = none) :
    CallsR Try.prog 138 #[.pointer (some ⟨p, 0, none⟩), .int .i64 lo, .int .i64 hi, .int .i64 n] w fun r w' => r = .bool true ∧ UqM (Grow F w w') w' p (fun k => if k = (lo, hi) then some n else M k) (c + 1) ∧ Chg F w w' := by
  obtain ⟨g, T, h1, h2, h3, h4, h5, h6, h7⟩ := h
  refine (uput_calls h1 h2 (by omega) lo hi n).mono ?_
  rintro r w' ⟨g', m', T', k1, k2, k3, k4, k5⟩
  have hC : Chg F w w' := k3.mono fun k _ hk => by rcases hk with rfl | rfl; exact h5; exact h6
  rcases k5 with ⟨_, _, _, v, hv⟩ | ⟨rfl, rfl, hno, hM, hl⟩
  · rw [(h3 _ _).2 hv] at hm; cases hm
  · refine ⟨rfl, ⟨g', T', k1, k2, fun k v => ?_, by rw [hl]; split <;> omega, .inl h5, ?_, fun k hk => ?_⟩, hC⟩
    · rw [hM]
      show (if k = (lo, hi) then some n else M k) = some v ↔ _
      by_cases e : k = (lo, hi)
      · subst e
        rw [if_pos rfl]
        constructor
        · intro h; cases h; exact .inr ⟨rfl, rfl⟩
        · rintro (h | ⟨_, rfl⟩)
          · exact absurd h (hno v)
          · rfl
      · rw [if_neg e, h3]
        constructor
        · exact .inl
        · rintro (h | ⟨h, _⟩)
          · exact h
          · exact absurd h e
    · rcases k4 with rfl | k4
      · exact .inl h6
      · exact .inr ⟨k4, lt_of_heap k1.sl⟩
    · rcases hk with hk | hk
      · exact Nat.lt_of_lt_of_le (h7 k hk) k3.size
      · exact hk.2
theorem uqDrop_calls (h : UqM F w p M c) {lo hi n : Int} (hm : M (lo, hi) = some n) :
    CallsR Try.prog 136 #[.pointer (some ⟨p, 0, none⟩), .int .i64 lo, .int .i64 hi] w fun r w' => r = .bool true ∧ UqM (Grow F w w') w' p (fun k => if k = (lo, hi) then none else M k) (c - 1) ∧ Chg F w w' := by
  obtain ⟨g, T, h1, h2, h3, h4, h5, h6, h7⟩ := h
  refine (udrop_calls h1 h2 lo hi).mono ?_
  rintro r w' ⟨m', T', k1, k2, k3, k4, k5⟩
  have hC : Chg F w w' := k4.mono fun k _ hk => by rcases hk with rfl | rfl; exact h5; exact h6
  rcases k5 with ⟨_, _, _, hno⟩ | ⟨rfl, rfl, _, hM⟩
  · exact absurd ((h3 _ _).1 hm) (hno n)
  · refine ⟨rfl, ⟨g, T', k1, k2, fun k v => ?_, by omega, .inl h5, .inl h6, fun k hk => ?_⟩, hC⟩
    · rw [hM]
      show (if k = (lo, hi) then none else M k) = some v ↔ _
      by_cases e : k = (lo, hi)
      · rw [if_pos e]
        constructor
        · intro h; cases h
        · rintro ⟨_, h⟩; exact absurd e h
      · rw [if_neg e, h3]
        exact ⟨fun h => ⟨h, e⟩, fun h => h.1⟩
    · rcases hk with hk | hk
      · exact Nat.lt_of_lt_of_le (h7 k hk) k4.size
      · exact hk.2
end
end Go.Proofs.Ytpeindhocndmnaa

/- An order's cells. -/
namespace Go.Proofs.Ytpeindhocndmnaa
open Go Go.Bx
set_option linter.unusedSimpArgs false
set_option linter.unusedVariables false
set_option maxRecDepth 100000
set_option maxHeartbeats 4000000
attribute [local irreducible] X XO XE XF XD XW thenX inX retX kN CallsR
/-- An order's cells. -/
structure OrdC (ord : List Int) (cs : Array Value) : Prop where
  agg : aI ord = .agg cs
  size : cs.size = 8
  all : cs.extract 0 8 = cs
  at_ : ∀ (k : Nat) (x : Int), ord[k]? = some x → cs[k]? = some (Value.int IntKind.i64 x)
  vc : vcs (.agg cs) = ord.map (Value.int .i64)
  len8 : (vcs (.agg cs)).length = 8
  cell : (vcs (.agg cs)).all isCell = true
theorem ordC {ord : List Int} (h : ord.length = 8) : ∃ cs, OrdC ord cs := by
  refine ⟨_, rfl, by simpa using h, ?_, fun k x hx => ?_, rfl, by rw [vcs_aggL, List.length_map]; exact h, by rw [vcs_aggL, List.all_map]; exact List.all_eq_true.2 fun x _ => rfl⟩
  · apply Array.ext_getElem?
    intro j
    rw [Array.getElem?_extract]
    by_cases hj : j < 8
    · rw [if_pos (by simp [h]; omega)]; simp
    · rw [if_neg (by simp [h]; omega), Array.getElem?_eq_none (by simp [h]; omega)]
  · simp [hx]
theorem stN_agg {P : Program} {b : Nat} {w : World} {E : TypeId} {cs c : Array Value} (h : cs.size = c.size) : stN P b 0 (vcs (.agg cs)) w (some (.cells c E (0, 0))) = .ok () (upd w b (.cells cs E (0, 0))) := by
  have e : vcs (.agg cs) = cs.toList := rfl
  rw [e, stN_cells (by rw [Array.length_toList]; omega)]
  congr 3
  have := wrN_all cs.toList c.toList [] (by simp [h])
  simpa using this
attribute [push_cast] stN_agg
end Go.Proofs.Ytpeindhocndmnaa

/- Walks of layer 6, and of its reference. -/
namespace Go.Proofs.Ytpeindhocndmnaa
open Go Go.Bx
set_option linter.unusedSimpArgs false
set_option linter.unusedVariables false
set_option maxRecDepth 100000
set_option maxHeartbeats 4000000
attribute [local irreducible] X XO XE XF XD XW thenX inX retX kN CallsR
theorem level_calls (l : List Int) (ho : l.length = 8) (v : Int) : Sure Try.prog 122 #[aI l, .int .i64 v] (.int .i64 (lvl l v)) := by
  intro w
  obtain ⟨oc, hc⟩ := ordC ho
  have hsz := hc.size
  have hall := hc.all
  rw [hc.agg]
  refine en2 Try.func122 Try.results122 mixed [] ?_
  intro e0 h0 h1
  refine w_ fun d => ?_
  refine lo_ (fun W e w' => ∃ k : Nat, k ≤ 8 ∧ e 8 = .int .i64 k ∧ e 7 = .agg oc ∧ Box (∀ i, i < k → l[i]? ≠ some v) ∧ Ext W w') (fun e _ => 8 - nat (e 8)) ?_ ?_
  · exact ⟨0, by omega, eA rfl, eA rfl, ⟨fun i hi => by omega⟩, ext_⟩
  rintro e w1 hf ⟨k, hk, h8, h7, ⟨hi⟩, hE⟩
  have hs1 := sz_ hE
  by_cases hlt : k < 8
  · obtain ⟨x, hx⟩ : ∃ x, l[k]? = some x := ⟨l[k], List.getElem?_eq_getElem (by omega)⟩
    have hat := hc.at_ k x hx
    by_cases e : x = v
    · subst e
      have hl := lvl_first hx hi
      clear hx hi
      refine w_ fun d => ?_
      exact ⟨by rw [hl], ext_⟩
    · have hi' : Box (∀ i, i < k + 1 → l[i]? ≠ some v) := ⟨fun i h => by
        by_cases e2 : i = k
        · subst e2; rw [hx]; simpa using e
        · exact hi i (by omega)⟩
      clear hx hi
      have e' : (x == v) = false := by simpa using e
      refine w_ fun d => ?_
      exact ⟨⟨k + 1, by omega, eA rfl, eA rfl, hi', ext_⟩, mA⟩
  · obtain rfl : k = 8 := by omega
    have hl := lvl_none (l := l) (v := v) (by rw [ho]; exact hi)
    clear hi
    refine w_ fun d => ?_
    exact ⟨by rw [hl], ext_⟩
theorem OrdC.ofList {cs : Array Value} {l : List Int} (h : cs = (l.map (Value.int .i64)).toArray) : Value.agg cs = aI l := by rw [h]; rfl
theorem swap_calls (l : List Int) (ho : l.length = 8) (i : Int) : Sure Try.prog 96 #[aI l, .int .i64 i] (aI (swp l i)) := by
  intro w
  obtain ⟨oc, hc⟩ := ordC ho
  have hsz := hc.size
  have hall := hc.all
  by_cases hi : 0 ≤ i ∧ i < 7
  · obtain ⟨n, rfl⟩ := Int.eq_ofNat_of_zero_le hi.1
    have hn : n < 7 := by omega
    obtain ⟨x, hx⟩ : ∃ x, l[n]? = some x := ⟨l[n], List.getElem?_eq_getElem (by omega)⟩
    obtain ⟨y, hy⟩ : ∃ y, l[n + 1]? = some y := ⟨l[n + 1], List.getElem?_eq_getElem (by omega)⟩
    have hn1 : ((n : Int) + 1).toNat = n + 1 := by omega
    have hss : (oc.setIfInBounds n (.int .i64 y)).size = 8 := by rw [Array.size_setIfInBounds]; exact hsz
    have hx' := hc.at_ n x hx
    have hy' := hc.at_ (n + 1) y hy
    have hres : Value.agg ((oc.setIfInBounds n (.int .i64 y)).setIfInBounds (n + 1) (.int .i64 x)) = aI (swp l n) := by
      have : oc = (l.map (Value.int .i64)).toArray := by have := hc.agg; unfold aI at this; cases this; rfl
      rw [this, List.setIfInBounds_toArray, List.setIfInBounds_toArray]
      unfold swp
      rw [if_pos hi, aI, List.map_set, List.map_set]
      simp [List.getD, hx, hy]
    obtain ⟨oc2, hc2⟩ := ordC (ord := swp l n) (by rw [swp_length]; exact ho)
    have hsz2 := hc2.size
    have hall2 := hc2.all
    have hl2 := hc2.len8
    have hcl2 := hc2.cell
    rw [hc2.agg] at hres ⊢
    have hr : (oc.setIfInBounds n (.int .i64 y)).setIfInBounds (n + 1) (.int .i64 x) = oc2 := by cases hres; rfl
    clear hres
    rw [hc.agg]
    clear hx hy
    refine en2 Try.func96 Try.results96 mixed [] ?_
    intro e0 h0 h1
    refine w_ fun d => ?_
    exact ⟨rfl, ext_⟩
  · have hs : swp l i = l := if_neg hi
    have hl2 := hc.len8
    have hcl2 := hc.cell
    rw [hs, hc.agg]
    by_cases h0' : 0 ≤ i
    · refine en2 Try.func96 Try.results96 mixed [] ?_
      intro e0 h0 h1
      refine w_ fun d => ?_
      exact ⟨rfl, ext_⟩
    · refine en2 Try.func96 Try.results96 mixed [] ?_
      intro e0 h0 h1
      refine w_ fun d => ?_
      exact ⟨rfl, ext_⟩
/-- The first place at which v stands, from the k-th on. -/
def FF (l : List Int) (v : Int) (k : Nat) (m : Int) : Prop := (m = -1 ∧ ∀ j, k ≤ j → l[j]? ≠ some v) ∨ ∃ n : Nat, m = n ∧ k ≤ n ∧ l[n]? = some v ∧ ∀ j, k ≤ j → j < n → l[j]? ≠ some v
theorem FF_zero {l : List Int} {v m : Int} (h : FF l v 0 m) : m = lvl l v := by
  rcases h with ⟨rfl, h⟩ | ⟨n, rfl, _, h1, h2⟩
  · exact (lvl_none fun i _ => h i (by omega)).symm
  · exact (lvl_first h1 fun i hi => h2 i (by omega) hi).symm
theorem FF.hit {l : List Int} {v : Int} {k : Nat} (h : l[k]? = some v) : FF l v k k := .inr ⟨k, rfl, Nat.le_refl _, h, fun j h1 h2 => by omega⟩
theorem FF.miss {l : List Int} {v m : Int} {k : Nat} (h : FF l v (k + 1) m) (hk : l[k]? ≠ some v) : FF l v k m := by
  have key : ∀ j, k ≤ j → j = k ∨ k + 1 ≤ j := fun j h => by omega
  rcases h with ⟨rfl, h⟩ | ⟨n, rfl, h0, h1, h2⟩
  · refine .inl ⟨rfl, fun j hj => ?_⟩
    rcases key j hj with rfl | h'
    · exact hk
    · exact h j h'
  · refine .inr ⟨n, rfl, by omega, h1, fun j hj hn => ?_⟩
    rcases key j hj with rfl | h'
    · exact hk
    · exact h2 j h' hn
theorem refLevel_calls (l : List Int) (ho : l.length = 8) (v : Int) : Sure Try.prog 25 #[aI l, .int .i64 v] (.int .i64 (lvl l v)) := by
  intro w
  obtain ⟨oc, hc⟩ := ordC ho
  have hsz := hc.size
  have hall := hc.all
  rw [hc.agg]
  refine en2 Try.func25 Try.results25 mixed [] ?_
  intro e0 h0 h1
  refine w_ fun d => ?_
  refine lo_ (fun W e w' => ∃ (k : Nat) (m : Int), k ≤ 8 ∧ e 6 = .int .i64 ((k : Int) - 1) ∧ e 5 = .int .i64 m ∧ w'.heap[w.heap.size]? = some (.cells oc 36) ∧ Box (FF l v k m) ∧ Ext w w') (fun e _ => upI (e 6)) ?_ ?_
  · exact ⟨8, -1, by omega, eA rfl, eA rfl, hA rfl, ⟨.inl ⟨rfl, fun j hj => by rw [List.getElem?_eq_none (by omega)]; simp⟩⟩, ext_⟩
  rintro e w1 hf ⟨k, m, hk, h6, h5, hb, ⟨hi⟩, hE⟩
  have hs1 := sz_ hE
  have hlb := lt_of_heap hb
  match k, hk with
  | 0, _ =>
    have hm := FF_zero hi
    clear hi
    refine w_ fun d => ?_
    exact ⟨rfl, ext_⟩
  | k + 1, hk =>
    obtain ⟨x, hx⟩ : ∃ x, l[k]? = some x := ⟨l[k], List.getElem?_eq_getElem (by omega)⟩
    have hat := hc.at_ k x hx
    have e1 : ((k + 1 : Nat) : Int) - 1 = k := by omega
    rw [e1] at h6
    by_cases e : x = v
    · subst e
      have hi' : Box (FF l x k k) := ⟨FF.hit hx⟩
      clear hx hi
      refine w_ fun d => ?_
      exact ⟨⟨k, k, by omega, eA rfl, eA rfl, hA rfl, hi', ext_⟩, mS⟩
    · have hi' : Box (FF l v k m) := ⟨hi.miss (by rw [hx]; simpa using e)⟩
      have e' : (x == v) = false := by simpa using e
      clear hx hi
      refine w_ fun d => ?_
      exact ⟨⟨k, m, by omega, eA rfl, eA rfl, hA rfl, hi', ext_⟩, mS⟩
theorem refSwap_calls (l : List Int) (ho : l.length = 8) (i : Int) : Sure Try.prog 109 #[aI l, .int .i64 i] (aI (swp l i)) := by
  intro w
  obtain ⟨oc, hc⟩ := ordC ho
  have hsz := hc.size
  have hall := hc.all
  have hl1 := hc.len8
  have hcl1 := hc.cell
  obtain ⟨oc2, hc2⟩ := ordC (ord := swp l i) (by rw [swp_length]; exact ho)
  have hsz2 := hc2.size
  have hall2 := hc2.all
  have hl2 := hc2.len8
  have hcl2 := hc2.cell
  have hst : ∀ n : Nat, n < 7 → i = n → ∃ x y : Int, oc[n]? = some (Value.int .i64 x) ∧ oc[n + 1]? = some (Value.int .i64 y) ∧ (oc.setIfInBounds n (.int .i64 y)).setIfInBounds (n + 1) (.int .i64 x) = oc2 := by
    intro n hn hi
    obtain ⟨x, hx⟩ : ∃ x, l[n]? = some x := ⟨l[n], List.getElem?_eq_getElem (by omega)⟩
    obtain ⟨y, hy⟩ : ∃ y, l[n + 1]? = some y := ⟨l[n + 1], List.getElem?_eq_getElem (by omega)⟩
    refine ⟨x, y, hc.at_ _ _ hx, hc.at_ _ _ hy, ?_⟩
    have h1 : oc = (l.map (Value.int .i64)).toArray := by have := hc.agg; unfold aI at this; cases this; rfl
    have h2 : oc2 = ((swp l i).map (Value.int .i64)).toArray := by have := hc2.agg; unfold aI at this; cases this; rfl
    rw [h1, h2, List.setIfInBounds_toArray, List.setIfInBounds_toArray, hi]
    unfold swp
    rw [if_pos (by omega), List.map_set, List.map_set]
    simp [List.getD, hx, hy]
  have hne : ¬ (0 ≤ i ∧ i < 7) → oc2 = oc := fun h => by
    have h1 := hc.agg
    have h2 := hc2.agg
    rw [show swp l i = l from if_neg h, h1] at h2
    cases h2; rfl
  rw [hc.agg, hc2.agg]
  clear hc hc2 ho
  refine en2 Try.func109 Try.results109 mixed [] ?_
  intro e0 h0 h1
  refine w_ fun d => ?_
  refine lo_ (fun W e w' => ∃ (k : Nat) (rc : Array Value), k ≤ 7 ∧ e 6 = .int .i64 k ∧ w'.heap[w.heap.size]? = some (.cells oc 36) ∧ w'.heap[w.heap.size + 1]? = some (.cells #[.int .i64 0, .int .i64 0, .int .i64 0, .int .i64 0, .int .i64 0, .int .i64 0, .int .i64 0, .int .i64 0] 36) ∧ w'.heap[w.heap.size + 1 + 1]? = some (.cells rc 36) ∧ Box (rc = if 0 ≤ i ∧ i < k then oc2 else oc) ∧ Ext w w') (fun e _ => 7 - nat (e 6)) ?_ ?_
  · exact ⟨0, oc, by omega, eA rfl, hA rfl, hA rfl, hA rfl, ⟨by rw [if_neg (by omega)]⟩, ext_⟩
  rintro e w1 hf ⟨k, rc, hk, h6, hb1, hb2, hb3, ⟨hi⟩, hE⟩
  have hs1 := sz_ hE
  have hlb := lt_of_heap hb3
  by_cases hlt : k < 7
  · by_cases e : i = k
    · obtain ⟨x, y, hx, hy, hr⟩ := hst k hlt e
      have hi' : Box (oc2 = if 0 ≤ i ∧ i < (k + 1 : Nat) then oc2 else oc) := ⟨by rw [if_pos (by omega)]⟩
      have hrc : rc = oc := by rw [hi, if_neg (by omega)]
      subst hrc
      have hn1 : ((k : Int) + 1).toNat = k + 1 := by omega
      have hss : (rc.setIfInBounds k (.int .i64 y)).size = 8 := by rw [Array.size_setIfInBounds]; exact hsz
      clear hi hne hst
      subst e
      refine w_ fun d => ?_
      exact ⟨⟨k + 1, oc2, by omega, eA rfl, hA rfl, hA rfl, hA rfl, hi', ext_⟩, mA⟩
    · have hi' : Box (rc = if 0 ≤ i ∧ i < (k + 1 : Nat) then oc2 else oc) := ⟨by
        by_cases h : 0 ≤ i ∧ i < k
        · rw [if_pos (by omega), hi, if_pos h]
        · rw [if_neg (by omega), hi, if_neg h]⟩
      have e' : ((k : Int) == i) = false := by simpa using fun h => e h.symm
      clear hi hne hst
      refine w_ fun d => ?_
      exact ⟨⟨k + 1, rc, by omega, eA rfl, hA rfl, hA rfl, hA rfl, hi', ext_⟩, mA⟩
  · obtain rfl : k = 7 := by omega
    have hr : rc = oc2 := by
      by_cases h : 0 ≤ i ∧ i < 7
      · rw [hi, if_pos (by omega)]
      · rw [hi, if_neg (by omega), hne h]
    subst hr
    clear hi hne hst
    refine w_ fun d => ?_
    exact ⟨rfl, ext_⟩
end Go.Proofs.Ytpeindhocndmnaa

/- Layer 7 by plain means: nodes, what they denote, and that no two alike denote the same. No program is in sight. -/
namespace Go.Bx
open Go
set_option linter.unusedSimpArgs false
set_option linter.unusedVariables false

/-! ### Functions -/
section
variable {f g h : Fun8} {u v : Int} {b : Bool}
theorem cof_nodep (h : depF f v = false) : cofF f v b = f := by
  have e := ite_cof (f := f) (v := v)
  have e2 : cofF f v false = cofF f v true := by rw [depF_def] at h; simpa using h
  rw [e2, iteF_same] at e
  cases b
  · rw [e2]; exact e
  · exact e
theorem nodep_of (h : cofF f v false = cofF f v true) : depF f v = false := by rw [depF_def]; simp [h]
theorem cof_iteF : cofF (iteF f g h) v b = iteF (cofF f v b) (cofF g v b) (cofF h v b) := by
  by_cases hv : 0 ≤ v ∧ v < 8
  · obtain ⟨n, rfl, hn⟩ := nat8 hv
    exact cof_ext fun x hx => by rw [cofF_bit hn hx, bt_ite (setB_lt hx hn), bt_ite hx, cofF_bit hn hx, cofF_bit hn hx, cofF_bit hn hx]
  · rw [cofF_out hv, cofF_out hv, cofF_out hv, cofF_out hv]
theorem cof_const {c : Bool} : cofF (constF c) v b = constF c := by
  by_cases hv : 0 ≤ v ∧ v < 8
  · obtain ⟨n, rfl, hn⟩ := nat8 hv
    exact cof_ext fun x hx => by rw [cofF_bit hn hx, bt_const (setB_lt hx hn), bt_const hx]
  · rw [cofF_out hv]
theorem dep_const {c : Bool} : depF (constF c) v = false := nodep_of (by rw [cof_const, cof_const])
theorem cof_var_same (hu : 0 ≤ u ∧ u < 8) : cofF (varF u) u b = constF b := by
  obtain ⟨n, rfl, hn⟩ := nat8 hu
  exact cof_ext fun x hx => by rw [cofF_bit hn hx, bt_var hn (setB_lt hx hn), bt_const hx, setB_bit_all n hn x hx]
theorem cof_var_other (h : v ≠ u) : cofF (varF u) v b = varF u := by
  by_cases hv : 0 ≤ v ∧ v < 8
  · by_cases hu : 0 ≤ u ∧ u < 8
    · obtain ⟨n, rfl, hn⟩ := nat8 hv
      obtain ⟨m, rfl, hm⟩ := nat8 hu
      exact cof_ext fun x hx => by rw [cofF_bit hn hx, bt_var hm (setB_lt hx hn), bt_var hm hx, setB_other_all n hn m hm (by omega) x hx]
    · rw [varF_out hu, cof_const]
  · rw [cofF_out hv]
theorem cof_node (hu : 0 ≤ u ∧ u < 8) (hg : depF g u = false) (hh : depF h u = false) : cofF (iteF (varF u) g h) u b = if b then g else h := by
  rw [cof_iteF, cof_var_same hu, cof_nodep hg, cof_nodep hh, ite_const]
theorem cof_other (h' : v ≠ u) : cofF (iteF (varF u) g h) v b = iteF (varF u) (cofF g v b) (cofF h v b) := by rw [cof_iteF, cof_var_other h']
theorem dep_node (h' : depF (iteF (varF u) g h) v = true) : v = u ∨ depF g v = true ∨ depF h v = true := by
  by_cases e : v = u
  · exact .inl e
  · right
    cases hg : depF g v
    · cases hh : depF h v
      · rw [nodep_of (by rw [cof_other e, cof_other e, cof_nodep hg, cof_nodep hh, cof_nodep hg, cof_nodep hh])] at h'; cases h'
      · exact .inr rfl
    · exact .inl rfl
theorem dep_of_cof2 (h : depF (cofF f u b) v = true) : depF f v = true := by
  cases hd : depF f v
  · exfalso
    by_cases e : v = u
    · subst e; rw [dep_cof] at h; cases h
    · rw [nodep_of (by rw [cof_comm (Ne.symm e), cof_comm (Ne.symm e), cof_nodep hd, cof_nodep hd])] at h; cases h
  · rfl
theorem const_ne : constF false ≠ constF true := fun h => by
  have := congrArg (fun f : Fun8 => f.getLsbD 0) h
  simp only [bt_const (show 0 < 256 by decide)] at this; cases this
end

/-! ### Nodes -/
abbrev Nd := Int × Int × Int
structure Md where
  a : Ar
  N : List Nd
  ord : List Int
def Md.has (s : Md) (n : Int) : Bool := decide (2 ≤ n) && s.a.has (n - 2)
def Md.nd (s : Md) (n : Int) : Nd := s.N.getD (n - 2).toNat (0, 0, 0)
def Md.below (s : Md) (n v : Int) : Bool := decide (n = 0) || (decide (n = 1) || (s.has n && decide (lvl s.ord v < lvl s.ord (s.nd n).1)))
def Md.of (s : Md) (n v : Int) : Bool := s.has n && decide ((s.nd n).1 = v)
def Md.find (s : Md) (but : List Int) (x : Nd) : Option Int :=
  ((List.range s.N.length).find? fun k => decide (s.N[k]? = some x) && (s.a.has (k : Nat) && !decide (((k : Nat) : Int) + 2 ∈ but))).map fun k : Nat => (k : Int) + 2
def Md.add (s : Md) (k : Int) (b : Ar) (x : Nd) : Md := ⟨b, if k = s.N.length then s.N ++ [x] else s.N.set k.toNat x, s.ord⟩
def Md.mk' (s : Md) (but : List Int) (v lo hi : Int) : (Int × Int) × Md :=
  if decide (v < 0) || (decide (7 < v) || (!s.below lo v || !s.below hi v)) then ((0, 1), s)
  else if lo = hi then ((lo, 0), s)
  else match s.find but (v, lo, hi) with
  | some n => ((n, 0), s)
  | none => match s.a.take with
    | none => ((0, 2), s)
    | some (k, b) => ((k + 2, 0), s.add k b (v, lo, hi))
def Md.lay (s : Md) (n : Int) (x : Nd) : Md := ⟨s.a, s.N.set (n - 2).toNat x, s.ord⟩

inductive Den (s : Md) : Int → Fun8 → Prop
  | c0 : Den s 0 (constF false)
  | c1 : Den s 1 (constF true)
  | node {n v lo hi : Int} {f0 f1 : Fun8} (h : s.has n = true) (hx : s.nd n = (v, lo, hi)) (h0 : Den s lo f0) (h1 : Den s hi f1) : Den s n (iteF (varF v) f1 f0)

structure Md.WF (s : Md) : Prop where
  ar : s.a.OK
  len : s.N.length = s.a.T.length
  ord : OrdOK s.ord
structure NodeOK (s : Md) (n : Int) : Prop where
  var : 0 ≤ (s.nd n).1 ∧ (s.nd n).1 < 8
  ne : (s.nd n).2.1 ≠ (s.nd n).2.2
  lo : s.below (s.nd n).2.1 (s.nd n).1 = true
  hi : s.below (s.nd n).2.2 (s.nd n).1 = true
structure Md.Good (s : Md) (but : List Int) : Prop where
  wf : s.WF
  sub : ∀ n ∈ but, s.has n = true
  node : ∀ n, s.has n = true → n ∉ but → NodeOK s n
  one : ∀ m n, s.has m = true → m ∉ but → s.has n = true → n ∉ but → s.nd m = s.nd n → m = n
structure Md.Le (s s' : Md) : Prop where
  ord : s'.ord = s.ord
  most : s'.a.most = s.a.most
  has : ∀ n, s.has n = true → s'.has n = true
  nd : ∀ n, s.has n = true → s'.nd n = s.nd n
section
variable {s s' : Md} {n m v lo hi : Int} {f g : Fun8} {but : List Int}
theorem Md.Le.refl (s : Md) : s.Le s := ⟨rfl, rfl, fun _ h => h, fun _ _ => rfl⟩
theorem Md.Le.trans {s2 : Md} (h : s.Le s') (k : s'.Le s2) : s.Le s2 := ⟨k.ord.trans h.ord, k.most.trans h.most, fun n hn => k.has n (h.has n hn), fun n hn => (k.nd n (h.has n hn)).trans (h.nd n hn)⟩
theorem Md.has_ge (h : s.has n = true) : 2 ≤ n := by unfold Md.has at h; rw [Bool.and_eq_true] at h; simpa using h.1
theorem Md.has_ar (h : s.has n = true) : s.a.has (n - 2) = true := by unfold Md.has at h; rw [Bool.and_eq_true] at h; exact h.2
theorem Md.has_of (h0 : 0 ≤ n) (h : s.a.has n = true) : s.has (n + 2) = true := by
  unfold Md.has; rw [Bool.and_eq_true]; exact ⟨by simp; omega, by rw [show n + 2 - 2 = n by omega]; exact h⟩
theorem Md.has_no (h : ¬ 2 ≤ n) : s.has n = false := by unfold Md.has; simp [h]
theorem Md.WF.lt (h : s.WF) (hn : s.has n = true) : 2 ≤ n ∧ n - 2 < s.N.length := by
  have := Ar.has_lt (Md.has_ar hn)
  have := Md.has_ge hn
  have := h.len
  omega
theorem Md.WF.get (h : s.WF) (hn : s.has n = true) : s.N[(n - 2).toNat]? = some (s.nd n) := by
  have := h.lt hn
  unfold Md.nd
  rw [List.getElem?_eq_getElem (by omega), List.getD, List.getElem?_eq_getElem (by omega)]; rfl
theorem Md.below_iff : s.below n v = true ↔ n = 0 ∨ n = 1 ∨ (s.has n = true ∧ lvl s.ord v < lvl s.ord (s.nd n).1) := by
  unfold Md.below; simp
theorem Den.keep (hh : ∀ n, s.has n = true → s'.has n = true) (hn : ∀ n, s.has n = true → s'.nd n = s.nd n) (h : Den s n f) : Den s' n f := by
  induction h with
  | c0 => exact .c0
  | c1 => exact .c1
  | node h hx _ _ ih0 ih1 => exact .node (hh _ h) ((hn _ h).trans hx) ih0 ih1
theorem Den.mono (hl : s.Le s') (h : Den s n f) : Den s' n f := h.keep hl.has hl.nd
theorem Den.cases' (h : Den s n f) : (n = 0 ∧ f = constF false) ∨ (n = 1 ∧ f = constF true) ∨ (s.has n = true ∧ ∃ f0 f1, Den s (s.nd n).2.1 f0 ∧ Den s (s.nd n).2.2 f1 ∧ f = iteF (varF (s.nd n).1) f1 f0) := by
  cases h with
  | c0 => exact .inl ⟨rfl, rfl⟩
  | c1 => exact .inr (.inl ⟨rfl, rfl⟩)
  | node h hx h0 h1 => exact .inr (.inr ⟨h, _, _, by rw [hx]; exact h0, by rw [hx]; exact h1, by rw [hx]⟩)
theorem Den.at (h : Den s n f) (hn : s.has n = true) : ∃ f0 f1, Den s (s.nd n).2.1 f0 ∧ Den s (s.nd n).2.2 f1 ∧ f = iteF (varF (s.nd n).1) f1 f0 := by
  have := Md.has_ge hn
  rcases h.cases' with ⟨e, _⟩ | ⟨e, _⟩ | h
  · omega
  · omega
  · exact h.2
theorem Den.fn (h : Den s n f) : ∀ {g}, Den s n g → f = g := by
  induction h with
  | c0 =>
    intro g h'
    rcases h'.cases' with ⟨_, e⟩ | ⟨e, _⟩ | ⟨e, _⟩
    · exact e.symm
    · omega
    · have := Md.has_ge e; omega
  | c1 =>
    intro g h'
    rcases h'.cases' with ⟨e, _⟩ | ⟨_, e⟩ | ⟨e, _⟩
    · omega
    · exact e.symm
    · have := Md.has_ge e; omega
  | node h hx _ _ ih0 ih1 =>
    intro g h'
    obtain ⟨g0, g1, k0, k1, rfl⟩ := h'.at h
    rw [hx] at k0 k1 ⊢
    rw [ih0 k0, ih1 k1]
theorem Den.there (h : Den s n f) : n = 0 ∨ n = 1 ∨ s.has n = true := by
  rcases h.cases' with ⟨e, _⟩ | ⟨e, _⟩ | ⟨e, _⟩
  · exact .inl e
  · exact .inr (.inl e)
  · exact .inr (.inr e)
theorem Den.zero (h : Den s 0 f) : f = constF false := Den.fn h .c0
theorem Den.one (h : Den s 1 f) : f = constF true := Den.fn h .c1

/-- What a node depends on is not ahead of its own. -/
theorem Md.Good.dep (G : s.Good []) (h : Den s n f) (hd : depF f v = true) : s.has n = true ∧ lvl s.ord (s.nd n).1 ≤ lvl s.ord v := by
  induction h with
  | c0 => rw [dep_const] at hd; cases hd
  | c1 => rw [dep_const] at hd; cases hd
  | @node n u lo hi f0 f1 h hx h0 h1 ih0 ih1 =>
    refine ⟨h, ?_⟩
    have ok := G.node n h (by simp)
    have hlo := ok.lo
    have hhi := ok.hi
    rw [hx] at hlo hhi ⊢
    have key : ∀ c, s.below c u = true → (s.has c = true ∧ lvl s.ord (s.nd c).1 ≤ lvl s.ord v) → lvl s.ord u ≤ lvl s.ord v := by
      intro c hb hc
      rcases Md.below_iff.1 hb with e | e | e
      · have := Md.has_ge hc.1; omega
      · have := Md.has_ge hc.1; omega
      · omega
    rcases dep_node hd with e | e | e
    · subst e; exact Int.le_refl _
    · exact key hi hhi (ih1 e)
    · exact key lo hlo (ih0 e)
theorem Md.Good.nodep (G : s.Good []) (h : Den s n f) (hb : s.below n v = true) : depF f v = false := by
  cases hd : depF f v
  · rfl
  · have := G.dep h hd
    rcases Md.below_iff.1 hb with e | e | e
    · have := Md.has_ge this.1; omega
    · have := Md.has_ge this.1; omega
    · omega
/-- A node's sides are the halves of what it denotes. -/
theorem Md.Good.sides (G : s.Good []) (h : Den s n f) (hn : s.has n = true) : Den s (s.nd n).2.1 (cofF f (s.nd n).1 false) ∧ Den s (s.nd n).2.2 (cofF f (s.nd n).1 true) := by
  obtain ⟨f0, f1, h0, h1, rfl⟩ := h.at hn
  have ok := G.node n hn (by simp)
  have d0 := G.nodep h0 ok.lo
  have d1 := G.nodep h1 ok.hi
  rw [cof_node ok.var d1 d0, cof_node ok.var d1 d0]
  exact ⟨h0, h1⟩
/-- How far a node is from the end. -/
def Md.rk (s : Md) (n : Int) : Nat := if s.has n then (8 - lvl s.ord (s.nd n).1).toNat else 0
theorem Md.Good.rk_lt (G : s.Good []) (hn : s.has n = true) {c : Int} (hb : s.below c (s.nd n).1 = true) : s.rk c < s.rk n := by
  have ok := G.node n hn (by simp)
  have hl := G.wf.ord.lt ok.var
  unfold Md.rk
  rw [if_pos hn]
  split
  · rename_i hc
    have ok2 := G.node c hc (by simp)
    have hl2 := G.wf.ord.lt ok2.var
    rcases Md.below_iff.1 hb with e | e | e
    · have := Md.has_ge hc; omega
    · have := Md.has_ge hc; omega
    · omega
  · omega
theorem Md.Good.rk_le (G : s.Good []) (n : Int) : s.rk n ≤ 8 := by
  unfold Md.rk
  split
  · rename_i h
    have := G.wf.ord.lt (G.node n h (by simp)).var
    omega
  · omega
/-- Each node denotes a function. -/
theorem Md.Good.den (G : s.Good []) : ∀ (k : Nat) (n : Int), s.rk n ≤ k → (n = 0 ∨ n = 1 ∨ s.has n = true) → ∃ f, Den s n f
  | k, n, hk, h => by
    rcases h with rfl | rfl | h
    · exact ⟨_, .c0⟩
    · exact ⟨_, .c1⟩
    · have ok := G.node n h (by simp)
      have lt0 := G.rk_lt h ok.lo
      have lt1 := G.rk_lt h ok.hi
      have th : ∀ {c : Int}, s.below c (s.nd n).1 = true → c = 0 ∨ c = 1 ∨ s.has c = true := fun hb => by
        rcases Md.below_iff.1 hb with e | e | e
        · exact .inl e
        · exact .inr (.inl e)
        · exact .inr (.inr e.1)
      match k with
      | 0 => omega
      | k + 1 =>
        obtain ⟨f0, h0⟩ := G.den k _ (by omega) (th ok.lo)
        obtain ⟨f1, h1⟩ := G.den k _ (by omega) (th ok.hi)
        exact ⟨_, .node h rfl h0 h1⟩
theorem Md.Good.has_den (G : s.Good []) (h : n = 0 ∨ n = 1 ∨ s.has n = true) : ∃ f, Den s n f := G.den _ n (Nat.le_refl _) h
/-- No two denote the same. -/
theorem Md.Good.canon' (G : s.Good []) : ∀ (k : Nat) (m n : Int) (f : Fun8), s.rk m ≤ k → s.rk n ≤ k → Den s m f → Den s n f → m = n
  | k, m, n, f, hm, hn, dm, dn => by
    -- a node depends on its own variable
    have top : ∀ (m : Int) (f : Fun8), s.rk m ≤ k → s.has m = true → Den s m f → depF f (s.nd m).1 = true := by
      intro m f hm h d
      have ok := G.node m h (by simp)
      have lt0 := G.rk_lt h ok.lo
      have lt1 := G.rk_lt h ok.hi
      have ⟨h0, h1⟩ := G.sides d h
      match k with
      | 0 => omega
      | k + 1 =>
        cases hd : depF f (s.nd m).1
        · exfalso
          rw [cof_nodep hd] at h0 h1
          exact ok.ne (G.canon' k _ _ f (by omega) (by omega) h0 h1)
        · rfl
    rcases dm.cases' with ⟨rfl, rfl⟩ | ⟨rfl, rfl⟩ | ⟨em, _⟩
    · rcases dn.cases' with ⟨rfl, e⟩ | ⟨rfl, e⟩ | ⟨en, _⟩
      · rfl
      · exact absurd e const_ne
      · have := top n _ hn en dn; rw [dep_const] at this; cases this
    · rcases dn.cases' with ⟨rfl, e⟩ | ⟨rfl, e⟩ | ⟨en, _⟩
      · exact absurd e.symm const_ne
      · rfl
      · have := top n _ hn en dn; rw [dep_const] at this; cases this
    · rcases dn.there with rfl | rfl | en
      · rw [dn.zero] at dm; have := top m _ hm em dm; rw [dep_const] at this; cases this
      · rw [dn.one] at dm; have := top m _ hm em dm; rw [dep_const] at this; cases this
      · have okm := G.node m em (by simp)
        have okn := G.node n en (by simp)
        have l1 := (G.dep dm (top n f hn en dn)).2
        have l2 := (G.dep dn (top m f hm em dm)).2
        have ev := G.wf.ord.inj okm.var okn.var (by omega)
        have ⟨m0, m1⟩ := G.sides dm em
        have ⟨n0, n1⟩ := G.sides dn en
        rw [← ev] at n0 n1
        have a0 := G.rk_lt em okm.lo
        have a1 := G.rk_lt em okm.hi
        have b0 := G.rk_lt en okn.lo
        have b1 := G.rk_lt en okn.hi
        match k with
        | 0 => omega
        | k + 1 =>
          have e0 := G.canon' k _ _ _ (by omega) (by omega) m0 n0
          have e1 := G.canon' k _ _ _ (by omega) (by omega) m1 n1
          exact G.one m n em (by simp) en (by simp) (Prod.ext ev (Prod.ext e0 e1))
theorem Md.Good.canon (G : s.Good []) (dm : Den s m f) (dn : Den s n f) : m = n := G.canon' 8 m n f (G.rk_le m) (G.rk_le n) dm dn
theorem Md.Good.top (G : s.Good []) (hn : s.has n = true) (d : Den s n f) : depF f (s.nd n).1 = true := by
  cases hd : depF f (s.nd n).1
  · have ⟨h0, h1⟩ := G.sides d hn
    rw [cof_nodep hd] at h0 h1
    exact absurd (G.canon h0 h1) (G.node n hn (by simp)).ne
  · rfl

/-! ### Making a node -/
theorem Md.find_some {x : Nd} (h : s.find but x = some n) : s.has n = true ∧ n ∉ but ∧ s.nd n = x := by
  unfold Md.find at h
  rw [Option.map_eq_some_iff] at h
  obtain ⟨k, hk, rfl⟩ := h
  have := List.find?_some hk
  rw [Bool.and_eq_true, Bool.and_eq_true] at this
  obtain ⟨h1, h2, h3⟩ := this
  refine ⟨Md.has_of (by omega) h2, by simpa using h3, ?_⟩
  have h1 : s.N[k]? = some x := by simpa using h1
  unfold Md.nd
  rw [show ((k : Int) + 2 - 2).toNat = k by omega, List.getD, h1]; rfl
theorem Md.WF.find_none {x : Nd} (W : s.WF) (h : s.find but x = none) (hn : s.has n = true) (hb : n ∉ but) : s.nd n ≠ x := by
  intro e
  unfold Md.find at h
  rw [Option.map_eq_none_iff, List.find?_eq_none] at h
  have hl := W.lt hn
  have := h (n - 2).toNat (List.mem_range.2 (by omega))
  have hg := W.get hn
  have e2 : (((n - 2).toNat : Nat) : Int) = n - 2 := by omega
  rw [hg, e2, Md.has_ar hn, show n - 2 + 2 = n by omega, e] at this
  simp [hb] at this
theorem Md.WF.find_one {x : Nd} (W : s.WF) (h1 : s.has n = true) (h2 : n ∉ but) (h3 : s.nd n = x) (one : ∀ m, s.has m = true → m ∉ but → s.nd m = x → m = n) : s.find but x = some n := by
  cases h : s.find but x with
  | none => exact absurd h3 (W.find_none h h1 h2)
  | some m =>
    obtain ⟨a, b, c⟩ := Md.find_some h
    rw [one m a b c]
/-- A node is laid at a number that was not there. -/
theorem Md.WF.added {k : Int} {b : Ar} {x : Nd} (W : s.WF) (ht : s.a.take = some (k, b)) :
    (s.add k b x).WF ∧ s.Le (s.add k b x) ∧ s.has (k + 2) = false ∧ (∀ m, (s.add k b x).has m = (s.has m || decide (m = k + 2))) ∧ (s.add k b x).nd (k + 2) = x ∧ (s.add k b x).a.many = s.a.many + 1 ∧ 0 ≤ k := by
  obtain ⟨b1, b2, b3, b4, b5, b6, b7, b8⟩ := W.ar.taken ht
  have hlen := W.len
  have hh : ∀ m, (s.add k b x).has m = (s.has m || decide (m = k + 2)) := by
    intro m
    unfold Md.has Md.add
    rw [b7]
    by_cases e : m = k + 2
    · subst e; simp; omega
    · have : ¬ (m - 2 = k) := by omega
      simp [e, this]
  have hno : s.has (k + 2) = false := by
    unfold Md.has; rw [show k + 2 - 2 = k by omega, b4]; simp
  refine ⟨⟨b1, ?_, W.ord⟩, ⟨rfl, b2, fun m hm => by rw [hh, hm]; rfl, fun m hm => ?_⟩, hno, hh, ?_, b3, b5⟩
  · simp only [Md.add]
    rw [b8, hlen]
    split
    · rw [List.length_append, hlen]; rfl
    · rw [List.length_set, hlen]
  · have hm2 := W.lt hm
    have hne : m ≠ k + 2 := fun e => by rw [e, hno] at hm; cases hm
    unfold Md.nd Md.add
    simp only
    split
    · rw [List.getD, List.getElem?_append_left (by omega)]; rfl
    · rw [List.getD, List.getElem?_set_ne (by omega)]; rfl
  · unfold Md.nd Md.add
    simp only
    rw [show k + 2 - 2 = k by omega]
    split
    · rename_i e
      rw [e, List.getD, show ((s.N.length : Int)).toNat = s.N.length by omega, List.getElem?_append_right (Nat.le_refl _), Nat.sub_self]; rfl
    · rw [List.getD, List.getElem?_set_self (by omega)]; rfl
theorem Md.Le.below (hl : s.Le s') (h : s.below n v = true) : s'.below n v = true := by
  rcases Md.below_iff.1 h with e | e | ⟨e1, e2⟩
  · exact Md.below_iff.2 (.inl e)
  · exact Md.below_iff.2 (.inr (.inl e))
  · exact Md.below_iff.2 (.inr (.inr ⟨hl.has n e1, by rw [hl.ord, hl.nd n e1]; exact e2⟩))
theorem Md.Le.nodeOK (hl : s.Le s') (hn : s.has n = true) (h : NodeOK s n) : NodeOK s' n := by
  have e := hl.nd n hn
  exact ⟨by rw [e]; exact h.var, by rw [e]; exact h.ne, by rw [e]; exact hl.below h.lo, by rw [e]; exact hl.below h.hi⟩
/-- What comes of making a node. -/
inductive Mk (s : Md) (but : List Int) (v lo hi : Int) : (Int × Int) × Md → Prop
  | bad (h : ¬ ((0 ≤ v ∧ v < 8) ∧ s.below lo v = true ∧ s.below hi v = true)) : Mk s but v lo hi ((0, 1), s)
  | same (hv : 0 ≤ v ∧ v < 8) (h0 : s.below lo v = true) (h1 : s.below hi v = true) (e : lo = hi) : Mk s but v lo hi ((lo, 0), s)
  | found (n : Int) (hv : 0 ≤ v ∧ v < 8) (h0 : s.below lo v = true) (h1 : s.below hi v = true) (e : lo ≠ hi) (hf : s.find but (v, lo, hi) = some n) (hn : s.has n = true) (hb : n ∉ but) (hx : s.nd n = (v, lo, hi)) : Mk s but v lo hi ((n, 0), s)
  | full (hv : 0 ≤ v ∧ v < 8) (h0 : s.below lo v = true) (h1 : s.below hi v = true) (e : lo ≠ hi) (hf : s.find but (v, lo, hi) = none) (ht : s.a.take = none) (hm : s.a.many = s.a.most) : Mk s but v lo hi ((0, 2), s)
  | new (k : Int) (b : Ar) (hv : 0 ≤ v ∧ v < 8) (h0 : s.below lo v = true) (h1 : s.below hi v = true) (e : lo ≠ hi) (hf : s.find but (v, lo, hi) = none) (ht : s.a.take = some (k, b)) : Mk s but v lo hi ((k + 2, 0), s.add k b (v, lo, hi))
theorem Md.WF.mks (W : s.WF) (but : List Int) (v lo hi : Int) : Mk s but v lo hi (s.mk' but v lo hi) := by
  unfold Md.mk'
  by_cases hv : 0 ≤ v ∧ v < 8
  · cases h0 : s.below lo v
    · rw [if_pos (by simp)]; exact .bad (by simp [h0])
    · cases h1 : s.below hi v
      · rw [if_pos (by simp)]; exact .bad (by simp [h1])
      · rw [if_neg (by simp; omega)]
        by_cases e : lo = hi
        · rw [if_pos e]; exact .same hv h0 h1 e
        · rw [if_neg e]
          cases hf : s.find but (v, lo, hi) with
          | some n => obtain ⟨a, b, c⟩ := Md.find_some hf; exact .found n hv h0 h1 e hf a b c
          | none =>
            cases ht : s.a.take with
            | none => exact .full hv h0 h1 e hf ht (W.ar.room.1 ht)
            | some x => obtain ⟨k, b⟩ := x; exact .new k b hv h0 h1 e hf ht
  · rw [if_pos (by simp; omega)]; exact .bad (fun h => hv h.1)
theorem Md.Good.added {k : Int} {b : Ar} (G : s.Good but) (ht : s.a.take = some (k, b)) (hv : 0 ≤ v ∧ v < 8) (h0 : s.below lo v = true) (h1 : s.below hi v = true) (e : lo ≠ hi) (hf : s.find but (v, lo, hi) = none) :
    (s.add k b (v, lo, hi)).Good but ∧ k + 2 ∉ but := by
  obtain ⟨W, hl, hno, hh, hnd, _, _⟩ := G.wf.added (x := (v, lo, hi)) ht
  have hnb : k + 2 ∉ but := fun h => by have := G.sub _ h; rw [hno] at this; cases this
  have cs : ∀ m, (s.add k b (v, lo, hi)).has m = true → s.has m = true ∨ m = k + 2 := fun m hm => by
    rw [hh, Bool.or_eq_true] at hm; simpa using hm
  refine ⟨⟨W, fun n hn => hl.has n (G.sub n hn), fun n hn hb => ?_, fun m n hm hmb hn hnb' he => ?_⟩, hnb⟩
  · rcases cs n hn with h | rfl
    · exact hl.nodeOK h (G.node n h hb)
    · exact ⟨by rw [hnd]; exact hv, by rw [hnd]; exact e, by rw [hnd]; exact hl.below h0, by rw [hnd]; exact hl.below h1⟩
  · rcases cs m hm with h | rfl
    · rcases cs n hn with h' | rfl
      · rw [hl.nd m h, hl.nd n h'] at he; exact G.one m n h hmb h' hnb' he
      · rw [hl.nd m h, hnd] at he; exact absurd he (G.wf.find_none hf h hmb)
    · rcases cs n hn with h' | rfl
      · rw [hl.nd n h', hnd] at he; exact absurd he.symm (G.wf.find_none hf h' hnb')
      · rfl
/-- Making a node: nothing that was there is another one. -/
theorem Md.Good.mks (G : s.Good but) (v lo hi : Int) : (s.mk' but v lo hi).2.Good but ∧ s.Le (s.mk' but v lo hi).2 ∧ (s.mk' but v lo hi).2.a.many ≤ s.a.many + 1 := by
  have h := G.wf.mks but v lo hi
  generalize s.mk' but v lo hi = r at h
  cases h with
  | new k b hv h0 h1 e hf ht => exact ⟨(G.added ht hv h0 h1 e hf).1, (G.wf.added ht).2.1, by rw [(G.wf.added ht).2.2.2.2.2.1]; exact Int.le_refl _⟩
  | _ => exact ⟨G, Md.Le.refl s, by show s.a.many ≤ s.a.many + 1; omega⟩
/-- What is made, where there is room. -/
theorem Md.Good.made (G : s.Good but) (hv : 0 ≤ v ∧ v < 8) (h0 : s.below lo v = true) (h1 : s.below hi v = true) {r : (Int × Int) × Md} (hr : s.mk' but v lo hi = r) (hok : r.1.2 = 0) :
    ((lo = hi ∧ r.1.1 = lo ∧ r.2 = s) ∨ (lo ≠ hi ∧ r.2.has r.1.1 = true ∧ r.1.1 ∉ but ∧ r.2.nd r.1.1 = (v, lo, hi))) ∧ (∀ m, r.2.has m = true → s.has m = true ∨ (m = r.1.1 ∧ r.2.nd m = (v, lo, hi))) ∧
    ∀ f0 f1, Den s lo f0 → Den s hi f1 → Den r.2 r.1.1 (iteF (varF v) f1 f0) := by
  have h := G.wf.mks but v lo hi
  rw [hr] at h
  cases h with
  | bad h => exact absurd ⟨hv, h0, h1⟩ h
  | full => cases hok
  | same _ _ _ e => exact ⟨.inl ⟨e, rfl, rfl⟩, fun m hm => .inl hm, fun f0 f1 d0 d1 => by subst e; rw [d0.fn d1, iteF_same]; exact d1⟩
  | found n _ _ _ e hf hn hb hx => exact ⟨.inr ⟨e, hn, hb, hx⟩, fun m hm => .inl hm, fun f0 f1 d0 d1 => .node hn hx d0 d1⟩
  | new k b _ _ _ e hf ht =>
    obtain ⟨W, hl, hno, hh, hnd, _, _⟩ := G.wf.added (x := (v, lo, hi)) ht
    have hk : (s.add k b (v, lo, hi)).has (k + 2) = true := by rw [hh]; simp
    refine ⟨.inr ⟨e, hk, (G.added ht hv h0 h1 e hf).2, hnd⟩, fun m hm => ?_, fun f0 f1 d0 d1 => .node hk hnd (d0.mono hl) (d1.mono hl)⟩
    rw [hh, Bool.or_eq_true] at hm
    rcases hm with h | h
    · exact .inl h
    · have : m = k + 2 := by simpa using h
      exact .inr ⟨this, by rw [this]; exact hnd⟩
theorem Md.Good.mk_err (G : s.Good but) (hv : 0 ≤ v ∧ v < 8) (h0 : s.below lo v = true) (h1 : s.below hi v = true) : (s.mk' but v lo hi).1.2 = 0 ∨ ((s.mk' but v lo hi).1 = (0, 2) ∧ (s.mk' but v lo hi).2 = s ∧ s.a.many = s.a.most) := by
  have h := G.wf.mks but v lo hi
  generalize s.mk' but v lo hi = r at h
  cases h with
  | bad h => exact absurd ⟨hv, h0, h1⟩ h
  | full _ _ _ _ _ _ hm => exact .inr ⟨rfl, rfl, hm⟩
  | _ => exact .inl rfl
end
end Go.Bx

/- Layer 7 by plain means: two levels change places; a node is freed. No program is in sight. -/
namespace Go.Bx
open Go
set_option linter.unusedSimpArgs false
set_option linter.unusedVariables false

/-! ### Two levels change places -/
def Md.side (s : Md) (n y : Int) (b : Bool) : Int := if s.of n y then (if b then (s.nd n).2.2 else (s.nd n).2.1) else n
def Md.all (s : Md) : List Int := ((List.range s.N.length).map fun k : Nat => (k : Int) + 2).filter fun n => s.has n
def Md.change (s : Md) (x y : Int) : List Int := s.all.filter fun n => decide ((s.nd n).1 = x) && (s.of (s.nd n).2.1 y || s.of (s.nd n).2.2 y)
def Md.step1 (s : Md) (but : List Int) (x y n : Int) : (Int × Int) × Md := s.mk' but x (s.side (s.nd n).2.1 y false) (s.side (s.nd n).2.2 y false)
def Md.step2 (s : Md) (but : List Int) (x y n : Int) : (Int × Int) × Md := (s.step1 but x y n).2.mk' but x ((s.step1 but x y n).2.side (s.nd n).2.1 y true) ((s.step1 but x y n).2.side (s.nd n).2.2 y true)
def Md.swapStep (s : Md) (but : List Int) (x y n : Int) : Md := (s.step2 but x y n).2.lay n (y, (s.step1 but x y n).1.1, (s.step2 but x y n).1.1)
def Md.swapGo (x y : Int) : Md → List Int → Md
  | s, [] => s
  | s, n :: r => Md.swapGo x y (s.swapStep (n :: r) x y n) r
def Md.room (s : Md) : Int := s.a.most - s.a.many
def Md.ordS (s : Md) (l : Int) : Md := ⟨s.a, s.N, swp s.ord l⟩
def Md.swap (s : Md) (l : Int) : Int × Md :=
  if l < 0 ∨ 6 < l then (1, s)
  else if s.room < 2 * ((s.change (s.ord.getD l.toNat 0) (s.ord.getD (l.toNat + 1) 0)).length : Int) then (2, s)
  else (0, Md.swapGo (s.ord.getD l.toNat 0) (s.ord.getD (l.toNat + 1) 0) (s.ordS l) (s.change (s.ord.getD l.toNat 0) (s.ord.getD (l.toNat + 1) 0)))

section
variable {s s' s0 : Md} {n m v lo hi x y : Int} {f g : Fun8} {but r : List Int} {l : Nat}
theorem Md.of_iff : s.of n v = true ↔ s.has n = true ∧ (s.nd n).1 = v := by unfold Md.of; simp
theorem Md.WF.mem_all (W : s.WF) : n ∈ s.all ↔ s.has n = true := by
  unfold Md.all
  rw [List.mem_filter, List.mem_map]
  constructor
  · exact fun h => h.2
  · intro h
    have := W.lt h
    exact ⟨⟨(n - 2).toNat, List.mem_range.2 (by omega), by omega⟩, h⟩
theorem Md.nodup_all : s.all.Nodup := by
  unfold Md.all
  refine List.Pairwise.filter _ ?_
  rw [List.pairwise_map]
  exact List.Pairwise.imp (fun h => by omega) List.pairwise_lt_range
theorem Md.WF.len_all (W : s.WF) : (s.all.length : Int) = s.a.many := by
  have := W.ar.count (l := s.all.map fun n => n - 2) ?_ ?_
  · rw [List.length_map] at this; exact this
  · rw [List.nodup_iff_pairwise_ne, List.pairwise_map]
    exact List.Pairwise.imp (fun h e => h (by omega)) (List.nodup_iff_pairwise_ne.1 Md.nodup_all)
  · intro n
    rw [List.mem_map]
    constructor
    · rintro ⟨k, hk, rfl⟩
      exact Md.has_ar ((W.mem_all).1 hk)
    · intro h
      have := Ar.has_lt h
      exact ⟨n + 2, (W.mem_all).2 (Md.has_of this.1 h), by omega⟩
theorem Md.WF.mem_change (W : s.WF) : n ∈ s.change x y ↔ s.has n = true ∧ (s.nd n).1 = x ∧ (s.of (s.nd n).2.1 y = true ∨ s.of (s.nd n).2.2 y = true) := by
  unfold Md.change
  rw [List.mem_filter, W.mem_all, Bool.and_eq_true, Bool.or_eq_true, decide_eq_true_eq]
theorem Md.has_lay {z : Nd} : (s.lay n z).has m = s.has m := rfl
theorem Md.WF.nd_lay (W : s.WF) (hn : s.has n = true) {z : Nd} (hm : 2 ≤ m) : (s.lay n z).nd m = if m = n then z else s.nd m := by
  have := W.lt hn
  unfold Md.nd Md.lay
  simp only
  split
  · rename_i e; subst e; rw [List.getD, List.getElem?_set_self (by omega)]; rfl
  · rw [List.getD, List.getElem?_set_ne (by omega)]; rfl
theorem Md.WF.lay (W : s.WF) {z : Nd} : (s.lay n z).WF := ⟨W.ar, by simp only [Md.lay, List.length_set]; exact W.len, W.ord⟩

/-- What is so while two levels change places: s0 is what was, r those that wait. -/
structure SwI (s0 : Md) (l : Nat) (x y : Int) (s : Md) (r : List Int) : Prop where
  good : s.Good r
  ord : s.ord = swp s0.ord l
  most : s.a.most = s0.a.most
  nodup : r.Nodup
  rem : ∀ n ∈ r, s0.has n = true ∧ (s0.nd n).1 = x ∧ (s0.of (s0.nd n).2.1 y = true ∨ s0.of (s0.nd n).2.2 y = true) ∧ s.nd n = s0.nd n
  old : ∀ n, s0.has n = true → s.has n = true ∧ ((s0.nd n).1 ≠ x → s.nd n = s0.nd n)
  new : ∀ n, s.has n = true → s0.has n = false → (s.nd n).1 = x
  yno : ∀ n, s.has n = true → n ∉ r → (s.nd n).1 = y → (s.nd n).2.1 ∉ r ∧ (s.nd n).2.2 ∉ r
  den : ∀ n f, Den s0 n f → Den s n f
  room : s.a.many + 2 * (r.length : Int) ≤ s.a.most
/-- The levels are where they are. -/
structure LvXY (s0 : Md) (l : Nat) (x y : Int) : Prop where
  hl : l < 7
  hx : s0.ord[l]? = some x
  hy : s0.ord[l + 1]? = some y
section
variable (G0 : s0.Good []) (L : LvXY s0 l x y)
include G0 L
theorem LvXY.rng : (0 ≤ x ∧ x < 8) ∧ (0 ≤ y ∧ y < 8) ∧ x ≠ y := by
  have W := G0.wf.ord
  refine ⟨W.rng _ _ L.hx, W.rng _ _ L.hy, fun e => ?_⟩
  subst e
  have := W.one _ _ _ L.hx L.hy; omega
theorem LvXY.old : lvl s0.ord x = l ∧ lvl s0.ord y = (l : Int) + 1 := by
  have W := G0.wf.ord
  have := W.lvl L.hy
  exact ⟨W.lvl L.hx, by rw [this]; omega⟩
theorem LvXY.new (h : s.ord = swp s0.ord l) : lvl s.ord y = l ∧ lvl s.ord x = (l : Int) + 1 ∧ ∀ v, v ≠ x → v ≠ y → 0 ≤ v ∧ v < 8 → lvl s.ord v = lvl s0.ord v := by
  rw [h]; exact G0.wf.ord.swp_lvl L.hl L.hx L.hy
theorem SwI.start (hr : 2 * ((s0.change x y).length : Int) ≤ s0.room) : SwI s0 l x y (s0.ordS l) (s0.change x y) := by
  have W := G0.wf
  obtain ⟨rx, ry, nxy⟩ := L.rng G0
  obtain ⟨ox, oy⟩ := L.old G0
  obtain ⟨ny, nx, nv⟩ := L.new G0 (s := s0.ordS l) rfl
  -- below, in the new order
  have bel : ∀ (v c : Int), 0 ≤ v ∧ v < 8 → s0.below c v = true → (v = x → s0.of c y = false) → (s0.ordS l).below c v = true := by
    intro v c hv hb hc
    rcases Md.below_iff.1 hb with e | e | ⟨e1, e2⟩
    · exact Md.below_iff.2 (.inl e)
    · exact Md.below_iff.2 (.inr (.inl e))
    · refine Md.below_iff.2 (.inr (.inr ⟨e1, ?_⟩))
      show lvl (s0.ordS l).ord v < lvl (s0.ordS l).ord (s0.nd c).1
      have hu := (G0.node c e1 (by simp)).var
      have hny : v = x → (s0.nd c).1 ≠ y := fun e hy' => by
        have := hc e
        rw [Md.of_iff.2 ⟨e1, hy'⟩] at this; cases this
      generalize (s0.nd c).1 = u at e2 hu hny ⊢
      by_cases vx : v = x
      · subst vx
        have uy := hny rfl
        have ux : u ≠ v := fun e => by subst e; omega
        rw [nx, nv u ux uy hu]
        have : lvl s0.ord u ≠ lvl s0.ord y := fun e => uy (W.ord.inj hu ry e)
        omega
      · by_cases vy : v = y
        · subst vy
          have ux : u ≠ x := fun e => by subst e; omega
          have uy : u ≠ v := fun e => by subst e; omega
          rw [ny, nv u ux uy hu]; omega
        · rw [nv v vx vy hv]
          have d1 : lvl s0.ord v ≠ lvl s0.ord x := fun e => vx (W.ord.inj hv rx e)
          by_cases ux : u = x
          · subst ux; rw [nx]; omega
          · by_cases uy : u = y
            · subst uy; rw [ny]; omega
            · rw [nv u ux uy hu]; exact e2
  refine ⟨⟨⟨W.ar, W.len, W.ord.swp _⟩, fun n hn => (W.mem_change.1 hn).1, fun n hn hb => ?_, fun m n hm _ hn _ he => G0.one m n hm (by simp) hn (by simp) he⟩, rfl, rfl, List.Pairwise.filter _ Md.nodup_all, fun n hn => ⟨(W.mem_change.1 hn).1, (W.mem_change.1 hn).2.1, (W.mem_change.1 hn).2.2, rfl⟩, fun n hn => ⟨hn, fun _ => rfl⟩, fun n hn hno => ?_, fun n hn hb hv => ?_, fun n f d => Den.keep (s := s0) (s' := s0.ordS l) (fun _ h => h) (fun _ _ => rfl) d, ?_⟩
  · have hn' : s0.has n = true := hn
    have ok := G0.node n hn' (by simp)
    have hnc : (s0.nd n).1 = x → s0.of (s0.nd n).2.1 y = false ∧ s0.of (s0.nd n).2.2 y = false := fun e => by
      have h := fun hh => hb (W.mem_change.2 ⟨hn', e, hh⟩)
      constructor
      · cases hc : s0.of (s0.nd n).2.1 y
        · rfl
        · exact absurd (.inl hc) h
      · cases hc : s0.of (s0.nd n).2.2 y
        · rfl
        · exact absurd (.inr hc) h
    exact ⟨ok.var, ok.ne, bel _ _ ok.var ok.lo fun e => (hnc e).1, bel _ _ ok.var ok.hi fun e => (hnc e).2⟩
  · have hn' : s0.has n = true := hn
    rw [hn'] at hno; cases hno
  · have hn' : s0.has n = true := hn
    have hv' : (s0.nd n).1 = y := hv
    have ok := G0.node n hn' (by simp)
    have key : ∀ c, s0.below c (s0.nd n).1 = true → c ∉ s0.change x y := fun c hc hm => by
      have := W.mem_change.1 hm
      rcases Md.below_iff.1 hc with e | e | e
      · have := Md.has_ge this.1; omega
      · have := Md.has_ge this.1; omega
      · rw [this.2.1, hv'] at e; omega
    exact ⟨key _ ok.lo, key _ ok.hi⟩
  · show s0.a.many + _ ≤ s0.a.most
    unfold Md.room at hr; omega
/-- The sides of a child, in the new order. -/
theorem SwI.side (I : SwI s0 l x y s r) {c : Int} (hb : s0.below c x = true) (b : Bool) :
    s.below (s.side c y b) x = true ∧ (∀ f, Den s0 c f → Den s (s.side c y b) (cofF f y b)) ∧ (c = 0 ∨ c = 1 ∨ s.has c = true) ∧ (s.of c y = s0.of c y) := by
  have W := G0.wf
  obtain ⟨rx, ry, nxy⟩ := L.rng G0
  obtain ⟨ox, oy⟩ := L.old G0
  obtain ⟨ny, nx, nv⟩ := L.new G0 I.ord
  by_cases hc : s0.has c = true
  · have ok := G0.node c hc (by simp)
    have hlv : lvl s0.ord x < lvl s0.ord (s0.nd c).1 := by
      have := Md.has_ge hc
      rcases Md.below_iff.1 hb with e | e | e
      · omega
      · omega
      · exact e.2
    have hcx : (s0.nd c).1 ≠ x := fun e => by rw [e] at hlv; omega
    obtain ⟨hs, hnd⟩ := I.old c hc
    have hnd := hnd hcx
    have hof : s.of c y = s0.of c y := by unfold Md.of; rw [hs, hc, hnd]
    refine ⟨?_, ?_, .inr (.inr hs), hof⟩
    · unfold Md.side
      rw [hof]
      cases ho : s0.of c y
      · simp only [Bool.false_eq_true, ↓reduceIte]
        have hcy : (s0.nd c).1 ≠ y := fun e => by rw [Md.of_iff.2 ⟨hc, e⟩] at ho; cases ho
        refine Md.below_iff.2 (.inr (.inr ⟨hs, ?_⟩))
        rw [hnd, nx, nv _ hcx hcy ok.var]
        have : lvl s0.ord (s0.nd c).1 ≠ lvl s0.ord y := fun e => hcy (W.ord.inj ok.var ry e)
        omega
      · simp only [↓reduceIte]
        have hcy := (Md.of_iff.1 ho).2
        rw [hnd]
        have key : ∀ d, s0.below d y = true → s.below d x = true := fun d hd => by
          rcases Md.below_iff.1 hd with e | e | ⟨e1, e2⟩
          · exact Md.below_iff.2 (.inl e)
          · exact Md.below_iff.2 (.inr (.inl e))
          · have dx : (s0.nd d).1 ≠ x := fun e => by rw [e] at e2; omega
            have dy : (s0.nd d).1 ≠ y := fun e => by rw [e] at e2; omega
            obtain ⟨k1, k2⟩ := I.old d e1
            refine Md.below_iff.2 (.inr (.inr ⟨k1, ?_⟩))
            rw [k2 dx, nx, nv _ dx dy (G0.node d e1 (by simp)).var]; omega
        have h0 := ok.lo
        have h1 := ok.hi
        rw [hcy] at h0 h1
        cases b
        · exact key _ h0
        · exact key _ h1
    · intro f d
      unfold Md.side
      rw [hof]
      cases ho : s0.of c y
      · simp only [Bool.false_eq_true, ↓reduceIte]
        have hcy : (s0.nd c).1 ≠ y := fun e => by rw [Md.of_iff.2 ⟨hc, e⟩] at ho; cases ho
        have hd : depF f y = false := by
          cases hd : depF f y
          · rfl
          · have := (G0.dep d hd).2
            have : lvl s0.ord (s0.nd c).1 ≠ lvl s0.ord y := fun e => hcy (W.ord.inj ok.var ry e)
            omega
        rw [cof_nodep hd]
        exact I.den _ _ d
      · simp only [↓reduceIte]
        have hcy := (Md.of_iff.1 ho).2
        have ⟨d0, d1⟩ := G0.sides d hc
        rw [hcy] at d0 d1
        rw [hnd]
        cases b
        · exact I.den _ _ d0
        · exact I.den _ _ d1
  · have hcc : c = 0 ∨ c = 1 := by
      rcases Md.below_iff.1 hb with e | e | e
      · exact .inl e
      · exact .inr e
      · exact absurd e.1 hc
    have hno : s.has c = false := Md.has_no (by omega)
    have hno0 : s0.has c = false := Md.has_no (by omega)
    have hof : s.of c y = s0.of c y := by unfold Md.of; rw [hno, hno0]; simp
    have hof0 : s0.of c y = false := by unfold Md.of; rw [hno0]; simp
    refine ⟨?_, ?_, by rcases hcc with e | e; exact .inl e; exact .inr (.inl e), hof⟩
    · unfold Md.side
      rw [hof, hof0]
      simp only [Bool.false_eq_true, ↓reduceIte]
      rcases hcc with e | e
      · exact Md.below_iff.2 (.inl e)
      · exact Md.below_iff.2 (.inr (.inl e))
    · intro f d
      unfold Md.side
      rw [hof, hof0]
      simp only [Bool.false_eq_true, ↓reduceIte]
      rcases hcc with e | e
      · subst e; rw [d.zero, cof_const]; exact .c0
      · subst e; rw [d.one, cof_const]; exact .c1
omit G0 L in
theorem Md.side_le (hl : s.Le s') {c : Int} (hc : c = 0 ∨ c = 1 ∨ s.has c = true) (b : Bool) : s'.side c y b = s.side c y b ∧ s'.of c y = s.of c y := by
  rcases hc with e | e | e
  · have h1 : s.has c = false := Md.has_no (by omega)
    have h2 : s'.has c = false := Md.has_no (by omega)
    unfold Md.side Md.of; rw [h1, h2]; simp
  · have h1 : s.has c = false := Md.has_no (by omega)
    have h2 : s'.has c = false := Md.has_no (by omega)
    unfold Md.side Md.of; rw [h1, h2]; simp
  · have h2 := hl.has c e
    have h3 := hl.nd c e
    unfold Md.side Md.of; rw [h2, h3, e]; simp
/-- One node is laid anew. -/
structure SwR (s0 : Md) (l : Nat) (x y : Int) (s : Md) (n : Int) (r : List Int) : Prop where
  e1 : (s.step1 (n :: r) x y n).1.2 = 0
  e2 : (s.step2 (n :: r) x y n).1.2 = 0
  g1 : (s.step1 (n :: r) x y n).2.Good (n :: r)
  g2 : (s.step2 (n :: r) x y n).2.Good (n :: r)
  l1 : s.Le (s.step1 (n :: r) x y n).2
  l2 : (s.step1 (n :: r) x y n).2.Le (s.step2 (n :: r) x y n).2
  fresh : ∀ m, (s.step2 (n :: r) x y n).2.has m = true → m ∉ n :: r → (s.step2 (n :: r) x y n).2.nd m ≠ (y, (s.step1 (n :: r) x y n).1.1, (s.step2 (n :: r) x y n).1.1)
  lo : (s.step1 (n :: r) x y n).1.1 = 0 ∨ (s.step1 (n :: r) x y n).1.1 = 1 ∨ (s.step2 (n :: r) x y n).2.has (s.step1 (n :: r) x y n).1.1 = true
  hi : (s.step2 (n :: r) x y n).1.1 = 0 ∨ (s.step2 (n :: r) x y n).1.1 = 1 ∨ (s.step2 (n :: r) x y n).2.has (s.step2 (n :: r) x y n).1.1 = true
  next : SwI s0 l x y (s.swapStep (n :: r) x y n) r
theorem SwI.step {n : Int} (I : SwI s0 l x y s (n :: r)) : SwR s0 l x y s n r := by
  have W := G0.wf
  obtain ⟨rx, ry, nxy⟩ := L.rng G0
  obtain ⟨ox, oy⟩ := L.old G0
  obtain ⟨hn0, hvx, hof, hnd⟩ := I.rem n (by simp)
  have ok := G0.node n hn0 (by simp)
  have bL := ok.lo
  have bH := ok.hi
  rw [hvx] at bL bH
  have sL := fun b => I.side G0 L bL b
  have sH := fun b => I.side G0 L bH b
  have hroom := I.room
  simp only [List.length_cons] at hroom
  have q1 : s.step1 (n :: r) x y n = s.mk' (n :: r) x (s.side (s0.nd n).2.1 y false) (s.side (s0.nd n).2.2 y false) := by unfold Md.step1; rw [hnd]
  have e1 : (s.step1 (n :: r) x y n).1.2 = 0 := by
    rw [q1]
    rcases I.good.mk_err rx (sL false).1 (sH false).1 with h | ⟨_, _, h⟩
    · exact h
    · omega
  obtain ⟨g1, l1, m1⟩ := I.good.mks x (s.side (s0.nd n).2.1 y false) (s.side (s0.nd n).2.2 y false)
  have d1 := I.good.made rx (sL false).1 (sH false).1 q1.symm e1
  rw [← q1] at g1 l1 m1
  have q2 : s.step2 (n :: r) x y n = (s.step1 (n :: r) x y n).2.mk' (n :: r) x (s.side (s0.nd n).2.1 y true) (s.side (s0.nd n).2.2 y true) := by
    unfold Md.step2; rw [hnd, (Md.side_le l1 (sL true).2.2.1 true).1, (Md.side_le l1 (sH true).2.2.1 true).1]
  have hm1 := l1.most
  have e2 : (s.step2 (n :: r) x y n).1.2 = 0 := by
    rw [q2]
    rcases g1.mk_err rx (l1.below (sL true).1) (l1.below (sH true).1) with h | ⟨_, _, h⟩
    · exact h
    · omega
  obtain ⟨g2, l2, m2⟩ := g1.mks x (s.side (s0.nd n).2.1 y true) (s.side (s0.nd n).2.2 y true)
  have d2 := g1.made rx (l1.below (sL true).1) (l1.below (sH true).1) q2.symm e2
  rw [← q2] at g2 l2 m2
  have hstep : s.swapStep (n :: r) x y n = (s.step2 (n :: r) x y n).2.lay n (y, (s.step1 (n :: r) x y n).1.1, (s.step2 (n :: r) x y n).1.1) := rfl
  obtain ⟨r1, hr1⟩ : ∃ z, s.step1 (n :: r) x y n = z := ⟨_, rfl⟩
  obtain ⟨r2, hr2⟩ : ∃ z, s.step2 (n :: r) x y n = z := ⟨_, rfl⟩
  rw [hr1] at e1 g1 l1 m1 d1 l2 d2 q2 hm1 m2
  rw [hr2] at e2 g2 l2 m2 d2
  obtain ⟨⟨o1, z1⟩, t1⟩ := r1
  obtain ⟨⟨o2, z2⟩, t⟩ := r2
  simp only at e1 g1 l1 m1 d1 l2 d2 q2 hm1 e2 g2 l2 m2
  subst e1 e2
  have le := l1.trans l2
  have hord : t.ord = swp s0.ord l := le.ord.trans I.ord
  obtain ⟨ny, nx, nv⟩ := L.new G0 hord
  have hmost : t.a.most = s0.a.most := le.most.trans I.most
  -- those that wait
  have wait : ∀ k ∈ n :: r, t.has k = true ∧ t.nd k = s0.nd k ∧ (s0.nd k).1 = x := fun k hk => by
    have h1 := I.good.sub k hk
    have h2 := I.rem k hk
    exact ⟨le.has k h1, (le.nd k h1).trans h2.2.2.2, h2.2.1⟩
  have notIn : ∀ c v, t.below c v = true → (l : Int) + 1 ≤ lvl t.ord v → c ∉ n :: r := fun c v hb hv hm => by
    obtain ⟨h1, h2, h3⟩ := wait c hm
    rcases Md.below_iff.1 hb with e | e | e
    · have := Md.has_ge h1; omega
    · have := Md.has_ge h1; omega
    · rw [h2, h3, nx] at e; omega
  obtain ⟨hnt, hndt, _⟩ := wait n (by simp)
  -- the two new sides
  have sideOK : ∀ (o c d : Int), t.below c x = true → ((c = d ∧ o = c) ∨ (c ≠ d ∧ t.has o = true ∧ o ∉ n :: r ∧ t.nd o = (x, c, d))) → o ∉ n :: r ∧ (o = 0 ∨ o = 1 ∨ (t.has o = true ∧ (l : Int) < lvl t.ord (t.nd o).1)) := by
    intro o c d hb h
    rcases h with ⟨_, rfl⟩ | ⟨_, h1, h2, h3⟩
    · refine ⟨notIn _ x hb (by omega), ?_⟩
      rcases Md.below_iff.1 hb with e | e | e
      · exact .inl e
      · exact .inr (.inl e)
      · exact .inr (.inr ⟨e.1, by omega⟩)
    · exact ⟨h2, .inr (.inr ⟨h1, by rw [h3, nx]; omega⟩)⟩
  have p1 : o1 ∉ n :: r ∧ (o1 = 0 ∨ o1 = 1 ∨ (t.has o1 = true ∧ (l : Int) < lvl t.ord (t.nd o1).1)) := by
    refine sideOK o1 _ (s.side (s0.nd n).2.2 y false) (le.below (sL false).1) ?_
    rcases d1.1 with ⟨h1, h2, _⟩ | ⟨h1, h2, h3, h4⟩
    · exact .inl ⟨h1, h2⟩
    · exact .inr ⟨h1, l2.has _ h2, h3, (l2.nd _ h2).trans h4⟩
  have p2 : o2 ∉ n :: r ∧ (o2 = 0 ∨ o2 = 1 ∨ (t.has o2 = true ∧ (l : Int) < lvl t.ord (t.nd o2).1)) := by
    refine sideOK o2 _ (s.side (s0.nd n).2.2 y true) (le.below (sL true).1) ?_
    rcases d2.1 with ⟨h1, h2, _⟩ | ⟨h1, h2, h3, h4⟩
    · exact .inl ⟨h1, h2⟩
    · exact .inr ⟨h1, h2, h3, h4⟩
  -- what they denote
  obtain ⟨f, df⟩ := G0.has_den (.inr (.inr hn0))
  have ⟨dL, dH⟩ := G0.sides df hn0
  rw [hvx] at dL dH
  obtain ⟨fL, hfL⟩ : ∃ z, cofF f x false = z := ⟨_, rfl⟩
  obtain ⟨fH, hfH⟩ : ∃ z, cofF f x true = z := ⟨_, rfl⟩
  have hf : f = iteF (varF x) fH fL := by rw [← hfL, ← hfH, ite_cof]
  rw [hfL] at dL
  rw [hfH] at dH
  have D1 : Den t o1 (iteF (varF x) (cofF fH y false) (cofF fL y false)) := (d1.2.2 _ _ ((sL false).2.1 _ dL) ((sH false).2.1 _ dH)).mono l2
  have D2 : Den t o2 (iteF (varF x) (cofF fH y true) (cofF fL y true)) := d2.2.2 _ _ (((sL true).2.1 _ dL).mono l1) (((sH true).2.1 _ dH).mono l1)
  rw [← cof_other (Ne.symm nxy), ← hf] at D1 D2
  -- what is laid
  obtain ⟨u, hu⟩ : ∃ u, t.lay n (y, o1, o2) = u := ⟨_, rfl⟩
  have hasu : ∀ m, u.has m = t.has m := fun m => by rw [← hu]; rfl
  have ndu : ∀ m, 2 ≤ m → u.nd m = if m = n then (y, o1, o2) else t.nd m := fun m hm => by rw [← hu]; exact g2.wf.nd_lay hnt hm
  have ordu : u.ord = t.ord := by rw [← hu]; rfl
  have ndn : u.nd n = (y, o1, o2) := by rw [ndu n (Md.has_ge hnt), if_pos rfl]
  have ndo : ∀ m, t.has m = true → m ≠ n → u.nd m = t.nd m := fun m hm hne => by rw [ndu m (Md.has_ge hm), if_neg hne]
  have lemA : ∀ m g, Den t m g → m ∉ n :: r → (t.has m = true → (l : Int) < lvl t.ord (t.nd m).1) → Den u m g := by
    intro m g d
    induction d with
    | c0 => intro _ _; exact .c0
    | c1 => intro _ _; exact .c1
    | @node m v lo hi f0 f1 h hx _ _ ih0 ih1 =>
      intro hm hl
      have hl : (l : Int) < lvl t.ord v := by have := hl h; rw [hx] at this; exact this
      have okm := g2.node m h hm
      have hb0 := okm.lo
      have hb1 := okm.hi
      rw [hx] at hb0 hb1
      have key : ∀ c, t.below c v = true → t.has c = true → (l : Int) < lvl t.ord (t.nd c).1 := fun c hb hc => by
        have := Md.has_ge hc
        rcases Md.below_iff.1 hb with e | e | e
        · omega
        · omega
        · omega
      exact .node (by rw [hasu]; exact h) ((ndo m h fun e => hm (by rw [e]; simp)).trans hx) (ih0 (notIn _ v hb0 (by omega)) (key _ hb0)) (ih1 (notIn _ v hb1 (by omega)) (key _ hb1))
  have U1 : Den u o1 (cofF f y false) := lemA _ _ D1 p1.1 fun h => by have := Md.has_ge h; rcases p1.2 with e | e | e; omega; omega; exact e.2
  have U2 : Den u o2 (cofF f y true) := lemA _ _ D2 p2.1 fun h => by have := Md.has_ge h; rcases p2.2 with e | e | e; omega; omega; exact e.2
  have Un : Den u n f := by
    have := Den.node (by rw [hasu]; exact hnt) ndn U1 U2
    rwa [ite_cof] at this
  have dent : ∀ m g, Den s0 m g → Den t m g := fun m g d => (I.den m g d).mono le
  have lemB : ∀ m g, Den t m g → Den u m g := by
    intro m g d
    induction d with
    | c0 => exact .c0
    | c1 => exact .c1
    | @node m v lo hi f0 f1 h hx h0 h1 ih0 ih1 =>
      by_cases e : m = n
      · subst e
        have := (dent _ _ df).fn (.node h hx h0 h1)
        rw [← this]; exact Un
      · exact .node (by rw [hasu]; exact h) ((ndo m h e).trans hx) ih0 ih1
  have denu : ∀ m g, Den s0 m g → Den u m g := fun m g d => lemB _ _ (dent m g d)
  have newt : ∀ m, t.has m = true → s0.has m = false → (t.nd m).1 = x := by
    intro m hm h0
    rcases d2.2.1 m hm with h | ⟨_, h⟩
    · rcases d1.2.1 m h with h' | ⟨_, h'⟩
      · rw [le.nd m h']; exact I.new m h' h0
      · rw [l2.nd m h, h']
    · rw [h]
  -- a node of y that is as the new one
  have fresh : ∀ m, t.has m = true → m ∉ n :: r → t.nd m ≠ (y, o1, o2) := by
    intro m hm hmr he
    have hmn : m ≠ n := fun e => hmr (by rw [e]; simp)
    have dm : Den u m f := by
      have := Den.node (by rw [hasu]; exact hm) ((ndo m hm hmn).trans he) U1 U2
      rwa [ite_cof] at this
    cases h0 : s0.has m
    · have := newt m hm h0
      rw [he] at this; exact nxy this.symm
    · obtain ⟨g, dg⟩ := G0.has_den (.inr (.inr h0))
      have := (denu _ _ dg).fn dm
      subst this
      exact hmn (G0.canon dg df)
  have hne : o1 ≠ o2 := by
    intro e
    rw [e] at U1
    have e2 := U1.fn U2
    have hnd := nodep_of e2
    have hnL : depF fL y = false := by
      cases h : depF fL y
      · rfl
      · rw [← hfL] at h; have := dep_of_cof2 h; rw [hnd] at this; cases this
    have hnH : depF fH y = false := by
      cases h : depF fH y
      · rfl
      · rw [← hfH] at h; have := dep_of_cof2 h; rw [hnd] at this; cases this
    rcases hof with h | h
    · obtain ⟨h1, h2⟩ := Md.of_iff.1 h
      have := G0.top h1 dL; rw [h2, hnL] at this; cases this
    · obtain ⟨h1, h2⟩ := Md.of_iff.1 h
      have := G0.top h1 dH; rw [h2, hnH] at this; cases this
  have hnr : n ∉ r := (List.nodup_cons.1 I.nodup).1
  have there : ∀ o, (o = 0 ∨ o = 1 ∨ (t.has o = true ∧ (l : Int) < lvl t.ord (t.nd o).1)) → o = 0 ∨ o = 1 ∨ t.has o = true := fun o h => by
    rcases h with h | h | h
    · exact .inl h
    · exact .inr (.inl h)
    · exact .inr (.inr h.1)
  have bely : ∀ o, o ∉ n :: r → (o = 0 ∨ o = 1 ∨ (t.has o = true ∧ (l : Int) < lvl t.ord (t.nd o).1)) → u.below o y = true := fun o ho h => by
    rcases h with e | e | ⟨e1, e2⟩
    · exact Md.below_iff.2 (.inl e)
    · exact Md.below_iff.2 (.inr (.inl e))
    · refine Md.below_iff.2 (.inr (.inr ⟨by rw [hasu]; exact e1, ?_⟩))
      rw [ordu, ndo o e1 fun e => ho (by rw [e]; simp), ny]; exact e2
  have ynot : ∀ m, t.has m = true → m ∉ n :: r → (t.nd m).1 = y → (t.nd m).2.1 ∉ n :: r ∧ (t.nd m).2.2 ∉ n :: r := by
    intro m hm hmr hv
    have hs : s.has m = true := by
      rcases d2.2.1 m hm with h | ⟨_, h⟩
      · rcases d1.2.1 m h with h' | ⟨_, h'⟩
        · exact h'
        · rw [l2.nd m h, h'] at hv; exact absurd hv nxy
      · rw [h] at hv; exact absurd hv nxy
    have e := le.nd m hs
    rw [e] at hv ⊢
    exact I.yno m hs hmr hv
  have goodu : u.Good r := by
    refine ⟨hu ▸ g2.wf.lay, fun k hk => by rw [hasu]; exact (wait k (by simp [hk])).1, fun m hm hmr => ?_, fun a b ha har hb hbr he => ?_⟩
    · rw [hasu] at hm
      by_cases e : m = n
      · subst e
        exact ⟨by rw [ndn]; exact ry, by rw [ndn]; exact hne, by rw [ndn]; exact bely _ p1.1 p1.2, by rw [ndn]; exact bely _ p2.1 p2.2⟩
      · have hmr' : m ∉ n :: r := by simp [e, hmr]
        have okm := g2.node m hm hmr'
        have em := ndo m hm e
        have key : ∀ c, t.below c (t.nd m).1 = true → ((t.nd m).1 = y → c ∉ n :: r) → u.below c (t.nd m).1 = true := fun c hb hy => by
          rcases Md.below_iff.1 hb with e | e | ⟨e1, e2⟩
          · exact Md.below_iff.2 (.inl e)
          · exact Md.below_iff.2 (.inr (.inl e))
          · refine Md.below_iff.2 (.inr (.inr ⟨by rw [hasu]; exact e1, ?_⟩))
            rw [ordu]
            by_cases ec : c = n
            · have hvy : (t.nd m).1 ≠ y := fun h => hy h (by rw [ec]; simp)
              rw [ec] at e2
              rw [ec, ndn]
              rw [hndt, hvx, nx] at e2
              have hne : lvl t.ord (t.nd m).1 ≠ lvl t.ord y := fun h => hvy (g2.wf.ord.inj okm.var ry h)
              simp only; omega
            · rw [ndo c e1 ec]; exact e2
        exact ⟨by rw [em]; exact okm.var, by rw [em]; exact okm.ne, by rw [em]; exact key _ okm.lo fun h => (ynot m hm hmr' h).1, by rw [em]; exact key _ okm.hi fun h => (ynot m hm hmr' h).2⟩
    · rw [hasu] at ha hb
      by_cases ea : a = n
      · by_cases eb : b = n
        · rw [ea, eb]
        · rw [ea, ndn, ndo b hb eb] at he
          exact absurd he.symm (fresh b hb (by simp [eb, hbr]))
      · by_cases eb : b = n
        · rw [eb, ndn, ndo a ha ea] at he
          exact absurd he (fresh a ha (by simp [ea, har]))
        · rw [ndo a ha ea, ndo b hb eb] at he
          exact g2.one a b ha (by simp [ea, har]) hb (by simp [eb, hbr]) he
  have amu : u.a = t.a := by rw [← hu]; rfl
  refine ⟨by rw [hr1], by rw [hr2], by rw [hr1]; exact g1, by rw [hr2]; exact g2, by rw [hr1]; exact l1, by rw [hr1, hr2]; exact l2, by rw [hr1, hr2]; exact fresh, by rw [hr1, hr2]; exact there o1 p1.2, by rw [hr2]; exact there o2 p2.2, ?_⟩
  rw [hstep, hr1, hr2]
  simp only
  rw [hu]
  refine ⟨goodu, by rw [ordu]; exact hord, by rw [amu]; exact hmost, (List.nodup_cons.1 I.nodup).2, fun k hk => ?_, fun k hk => ?_, fun k hk h0 => ?_, fun m hm hmr hv => ?_, denu, ?_⟩
  · obtain ⟨h1, h2, h3, _⟩ := I.rem k (by simp [hk])
    refine ⟨h1, h2, h3, ?_⟩
    obtain ⟨w1, w2, _⟩ := wait k (by simp [hk])
    rw [ndo k w1 fun e => hnr (by rw [← e]; exact hk)]; exact w2
  · obtain ⟨h1, h2⟩ := I.old k hk
    refine ⟨by rw [hasu]; exact le.has k h1, fun hne => ?_⟩
    rw [ndo k (le.has k h1) fun e => hne (by rw [e]; exact hvx), le.nd k h1]
    exact h2 hne
  · rw [hasu] at hk
    rw [ndo k hk fun e => by rw [e, hn0] at h0; cases h0]
    exact newt k hk h0
  · rw [hasu] at hm
    by_cases e : m = n
    · rw [e, ndn]
      exact ⟨fun h => p1.1 (by simp [h]), fun h => p2.1 (by simp [h])⟩
    · rw [ndo m hm e] at hv ⊢
      have := ynot m hm (by simp [e, hmr]) hv
      exact ⟨fun h => this.1 (by simp [h]), fun h => this.2 (by simp [h])⟩
  · rw [amu]
    have h1 := l2.most
    have h2 := l1.most
    omega
theorem SwI.go : ∀ (r : List Int) (s : Md), SwI s0 l x y s r → SwI s0 l x y (Md.swapGo x y s r) []
  | [], s, I => I
  | n :: r, s, I => SwI.go r _ (I.step G0 L).next
end
/-- Behind Swap all is sound, and what was there is what it was. -/
structure Md.Swapped (s s' : Md) : Prop where
  good : s'.Good []
  den : ∀ n f, Den s n f → Den s' n f
  most : s'.a.most = s.a.most
  has : ∀ n, s.has n = true → s'.has n = true
theorem LvXY.of {l : Int} (G : s0.Good []) (h0 : 0 ≤ l) (h1 : l ≤ 6) : LvXY s0 l.toNat (s0.ord.getD l.toNat 0) (s0.ord.getD (l.toNat + 1) 0) := by
  have hl := G.wf.ord.len
  refine ⟨by omega, ?_, ?_⟩
  · rw [List.getD, List.getElem?_eq_getElem (by omega)]; rfl
  · rw [List.getD, List.getElem?_eq_getElem (by omega)]; rfl
theorem Md.Good.swap (G : s0.Good []) (l : Int) : s0.Swapped (s0.swap l).2 ∧ ((s0.swap l).1 = 0 → (s0.swap l).2.ord = swp s0.ord l) ∧ ((s0.swap l).1 ≠ 0 → (s0.swap l).2 = s0) := by
  have bad : ∀ k : Int, k ≠ 0 → s0.Swapped ((k, s0) : Int × Md).2 ∧ (((k, s0) : Int × Md).1 = 0 → ((k, s0) : Int × Md).2.ord = swp s0.ord l) ∧ (((k, s0) : Int × Md).1 ≠ 0 → ((k, s0) : Int × Md).2 = s0) := fun k hk => ⟨⟨G, fun _ _ d => d, rfl, fun _ h => h⟩, fun h => absurd h hk, fun _ => rfl⟩
  unfold Md.swap
  split
  · exact bad 1 (by decide)
  · rename_i h
    have L := LvXY.of G (l := l) (by omega) (by omega)
    split
    · exact bad 2 (by decide)
    · rename_i hr
      have I := SwI.go G L _ _ (SwI.start G L (by omega))
      have e : ((l.toNat : Nat) : Int) = l := by omega
      rw [e] at I
      refine ⟨⟨I.good, I.den, I.most, fun n hn => (I.old n hn).1⟩, fun _ => ?_, fun h => absurd rfl h⟩
      have := I.ord
      rw [e] at this; exact this

/-! ### A node is freed -/
def Md.pointed (s : Md) (n : Int) : Bool := s.all.any fun m => decide ((s.nd m).2.1 = n) || decide ((s.nd m).2.2 = n)
def Md.drop (s : Md) (n : Int) : Md := ⟨s.a.give (n - 2), s.N, s.ord⟩
def Md.free (s : Md) (n : Int) : Int × Md := if s.has n = false ∨ s.pointed n = true then (1, s) else (0, s.drop n)
theorem Md.has_drop (hn : s.has n = true) : (s.drop n).has m = (s.has m && !decide (m = n)) := by
  unfold Md.has Md.drop
  simp only
  rw [Ar.has_give (Md.has_ar hn), ← Bool.and_assoc]
  congr 2
  have : (m - 2 = n - 2) ↔ m = n := by omega
  simp [this]
theorem Md.WF.drop (W : s.WF) (hn : s.has n = true) : (s.drop n).WF ∧ (s.drop n).a.many = s.a.many - 1 :=
  ⟨⟨(W.ar.given (Md.has_ar hn)).1, by simp only [Md.drop, Ar.give, List.length_set]; exact W.len, W.ord⟩, (W.ar.given (Md.has_ar hn)).2⟩
theorem Md.WF.pointed_no (W : s.WF) (h : s.pointed n = false) (hm : s.has m = true) : (s.nd m).2.1 ≠ n ∧ (s.nd m).2.2 ≠ n := by
  unfold Md.pointed at h
  rw [List.any_eq_false] at h
  have := h m (W.mem_all.2 hm)
  simpa using this
theorem Den.drop (W : s.WF) (hn : s.has n = true) (hp : s.pointed n = false) (d : Den s m f) : m ≠ n → Den (s.drop n) m f := by
  induction d with
  | c0 => intro _; exact .c0
  | c1 => intro _; exact .c1
  | @node m v lo hi f0 f1 h hx _ _ ih0 ih1 =>
    intro hne
    have := W.pointed_no hp h
    rw [hx] at this
    exact .node (by rw [Md.has_drop hn, h]; simp [hne]) hx (ih0 this.1) (ih1 this.2)
theorem Md.Good.drop (G : s.Good []) (hn : s.has n = true) (hp : s.pointed n = false) : (s.drop n).Good [] := by
  have hc : ∀ m, (s.drop n).has m = true → s.has m = true ∧ m ≠ n := fun m hm => by
    rw [Md.has_drop hn, Bool.and_eq_true] at hm
    exact ⟨hm.1, by simpa using hm.2⟩
  refine ⟨(G.wf.drop hn).1, fun k hk => (by cases hk), fun m hm _ => ?_, fun a b ha _ hb _ he => G.one a b (hc a ha).1 (by simp) (hc b hb).1 (by simp) he⟩
  have ok := G.node m (hc m hm).1 (by simp)
  have hpn := G.wf.pointed_no hp (hc m hm).1
  have key : ∀ c v, c ≠ n → s.below c v = true → (s.drop n).below c v = true := fun c v hcn hb => by
    rcases Md.below_iff.1 hb with e | e | ⟨e1, e2⟩
    · exact Md.below_iff.2 (.inl e)
    · exact Md.below_iff.2 (.inr (.inl e))
    · exact Md.below_iff.2 (.inr (.inr ⟨by rw [Md.has_drop hn, e1]; simp [hcn], e2⟩))
  exact ⟨ok.var, ok.ne, key _ _ hpn.1 ok.lo, key _ _ hpn.2 ok.hi⟩
theorem Md.Good.free (G : s.Good []) (n : Int) : (s.free n).2.Good [] ∧ (s.free n).2.ord = s.ord ∧ (s.free n).2.a.most = s.a.most := by
  unfold Md.free
  split
  · exact ⟨G, rfl, rfl⟩
  · rename_i h
    have h1 : s.has n = true := by cases hh : s.has n; exact absurd (.inl hh) h; rfl
    have h2 : s.pointed n = false := by cases hh : s.pointed n; rfl; exact absurd (.inr hh) h
    exact ⟨G.drop h1 h2, rfl, rfl⟩
/-- A store of none. -/
def Md.new (most : Int) : Md := ⟨⟨most, [], []⟩, [], plain⟩
theorem Md.Good.start {most : Int} (h0 : 0 ≤ most) (h1 : most ≤ 20000) : (Md.new most).Good [] := by
  have hno : ∀ n, (Md.new most).has n = false := fun n => by unfold Md.has Md.new Ar.has; simp
  exact ⟨⟨Ar.OK.start h0 h1, rfl, OrdOK.plain⟩, fun n h => (by cases h), fun n hn => (by rw [hno] at hn; cases hn), fun m n hm => (by rw [hno] at hm; cases hm)⟩
end
end Go.Bx

/- Layer 7: a store in memory. -/
namespace Go.Proofs.Ytpeindhocndmnaa
open Go Go.Bx
set_option linter.unusedSimpArgs false
set_option linter.unusedVariables false
set_option maxRecDepth 100000
set_option maxHeartbeats 4000000
attribute [local irreducible] X XO XE XF XD XW thenX inX retX kN CallsR
/-- A node's cells. -/
def rowN (x : Nd) : List Value := [.int .i64 x.1, .int .i64 x.2.1, .int .i64 x.2.2]
def ndV (x : Nd) : Value := .agg #[.int .i64 x.1, .int .i64 x.2.1, .int .i64 x.2.2]
theorem rowN_len {N : List Nd} : ∀ r ∈ N.map rowN, r.length = 3 := fun r hr => by obtain ⟨f, _, rfl⟩ := List.mem_map.1 hr; rfl
theorem rowN_cells {N : List Nd} : (N.map rowN).flatten.all isCell = true := by
  rw [List.all_eq_true]
  intro x hx
  obtain ⟨r, hr, hx⟩ := List.mem_flatten.1 hx
  obtain ⟨f, _, rfl⟩ := List.mem_map.1 hr
  simp only [rowN, List.mem_cons, List.not_mem_nil, or_false] at hx
  rcases hx with rfl | rfl | rfl <;> rfl
abbrev SlN (w : World) (a : Option Addr) (cap : Nat) (N : List Nd) : Prop := Sl w 39 3 a cap (N.map rowN)
section
variable {w w' : World} {a : Option Addr} {cap : Nat} {N : List Nd}
theorem SlN.ne (h : SlN w a cap N) {g b : Nat} {c : Array Value} {E' : Nat} {fz : Nat × Nat} (hg : blk a = some g) (hb : w.heap[b]? = some (.cells c E' fz)) (hE : 39 ≠ E') : g ≠ b := by
  rintro rfl
  obtain ⟨c2, h2⟩ := h.l.tag hg
  rw [h2] at hb
  simp only [Option.some.injEq, Obj.cells.injEq] at hb
  exact hE hb.2.1
theorem SlN.at (h : SlN w a cap N) {k : Nat} {v lo hi : Int} (hx : N[k]? = some (v, lo, hi)) :
    ∃ g cur, a = some ⟨g, 0, none⟩ ∧ w.heap[g]? = some (.cells cur 39 (0, 0)) ∧ N.length ≤ cap ∧ k < N.length ∧ cur[k * 3]? = some (.int .i64 v) ∧ cur[k * 3 + 1]? = some (.int .i64 lo) ∧ cur[k * 3 + 2]? = some (.int .i64 hi) ∧ k * 3 + 3 ≤ cur.size ∧ cur.extract (k * 3) (k * 3 + 3) = #[.int .i64 v, .int .i64 lo, .int .i64 hi] := by
  obtain ⟨g, cur, h1, h2, h3, h4, h5⟩ := Sl.at h (i := k) (x := rowN (v, lo, hi)) (by rw [List.getElem?_map, hx]; rfl)
  rw [List.length_map] at h3 h4
  have c0 := h5 0 _ rfl
  have c1 := h5 1 _ rfl
  have c2 := h5 2 _ rfl
  rw [Nat.add_zero] at c0
  have hs := (Array.getElem?_eq_some_iff.1 c2).1
  refine ⟨g, cur, h1, h2, h3, h4, c0, c1, c2, by omega, ?_⟩
  apply Array.ext_getElem?
  intro j
  rw [Array.getElem?_extract]
  match j with
  | 0 => rw [if_pos (by omega), Nat.add_zero]; exact c0
  | 1 => rw [if_pos (by omega)]; exact c1
  | 2 => rw [if_pos (by omega)]; exact c2
  | j + 3 => rw [if_neg (by omega)]; simp
theorem SlN.set {g : Nat} {cur : Array Value} (h : SlN w (some ⟨g, 0, none⟩) cap N) (hg : w.heap[g]? = some (.cells cur 39 (0, 0))) {k : Nat} (hk : k < N.length) (x : Nd) :
    SlN (upd w g (.cells (((cur.setIfInBounds (k * 3) (.int .i64 x.1)).setIfInBounds (k * 3 + 1) (.int .i64 x.2.1)).setIfInBounds (k * 3 + 2) (.int .i64 x.2.2)) 39 (0, 0))) (some ⟨g, 0, none⟩) cap (N.set k x) := by
  have hlt := lt_of_heap hg
  have h0 := Sl.set h hg (i := k) (j := 0) (x := rowN N[k]) (by rw [List.getElem?_map, List.getElem?_eq_getElem hk]; rfl) (by decide) (.int .i64 x.1)
  rw [Nat.add_zero] at h0
  have h1 := Sl.set h0 (upd_same hlt) (i := k) (j := 1) (x := (rowN N[k]).set 0 (.int .i64 x.1)) (by rw [List.getElem?_set_self (by simpa using hk)]) (by decide) (.int .i64 x.2.1)
  rw [upd_upd] at h1
  have h2 := Sl.set h1 (upd_same hlt) (i := k) (j := 2) (x := ((rowN N[k]).set 0 (.int .i64 x.1)).set 1 (.int .i64 x.2.1)) (by rw [List.getElem?_set_self (by simpa using hk)]) (by decide) (.int .i64 x.2.2)
  rw [upd_upd] at h2
  have e : (N.set k x).map rowN = ((((N.map rowN).set k ((rowN N[k]).set 0 (.int .i64 x.1))).set k (((rowN N[k]).set 0 (.int .i64 x.1)).set 1 (.int .i64 x.2.1))).set k ((((rowN N[k]).set 0 (.int .i64 x.1)).set 1 (.int .i64 x.2.1)).set 2 (.int .i64 x.2.2))) := by
    rw [List.set_set, List.set_set, List.map_set]; rfl
  unfold SlN; rw [e]; exact h2
theorem SlN.push (h : SlN w a cap N) (hm : N.length ≤ 1000000) (x : Nd) :
    ∃ a' cap' w', apR Try.prog 116 (.slice a N.length cap) (.slice (some ⟨w.heap.size, 0, none⟩) 1 1) (w.alloc (.cells #[.int .i64 x.1, .int .i64 x.2.1, .int .i64 x.2.2] 39)) = .ok (.slice a' (N.length + 1) cap') w' ∧
      SlN w' a' cap' (N ++ [x]) ∧ Chg (fun k => blk a = some k) w w' ∧ w.heap.size < w'.heap.size ∧ (∀ g, blk a' = some g → blk a = some g ∨ (w.heap.size ≤ g ∧ g < w'.heap.size)) := by
  obtain ⟨a2, c2, w2, hr, hS2, hC2, hs2, hB2⟩ := Sl.push (news := [rowN x]) h T116 (TI.mk' (sz := 3) (by_ := 24) (z := Value.agg #[Value.int IntKind.i64 0, Value.int IntKind.i64 0, Value.int IntKind.i64 0]) Try.underlying39 (by kernel_rfl)) rfl (by decide) (b0 := w.heap.size) (m := 1) (c := 1) (us := #[.int .i64 x.1, .int .i64 x.2.1, .int .i64 x.2.2]) rfl rfl rfl (fun r hr => by rw [List.mem_singleton] at hr; subst hr; rfl) rfl (by rw [List.length_map]; simp; omega) (by decide)
  rw [List.length_map, show ((N.map rowN) ++ [rowN x]).length = N.length + 1 by simp] at hr
  exact ⟨a2, c2, w2, hr, by unfold SlN; rw [List.map_append]; exact hS2, hC2, hs2, hB2⟩
end
/-- All that a store has. -/
structure Raw where
  a : Ar
  N : List Nd
  R : List Int
  ord : List Int
  M : Nat → Ky → Option Int
  c : Nat → Int
/-- The cells of a store. -/
structure StC (cs : Array Value) (most : Int) (pa : Nat) (na : Option Addr) (nl nc : Nat) (ra : Option Addr) (rl rc : Nat) (pu : Nat → Nat) (oc : Array Value) : Prop where
  size : cs.size = 20
  c0 : cs[0]? = some (.int .i64 most)
  c1 : cs[1]? = some (.pointer (some ⟨pa, 0, none⟩))
  c2 : cs[2]? = some (.slice na nl nc)
  c3 : cs[3]? = some (.slice ra rl rc)
  cu : ∀ v : Nat, v < 8 → cs[4 + v]? = some (.pointer (some ⟨pu v, 0, none⟩))
  co : cs.extract 12 20 = oc
theorem StC.setN {cs : Array Value} {most : Int} {pa : Nat} {na ra : Option Addr} {nl nc rl rc : Nat} {pu : Nat → Nat} {oc : Array Value} (h : StC cs most pa na nl nc ra rl rc pu oc) (na' : Option Addr) (nl' nc' : Nat) :
    StC (cs.setIfInBounds 2 (.slice na' nl' nc')) most pa na' nl' nc' ra rl rc pu oc := by
  have hs := h.size
  refine ⟨by rw [Array.size_setIfInBounds]; exact hs, ?_, ?_, ?_, ?_, fun v hv => ?_, ?_⟩
  · rw [Array.getElem?_setIfInBounds_ne (by omega)]; exact h.c0
  · rw [Array.getElem?_setIfInBounds_ne (by omega)]; exact h.c1
  · rw [Array.getElem?_setIfInBounds_self_of_lt (by omega)]
  · rw [Array.getElem?_setIfInBounds_ne (by omega)]; exact h.c3
  · rw [Array.getElem?_setIfInBounds_ne (by omega)]; exact h.cu v hv
  · rw [← h.co]
    apply Array.ext_getElem?
    intro j
    rw [Array.getElem?_extract, Array.getElem?_extract, Array.size_setIfInBounds, Array.getElem?_setIfInBounds_ne (by omega)]
theorem StC.setR {cs : Array Value} {most : Int} {pa : Nat} {na ra : Option Addr} {nl nc rl rc : Nat} {pu : Nat → Nat} {oc : Array Value} (h : StC cs most pa na nl nc ra rl rc pu oc) (ra' : Option Addr) (rl' rc' : Nat) :
    StC (cs.setIfInBounds 3 (.slice ra' rl' rc')) most pa na nl nc ra' rl' rc' pu oc := by
  have hs := h.size
  refine ⟨by rw [Array.size_setIfInBounds]; exact hs, ?_, ?_, ?_, ?_, fun v hv => ?_, ?_⟩
  · rw [Array.getElem?_setIfInBounds_ne (by omega)]; exact h.c0
  · rw [Array.getElem?_setIfInBounds_ne (by omega)]; exact h.c1
  · rw [Array.getElem?_setIfInBounds_ne (by omega)]; exact h.c2
  · rw [Array.getElem?_setIfInBounds_self_of_lt (by omega)]
  · rw [Array.getElem?_setIfInBounds_ne (by omega)]; exact h.cu v hv
  · rw [← h.co]
    apply Array.ext_getElem?
    intro j
    rw [Array.getElem?_extract, Array.getElem?_extract, Array.size_setIfInBounds, Array.getElem?_setIfInBounds_ne (by omega)]
theorem wrN_size : ∀ (vs : List Value) (c : Array Value) (o : Nat), (wrN c o vs).size = c.size
  | [], _, _ => rfl
  | v :: r, c, o => by rw [wrN_cons, wrN_size r, Array.size_setIfInBounds]
theorem wrN_get : ∀ (vs : List Value) (c : Array Value) (o j : Nat), o + vs.length ≤ c.size → (wrN c o vs)[j]? = if o ≤ j ∧ j < o + vs.length then vs[j - o]? else c[j]?
  | [], c, o, j, _ => by
    rw [wrN_nil]
    split
    · rename_i h; simp at h; omega
    · rfl
  | v :: r, c, o, j, h => by
    rw [List.length_cons] at h
    rw [wrN_cons, wrN_get r _ _ _ (by rw [Array.size_setIfInBounds]; omega), List.length_cons]
    by_cases h1 : j = o
    · subst h1
      rw [if_neg (by omega), if_pos (by omega), Nat.sub_self, Array.getElem?_setIfInBounds_self_of_lt (by omega)]; rfl
    · by_cases h2 : o + 1 ≤ j ∧ j < o + 1 + r.length
      · rw [if_pos h2, if_pos (by omega), show j - o = (j - (o + 1)) + 1 by omega]; rfl
      · rw [if_neg h2, if_neg (by omega), Array.getElem?_setIfInBounds_ne (by omega)]
theorem StC.setO {cs : Array Value} {most : Int} {pa : Nat} {na ra : Option Addr} {nl nc rl rc : Nat} {pu : Nat → Nat} {oc oc' : Array Value} (h : StC cs most pa na nl nc ra rl rc pu oc) (ho : oc'.size = 8) :
    StC (wrN cs 12 oc'.toList) most pa na nl nc ra rl rc pu oc' := by
  have hs := h.size
  have hl : oc'.toList.length = 8 := by rw [Array.length_toList]; exact ho
  have hg := fun j => wrN_get oc'.toList cs 12 j (by omega)
  have lo : ∀ j, j < 12 → (wrN cs 12 oc'.toList)[j]? = cs[j]? := fun j hj => by rw [hg, if_neg (by omega)]
  refine ⟨by rw [wrN_size]; exact hs, by rw [lo 0 (by omega)]; exact h.c0, by rw [lo 1 (by omega)]; exact h.c1, by rw [lo 2 (by omega)]; exact h.c2, by rw [lo 3 (by omega)]; exact h.c3, fun v hv => by rw [lo _ (by omega)]; exact h.cu v hv, ?_⟩
  apply Array.ext_getElem?
  intro j
  rw [Array.getElem?_extract, wrN_size, hs]
  by_cases hj : j < 8
  · rw [if_pos (by omega), hg, if_pos (by omega), show 12 + j - 12 = j by omega, Array.getElem?_toList]
  · rw [if_neg (by omega), Array.getElem?_eq_none (by omega)]
def owns (own : Nat → Nat) (c : Nat) : Nat → Prop := fun k => own k = c
/-- A store in memory; own tells of each block to which part of it it belongs. -/
structure StX (own : Nat → Nat) (w : World) (p : Nat) (s : Raw) (pa : Nat) (na : Option Addr) (nc : Nat) (ra : Option Addr) (rc : Nat) (pu : Nat → Nat) (cs oc : Array Value) : Prop where
  at_ : w.heap[p]? = some (.cells cs 120)
  cs : StC cs s.a.most pa na s.N.length nc ra s.R.length rc pu oc
  oc : OrdC s.ord oc
  op : own p = 1
  ar : ArI (owns own 2) w pa s.a
  no : SlN w na nc s.N
  on : ∀ g, blk na = some g → own g = 3
  re : SlC w 3 ra rc (s.R.map (.int .i64))
  or : ∀ g, blk ra = some g → own g = 4
  un : ∀ v, v < 8 → UqM (owns own (10 + v)) w (pu v) (s.M v) (s.c v)
  lt : ∀ k, own k ≠ 0 → k < w.heap.size
def StR (own : Nat → Nat) (w : World) (p : Nat) (s : Raw) : Prop := ∃ pa na nc ra rc pu cs oc, StX own w p s pa na nc ra rc pu cs oc
/-- Whose what is new is. -/
def ownUp (own : Nat → Nat) (w w' : World) (c : Nat) : Nat → Nat := fun k => if w.heap.size ≤ k ∧ k < w'.heap.size then c else own k
section
variable {own : Nat → Nat} {w w' : World} {p : Nat} {s : Raw} {c d : Nat}
theorem owns_up_self : owns (ownUp own w w' c) c = Grow (owns own c) w w' := funext fun k => propext (by
  unfold owns ownUp Grow
  split
  · rename_i h; simp [h]
  · rename_i h; constructor
    · exact .inl
    · rintro (h' | h')
      · exact h'
      · exact absurd h' h)
theorem owns_up_other (hlt : ∀ k, own k ≠ 0 → k < w.heap.size) (h0 : d ≠ 0) (hd : d ≠ c) : owns (ownUp own w w' c) d = owns own d := funext fun k => propext (by
  unfold owns ownUp
  split
  · rename_i h
    constructor
    · intro e; omega
    · intro e; have := hlt k (by omega); omega
  · exact Iff.rfl)
theorem ownUp_old {k : Nat} (hk : k < w.heap.size) : ownUp own w w' c k = own k := if_neg (by omega)
theorem ownUp_ne0 {k : Nat} (hc : c ≠ 0) : ownUp own w w' c k ≠ 0 ↔ Grow (fun k => own k ≠ 0) w w' k := by
  unfold ownUp Grow
  split
  · rename_i h; simp [h, hc]
  · rename_i h; constructor
    · exact .inl
    · rintro (h' | h')
      · exact h'
      · exact absurd h' h
theorem ownUp_lt (hlt : ∀ k, own k ≠ 0 → k < w.heap.size) (hs : w.heap.size ≤ w'.heap.size) (hc : c ≠ 0) : ∀ k, ownUp own w w' c k ≠ 0 → k < w'.heap.size := fun k hk => by
  rcases (ownUp_ne0 hc).1 hk with h | h
  · exact Nat.lt_of_lt_of_le (hlt k h) hs
  · exact h.2
/-- One part is turned; the others stay. -/
theorem StX.turn {pa : Nat} {na : Option Addr} {nc : Nat} {ra : Option Addr} {rc : Nat} {pu : Nat → Nat} {cs oc : Array Value} (h : StX own w p s pa na nc ra rc pu cs oc) (hC : Chg (owns own c) w w') (hc : c ≠ 0) :
    (c ≠ 1 → w'.heap[p]? = some (.cells cs 120)) ∧ ownUp own w w' c p = 1 ∧ (c ≠ 2 → ArI (owns (ownUp own w w' c) 2) w' pa s.a) ∧ (c ≠ 3 → SlN w' na nc s.N) ∧ (∀ g, blk na = some g → ownUp own w w' c g = 3) ∧
    (c ≠ 4 → SlC w' 3 ra rc (s.R.map (.int .i64))) ∧ (∀ g, blk ra = some g → ownUp own w w' c g = 4) ∧ (∀ v, v < 8 → c ≠ 10 + v → UqM (owns (ownUp own w w' c) (10 + v)) w' (pu v) (s.M v) (s.c v)) ∧ (∀ k, ownUp own w w' c k ≠ 0 → k < w'.heap.size) := by
  have kp : ∀ d, d ≠ c → ∀ k, owns own d k → k < w.heap.size → w'.heap[k]? = w.heap[k]? := fun d hd k hk hl => hC.heap k hl fun hf => hd (hk.symm.trans hf)
  refine ⟨fun h1 => ?_, ?_, fun h2 => ?_, fun h3 => ?_, fun g hg => ?_, fun h4 => ?_, fun g hg => ?_, fun v hv h5 => ?_, ownUp_lt h.lt hC.size hc⟩
  · rw [kp 1 (Ne.symm h1) p h.op (lt_of_heap h.at_)]; exact h.at_
  · rw [ownUp_old (lt_of_heap h.at_)]; exact h.op
  · rw [owns_up_other h.lt (by decide) (Ne.symm h2)]
    exact h.ar.keep (fun k hk => kp 2 (Ne.symm h2) k hk (h.ar.lt k hk)) hC.size
  · exact Sl.keep h.no fun g hg => kp 3 (Ne.symm h3) g (h.on g hg) (Sl.lt h.no hg)
  · rw [ownUp_old (Sl.lt h.no hg)]; exact h.on g hg
  · exact h.re.keep fun g hg => kp 4 (Ne.symm h4) g (h.or g hg) (h.re.lt hg)
  · rw [ownUp_old (h.re.lt hg)]; exact h.or g hg
  · rw [owns_up_other h.lt (by omega) (Ne.symm h5)]
    have hu := h.un v hv
    exact hu.keep (fun k hk => kp (10 + v) (Ne.symm h5) k hk (hu.lt k hk)) hC.size
theorem StR.lt (h : StR own w p s) : ∀ k, own k ≠ 0 → k < w.heap.size := by obtain ⟨_, _, _, _, _, _, _, _, h⟩ := h; exact h.lt
theorem StR.op (h : StR own w p s) : own p = 1 := by obtain ⟨_, _, _, _, _, _, _, _, h⟩ := h; exact h.op
theorem StX.ext {pa : Nat} {na : Option Addr} {nc : Nat} {ra : Option Addr} {rc : Nat} {pu : Nat → Nat} {cs oc : Array Value} (h : StX own w p s pa na nc ra rc pu cs oc) (hE : Ext w w') : StX own w' p s pa na nc ra rc pu cs oc :=
  ⟨hE.at h.at_, h.cs, h.oc, h.op, h.ar.ext hE, h.no.ext hE, h.on, h.re.ext hE, h.or, fun v hv => (h.un v hv).ext hE, fun k hk => Nat.lt_of_lt_of_le (h.lt k hk) hE.size⟩
theorem StR.ext (h : StR own w p s) (hE : Ext w w') : StR own w' p s := by
  obtain ⟨pa, na, nc, ra, rc, pu, cs, oc, h⟩ := h
  exact ⟨pa, na, nc, ra, rc, pu, cs, oc, h.ext hE⟩
/-- What is new is the store's, of no part. -/
theorem StR.grown (h : StR own w p s) (hE : Ext w w') : StR (ownUp own w w' 5) w' p s := by
  obtain ⟨pa, na, nc, ra, rc, pu, cs, oc, h⟩ := h
  obtain ⟨h1, h2, h3, h4, h5, h6, h7, h8, h9⟩ := h.turn (c := 5) (hE.chg _) (by decide)
  exact ⟨pa, na, nc, ra, rc, pu, cs, oc, h1 (by decide), h.cs, h.oc, h2, h3 (by decide), h4 (by decide), h5, h6 (by decide), h7, fun v hv => h8 v hv (by omega), h9⟩
/-- A footprint. -/
def foot (own : Nat → Nat) : Nat → Prop := fun k => own k ≠ 0
theorem foot_up (hc : c ≠ 0) : foot (ownUp own w w' c) = Grow (foot own) w w' := funext fun k => propext (ownUp_ne0 hc)
theorem Chg.foot (h : Chg (owns own c) w w') (hc : c ≠ 0) : Chg (foot own) w w' := h.mono fun k _ hk => by unfold owns at hk; unfold Go.Proofs.Ytpeindhocndmnaa.foot; omega
end
end Go.Proofs.Ytpeindhocndmnaa

/- Walks of layer 7: what is asked of a store. -/
namespace Go.Proofs.Ytpeindhocndmnaa
open Go Go.Bx
set_option linter.unusedSimpArgs false
set_option linter.unusedVariables false
set_option maxRecDepth 100000
set_option maxHeartbeats 4000000
attribute [local irreducible] X XO XE XF XD XW thenX inX retX kN CallsR
def Raw.md (s : Raw) : Md := ⟨s.a, s.N, s.ord⟩
theorem OrdC.len {ord : List Int} {cs : Array Value} (h : OrdC ord cs) : ord.length = 8 := by
  have := h.len8
  rw [h.vc, List.length_map] at this; exact this
theorem level_oc {ord : List Int} {oc : Array Value} (h : OrdC ord oc) (v : Int) : Sure Try.prog 122 #[.agg oc, .int .i64 v] (.int .i64 (lvl ord v)) := by
  have := level_calls ord h.len v
  rw [h.agg] at this; exact this
section
variable {own : Nat → Nat} {w w' : World} {p : Nat} {s : Raw} {n v : Int}
theorem stHas_calls (h : StR own w p s) (n : Int) (hn : n ≤ 9223372036854775807) : Quiet Try.prog 93 #[.pointer (some ⟨p, 0, none⟩), .int .i64 n] w (.bool (s.md.has n)) := by
  intro u hu
  have h := h.ext hu
  clear hu
  obtain ⟨pa, na, nc, ra, rc, pu, sc, oc, h⟩ := h
  have hp := h.at_
  have c1 := h.cs.c1
  have hsz := h.cs.size
  have c2 := arHas_calls h.ar (n - 2)
  have hm : (decide (2 ≤ n) && s.a.has (n - 2)) = s.md.has n := rfl
  by_cases h2 : 2 ≤ n
  · have hm : s.a.has (n - 2) = s.md.has n := by rw [← hm]; simp [h2]
    rw [hm] at c2
    clear h hm
    refine en2 Try.func93 Try.results93 mixed [] ?_
    intro e0 h0 h1
    refine w_ fun d => ?_
    refine callQ c2.call fun w1 hE1 hs1 => ?_
    refine w_ fun d => ?_
    exact ⟨rfl, ext_⟩
  · have hm : s.md.has n = false := by rw [← hm]; simp [h2]
    rw [hm]
    clear h hm
    refine en2 Try.func93 Try.results93 mixed [] ?_
    intro e0 h0 h1
    refine w_ fun d => ?_
    exact ⟨rfl, ext_⟩
theorem Raw.nd (hn : s.md.has n = true) (hl : s.N.length = s.a.T.length) : ∃ v lo hi, s.md.nd n = (v, lo, hi) ∧ s.N[(n - 2).toNat]? = some (v, lo, hi) ∧ 2 ≤ n ∧ n - 2 < s.N.length := by
  have h1 := Md.has_ge hn
  have h2 : s.a.has (n - 2) = true := Md.has_ar hn
  have h3 := Ar.has_lt h2
  obtain ⟨x, hx⟩ : ∃ x, s.md.nd n = x := ⟨_, rfl⟩
  obtain ⟨v, lo, hi⟩ := x
  rw [hx]
  refine ⟨v, lo, hi, rfl, ?_, h1, by omega⟩
  rw [← hx]
  unfold Md.nd
  rw [List.getElem?_eq_getElem (show (n - 2).toNat < s.N.length by omega), List.getD]
  show _ = some ((s.N[(n - 2).toNat]?).getD _)
  rw [List.getElem?_eq_getElem (show (n - 2).toNat < s.N.length by omega)]; rfl
theorem stLevel_calls (h : StR own w p s) {lo hi : Int} (hx : s.N[(n - 2).toNat]? = some (v, lo, hi)) (h2 : 2 ≤ n) (hn : n ≤ 9223372036854775807) : Quiet Try.prog 154 #[.pointer (some ⟨p, 0, none⟩), .int .i64 n] w (.int .i64 (lvl s.ord v)) := by
  intro u hu
  have h := h.ext hu
  clear hu
  obtain ⟨pa, na, nc, ra, rc, pu, sc, oc, h⟩ := h
  obtain ⟨g, cur, rfl, hg, hc, hlt, x0, x1, x2, hsz3, hex⟩ := h.no.at hx
  have hp := h.at_
  have c2 := h.cs.c2
  have co := h.cs.co
  have hsz := h.cs.size
  have hl := level_oc h.oc v
  have hpl := lt_of_heap hp
  have hgl := lt_of_heap hg
  have h2' : 0 ≤ n - 2 := by omega
  have h3' : n - 2 < s.N.length := by omega
  clear h hx
  refine en2 Try.func154 Try.results154 mixed [] ?_
  intro e0 h0 h1
  refine w_ fun d => ?_
  intro w1 hE1 hs1
  refine w_ fun d => ?_
  exact ⟨rfl, ext_⟩
theorem stBelow_calls (h : StR own w p s) (hl : s.N.length = s.a.T.length) (n v : Int) (hn : n ≤ 9223372036854775807) : Quiet Try.prog 129 #[.pointer (some ⟨p, 0, none⟩), .int .i64 n, .int .i64 v] w (.bool (s.md.below n v)) := by
  intro u hu
  have h := h.ext hu
  clear hu
  have c1 := stHas_calls h n hn
  have hbd : s.md.below n v = (decide (n = 0) || (decide (n = 1) || (s.md.has n && decide (lvl s.ord v < lvl s.ord (s.md.nd n).1)))) := rfl
  by_cases e0 : n = 0
  · subst e0
    have : s.md.below 0 v = true := by rw [hbd]; simp
    rw [this]
    clear h c1 hbd
    refine en3 Try.func129 Try.results129 mixed [] ?_
    intro e0 h0 h1 h2
    refine w_ fun d => ?_
    exact ⟨rfl, ext_⟩
  by_cases e1 : n = 1
  · subst e1
    have : s.md.below 1 v = true := by rw [hbd]; simp
    rw [this]
    clear h c1 hbd
    refine en3 Try.func129 Try.results129 mixed [] ?_
    intro e0 h0 h1 h2
    refine w_ fun d => ?_
    exact ⟨rfl, ext_⟩
  have b0 : (n == 0) = false := by simpa using e0
  have b1 : (n == 1) = false := by simpa using e1
  cases hh : s.md.has n
  · have : s.md.below n v = false := by rw [hbd, hh]; simp [e0, e1]
    rw [this]
    rw [hh] at c1
    clear h hbd e0 e1
    refine en3 Try.func129 Try.results129 mixed [] ?_
    intro e0 h0 h1 h2
    refine w_ fun d => ?_
    intro w1 hE1 hs1
    refine w_ fun d => ?_
    exact ⟨rfl, ext_⟩
  · obtain ⟨x, lo, hi, hnd, hx, h2', _⟩ := Raw.nd hh hl
    have : s.md.below n v = decide (lvl s.ord v < lvl s.ord x) := by rw [hbd, hh, hnd]; simp [e0, e1]
    rw [this]
    rw [hh] at c1
    have c2 := stLevel_calls h hx h2' hn
    obtain ⟨pa, na, nc, ra, rc, pu, sc, oc, h⟩ := h
    have hp := h.at_
    have co := h.cs.co
    have hsz := h.cs.size
    have hpl := lt_of_heap hp
    have c3 := level_oc h.oc v
    clear h hbd e0 e1 hx hh hnd this
    refine en3 Try.func129 Try.results129 mixed [] ?_
    intro e0 h0 h1 h2
    refine w_ fun d => ?_
    intro w1 hE1 hs1
    refine w_ fun d => ?_
    exact ⟨rfl, ext_⟩
end
end Go.Proofs.Ytpeindhocndmnaa

/- Walks of layer 7: what turns a store's parts. -/
namespace Go.Proofs.Ytpeindhocndmnaa
open Go Go.Bx
set_option linter.unusedSimpArgs false
set_option linter.unusedVariables false
set_option maxRecDepth 100000
set_option maxHeartbeats 4000000
attribute [local irreducible] X XO XE XF XD XW thenX inX retX kN CallsR
section
variable {own own1 own2 : Nat → Nat} {w w' w1 w2 : World} {p : Nat} {s s' s1 s2 : Raw} {c : Nat}
theorem ownUp_same (h : w'.heap.size = w.heap.size) : ownUp own w w' c = own := funext fun k => if_neg (by omega)
/-- What comes of a call that turns a store. -/
def TrO (own : Nat → Nat) (w : World) (p : Nat) (s' : Raw) (w' : World) : Prop := ∃ own', StR own' w' p s' ∧ (∀ k, k < w.heap.size → own' k = own k) ∧ Chg (foot own) w w'
theorem TrO.of_ext (h : StR own w p s) (hE : Ext w w') : TrO own w p s w' := ⟨own, h.ext hE, fun _ _ => rfl, hE.chg _⟩
theorem TrO.trans (h : StR own1 w1 p s1) (ho : ∀ k, k < w.heap.size → own1 k = own k) (hC : Chg (foot own) w w1) (k : TrO own1 w1 p s2 w2) : TrO own w p s2 w2 := by
  obtain ⟨own2, h2, ho2, hC2⟩ := k
  have hs := hC.size
  exact ⟨own2, h2, fun k hk => (ho2 k (by omega)).trans (ho k hk), hC.trans hC2 fun b hb hf => by unfold foot at hf ⊢; rw [← ho b hb]; exact hf⟩
/-- A part is laid anew. -/
theorem StX.setNode {pa : Nat} {nc : Nat} {ra : Option Addr} {rc g : Nat} {pu : Nat → Nat} {sc oc cur : Array Value} (h : StX own w p s pa (some ⟨g, 0, none⟩) nc ra rc pu sc oc) (hg : w.heap[g]? = some (.cells cur 39 (0, 0))) {k : Nat} (hk : k < s.N.length) (x : Nd) :
    StX own (upd w g (.cells (((cur.setIfInBounds (k * 3) (.int .i64 x.1)).setIfInBounds (k * 3 + 1) (.int .i64 x.2.1)).setIfInBounds (k * 3 + 2) (.int .i64 x.2.2)) 39 (0, 0))) p { s with N := s.N.set k x } pa (some ⟨g, 0, none⟩) nc ra rc pu sc oc ∧
    Chg (owns own 3) w (upd w g (.cells (((cur.setIfInBounds (k * 3) (.int .i64 x.1)).setIfInBounds (k * 3 + 1) (.int .i64 x.2.1)).setIfInBounds (k * 3 + 2) (.int .i64 x.2.2)) 39 (0, 0))) := by
  have hC := (Chg.refl (owns own 3) w).upd (b := g) (fun _ => h.on g rfl) (.cells (((cur.setIfInBounds (k * 3) (.int .i64 x.1)).setIfInBounds (k * 3 + 1) (.int .i64 x.2.1)).setIfInBounds (k * 3 + 2) (.int .i64 x.2.2)) 39 (0, 0))
  have hn := h.no.set hg hk x
  refine ⟨?_, hC⟩
  obtain ⟨h1, h2, h3, h4, h5, h6, h7, h8, h9⟩ := h.turn hC (by decide)
  rw [ownUp_same (by simp only [upd_size])] at h2 h3 h5 h7 h8 h9
  exact ⟨h1 (by decide), by rw [List.length_set]; exact h.cs, h.oc, h2, h3 (by decide), hn, h5, h6 (by decide), h7, fun v hv => h8 v hv (by omega), h9⟩
theorem StX.setRef {pa : Nat} {na : Option Addr} {nc : Nat} {rc g : Nat} {pu : Nat → Nat} {sc oc cur : Array Value} (h : StX own w p s pa na nc (some ⟨g, 0, none⟩) rc pu sc oc) (hg : w.heap[g]? = some (.cells cur 3 (0, 0))) {k : Nat} (hk : k < s.R.length) (x : Int) :
    StX own (upd w g (.cells (cur.setIfInBounds k (.int .i64 x)) 3 (0, 0))) p { s with R := s.R.set k x } pa na nc (some ⟨g, 0, none⟩) rc pu sc oc ∧ Chg (owns own 4) w (upd w g (.cells (cur.setIfInBounds k (.int .i64 x)) 3 (0, 0))) := by
  have hC := (Chg.refl (owns own 4) w).upd (b := g) (fun _ => h.or g rfl) (.cells (cur.setIfInBounds k (.int .i64 x)) 3 (0, 0))
  have hn := h.re.set hg (i := k) (by rw [List.length_map]; exact hk) (.int .i64 x)
  rw [← List.map_set] at hn
  refine ⟨?_, hC⟩
  obtain ⟨h1, h2, h3, h4, h5, h6, h7, h8, h9⟩ := h.turn hC (by decide)
  rw [ownUp_same (by simp only [upd_size])] at h2 h3 h5 h7 h8 h9
  exact ⟨h1 (by decide), by rw [List.length_set]; exact h.cs, h.oc, h2, h3 (by decide), h4 (by decide), h5, hn, h7, fun v hv => h8 v hv (by omega), h9⟩
def Raw.setU (s : Raw) (v : Nat) (M : Ky → Option Int) (c : Int) : Raw := { s with M := fun u => if u = v then M else s.M u, c := fun u => if u = v then c else s.c u }
theorem StX.setUniq {pa : Nat} {na : Option Addr} {nc : Nat} {ra : Option Addr} {rc : Nat} {pu : Nat → Nat} {sc oc : Array Value} (h : StX own w p s pa na nc ra rc pu sc oc) {v : Nat} (hv : v < 8) {M : Ky → Option Int} {c : Int}
    (hU : UqM (Grow (owns own (10 + v)) w w') w' (pu v) M c) (hC : Chg (owns own (10 + v)) w w') : StX (ownUp own w w' (10 + v)) w' p (s.setU v M c) pa na nc ra rc pu sc oc := by
  obtain ⟨h1, h2, h3, h4, h5, h6, h7, h8, h9⟩ := h.turn hC (by omega)
  refine ⟨h1 (by omega), h.cs, h.oc, h2, h3 (by omega), h4 (by omega), h5, h6 (by omega), h7, fun u hu => ?_, h9⟩
  show UqM _ _ _ (if u = v then M else s.M u) (if u = v then c else s.c u)
  by_cases e : u = v
  · subst e
    rw [if_pos rfl, if_pos rfl, owns_up_self]; exact hU
  · rw [if_neg e, if_neg e]; exact h8 u hu (by omega)
theorem StX.setAr {pa : Nat} {na : Option Addr} {nc : Nat} {ra : Option Addr} {rc : Nat} {pu : Nat → Nat} {sc oc : Array Value} (h : StX own w p s pa na nc ra rc pu sc oc) {a : Ar} (hm : a.most = s.a.most)
    (hA : ArI (Grow (owns own 2) w w') w' pa a) (hC : Chg (owns own 2) w w') : StX (ownUp own w w' 2) w' p { s with a := a } pa na nc ra rc pu sc oc := by
  obtain ⟨h1, h2, h3, h4, h5, h6, h7, h8, h9⟩ := h.turn hC (by omega)
  exact ⟨h1 (by decide), by show StC sc a.most _ _ _ _ _ _ _ _ _; rw [hm]; exact h.cs, h.oc, h2, by rw [owns_up_self]; exact hA, h4 (by decide), h5, h6 (by decide), h7, fun u hu => h8 u hu (by omega), h9⟩
def bump (R : List Int) (n t : Int) : List Int := if 2 ≤ n then R.set (n - 2).toNat (R.getD (n - 2).toNat 0 + t) else R
theorem bump_len {R : List Int} {n t : Int} : (bump R n t).length = R.length := by unfold bump; split <;> simp
/-- The counts are small. -/
def Small (R : List Int) : Prop := ∀ k : Nat, -100000 ≤ R.getD k 0 ∧ R.getD k 0 ≤ 100000
theorem stPoint_calls (h : StR own w p s) (n t : Int) (hn : n ≤ 1000000) (hl : 2 ≤ n → n - 2 < s.R.length) (hr : 2 ≤ n → -1000000 ≤ s.R.getD (n - 2).toNat 0 ∧ s.R.getD (n - 2).toNat 0 ≤ 1000000) (ht : -1000 ≤ t ∧ t ≤ 1000) :
    CallsR Try.prog 137 #[.pointer (some ⟨p, 0, none⟩), .int .i64 n, .int .i64 t] w fun r w' => StR own w' p { s with R := bump s.R n t } ∧ Chg (owns own 4) w w' ∧ w'.heap.size = w.heap.size := by
  obtain ⟨pa, na, nc, ra, rc, pu, sc, oc, h⟩ := h
  by_cases h2 : 2 ≤ n
  · have hl := hl h2
    have hr := hr h2
    obtain ⟨r, hR⟩ : ∃ r, s.R[(n - 2).toNat]? = some r := ⟨s.R[(n - 2).toNat]'(by omega), List.getElem?_eq_getElem (by omega)⟩
    have hrd : s.R.getD (n - 2).toNat 0 = r := by rw [List.getD, hR]; rfl
    rw [hrd] at hr
    have hb : bump s.R n t = s.R.set (n - 2).toNat (r + t) := by unfold bump; rw [if_pos h2, hrd]
    obtain ⟨g, cur, rfl, hg, hc, hlt, hat⟩ := h.re.at (i := (n - 2).toNat) (v := .int .i64 r) (by rw [List.getElem?_map, hR]; rfl)
    have hp := h.at_
    have c3 := h.cs.c3
    have hsz := h.cs.size
    have hpl := lt_of_heap hp
    have hgl := lt_of_heap hg
    have hk : (n - 2).toNat < s.R.length := by omega
    obtain ⟨hX, hC⟩ := h.setRef hg hk (r + t)
    have hsz3 := (Array.getElem?_eq_some_iff.1 hat).1
    have n0 : 0 ≤ n - 2 := by omega
    rw [hb]
    clear h hR hrd hb
    refine en3 Try.func137 Try.results137 mixed [] ?_
    intro e0 h0 h1 h2
    refine w_ fun d => ?_
    exact ⟨⟨pa, na, nc, _, rc, pu, sc, oc, hX⟩, hC, by simp only [upd_size]⟩
  · have hb : bump s.R n t = s.R := by unfold bump; rw [if_neg h2]
    rw [hb]
    refine en3 Try.func137 Try.results137 mixed [] ?_
    intro e0 h0 h1 h2
    refine w_ fun d => ?_
    exact ⟨⟨pa, na, nc, ra, rc, pu, sc, oc, h⟩, Chg.refl _ _, rfl⟩
end
end Go.Proofs.Ytpeindhocndmnaa

/- Walks of layer 7: a node is laid, and lifted. -/
namespace Go.Proofs.Ytpeindhocndmnaa
open Go Go.Bx
set_option linter.unusedSimpArgs false
set_option linter.unusedVariables false
set_option maxRecDepth 100000
set_option maxHeartbeats 4000000
attribute [local irreducible] X XO XE XF XD XW thenX inX retX kN CallsR
section
variable {own own1 own2 : Nat → Nat} {w w' w1 w2 : World} {p : Nat} {s s' s1 s2 : Raw} {c : Nat}
theorem bump_get {R : List Int} {n t : Int} (k : Nat) : (bump R n t).getD k 0 = R.getD k 0 + (if 2 ≤ n ∧ k = (n - 2).toNat ∧ k < R.length then t else 0) := by
  unfold bump
  by_cases h2 : 2 ≤ n
  · rw [if_pos h2]
    by_cases e : k = (n - 2).toNat
    · by_cases hk : k < R.length
      · rw [if_pos ⟨h2, e, hk⟩, ← e, List.getD, List.getElem?_set_self (by omega)]; rfl
      · have e1 : (R.set (n - 2).toNat (R.getD (n - 2).toNat 0 + t))[k]? = none := List.getElem?_eq_none (by rw [List.length_set]; omega)
        have e2 : R[k]? = none := List.getElem?_eq_none (by omega)
        rw [if_neg (fun h => hk h.2.2)]; unfold List.getD at e1 ⊢; rw [e1, e2]; rfl
    · have e1 : (R.set (n - 2).toNat (R.getD (n - 2).toNat 0 + t))[k]? = R[k]? := List.getElem?_set_ne (fun h => e h.symm)
      rw [if_neg (fun h => e h.2.1)]; unfold List.getD at e1 ⊢; rw [e1, Int.add_zero]
  · rw [if_neg h2, if_neg (fun h => h2 h.1)]; omega
theorem bump_small {R : List Int} {n t : Int} (h : Small R) (ht : -1000 ≤ t ∧ t ≤ 1000) (k : Nat) : -1000000 ≤ (bump R n t).getD k 0 ∧ (bump R n t).getD k 0 ≤ 1000000 := by
  have := h k
  rw [bump_get]
  split <;> omega
def Raw.lay (s : Raw) (n : Int) (x : Nd) : Raw :=
  { ({ s with N := s.N.set (n - 2).toNat x } : Raw).setU x.1.toNat (fun k => if k = (x.2.1, x.2.2) then some n else s.M x.1.toNat k) (s.c x.1.toNat + 1) with R := bump (bump s.R x.2.1 1) x.2.2 1 }
def Raw.lift (s : Raw) (x : Nd) : Raw :=
  { s.setU x.1.toNat (fun k => if k = (x.2.1, x.2.2) then none else s.M x.1.toNat k) (s.c x.1.toNat - 1) with R := bump (bump s.R x.2.1 (-1)) x.2.2 (-1) }
/-- A block that is not the store's is laid anew. -/
theorem StR.keepJ (h : StR own w p s) {b : Nat} (hb : own b = 0) (o : Obj) : StR own (upd w b o) p s := by
  obtain ⟨pa, na, nc, ra, rc, pu, sc, oc, h⟩ := h
  have hne : ∀ k, own k ≠ 0 → (upd w b o).heap[k]? = w.heap[k]? := fun k hk => upd_other fun e => hk (by rw [← e]; exact hb)
  have h1 := h.op
  refine ⟨pa, na, nc, ra, rc, pu, sc, oc, by rw [hne p (by omega)]; exact h.at_, h.cs, h.oc, h.op, h.ar.keep (fun k hk => hne k (by unfold owns at hk; omega)) (by rw [upd_size]; exact Nat.le_refl _), Sl.keep h.no fun g hg => hne g (by have := h.on g hg; omega), h.on, h.re.keep fun g hg => hne g (by have := h.or g hg; omega), h.or, fun v hv => (h.un v hv).keep (fun k hk => hne k (by unfold owns at hk; omega)) (by rw [upd_size]; exact Nat.le_refl _), fun k hk => by rw [upd_size]; exact h.lt k hk⟩
theorem stLay_calls (h : StR own w p s) {n v lo hi : Int} (h2 : 2 ≤ n) (hn : n - 2 < s.N.length) (hN : s.N.length ≤ 20000) (hv : 0 ≤ v ∧ v < 8) (hf : s.M v.toNat (lo, hi) = none) (hc : s.c v.toNat ≤ 19999) (hR : s.R.length = s.N.length) (hlo : lo - 2 < s.N.length) (hhi : hi - 2 < s.N.length) (hb : Small s.R) :
    CallsR Try.prog 98 #[.pointer (some ⟨p, 0, none⟩), .int .i64 n, .agg #[.int .i64 v, .int .i64 lo, .int .i64 hi]] w fun r w' => TrO own w p (s.lay n (v, lo, hi)) w' := by
  obtain ⟨k, hk⟩ : ∃ k : Nat, (n - 2).toNat = k := ⟨_, rfl⟩
  have hkl : k < s.N.length := by omega
  obtain ⟨y, hy⟩ : ∃ y, s.N[k]? = some y := ⟨s.N[k], List.getElem?_eq_getElem hkl⟩
  obtain ⟨pa, na, nc, ra, rc, pu, sc, oc, h⟩ := h
  obtain ⟨yv, yl, yh⟩ := y
  obtain ⟨g, cur, rfl, hg, hnc, _, _, _, _, hsz3, _⟩ := h.no.at hy
  have hp := h.at_
  have c2 := h.cs.c2
  have hsz := h.cs.size
  have hpl := lt_of_heap hp
  have hgl := lt_of_heap hg
  have hgp : g ≠ p := h.no.ne rfl hp (by decide)
  have hpg := hgp.symm
  obtain ⟨vn, rfl⟩ := Int.eq_ofNat_of_zero_le hv.1
  have hvn : vn < 8 := by omega
  rw [Int.toNat_natCast] at hf hc
  have n0 : 0 ≤ n - 2 := by omega
  clear hy
  refine en3 Try.func98 Try.results98 mixed [(2, [12])] ?_
  intro e0 h0 h1 h2
  refine w_ fun d => ?_
  refine at_w fun u hu => ?_
  obtain ⟨hX0, hC0⟩ := h.setNode hg hkl ((vn : Int), lo, hi)
  have hX1 : StX own u p { s with N := s.N.set k ((vn : Int), lo, hi) } pa (some ⟨g, 0, none⟩) nc ra rc pu sc oc := by rw [hu]; exact hX0.ext ext_
  have hC1 : Chg (foot own) w u := by
    have := Chg.foot hC0 (by decide)
    rw [hu]; exact chg_
  have hus : u.heap.size = w.heap.size + 1 := by rw [hu]; simp only [dr_heap, alloc_size, upd_size]
  have hbx : u.heap[w.heap.size]? = some (.cells #[.int .i64 vn, .int .i64 lo, .int .i64 hi] 39) := by rw [hu]; exact hA rfl
  have hob : own w.heap.size = 0 := by
    cases ho : own w.heap.size with
    | zero => rfl
    | succ m => have := h.lt w.heap.size (by omega); omega
  have hpu := hX1.at_
  have cu := hX1.cs.cu vn hvn
  have hplu := lt_of_heap hpu
  have hblu := lt_of_heap hbx
  clear hu hX0 hC0 h hp hg c2 hpl hgl
  refine s_draw (XD_ext ?_)
  refine de_ ?_
  refine xe2w fun u2 hE2 => ?_
  refine krA ?_
  refine ke ?_
  have hX2 := hX1.ext hE2
  have hM : ({ s with N := s.N.set k ((vn : Int), lo, hi) } : Raw).M vn = s.M vn := rfl
  refine (uqPut_calls (hX2.un vn hvn) hc n hf).mono ?_
  rintro _ u3 ⟨rfl, hU3, hC3⟩
  refine xn_ fun u4 hE4 hs4 => ?_
  obtain ⟨own3, ho3⟩ : ∃ o, ownUp own u2 u3 (10 + vn) = o := ⟨_, rfl⟩
  have hX3 := (hX2.setUniq hvn hU3 hC3).ext hE4
  rw [ho3] at hX3
  have hs2 := hE2.size
  have hs3 := hC3.size
  have ho : ∀ k, k < u2.heap.size → own3 k = own k := fun k hk => by rw [← ho3]; exact ownUp_old hk
  have hob3 : own3 w.heap.size = 0 := by rw [ho _ (by omega)]; exact hob
  have hbx4 : u4.heap[w.heap.size]? = some (.cells #[.int .i64 vn, .int .i64 lo, .int .i64 hi] 39) := by
    rw [hE4.heap _ (by omega), hC3.heap _ (by omega) (by unfold owns; omega)]; exact hE2.at hbx
  have hC4 : Chg (foot own) w u4 := by
    have h1 := Chg.foot hC3 (by omega)
    exact (hC1.transE hE2).trans h1 (fun _ _ h => h) |>.transE hE4
  have hblu4 := lt_of_heap hbx4
  have hR3 : StR own3 u4 p _ := ⟨_, _, _, _, _, _, _, _, hX3⟩
  clear hX3 hX2 hX1 hU3 hE2 hE4 hpu cu hplu hblu hs4 hM hbx
  refine w_ fun d => ?_
  refine (stPoint_calls hR3 lo 1 (by omega) (fun _ => by show lo - 2 < (s.R.length : Int); omega) (fun _ => by have := hb (lo - 2).toNat; show _ ∧ _; constructor <;> (show _ ≤ _; simp only [Raw.setU]; omega)) (by omega)).mono ?_
  rintro _ u5 ⟨hR5, hC5, hs5⟩
  have hbx5 : u5.heap[w.heap.size]? = some (.cells #[.int .i64 vn, .int .i64 lo, .int .i64 hi] 39) := by
    rw [hC5.heap _ (by omega) (by unfold owns; omega)]; exact hbx4
  have hblu5 := lt_of_heap hbx5
  refine w_ fun d => ?_
  refine (stPoint_calls hR5 hi 1 (by omega) (fun _ => by show hi - 2 < ((bump s.R lo 1).length : Int); rw [bump_len]; omega) (fun _ => bump_small hb (by omega) _) (by omega)).mono ?_
  rintro _ u6 ⟨hR6, hC6, hs6⟩
  refine w_ fun d => ?_
  refine ⟨own3, ?_, fun k hk => ho k (by omega), ?_⟩
  · unfold Raw.lay
    rw [hk]
    exact hR6
  · have h5 := Chg.foot hC5 (by decide)
    have h6 := Chg.foot hC6 (by decide)
    exact (hC4.trans h5 fun b hb' hf => by unfold foot at hf ⊢; rw [← ho b (by omega)]; exact hf).trans h6 fun b hb' hf => by unfold foot at hf ⊢; rw [← ho b (by omega)]; exact hf
theorem stLift_calls (h : StR own w p s) {n v lo hi m : Int} (h2 : 2 ≤ n) (hn : n ≤ 1000000) (hx : s.N[(n - 2).toNat]? = some (v, lo, hi)) (hN : s.N.length ≤ 20000) (hv : 0 ≤ v ∧ v < 8) (hf : s.M v.toNat (lo, hi) = some m) (hR : s.R.length = s.N.length) (hlo : lo - 2 < s.N.length) (hhi : hi - 2 < s.N.length) (hb : Small s.R) :
    CallsR Try.prog 95 #[.pointer (some ⟨p, 0, none⟩), .int .i64 n] w fun r w' => r = .agg #[.int .i64 v, .int .i64 lo, .int .i64 hi] ∧ TrO own w p (s.lift (v, lo, hi)) w' := by
  obtain ⟨pa, na, nc, ra, rc, pu, sc, oc, h⟩ := h
  obtain ⟨g, cur, rfl, hg, hnc, hkl, x0, x1, x2, hsz3, hex⟩ := h.no.at hx
  have hp := h.at_
  have c2 := h.cs.c2
  have hsz := h.cs.size
  have hpl := lt_of_heap hp
  have hgl := lt_of_heap hg
  have hgp : g ≠ p := h.no.ne rfl hp (by decide)
  have hpg := hgp.symm
  obtain ⟨vn, rfl⟩ := Int.eq_ofNat_of_zero_le hv.1
  have hvn : vn < 8 := by omega
  rw [Int.toNat_natCast] at hf
  have n0 : 0 ≤ n - 2 := by omega
  have n1 : n - 2 < s.N.length := by omega
  clear hx
  refine en2 Try.func95 Try.results95 mixed [(2, [11])] ?_
  intro e0 h0 h1
  refine w_ fun d => ?_
  refine at_w fun u hu => ?_
  have hX1 : StX own u p s pa (some ⟨g, 0, none⟩) nc ra rc pu sc oc := by rw [hu]; exact h.ext ext_
  have hC1 : Chg (foot own) w u := by rw [hu]; exact chg_
  have hus : u.heap.size = w.heap.size + 2 := by rw [hu]; simp only [dr_heap, alloc_size, upd_size]
  have hbx : u.heap[w.heap.size + 1]? = some (.cells #[.int .i64 vn, .int .i64 lo, .int .i64 hi] 39) := by rw [hu]; exact hA rfl
  have hby : u.heap[w.heap.size]? = some (.cells #[.int .i64 0, .int .i64 0, .int .i64 0] 39) := by rw [hu]; exact hA rfl
  have hob : ∀ k, w.heap.size ≤ k → own k = 0 := fun k hk => by
    cases ho : own k with
    | zero => rfl
    | succ m => have := h.lt k (by omega); omega
  have hpu := hX1.at_
  have cu := hX1.cs.cu vn hvn
  have hplu := lt_of_heap hpu
  have hblu := lt_of_heap hbx
  clear hu h hp hg c2 hpl hgl
  refine s_draw (XD_ext ?_)
  refine de_ ?_
  refine xe2w fun u2 hE2 => ?_
  refine krA ?_
  refine ke ?_
  have hX2 := hX1.ext hE2
  refine (uqDrop_calls (hX2.un vn hvn) hf).mono ?_
  rintro _ u3 ⟨rfl, hU3, hC3⟩
  refine xn_ fun u4 hE4 hs4 => ?_
  obtain ⟨own3, ho3⟩ : ∃ o, ownUp own u2 u3 (10 + vn) = o := ⟨_, rfl⟩
  have hX3 := (hX2.setUniq hvn hU3 hC3).ext hE4
  rw [ho3] at hX3
  have hs2 := hE2.size
  have hs3 := hC3.size
  have ho : ∀ k, k < u2.heap.size → own3 k = own k := fun k hk => by rw [← ho3]; exact ownUp_old hk
  have o0 := hob w.heap.size (by omega)
  have o1 := hob (w.heap.size + 1) (by omega)
  have p0 := ho w.heap.size (by omega)
  have p1 := ho (w.heap.size + 1) (by omega)
  have hbx4 : u4.heap[w.heap.size + 1]? = some (.cells #[.int .i64 vn, .int .i64 lo, .int .i64 hi] 39) := by
    rw [hE4.heap _ (by omega), hC3.heap _ (by omega) (by unfold owns; omega)]; exact hE2.at hbx
  have hby4 : u4.heap[w.heap.size]? = some (.cells #[.int .i64 0, .int .i64 0, .int .i64 0] 39) := by
    rw [hE4.heap _ (by omega), hC3.heap _ (by omega) (by unfold owns; omega)]; exact hE2.at hby
  have hC4 : Chg (foot own) w u4 := by
    have h1 := Chg.foot hC3 (by omega)
    exact (hC1.transE hE2).trans h1 (fun _ _ h => h) |>.transE hE4
  have hblu4 := lt_of_heap hbx4
  have hR3 : StR own3 u4 p _ := ⟨_, _, _, _, _, _, _, _, hX3⟩
  clear hX3 hX2 hX1 hU3 hE2 hE4 hpu cu hplu hblu hs4 hbx hby
  refine w_ fun d => ?_
  refine (stPoint_calls hR3 lo (-1) (by omega) (fun _ => by show lo - 2 < (s.R.length : Int); omega) (fun _ => by have := hb (lo - 2).toNat; show _ ∧ _; constructor <;> (show _ ≤ _; simp only [Raw.setU]; omega)) (by omega)).mono ?_
  rintro _ u5 ⟨hR5, hC5, hs5⟩
  have hbx5 : u5.heap[w.heap.size + 1]? = some (.cells #[.int .i64 vn, .int .i64 lo, .int .i64 hi] 39) := by
    rw [hC5.heap _ (by omega) (by unfold owns; omega)]; exact hbx4
  have hblu5 := lt_of_heap hbx5
  refine w_ fun d => ?_
  refine (stPoint_calls hR5 hi (-1) (by omega) (fun _ => by show hi - 2 < ((bump s.R lo (-1)).length : Int); rw [bump_len]; omega) (fun _ => bump_small hb (by omega) _) (by omega)).mono ?_
  rintro _ u6 ⟨hR6, hC6, hs6⟩
  have hbx6 : u6.heap[w.heap.size + 1]? = some (.cells #[.int .i64 vn, .int .i64 lo, .int .i64 hi] 39) := by
    rw [hC6.heap _ (by omega) (by unfold owns; omega)]; exact hbx5
  have hby6 : u6.heap[w.heap.size]? = some (.cells #[.int .i64 0, .int .i64 0, .int .i64 0] 39) := by
    rw [hC6.heap _ (by omega) (by unfold owns; omega), hC5.heap _ (by omega) (by unfold owns; omega)]; exact hby4
  have hblu6 := lt_of_heap hbx6
  have hbly6 := lt_of_heap hby6
  have h5 := Chg.foot hC5 (by decide)
  have h6 := Chg.foot hC6 (by decide)
  have hCw := (hC4.trans h5 fun b hb' hf => by unfold foot at hf ⊢; rw [← ho b (by omega)]; exact hf).trans h6 fun b hb' hf => by unfold foot at hf ⊢; rw [← ho b (by omega)]; exact hf
  clear hbx5 hbx4 hby4 hblu5 hblu4 hC4 h5 h6 hR5 hR3 hC5 hC6 hC3
  refine w_ fun d => ?_
  refine ⟨rfl, own3, ?_, fun k hk => ho k (by omega), chg_⟩
  have := hR6.keepJ (b := w.heap.size) (by omega) (.cells #[.int .i64 vn, .int .i64 lo, .int .i64 hi] 39)
  exact this
end
end Go.Proofs.Ytpeindhocndmnaa

/- Layer 7: what counts and tables say, in plain words. -/
namespace Go.Proofs.Ytpeindhocndmnaa
open Go Go.Bx
set_option linter.unusedSimpArgs false
set_option linter.unusedVariables false
set_option maxRecDepth 100000
set_option maxHeartbeats 4000000
attribute [local irreducible] X XO XE XF XD XW thenX inX retX kN CallsR
def _root_.Go.Bx.Md.live (s : Md) (but : List Int) : List Int := s.all.filter fun n => !decide (n ∈ but)
theorem _root_.Go.Bx.Md.WF.mem_live {s : Md} (W : s.WF) {but : List Int} {n : Int} : n ∈ s.live but ↔ s.has n = true ∧ n ∉ but := by
  unfold Md.live; rw [List.mem_filter, W.mem_all]; simp
theorem _root_.Go.Bx.Md.nodup_live {s : Md} {but : List Int} : (s.live but).Nodup := List.Pairwise.filter _ Md.nodup_all
theorem sum_of_perm {l l' : List Int} (h : l.Perm l') : l.sum = l'.sum := by
  induction h with
  | nil => rfl
  | cons x _ ih => simp [ih]
  | swap x y l => simp; omega
  | trans _ _ ih1 ih2 => rw [ih1, ih2]
theorem sum_perm {f : Int → Int} {a : Int} {l l' : List Int} (hl : l.Nodup) (hl' : l'.Nodup) (hm : ∀ x, x ∈ l' ↔ x = a ∨ x ∈ l) (ha : a ∉ l) : sumF f l' = f a + sumF f l := by
  have hp : l'.Perm (a :: l) := by
    rw [List.perm_iff_count]
    intro x
    have h2 : (a :: l).Nodup := List.nodup_cons.2 ⟨ha, hl⟩
    rw [hl'.count, h2.count]
    have := hm x
    by_cases h : x ∈ l'
    · rw [if_pos h, if_pos (by rw [List.mem_cons]; exact this.1 h)]
    · rw [if_neg h, if_neg (fun h3 => h (this.2 (by rwa [List.mem_cons] at h3)))]
  have : (l'.map f).Perm ((a :: l).map f) := hp.map f
  unfold sumF
  rw [sum_of_perm this]
  simp
theorem sum_congr {f g : Int → Int} : ∀ {l : List Int}, (∀ x ∈ l, f x = g x) → sumF f l = sumF g l
  | [], _ => rfl
  | a :: l, h => by rw [sumF_cons, sumF_cons, h a (by simp), sum_congr fun x hx => h x (by simp [hx])]
def ptr (s : Md) (m n : Int) : Int := b2 (decide ((s.nd n).2.1 = m)) + b2 (decide ((s.nd n).2.2 = m))
def ofv (s : Md) (v n : Int) : Int := b2 (decide ((s.nd n).1 = v))
/-- What counts and tables say. -/
structure Agr (s : Md) (but : List Int) (R : List Int) (M : Nat → Ky → Option Int) (c : Nat → Int) : Prop where
  len : R.length = s.N.length
  ref : ∀ k : Nat, k < s.N.length → R.getD k 0 = sumF (ptr s ((k : Int) + 2)) (s.live but)
  map : ∀ v : Nat, v < 8 → ∀ k n, M v k = some n ↔ s.has n = true ∧ n ∉ but ∧ s.nd n = ((v : Int), k.1, k.2)
  cnt : ∀ v : Nat, v < 8 → c v = sumF (ofv s v) (s.live but)
section
variable {s s' : Md} {but : List Int} {R : List Int} {M : Nat → Ky → Option Int} {c : Nat → Int} {n v lo hi : Int}
theorem live_len (W : s.WF) : ((s.live but).length : Int) ≤ s.a.many := by
  rw [← W.len_all]
  have := List.length_filter_le (fun n => !decide (n ∈ but)) s.all
  unfold Md.live; omega
theorem live_lt (W : s.WF) (hn : s.has n = true) (hb : n ∈ but) : ((s.live but).length : Int) + 1 ≤ s.a.many := by
  rw [← W.len_all]
  have := sub_len' (l := n :: s.live but) (m := s.all) (List.nodup_cons.2 ⟨fun h => (W.mem_live.1 h).2 hb, Md.nodup_live⟩) fun x hx => by
    rcases List.mem_cons.1 hx with rfl | hx
    · exact W.mem_all.2 hn
    · exact W.mem_all.2 (W.mem_live.1 hx).1
  rw [List.length_cons] at this; omega
theorem Agr.small (A : Agr s but R M c) (W : s.WF) : Small R := by
  intro k
  by_cases hk : k < s.N.length
  · rw [A.ref k hk]
    have h1 := sumF_nonneg (ptr s ((k : Int) + 2)) (s.live but) fun x _ => by unfold ptr; have := b2_rng (decide ((s.nd x).2.1 = (k : Int) + 2)); have := b2_rng (decide ((s.nd x).2.2 = (k : Int) + 2)); omega
    have h2 := sumF_le (ptr s ((k : Int) + 2)) 2 (s.live but) fun x _ => by unfold ptr; have := b2_rng (decide ((s.nd x).2.1 = (k : Int) + 2)); have := b2_rng (decide ((s.nd x).2.2 = (k : Int) + 2)); omega
    have h3 := live_len W (but := but)
    have h4 := W.ar.many_le
    have h5 := W.ar.most
    omega
  · have := A.len
    rw [List.getD, List.getElem?_eq_none (by omega)]; simp
theorem Agr.cnt_le (A : Agr s but R M c) (W : s.WF) {v : Nat} (hv : v < 8) : c v ≤ (s.live but).length := by
  rw [A.cnt v hv]
  have h2 := sumF_le (ofv s v) 1 (s.live but) fun x _ => by unfold ofv; exact (b2_rng _).2
  omega
/-- A node that waits is laid. -/
theorem Agr.lay (A : Agr s (n :: but) R M c) (W : s.WF) (hn : s.has n = true) (hb : n ∉ but) (hv : 0 ≤ v ∧ v < 8) (hlo : 2 ≤ lo → lo - 2 < s.N.length) (hhi : 2 ≤ hi → hi - 2 < s.N.length) (hf : ∀ m, s.has m = true → m ∉ n :: but → s.nd m ≠ (v, lo, hi)) :
    Agr (s.lay n (v, lo, hi)) but (bump (bump R lo 1) hi 1) (fun u => if u = v.toNat then fun k => if k = (lo, hi) then some n else M v.toNat k else M u) (fun u => if u = v.toNat then c v.toNat + 1 else c u) := by
  have W' : (s.lay n (v, lo, hi)).WF := W.lay
  have nd' : ∀ m, 2 ≤ m → (s.lay n (v, lo, hi)).nd m = if m = n then (v, lo, hi) else s.nd m := fun m hm => W.nd_lay hn hm
  have hself : (s.lay n (v, lo, hi)).nd n = (v, lo, hi) := by rw [nd' n (Md.has_ge hn), if_pos rfl]
  have hoth : ∀ m ∈ s.live (n :: but), (s.lay n (v, lo, hi)).nd m = s.nd m := fun m hm => by
    have := W.mem_live.1 hm
    rw [nd' m (Md.has_ge this.1), if_neg (fun e => this.2 (by rw [e]; simp))]
  have hlive : ∀ x, x ∈ (s.lay n (v, lo, hi)).live but ↔ x = n ∨ x ∈ s.live (n :: but) := fun x => by
    rw [W'.mem_live, W.mem_live]
    show s.has x = true ∧ x ∉ but ↔ _
    by_cases e : x = n
    · subst e; simp [hn, hb]
    · simp [e]
  have hnl : n ∉ s.live (n :: but) := fun h => (W.mem_live.1 h).2 (by simp)
  have hsum : ∀ f g : Int → Int, (∀ m ∈ s.live (n :: but), f m = g m) → sumF f ((s.lay n (v, lo, hi)).live but) = f n + sumF g (s.live (n :: but)) := fun f g h => by
    rw [sum_perm Md.nodup_live Md.nodup_live hlive hnl, sum_congr h]
  have hNl : (s.lay n (v, lo, hi)).N.length = s.N.length := by simp [Md.lay]
  have bm : ∀ (d : Int) (k : Nat), (2 ≤ d → d - 2 < s.N.length) → k < s.N.length → (if 2 ≤ d ∧ k = (d - 2).toNat ∧ k < R.length then (1 : Int) else 0) = b2 (decide (d = (k : Int) + 2)) := fun d k hd hk => by
    have := A.len
    by_cases e : d = (k : Int) + 2
    · rw [if_pos ⟨by omega, by omega, by omega⟩]; simp [e, b2]
    · rw [if_neg (fun h => e (by omega))]; simp [e, b2]
  refine ⟨by rw [bump_len, bump_len, A.len, hNl], fun k hk => ?_, fun u hu k m => ?_, fun u hu => ?_⟩
  · rw [hNl] at hk
    rw [hsum _ (ptr s ((k : Int) + 2)) fun m hm => by unfold ptr; rw [hoth m hm]]
    rw [bump_get, bump_get, bump_len, A.ref k hk, bm lo k hlo hk, bm hi k hhi hk]
    unfold ptr
    rw [hself]; simp only; omega
  · show (if u = v.toNat then fun k => if k = (lo, hi) then some n else M v.toNat k else M u) k = some m ↔ s.has m = true ∧ m ∉ but ∧ _
    have hmu := A.map u hu k m
    by_cases e : u = v.toNat
    · rw [if_pos e]
      show (if k = (lo, hi) then some n else M v.toNat k) = some m ↔ _
      rw [← e]
      have hvu : v = (u : Int) := by omega
      by_cases ek : k = (lo, hi)
      · rw [if_pos ek]
        subst ek
        constructor
        · intro h; cases h; exact ⟨hn, hb, by rw [hself, hvu]⟩
        · rintro ⟨h1, h2, h3⟩
          by_cases em : m = n
          · rw [em]
          · exfalso
            rw [nd' m (Md.has_ge h1), if_neg em] at h3
            exact hf m h1 (by simp [em, h2]) (by rw [h3, hvu])
      · rw [if_neg ek, hmu]
        constructor
        · rintro ⟨h1, h2, h3⟩
          refine ⟨h1, fun h => h2 (by simp [h]), ?_⟩
          rw [nd' m (Md.has_ge h1), if_neg (fun e => h2 (by rw [e]; simp))]; exact h3
        · rintro ⟨h1, h2, h3⟩
          by_cases em : m = n
          · exfalso
            rw [em, hself] at h3
            simp only [Prod.mk.injEq] at h3
            exact ek (Prod.ext h3.2.1.symm h3.2.2.symm)
          · rw [nd' m (Md.has_ge h1), if_neg em] at h3
            exact ⟨h1, by simp [em, h2], h3⟩
    · rw [if_neg e, hmu]
      constructor
      · rintro ⟨h1, h2, h3⟩
        refine ⟨h1, fun h => h2 (by simp [h]), ?_⟩
        rw [nd' m (Md.has_ge h1), if_neg (fun e => h2 (by rw [e]; simp))]; exact h3
      · rintro ⟨h1, h2, h3⟩
        by_cases em : m = n
        · exfalso
          rw [em, hself] at h3
          simp only [Prod.mk.injEq] at h3
          exact e (by omega)
        · rw [nd' m (Md.has_ge h1), if_neg em] at h3
          exact ⟨h1, by simp [em, h2], h3⟩
  · rw [hsum _ (ofv s u) fun m hm => by unfold ofv; rw [hoth m hm]]
    have : ofv (s.lay n (v, lo, hi)) u n = b2 (decide (v = (u : Int))) := by unfold ofv; rw [hself]
    rw [this]
    show (if u = v.toNat then c v.toNat + 1 else c u) = _
    by_cases e : u = v.toNat
    · rw [if_pos e, ← e, A.cnt u hu, show v = (u : Int) by omega]; simp [b2]; omega
    · rw [if_neg e, A.cnt u hu]
      have : ¬ (v = (u : Int)) := by omega
      simp [this, b2]
/-- A node is lifted: it waits. -/
theorem Agr.lift (A : Agr s but R M c) (W : s.WF) (hn : s.has n = true) (hb : n ∉ but) (hx : s.nd n = (v, lo, hi)) (hv : 0 ≤ v ∧ v < 8) (hlo : 2 ≤ lo → lo - 2 < s.N.length) (hhi : 2 ≤ hi → hi - 2 < s.N.length) (one : ∀ m, s.has m = true → m ∉ but → s.nd m = (v, lo, hi) → m = n) :
    Agr s (n :: but) (bump (bump R lo (-1)) hi (-1)) (fun u => if u = v.toNat then fun k => if k = (lo, hi) then none else M v.toNat k else M u) (fun u => if u = v.toNat then c v.toNat - 1 else c u) := by
  have hlive : ∀ x, x ∈ s.live but ↔ x = n ∨ x ∈ s.live (n :: but) := fun x => by
    rw [W.mem_live, W.mem_live]
    by_cases e : x = n
    · subst e; simp [hn, hb]
    · simp [e]
  have hnl : n ∉ s.live (n :: but) := fun h => (W.mem_live.1 h).2 (by simp)
  have hsum : ∀ f : Int → Int, sumF f (s.live but) = f n + sumF f (s.live (n :: but)) := fun f => sum_perm Md.nodup_live Md.nodup_live hlive hnl
  have bm : ∀ (d : Int) (k : Nat), (2 ≤ d → d - 2 < s.N.length) → k < s.N.length → (if 2 ≤ d ∧ k = (d - 2).toNat ∧ k < R.length then (-1 : Int) else 0) = - b2 (decide (d = (k : Int) + 2)) := fun d k hd hk => by
    have := A.len
    by_cases e : d = (k : Int) + 2
    · rw [if_pos ⟨by omega, by omega, by omega⟩]; simp [e, b2]
    · rw [if_neg (fun h => e (by omega))]; simp [e, b2]
  refine ⟨by rw [bump_len, bump_len, A.len], fun k hk => ?_, fun u hu k m => ?_, fun u hu => ?_⟩
  · have h := A.ref k hk
    rw [hsum] at h
    rw [bump_get, bump_get, bump_len, h, bm lo k hlo hk, bm hi k hhi hk]
    unfold ptr
    rw [hx]; simp only; omega
  · show (if u = v.toNat then fun k => if k = (lo, hi) then none else M v.toNat k else M u) k = some m ↔ _
    have hmu := A.map u hu k m
    by_cases e : u = v.toNat
    · rw [if_pos e]
      show (if k = (lo, hi) then none else M v.toNat k) = some m ↔ _
      rw [← e]
      have hvu : v = (u : Int) := by omega
      by_cases ek : k = (lo, hi)
      · rw [if_pos ek]
        subst ek
        constructor
        · intro h; cases h
        · rintro ⟨h1, h2, h3⟩
          exact absurd (one m h1 (fun h => h2 (by simp [h])) (by rw [h3, hvu])) (fun e => h2 (by simp [e]))
      · rw [if_neg ek, hmu]
        constructor
        · rintro ⟨h1, h2, h3⟩
          refine ⟨h1, fun h => ?_, h3⟩
          rcases List.mem_cons.1 h with e2 | e2
          · rw [e2, hx] at h3
            simp only [Prod.mk.injEq] at h3
            exact ek (Prod.ext h3.2.1.symm h3.2.2.symm)
          · exact h2 e2
        · rintro ⟨h1, h2, h3⟩
          exact ⟨h1, fun h => h2 (by simp [h]), h3⟩
    · rw [if_neg e, hmu]
      constructor
      · rintro ⟨h1, h2, h3⟩
        refine ⟨h1, fun h => ?_, h3⟩
        rcases List.mem_cons.1 h with e2 | e2
        · rw [e2, hx] at h3
          simp only [Prod.mk.injEq] at h3
          exact e (by omega)
        · exact h2 e2
      · rintro ⟨h1, h2, h3⟩
        exact ⟨h1, fun h => h2 (by simp [h]), h3⟩
  · have h := A.cnt u hu
    rw [hsum] at h
    have e1 : ofv s u n = b2 (decide (v = (u : Int))) := by unfold ofv; rw [hx]
    rw [e1] at h
    show (if u = v.toNat then c v.toNat - 1 else c u) = _
    by_cases e : u = v.toNat
    · rw [if_pos e, ← e, h, show v = (u : Int) by omega]; simp [b2]; omega
    · rw [if_neg e, h]
      have : ¬ (v = (u : Int)) := by omega
      simp [this, b2]
/-- Only which nodes there are, what they are, and who waits counts. -/
theorem Agr.same (A : Agr s but R M c) (W : s.WF) (W' : s'.WF) {but' : List Int} {R' : List Int} (hl : R'.length = s'.N.length) (hm : ∀ n, (s'.has n = true ∧ n ∉ but') ↔ (s.has n = true ∧ n ∉ but)) (hnd : ∀ n, s.has n = true → n ∉ but → s'.nd n = s.nd n)
    (hR : ∀ k : Nat, k < s'.N.length → (k < s.N.length ∧ R'.getD k 0 = R.getD k 0) ∨ (R'.getD k 0 = 0 ∧ ∀ n, s.has n = true → n ∉ but → (s.nd n).2.1 ≠ (k : Int) + 2 ∧ (s.nd n).2.2 ≠ (k : Int) + 2)) : Agr s' but' R' M c := by
  have hsum : ∀ f g : Int → Int, (∀ m ∈ s.live but, f m = g m) → sumF f (s'.live but') = sumF g (s.live but) := fun f g h => by
    have hp : (s'.live but').Perm (s.live but) := by
      rw [List.perm_iff_count]
      intro x
      rw [Md.nodup_live.count, Md.nodup_live.count]
      have : x ∈ s'.live but' ↔ x ∈ s.live but := by rw [W'.mem_live, W.mem_live, hm]
      by_cases hx : x ∈ s.live but
      · rw [if_pos hx, if_pos (this.2 hx)]
      · rw [if_neg hx, if_neg (fun h => hx (this.1 h))]
    unfold sumF
    rw [sum_of_perm (hp.map f)]
    exact sum_congr h
  have hlv : ∀ m ∈ s.live but, s'.nd m = s.nd m := fun m hx => hnd m (W.mem_live.1 hx).1 (W.mem_live.1 hx).2
  refine ⟨hl, fun k hk => ?_, fun v hv k n => ?_, fun v hv => ?_⟩
  · rw [hsum _ (ptr s ((k : Int) + 2)) fun m hx => by unfold ptr; rw [hlv m hx]]
    rcases hR k hk with ⟨h1, h2⟩ | ⟨h1, h2⟩
    · rw [h2, A.ref k h1]
    · rw [h1]
      have : sumF (ptr s ((k : Int) + 2)) (s.live but) = sumF (fun _ => 0) (s.live but) := sum_congr fun m hx => by
        have hh := h2 m (W.mem_live.1 hx).1 (W.mem_live.1 hx).2
        unfold ptr; simp [hh.1, hh.2, b2]
      rw [this]
      generalize s.live but = l
      induction l with
      | nil => rfl
      | cons a l ih => rw [sumF_cons, ← ih]; rfl
  · rw [A.map v hv]
    constructor
    · rintro ⟨h1, h2, h3⟩
      have := (hm n).2 ⟨h1, h2⟩
      exact ⟨this.1, this.2, by rw [hnd n h1 h2]; exact h3⟩
    · rintro ⟨h1, h2, h3⟩
      have := (hm n).1 ⟨h1, h2⟩
      exact ⟨this.1, this.2, by rw [← hnd n this.1 this.2]; exact h3⟩
  · rw [A.cnt v hv, hsum _ (ofv s v) fun m hx => by unfold ofv; rw [hlv m hx]]
end
end Go.Proofs.Ytpeindhocndmnaa
