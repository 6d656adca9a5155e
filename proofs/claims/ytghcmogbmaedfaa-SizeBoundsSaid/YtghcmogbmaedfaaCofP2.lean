/- Layer 2's plain laws: what a set variable comes to. No program is in sight. -/
import Derived.Test.YtghcmogbmaedfaaCofP
namespace Go.Bx
open Go
set_option linter.unusedSimpArgs false
set_option linter.unusedVariables false
set_option maxRecDepth 100000
section
variable {f g h : Fun8} {v w : Int} {b c : Bool}
theorem cof_ext {f g : Fun8} (hb : ∀ x, x < 256 → f.getLsbD x = g.getLsbD x) : f = g := fn_ext hb
theorem setB_bit_all : ∀ v : Nat, v < 8 → ∀ x : Nat, x < 256 → ∀ b : Bool, (setB x v b).testBit v = b := by decide +kernel
theorem setB_other_all : ∀ v : Nat, v < 8 → ∀ u : Nat, u < 8 → v ≠ u → ∀ x : Nat, x < 256 → ∀ b : Bool, (setB x v b).testBit u = x.testBit u := by decide +kernel
theorem nat8 (hv : 0 ≤ v ∧ v < 8) : ∃ n : Nat, v = n ∧ n < 8 := ⟨v.toNat, by omega, by omega⟩
theorem cof_cof : cofF (cofF f v b) v c = cofF f v b := by
  by_cases hv : 0 ≤ v ∧ v < 8
  · obtain ⟨n, rfl, hn⟩ := nat8 hv
    refine fn_ext fun x hx => ?_
    rw [cofF_bit hn hx, cofF_bit hn (setB_lt hx hn), cofF_bit hn hx, setB_set_all n hn x hx c b]
  · rw [cofF_out hv, cofF_out hv]
theorem dep_cof : depF (cofF f v b) v = false := by rw [depF_def, cof_cof, cof_cof]; simp
theorem cof_comm (h : v ≠ w) : cofF (cofF f v b) w c = cofF (cofF f w c) v b := by
  by_cases hv : 0 ≤ v ∧ v < 8
  · by_cases hw : 0 ≤ w ∧ w < 8
    · obtain ⟨n, rfl, hn⟩ := nat8 hv
      obtain ⟨m, rfl, hm⟩ := nat8 hw
      refine fn_ext fun x hx => ?_
      rw [cofF_bit hm hx, cofF_bit hn (setB_lt hx hm), cofF_bit hn hx, cofF_bit hm (setB_lt hx hn), setB_comm_all n hn m hm (by omega) x hx b c]
    · rw [cofF_out hw, cofF_out hw]
  · rw [cofF_out hv, cofF_out hv]
theorem ite_cof : iteF (varF v) (cofF f v true) (cofF f v false) = f := by
  by_cases hv : 0 ≤ v ∧ v < 8
  · obtain ⟨n, rfl, hn⟩ := nat8 hv
    refine fn_ext fun x hx => ?_
    have hs := setB_self_all n hn x hx
    rw [bt_ite hx, bt_var hn hx, cofF_bit hn hx, cofF_bit hn hx]
    cases hb : x.testBit n
    · rw [hb] at hs; simp [hs]
    · rw [hb] at hs; simp [hs]
  · rw [cofF_out hv, cofF_out hv, iteF_same]
theorem ite_const : iteF (constF b) g h = if b then g else h := by
  refine fn_ext fun x hx => ?_
  rw [bt_ite hx, bt_const hx]
  cases b <;> rfl
theorem comp_const : iteF (constF b) (cofF f v true) (cofF f v false) = cofF f v b := by rw [ite_const]; cases b <;> rfl
theorem and_not_or : andF (andF f g) (notF (orF f g)) = constF false := by
  refine fn_ext fun x hx => ?_
  rw [bt_and, bt_and, bt_not hx, bt_or, bt_const hx]
  cases f.getLsbD x <;> cases g.getLsbD x <;> rfl
theorem count_le : countF f ≤ 256 := by rw [countF_def]; exact cnt_le _ _
theorem cnt_pt {p q r t : Nat → Bool} : ∀ {n : Nat}, (∀ x, x < n → ((if p x then 1 else 0) + (if q x then 1 else 0) : Nat) = (if r x then 1 else 0) + (if t x then 1 else 0)) → cnt p n + cnt q n = cnt r n + cnt t n
  | 0, _ => rfl
  | n + 1, h => by
    have h1 := cnt_pt (n := n) fun x hx => h x (by omega)
    have h2 := h n (by omega)
    simp only [cnt]; omega
/-- The other one of two neighbouring blocks of s. -/
def sw (s x : Nat) : Nat := if x / s % 2 = 0 then x + s else x - s
theorem cnt_sw (p : Nat → Bool) {s : Nat} (hs : 0 < s) : ∀ m, cnt (fun x => p (sw s x)) (s * (2 * m)) = cnt p (s * (2 * m))
  | 0 => rfl
  | m + 1 => by
    have e : s * (2 * (m + 1)) = s * (2 * m) + (s + s) := by rw [show 2 * (m + 1) = 2 * m + 2 by omega, Nat.mul_add]; omega
    have d1 : ∀ i, i < s → sw s (s * (2 * m) + i) = s * (2 * m) + (s + i) := fun i hi => by
      unfold sw
      rw [Nat.mul_add_div hs, Nat.div_eq_of_lt hi, if_pos (by omega)]; omega
    have d2 : ∀ i, i < s → sw s (s * (2 * m) + (s + i)) = s * (2 * m) + i := fun i hi => by
      unfold sw
      rw [Nat.mul_add_div hs, Nat.add_div_left _ hs, Nat.div_eq_of_lt hi, if_neg (by omega)]; omega
    rw [e, cnt_add (fun x => p (sw s x)) (s * (2 * m)) (s + s), cnt_add _ s s, cnt_sw p hs m, cnt_add p (s * (2 * m)) (s + s), cnt_add _ s s]
    have c1 : cnt (fun i => p (sw s (s * (2 * m) + i))) s = cnt (fun i => p (s * (2 * m) + (s + i))) s := cnt_congr fun i hi => by rw [d1 i hi]
    have c2 : cnt (fun i => p (sw s (s * (2 * m) + (s + i)))) s = cnt (fun i => p (s * (2 * m) + i)) s := cnt_congr fun i hi => by rw [d2 i hi]
    rw [c1, c2]; omega
theorem setB_sw_all : ∀ v : Nat, v < 8 → ∀ x : Nat, x < 256 → if x.testBit v then (setB x v true = x ∧ setB x v false = sw (2 ^ v) x) else (setB x v true = sw (2 ^ v) x ∧ setB x v false = x) := by decide +kernel
theorem count_split (hv : 0 ≤ v ∧ v < 8) : countF (cofF f v true) + countF (cofF f v false) = 2 * countF f := by
  obtain ⟨n, rfl, hn⟩ := nat8 hv
  have e : ∀ b, countF (cofF f n b) = cnt (fun x => f.getLsbD (setB x n b)) 256 := fun b => by
    rw [countF_def]; exact cnt_congr fun i hi => cofF_bit hn hi
  rw [e, e, cnt_pt (r := fun x => f.getLsbD x) (t := fun x => f.getLsbD (sw (2 ^ n) x)) fun x hx => by
    have := setB_sw_all n hn x hx
    cases hb : x.testBit n
    · rw [hb] at this; simp only [Bool.false_eq_true, if_false] at this; rw [this.1, this.2]; omega
    · rw [hb] at this; simp only [if_true] at this; rw [this.1, this.2]]
  obtain ⟨m, hm⟩ := (by
    obtain ⟨m, h⟩ := (by decide : ∀ n : Nat, n < 8 → ∃ m : Fin 129, 256 = 2 ^ n * (2 * m.val)) n hn
    exact ⟨m.val, h⟩ : ∃ m, 256 = 2 ^ n * (2 * m))
  have := cnt_sw (fun x => f.getLsbD x) (s := 2 ^ n) (Nat.pow_pos (by decide)) m
  rw [← hm] at this
  rw [this, countF_def]; omega
end
end Go.Bx
