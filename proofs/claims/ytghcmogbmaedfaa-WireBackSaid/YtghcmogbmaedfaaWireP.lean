/- Requests and answers as bytes. No program is in sight. -/
import Derived.Test.YtghcmogbmaedfaaBxStr
namespace Go.Bx
open Go
set_option linter.unusedSimpArgs false
set_option linter.unusedVariables false

structure RQ where
  op : Int
  tn : Int
  a : Nat
  b : Nat
  c : Nat
  n : Int
  bit : Int
  deriving DecidableEq
structure RQ.ok (r : RQ) : Prop where
  op : -9223372036854775808 ≤ r.op ∧ r.op < 9223372036854775808
  tn : -9223372036854775808 ≤ r.tn ∧ r.tn < 9223372036854775808
  a : r.a < 18446744073709551616
  b : r.b < 18446744073709551616
  c : r.c < 18446744073709551616
  n : -9223372036854775808 ≤ r.n ∧ r.n < 9223372036854775808
  bit : -9223372036854775808 ≤ r.bit ∧ r.bit < 9223372036854775808
/-- The parts of a request, by its Op. -/
def partsL (op : Int) : Option (List Nat) :=
  if op = 1 then some [4] else if op = 2 ∨ op = 21 then some [] else if op = 3 ∨ op = 6 ∨ op = 16 ∨ op = 17 ∨ op = 18 ∨ op = 20 then some [0]
  else if op = 4 then some [5] else if op = 5 then some [3] else if op = 7 ∨ op = 8 ∨ op = 9 ∨ op = 19 then some [0, 1] else if op = 10 then some [0, 1, 2]
  else if op = 11 then some [0, 3, 5] else if op = 12 then some [0, 3, 1] else if op = 13 ∨ op = 14 ∨ op = 15 then some [0, 3] else none
def pl (op : Int) : List Nat := (partsL op).getD []
def mostV (op : Int) : Int := if op = 1 then 65535 else if op = 15 then 255 else if op = 5 ∨ 11 ≤ op ∧ op ≤ 14 then 7 else 0
def toU (i : Int) : Nat := (i % 18446744073709551616).toNat
def toS (v : Nat) : Int := if v < 9223372036854775808 then (v : Int) else (v : Int) - 18446744073709551616
def partV (r : RQ) (p : Nat) : Nat := if p = 0 then r.a else if p = 1 then r.b else if p = 2 then r.c else if p = 5 then toU r.bit else toU r.n
def setV (r : RQ) (p : Nat) (v : Nat) : RQ := if p = 0 then { r with a := v } else if p = 1 then { r with b := v } else if p = 2 then { r with c := v } else if p = 5 then { r with bit := toS v } else { r with n := toS v }
def wideV (p : Nat) : Nat := if p ≤ 2 then 8 else if p = 4 then 2 else 1
def hiB : Nat → Nat → List Nat
  | 0, _ => []
  | n + 1, v => (v / 256 ^ n % 256) :: hiB n v
def numB (l : List Nat) : Nat := l.foldl (fun a x => 256 * a + x) 0
def mayF (r : RQ) : Bool := match partsL r.op with
  | none => false
  | some l => decide (1 ≤ r.tn ∧ r.tn ≤ 8 ∧ 0 ≤ r.n ∧ r.n ≤ mostV r.op ∧ 0 ≤ r.bit ∧ r.bit ≤ 1 ∧ (0 ∈ l ∨ r.a = 0) ∧ (1 ∈ l ∨ r.b = 0) ∧ (2 ∈ l ∨ r.c = 0) ∧ (5 ∈ l ∨ r.bit = 0))
def bodyB (r : RQ) (l : List Nat) : List Nat := l.flatMap fun p => hiB (wideV p) (partV r p)
def putB (r : RQ) : List Nat := r.op.toNat :: r.tn.toNat :: bodyB r (pl r.op)
def onlyR (r : RQ) (l : List Nat) : RQ := l.foldl (fun s p => setV s p (partV r p)) ⟨r.op, r.tn, 0, 0, 0, 0, 0⟩
def getL : List Nat → List Nat → RQ → Option (RQ × List Nat)
  | [], bs, r => some (r, bs)
  | p :: ps, bs, r => if bs.length < wideV p then none else getL ps (bs.drop (wideV p)) (setV r p (numB (bs.take (wideV p))))
def getF (bs : List Nat) : Option RQ := match bs with
  | o :: t :: rest => match getL (pl o) rest ⟨o, t, 0, 0, 0, 0, 0⟩ with
    | some (r, []) => if mayF r then some r else none
    | _ => none
  | _ => none

/-! ### Numbers as bytes -/
theorem hiB_len : ∀ {n v : Nat}, (hiB n v).length = n
  | 0, _ => rfl
  | n + 1, v => by rw [hiB, List.length_cons, hiB_len]
theorem hiB_lt : ∀ {n v : Nat}, ∀ x ∈ hiB n v, x < 256
  | 0, _, x, h => by cases h
  | n + 1, v, x, h => by
    rw [hiB, List.mem_cons] at h
    rcases h with rfl | h
    · exact Nat.mod_lt _ (by decide)
    · exact hiB_lt x h
theorem num_foldl : ∀ (l : List Nat) (a : Nat), l.foldl (fun a x => 256 * a + x) a = 256 ^ l.length * a + numB l
  | [], a => by simp [numB]
  | x :: l, a => by
    have h1 := num_foldl l (256 * a + x)
    have h2 := num_foldl l (256 * 0 + x)
    rw [List.foldl_cons, h1]
    unfold numB
    rw [List.foldl_cons, h2, List.length_cons, Nat.pow_succ]
    simp only [Nat.mul_zero, Nat.zero_add, Nat.mul_add, numB]
    rw [Nat.mul_assoc]; omega
theorem num_cons (x : Nat) (l : List Nat) : numB (x :: l) = 256 ^ l.length * x + numB l := by
  unfold numB
  rw [List.foldl_cons, num_foldl]
  simp [numB]
theorem num_snoc (l : List Nat) (x : Nat) : numB (l ++ [x]) = 256 * numB l + x := by
  unfold numB
  rw [List.foldl_append]; rfl
theorem num_lt : ∀ {l : List Nat}, (∀ x ∈ l, x < 256) → numB l < 256 ^ l.length
  | [], _ => by simp [numB]
  | x :: l, h => by
    have h1 := num_lt (l := l) fun y hy => h y (by simp [hy])
    have h2 := h x (by simp)
    rw [num_cons, List.length_cons, Nat.pow_succ]
    have : 256 ^ l.length * x + 256 ^ l.length ≤ 256 ^ l.length * 256 := by
      rw [← Nat.mul_succ]; exact Nat.mul_le_mul_left _ h2
    omega
theorem num_hi : ∀ {n v : Nat}, numB (hiB n v) = v % 256 ^ n
  | 0, v => by simp [hiB, numB, Nat.mod_one]
  | n + 1, v => by
    rw [hiB, num_cons, hiB_len, num_hi, Nat.pow_succ]
    rw [Nat.mod_mul]; omega
theorem hi_mod : ∀ {n v : Nat} (k : Nat), n ≤ k → hiB n (v % 256 ^ k) = hiB n v
  | 0, _, _, _ => rfl
  | n + 1, v, k, h => by
    rw [hiB, hiB, hi_mod k (by omega)]
    congr 1
    obtain ⟨m, rfl⟩ : ∃ m, k = n + (m + 1) := ⟨k - n - 1, by omega⟩
    rw [Nat.pow_add, Nat.mod_mul_right_div_self, Nat.pow_succ, Nat.mul_comm, Nat.mod_mul_right_mod]
theorem hi_num : ∀ {l : List Nat}, (∀ x ∈ l, x < 256) → hiB l.length (numB l) = l
  | [], _ => rfl
  | x :: l, h => by
    have h1 := num_lt (l := l) fun y hy => h y (by simp [hy])
    have h2 := h x (by simp)
    rw [List.length_cons, hiB]
    have e1 : numB (x :: l) / 256 ^ l.length % 256 = x := by
      rw [num_cons, Nat.mul_add_div (Nat.pow_pos (by decide)), Nat.div_eq_of_lt h1, Nat.add_zero, Nat.mod_eq_of_lt h2]
    have e2 : hiB l.length (numB (x :: l)) = l := by
      rw [← hi_mod l.length (Nat.le_refl _), num_cons, Nat.mul_add_mod, Nat.mod_eq_of_lt h1, hi_num fun y hy => h y (by simp [hy])]
    rw [e1, e2]

/-! ### Parts -/
theorem toU_toS {v : Nat} (h : v < 18446744073709551616) : toU (toS v) = v := by unfold toU toS; split <;> omega
theorem toS_toU {i : Int} (h : -9223372036854775808 ≤ i ∧ i < 9223372036854775808) : toS (toU i) = i := by unfold toU toS; split <;> omega
def fldP (p : Nat) : Nat := if p = 0 then 0 else if p = 1 then 1 else if p = 2 then 2 else if p = 5 then 5 else 3
theorem part_set {r : RQ} {p v : Nat} (h : v < 18446744073709551616) : partV (setV r p v) p = v := by
  unfold partV setV
  by_cases h0 : p = 0
  · simp [h0]
  by_cases h1 : p = 1
  · simp [h1]
  by_cases h2 : p = 2
  · simp [h2]
  by_cases h5 : p = 5
  · simp [h5, toU_toS h]
  · simp [h0, h1, h2, h5, toU_toS h]
theorem part_set_ne {r : RQ} {p q v : Nat} (h : fldP p ≠ fldP q) : partV (setV r p v) q = partV r q := by
  unfold fldP at h
  unfold partV setV
  by_cases p0 : p = 0 <;> by_cases p1 : p = 1 <;> by_cases p2 : p = 2 <;> by_cases p5 : p = 5 <;> by_cases q0 : q = 0 <;> by_cases q1 : q = 1 <;> by_cases q2 : q = 2 <;> by_cases q5 : q = 5 <;> simp_all
theorem set_op {r : RQ} {p v : Nat} : (setV r p v).op = r.op ∧ (setV r p v).tn = r.tn := by
  unfold setV
  split <;> (try split) <;> (try split) <;> (try split) <;> exact ⟨rfl, rfl⟩
/-- All that an Op may be. -/
theorem parts_cases {op : Int} {l : List Nat} (h : partsL op = some l) : 1 ≤ op ∧ op ≤ 21 := by
  unfold partsL at h
  repeat' split at h
  all_goals first | omega | cases h
theorem op_cases {op : Int} (h : 1 ≤ op ∧ op ≤ 21) : op = 1 ∨ op = 2 ∨ op = 3 ∨ op = 4 ∨ op = 5 ∨ op = 6 ∨ op = 7 ∨ op = 8 ∨ op = 9 ∨ op = 10 ∨ op = 11 ∨ op = 12 ∨ op = 13 ∨ op = 14 ∨ op = 15 ∨ op = 16 ∨ op = 17 ∨ op = 18 ∨ op = 19 ∨ op = 20 ∨ op = 21 := by omega
theorem parts_nodup_all : ∀ k : Nat, k < 22 → ((pl (k : Int)).map fldP).Nodup ∧ (pl (k : Int)).length ≤ 3 ∧ ∀ p ∈ pl (k : Int), p ≤ 5 := by decide
theorem parts_most_all : ∀ k : Nat, k < 22 → (3 ∈ pl (k : Int) → mostV k ≤ 255) ∧ (3 ∉ pl (k : Int) → 4 ∉ pl (k : Int) → mostV k = 0) ∧ mostV k ≤ 65535 := by decide
theorem pl_out {op : Int} (h : ¬ (1 ≤ op ∧ op ≤ 21)) : pl op = [] ∧ partsL op = none := by
  cases hp : partsL op with
  | none => exact ⟨by rw [pl, hp]; rfl, rfl⟩
  | some l => exact absurd (parts_cases hp) h
theorem pl_in {op : Int} (h : 1 ≤ op ∧ op ≤ 21) : ∃ k : Nat, op = k ∧ k < 22 ∧ partsL op = some (pl op) := by
  refine ⟨op.toNat, by omega, by omega, ?_⟩
  rcases op_cases h with rfl | rfl | rfl | rfl | rfl | rfl | rfl | rfl | rfl | rfl | rfl | rfl | rfl | rfl | rfl | rfl | rfl | rfl | rfl | rfl | rfl <;> decide
theorem may_parts {r : RQ} (h : mayF r = true) : (1 ≤ r.op ∧ r.op ≤ 21) ∧ 1 ≤ r.tn ∧ r.tn ≤ 8 ∧ 0 ≤ r.n ∧ r.n ≤ mostV r.op ∧ 0 ≤ r.bit ∧ r.bit ≤ 1 ∧ (0 ∈ pl r.op ∨ r.a = 0) ∧ (1 ∈ pl r.op ∨ r.b = 0) ∧ (2 ∈ pl r.op ∨ r.c = 0) ∧ (5 ∈ pl r.op ∨ r.bit = 0) := by
  unfold mayF at h
  cases hp : partsL r.op with
  | none => rw [hp] at h; cases h
  | some l =>
    rw [hp] at h
    have : pl r.op = l := by rw [pl, hp]; rfl
    rw [this]
    exact ⟨parts_cases hp, of_decide_eq_true h⟩
theorem part_eq {r s : RQ} {p : Nat} (h : partV r p = partV s p) : partV r p = partV s p := h
/-- What is set, part by part. -/
theorem fold_part {r : RQ} (hr : r.ok) : ∀ (l : List Nat) (s : RQ) (p : Nat), partV (l.foldl (fun s p => setV s p (partV r p)) s) p = if fldP p ∈ l.map fldP then partV r p else partV s p
  | [], s, p => by simp
  | q :: l, s, p => by
    rw [List.foldl_cons, fold_part hr l]
    have hv : ∀ q, partV r q < 18446744073709551616 := fun q => by
      unfold partV toU
      split
      · exact hr.a
      · split
        · exact hr.b
        · split
          · exact hr.c
          · split <;> omega
    by_cases h1 : fldP p ∈ l.map fldP
    · rw [if_pos h1, if_pos (by simp at h1 ⊢; exact .inr h1)]
    · rw [if_neg h1]
      by_cases h2 : fldP q = fldP p
      · rw [if_pos (by simp [h2])]
        have he : ∀ s : RQ, partV s p = partV s q := fun s => by
          unfold fldP at h2
          unfold partV
          by_cases p0 : p = 0 <;> by_cases p1 : p = 1 <;> by_cases p2 : p = 2 <;> by_cases p5 : p = 5 <;> by_cases q0 : q = 0 <;> by_cases q1 : q = 1 <;> by_cases q2 : q = 2 <;> by_cases q5 : q = 5 <;> simp_all
        rw [he, he, part_set (hv q)]
      · rw [if_neg (by simp at h1 ⊢; exact ⟨fun h => h2 h.symm, h1⟩), part_set_ne h2]
theorem fold_op (r : RQ) : ∀ (l : List Nat) (s : RQ), (l.foldl (fun s p => setV s p (partV r p)) s).op = s.op ∧ (l.foldl (fun s p => setV s p (partV r p)) s).tn = s.tn
  | [], s => ⟨rfl, rfl⟩
  | q :: l, s => by
    have := fold_op r l (setV s q (partV r q))
    rw [List.foldl_cons, this.1, this.2, set_op.1, set_op.2]
    exact ⟨rfl, rfl⟩
end Go.Bx
