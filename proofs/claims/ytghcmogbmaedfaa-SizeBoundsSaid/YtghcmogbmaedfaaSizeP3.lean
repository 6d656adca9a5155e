/- No function of eight variables needs more than 77 nodes, in an order of all. No program is in sight. -/
import Derived.Test.YtghcmogbmaedfaaSizeP2
namespace Go.Bx
open Go
set_option linter.unusedSimpArgs false
set_option linter.unusedVariables false

/-- Each of the eight variables stands in the order just once. -/
structure AllOnce (ord : List Int) : Prop where
  len : ord.length = 8
  all : ∀ v : Nat, v < 8 → ∃ j, j < 8 ∧ ord[j]? = some (v : Int)
  rng : ∀ j : Nat, j < 8 → ∃ v : Nat, v < 8 ∧ ord[j]? = some (v : Int)
  once : ∀ (i j : Nat) (v : Int), ord[i]? = some v → ord[j]? = some v → i = j

section
variable {ord : List Int} {f g : Fun8} {v : Int} {b : Bool} {i j : Nat}
def ov (ord : List Int) (j : Nat) : Int := ord.getD j 0
def lev (ord : List Int) (f : Fun8) : Nat → List Fun8
  | 0 => [f]
  | j + 1 => (lev ord f j).flatMap fun g => [cofF g (ov ord j) false, cofF g (ov ord j) true]
theorem lev_len : ∀ j, (lev ord f j).length = 2 ^ j
  | 0 => rfl
  | j + 1 => by
    have key : ∀ l : List Fun8, (l.flatMap fun g => [cofF g (ov ord j) false, cofF g (ov ord j) true]).length = l.length * 2 := fun l => by
      induction l with
      | nil => rfl
      | cons a l ih => rw [List.flatMap_cons, List.length_append, ih]; simp; omega
    rw [lev, key, lev_len j, Nat.pow_succ]
theorem lev_dep : ∀ {j : Nat} {g : Fun8}, g ∈ lev ord f j → ∀ i, i < j → depF g (ov ord i) = false
  | 0, _, _, i, hi => by omega
  | j + 1, g, hg, i, hi => by
    rw [lev, List.mem_flatMap] at hg
    obtain ⟨h, hh, hg⟩ := hg
    simp only [List.mem_cons, List.not_mem_nil, or_false] at hg
    by_cases e : i = j
    · subst e
      rcases hg with rfl | rfl <;> exact dep_cof
    · have := lev_dep hh i (by omega)
      rcases hg with rfl | rfl
      · cases hd : depF (cofF h (ov ord j) false) (ov ord i)
        · rfl
        · rw [dep_of_cof hd] at this; cases this
      · cases hd : depF (cofF h (ov ord j) true) (ov ord i)
        · rfl
        · rw [dep_of_cof hd] at this; cases this
theorem lev_stay (h : g ∈ lev ord f j) (hd : depF g (ov ord j) = false) : g ∈ lev ord f (j + 1) := by
  rw [lev, List.mem_flatMap]
  exact ⟨g, h, by rw [cof_same hd]; simp⟩
theorem lev_up (h : g ∈ lev ord f j) : ∀ k, (∀ i, j ≤ i → i < j + k → depF g (ov ord i) = false) → g ∈ lev ord f (j + k)
  | 0, _ => h
  | k + 1, hd => lev_stay (lev_up h k fun i h1 h2 => hd i h1 (by omega)) (hd (j + k) (by omega) (by omega))
theorem find_first {p : Int → Bool} : ∀ {l : List Int} {x : Int}, l.find? p = some x → ∃ i : Nat, l[i]? = some x ∧ ∀ (k : Nat) (y : Int), k < i → l[k]? = some y → p y = false
  | [], _, h => by cases h
  | a :: l, x, h => by
    cases ha : p a
    · rw [List.find?_cons_of_neg (by simp [ha])] at h
      obtain ⟨i, h1, h2⟩ := find_first h
      refine ⟨i + 1, by simpa using h1, fun k y hk hy => ?_⟩
      cases k with
      | zero => simp at hy; subst hy; exact ha
      | succ k => exact h2 k y (by omega) (by simpa using hy)
    · rw [List.find?_cons_of_pos ha] at h
      cases h
      exact ⟨0, rfl, fun k y hk => by omega⟩
theorem top_at (h : 0 ≤ topF ord f) : ∃ i, ord[i]? = some (topF ord f) ∧ ∀ k, k < i → depF f (ov ord k) = false := by
  unfold topF at h ⊢
  cases hf : ord.find? (depF f) with
  | none => rw [hf] at h; simp at h
  | some x =>
    obtain ⟨i, h1, h2⟩ := find_first hf
    refine ⟨i, h1, fun k hk => ?_⟩
    have hi := (List.getElem?_eq_some_iff.1 h1).1
    have hkl : k < ord.length := by omega
    refine h2 k _ hk ?_
    rw [ov, List.getD_eq_getElem?_getD, List.getElem?_eq_getElem hkl]; rfl
theorem rch_lev (ho : ord.length = 8) (h : Rch ord [f] g) : ∃ j, j ≤ 8 ∧ g ∈ lev ord f j := by
  induction h with
  | base h => rw [List.mem_singleton] at h; subst h; exact ⟨0, by omega, by simp [lev]⟩
  | @step g g' _ hk ih =>
    obtain ⟨j, hj, hg⟩ := ih
    unfold kids at hk
    split at hk
    · rename_i ht
      obtain ⟨i, hi, hd⟩ := top_at ht
      have hil := (List.getElem?_eq_some_iff.1 hi).1
      have hov : ov ord i = topF ord g := by rw [ov, List.getD_eq_getElem?_getD, hi]; rfl
      have hji : j ≤ i := by
        refine Nat.le_of_not_lt fun hl => ?_
        have := lev_dep hg i hl
        rw [hov, topF_dep ht] at this; cases this
      have hgi : g ∈ lev ord f i := by
        have := lev_up hg (i - j) fun k h1 h2 => hd k (by omega)
        rwa [show j + (i - j) = i by omega] at this
      refine ⟨i + 1, by omega, ?_⟩
      rw [lev, List.mem_flatMap]
      exact ⟨g, hgi, by rw [hov]; exact hk⟩
    · cases hk

/-! ### Functions of two variables -/
def rep (p q : Nat) (a b : Bool) : Nat := (if a then 2 ^ p else 0) + (if b then 2 ^ q else 0)
theorem rep_all : ∀ p : Nat, p < 8 → ∀ q : Nat, q < 8 → p ≠ q → ∀ a b : Bool, rep p q a b < 256 ∧ (rep p q a b).testBit p = a ∧ (rep p q a b).testBit q = b := by decide +kernel
def tblF (p q : Nat) (n : Nat) : Fun8 := ofRows fun x => n.testBit ((x.testBit p).toNat + 2 * (x.testBit q).toNat)
theorem bits_ext {x y : Nat} (hx : x < 256) (hy : y < 256) (h : ∀ v, v < 8 → x.testBit v = y.testBit v) : x = y := by
  refine Nat.eq_of_testBit_eq fun i => ?_
  by_cases hi : i < 8
  · exact h i hi
  · have hp : 256 ≤ 2 ^ i := by
      have : 2 ^ 8 ≤ 2 ^ i := Nat.pow_le_pow_right (by decide) (by omega)
      exact this
    rw [Nat.testBit_lt_two_pow (by omega), Nat.testBit_lt_two_pow (by omega)]
/-- Rows that agree where it depends yield the same. -/
theorem dep_agree {x y : Nat} (hx : x < 256) (hy : y < 256) (h : ∀ v : Nat, v < 8 → depF f v = true → x.testBit v = y.testBit v) : f.getLsbD x = f.getLsbD y := by
  have key : ∀ k : Nat, k ≤ 8 → ∃ z, z < 256 ∧ f.getLsbD z = f.getLsbD x ∧ (∀ v, v < k → z.testBit v = y.testBit v) ∧ ∀ v, k ≤ v → v < 8 → z.testBit v = x.testBit v := by
    intro k
    induction k with
    | zero => intro _; exact ⟨x, hx, rfl, fun v hv => by omega, fun v _ _ => rfl⟩
    | succ k ih =>
      intro hk
      obtain ⟨z, hz, h1, h2, h3⟩ := ih (by omega)
      cases hd : depF f k
      · refine ⟨setB z k (y.testBit k), setB_lt hz (by omega), by rw [← dep_set (by omega) hd hz, h1], fun v hv => ?_, fun v hv hv8 => ?_⟩
        · by_cases e : v = k
          · subst e; exact setB_bit_all v (by omega) z hz _
          · rw [setB_other_all k (by omega) v (by omega) (Ne.symm e) z hz]; exact h2 v (by omega)
        · rw [setB_other_all k (by omega) v hv8 (by omega) z hz]; exact h3 v (by omega) hv8
      · refine ⟨z, hz, h1, fun v hv => ?_, fun v hv hv8 => h3 v (by omega) hv8⟩
        by_cases e : v = k
        · subst e; rw [h3 v (Nat.le_refl _) (by omega)]; exact h v (by omega) hd
        · exact h2 v (by omega)
  obtain ⟨z, hz, h1, h2, _⟩ := key 8 (by omega)
  rw [← h1, bits_ext hz hy h2]
theorem tbl_bits : ∀ c0 c1 c2 c3 : Bool, ∀ a b : Bool, (c0.toNat + 2 * c1.toNat + 4 * c2.toNat + 8 * c3.toNat).testBit (a.toNat + 2 * b.toNat) = (if a then (if b then c3 else c1) else (if b then c2 else c0)) := by decide
theorem two_var {p q : Nat} (hp : p < 8) (hq : q < 8) (hne : p ≠ q) (h : ∀ v : Nat, v < 8 → v ≠ p → v ≠ q → depF f v = false) (hs : supF f ≠ 0) : ∃ n, 1 ≤ n ∧ n ≤ 14 ∧ f = tblF p q n := by
  have hr := rep_all p hp q hq hne
  have hbit : ∀ x, x < 256 → f.getLsbD x = f.getLsbD (rep p q (x.testBit p) (x.testBit q)) := fun x hx => by
    have := hr (x.testBit p) (x.testBit q)
    refine dep_agree hx this.1 fun v hv hd => ?_
    by_cases e1 : v = p
    · subst e1; exact this.2.1.symm
    · by_cases e2 : v = q
      · subst e2; exact this.2.2.symm
      · rw [h v hv e1 e2] at hd; cases hd
  generalize hc0 : f.getLsbD (rep p q false false) = c0
  generalize hc1 : f.getLsbD (rep p q true false) = c1
  generalize hc2 : f.getLsbD (rep p q false true) = c2
  generalize hc3 : f.getLsbD (rep p q true true) = c3
  have he : f = tblF p q (c0.toNat + 2 * c1.toNat + 4 * c2.toNat + 8 * c3.toNat) := by
    refine cof_ext fun x hx => ?_
    rw [tblF, bt_rows hx, tbl_bits, hbit x hx]
    cases x.testBit p <;> cases x.testBit q <;> simp [hc0, hc1, hc2, hc3]
  refine ⟨_, ?_, ?_, he⟩
  · refine Nat.pos_of_ne_zero fun h0 => hs ?_
    rw [h0] at he
    have : f = constF false := by rw [he]; refine cof_ext fun x hx => ?_; rw [tblF, bt_rows hx, bt_const hx]; simp
    rw [this]; exact sup_constF
  · refine Nat.le_of_not_lt fun h0 => hs ?_
    have h15 : c0.toNat + 2 * c1.toNat + 4 * c2.toNat + 8 * c3.toNat = 15 := by
      exact (by decide : ∀ c0 c1 c2 c3 : Bool, 14 < c0.toNat + 2 * c1.toNat + 4 * c2.toNat + 8 * c3.toNat → c0.toNat + 2 * c1.toNat + 4 * c2.toNat + 8 * c3.toNat = 15) c0 c1 c2 c3 h0
    rw [h15] at he
    have : f = constF true := by
      rw [he]; refine cof_ext fun x hx => ?_; rw [tblF, bt_rows hx, bt_const hx]
      cases x.testBit p <;> cases x.testBit q <;> decide
    rw [this]; exact sup_constF
theorem size_77 (ho : AllOnce ord) : sizeF ord [f] ≤ 77 := by
  obtain ⟨ns, hn⟩ := nodes_ex ord [f]
  obtain ⟨p, hp, hp'⟩ := ho.rng 6 (by decide)
  obtain ⟨q, hq, hq'⟩ := ho.rng 7 (by decide)
  have hne : p ≠ q := fun e => by
    subst e
    exact absurd (ho.once 6 7 _ hp' hq') (by decide)
  rw [← hn.size]
  have hlen : (lev ord f 0 ++ (lev ord f 1 ++ (lev ord f 2 ++ (lev ord f 3 ++ (lev ord f 4 ++ (lev ord f 5 ++ (List.range 14).map fun n => tblF p q (n + 1))))))).length = 77 := by
    simp only [List.length_append, lev_len, List.length_map, List.length_range]
  rw [← hlen]
  refine sub_len hn.nodup fun g hg => ?_
  obtain ⟨h1, h2⟩ := (hn.mem g).1 hg
  obtain ⟨j, hj, hl⟩ := rch_lev ho.len h1
  simp only [List.mem_append]
  by_cases h6 : j ≤ 5
  · rcases (by omega : j = 0 ∨ j = 1 ∨ j = 2 ∨ j = 3 ∨ j = 4 ∨ j = 5) with rfl | rfl | rfl | rfl | rfl | rfl
    · exact .inl hl
    · exact .inr (.inl hl)
    · exact .inr (.inr (.inl hl))
    · exact .inr (.inr (.inr (.inl hl)))
    · exact .inr (.inr (.inr (.inr (.inl hl))))
    · exact .inr (.inr (.inr (.inr (.inr (.inl hl)))))
  · have hd := lev_dep hl
    obtain ⟨n, n1, n2, hgn⟩ := two_var hp hq hne (f := g) (fun v hv e1 e2 => by
      obtain ⟨i, hi, hiv⟩ := ho.all v hv
      have hov : ov ord i = v := by rw [ov, List.getD_eq_getElem?_getD, hiv]; rfl
      have : i < 6 := by
        rcases (by omega : i < 6 ∨ i = 6 ∨ i = 7) with h | rfl | rfl
        · exact h
        · rw [hp'] at hiv; injection hiv with h; omega
        · rw [hq'] at hiv; injection hiv with h; omega
      rw [← hov]; exact hd i (by omega)) h2
    refine .inr (.inr (.inr (.inr (.inr (.inr ?_)))))
    exact List.mem_map.2 ⟨n - 1, List.mem_range.2 (by omega), by rw [hgn]; congr 1; omega⟩
theorem top_none_iff (ho : AllOnce ord) : topF ord f = -1 ↔ supF f = 0 := by
  constructor
  · intro h
    refine supF_zero.2 fun v => ?_
    by_cases hv : 0 ≤ v ∧ v < 8
    · obtain ⟨n, rfl, hn⟩ := nat8 hv
      obtain ⟨j, _, hj⟩ := ho.all n hn
      exact (topF_none (ord := ord) (f := f) (by omega)).1 _ (List.mem_of_getElem? hj)
    · exact depF_out hv
  · intro h
    by_cases ht : 0 ≤ topF ord f
    · have := supF_zero.1 h (topF ord f)
      rw [topF_dep ht] at this; cases this
    · exact (topF_none ht).2
/-- Are these eight numbers an order of all variables? -/
def mayF (ord : List Int) : Bool := (List.range 8).all fun v => ord.count (v : Int) == 1
theorem may_once (ho : ord.length = 8) (h : mayF ord = true) : AllOnce ord := by
  have hc : ∀ v : Nat, v < 8 → ord.count (v : Int) = 1 := fun v hv => by
    have := List.all_eq_true.1 h v (List.mem_range.2 hv)
    simpa using this
  have hm : ∀ v : Nat, v < 8 → (v : Int) ∈ ord := fun v hv => List.count_pos_iff.1 (by rw [hc v hv]; decide)
  have hin : ∀ x ∈ ord, ∃ v : Nat, v < 8 ∧ x = v := fun x hx => by
    refine Classical.byContradiction fun hno => ?_
    have hn : ((List.range 8).map fun v : Nat => (v : Int)).Nodup := by decide
    have := sub_len (m := ord.erase x) hn fun y hy => by
      obtain ⟨v, hv, rfl⟩ := List.mem_map.1 hy
      have hv := List.mem_range.1 hv
      exact (List.mem_erase_of_ne fun e => hno ⟨v, hv, e.symm⟩).2 (hm v hv)
    rw [List.length_erase_of_mem hx, ho] at this
    simp at this
  have hnd : ord.Nodup := by
    rw [List.nodup_iff_count]
    intro x
    by_cases hx : x ∈ ord
    · obtain ⟨v, hv, rfl⟩ := hin x hx
      rw [hc v hv]; exact Nat.le_refl 1
    · rw [List.count_eq_zero_of_not_mem hx]; exact Nat.zero_le 1
  refine ⟨ho, fun v hv => ?_, fun j hj => ?_, fun i j v hi hj => ?_⟩
  · obtain ⟨j, hj⟩ := List.mem_iff_getElem?.1 (hm v hv)
    have := (List.getElem?_eq_some_iff.1 hj).1
    exact ⟨j, by omega, hj⟩
  · have hl : j < ord.length := by omega
    obtain ⟨v, hv, he⟩ := hin ord[j] (List.getElem_mem hl)
    exact ⟨v, hv, by rw [List.getElem?_eq_getElem hl, he]⟩
  · obtain ⟨h1, h2⟩ := List.getElem?_eq_some_iff.1 hi
    obtain ⟨h3, h4⟩ := List.getElem?_eq_some_iff.1 hj
    exact (List.getElem_inj hnd).1 (h2.trans h4.symm)
theorem count_take {k : Nat} {x : Int} (hx : ord[k]? = some x) : (ord.take (k + 1)).count v = (ord.take k).count v + if x = v then 1 else 0 := by
  rw [List.take_add_one, hx, List.count_append]
  congr 1
  simp [List.count_cons]
end
end Go.Bx
