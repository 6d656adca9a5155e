/- SizeP2, SizeP3, FullP, IteP, IteP2, OneT, MpI, BxCut, SoK, RchP, RdR, SwP, SwW, SwP2, Law12, SiP, SiP2, SiW, SiW2, SiW3, SiW4, PairP, QuP, SkP, Law13, MayW, EmpP, Rs8, Law09, Law13c: texts of this work, one behind the other. -/
import Derived.Test.YtpeindhocndmnaaSg6
import Derived.Shelf.Small.Bits
import Derived.Shelf.Sort.Plain
import Derived.Sort.OwnSortedInts
namespace Go.Bx
open Go
set_option linter.unusedSimpArgs false
set_option linter.unusedVariables false
section
variable {ord : List Int} {l k ns ms : List Fun8} {f g : Fun8} {v : Int} {b : Bool}
theorem nodes_of : ∀ (n : Nat) {keys work : List Fun8}, wts work = n → Dfs ord l keys work → ∃ ns, IsNodes ord l ns ∧ ns.length ≤ keys.length + n := by
  intro n
  induction n using Nat.strongRecOn with
  | _ n ih =>
    intro keys work hn h
    rcases List.eq_nil_or_concat work with rfl | ⟨ws, f, rfl⟩
    · exact ⟨_, h.done, by omega⟩
    · rw [List.concat_eq_append] at h hn
      have hm := Dfs.meas (ord := ord) (f := f) (ws := ws)
      by_cases hk : f ∈ keys ∨ supF f = 0
      · obtain ⟨ns, h1, h2⟩ := ih _ (by omega) rfl (h.skip hk)
        exact ⟨ns, h1, by omega⟩
      · obtain ⟨ns, h1, h2⟩ := ih _ (by omega) rfl (h.go (fun h => hk (.inl h)) (fun h => hk (.inr h)))
        rw [List.length_append, List.length_singleton] at h2
        exact ⟨ns, h1, by omega⟩
theorem nodes_ex (ord : List Int) (l : List Fun8) : ∃ ns, IsNodes ord l ns := by
  obtain ⟨ns, h, _⟩ := nodes_of (ord := ord) (l := l) _ rfl Dfs.init
  exact ⟨ns, h⟩
theorem Rch.mono (h : Rch ord l f) (hl : ∀ g ∈ l, Rch ord k g) : Rch ord k f := by
  induction h with
  | base h => exact hl _ h
  | step _ h ih => exact .step ih h
theorem Rch.sub (h : Rch ord l f) (hl : ∀ g ∈ l, g ∈ k) : Rch ord k f := h.mono fun g hg => .base (hl g hg)
theorem rch_app : Rch ord (l ++ k) f ↔ Rch ord l f ∨ Rch ord k f := by
  constructor
  · intro h
    induction h with
    | base h => exact (List.mem_append.1 h).imp .base .base
    | step _ h ih => exact ih.imp (fun i => .step i h) (fun i => .step i h)
  · rintro (h | h)
    · exact h.sub fun g hg => by simp [hg]
    · exact h.sub fun g hg => by simp [hg]
theorem size_app : sizeF ord (l ++ k) ≤ sizeF ord l + sizeF ord k := by
  obtain ⟨ns, hn⟩ := nodes_ex ord l
  obtain ⟨ms, hm⟩ := nodes_ex ord k
  obtain ⟨os, ho⟩ := nodes_ex ord (l ++ k)
  rw [← hn.size, ← hm.size, ← ho.size, ← List.length_append]
  refine sub_len ho.nodup fun f hf => ?_
  obtain ⟨h1, h2⟩ := (ho.mem f).1 hf
  rw [List.mem_append]
  exact (rch_app.1 h1).imp (fun h => (hn.mem f).2 ⟨h, h2⟩) (fun h => (hm.mem f).2 ⟨h, h2⟩)
theorem dep_set {n : Nat} (hn : n < 8) (h : depF f n = false) {x : Nat} (hx : x < 256) : f.getLsbD x = f.getLsbD (setB x n b) := by
  have he : cofF f n false = cofF f n true := by rw [depF_def] at h; simpa using h
  have e0 := cofF_bit (f := f) (b := false) hn hx
  have e1 := cofF_bit (f := f) (b := true) hn hx
  rw [he, e1] at e0
  have hs := setB_self_all n hn x hx
  cases ht : x.testBit n <;> rw [ht] at hs <;> cases b
  · rw [hs]
  · rw [e0, hs]
  · rw [← e0, hs]
  · rw [hs]
theorem cof_same (h : depF f v = false) : cofF f v b = f := by
  by_cases hv : 0 ≤ v ∧ v < 8
  · obtain ⟨n, rfl, hn⟩ := nat8 hv
    exact cof_ext fun x hx => by rw [cofF_bit hn hx, ← dep_set hn h hx]
  · exact cofF_out hv
theorem cof_constS {c : Bool} : cofF (constF b) v c = constF b := by
  by_cases hv : 0 ≤ v ∧ v < 8
  · obtain ⟨n, rfl, hn⟩ := nat8 hv
    exact cof_ext fun x hx => by rw [cofF_bit hn hx, bt_const hx, bt_const (setB_lt hx hn)]
  · exact cofF_out hv
theorem sup_constF : supF (constF b) = 0 := supF_zero.2 fun v => by rw [depF_def, cof_constS, cof_constS]; simp
theorem size_zero : sizeF ord [f] = 0 ↔ supF f = 0 := by
  obtain ⟨ns, hn⟩ := nodes_ex ord [f]
  rw [← hn.size]
  constructor
  · intro h
    by_cases hs : supF f = 0
    · exact hs
    · have := (hn.mem f).2 ⟨.base (by simp), hs⟩
      rw [List.eq_nil_of_length_eq_zero h] at this; cases this
  · intro hs
    have key : ∀ g, Rch ord [f] g → g = f := fun g hg => by
      induction hg with
      | base h => simpa using h
      | step _ h ih => subst ih; rw [kids_flat hs] at h; cases h
    cases ns with
    | nil => rfl
    | cons g ns =>
      have := (hn.mem g).1 (by simp)
      rw [key g this.1] at this
      exact absurd hs this.2
theorem nv_rch (h : Rch ord (kids ord f) g) : nv g < nv f := by
  have key : ∀ {a c : Fun8}, c ∈ kids ord a → nv c < nv a := fun {a c} hc => by
    unfold kids at hc
    split at hc
    · rename_i ht
      have hd := topF_dep ht
      simp only [List.mem_cons, List.not_mem_nil, or_false] at hc
      rcases hc with rfl | rfl <;> exact nv_cof hd
    · cases hc
  induction h with
  | base h => exact key h
  | step _ h ih => exact Nat.lt_trans (key h) ih
theorem size_sides (h : 0 ≤ topF ord f) : sizeF ord [f] = sizeF ord (kids ord f) + 1 := by
  obtain ⟨ns, hn⟩ := nodes_ex ord [f]
  have hs : supF f ≠ 0 := fun hs => by
    have := supF_zero.1 hs (topF ord f)
    rw [topF_dep h] at this; cases this
  have hf : f ∈ ns := (hn.mem f).2 ⟨.base (by simp), hs⟩
  have hr : ∀ g, Rch ord [f] g ↔ g = f ∨ Rch ord (kids ord f) g := fun g => by
    constructor
    · intro hg
      induction hg with
      | base h => exact .inl (by simpa using h)
      | step _ hk ih =>
        rcases ih with rfl | ih
        · exact .inr (.base hk)
        · exact .inr (.step ih hk)
    · rintro (rfl | hg)
      · exact .base (by simp)
      · exact hg.mono fun c hc => .step (.base (by simp)) hc
  have hI : IsNodes ord (kids ord f) (ns.erase f) := by
    refine ⟨hn.nodup.erase f, fun g => ?_⟩
    rw [hn.nodup.mem_erase_iff, hn.mem, hr]
    constructor
    · rintro ⟨h1, h2, h3⟩
      exact ⟨h2.resolve_left h1, h3⟩
    · rintro ⟨h1, h2⟩
      exact ⟨fun e => by subst e; have := nv_rch h1; omega, .inr h1, h2⟩
  rw [← hn.size, ← hI.size, List.length_erase_of_mem hf]
  have := List.length_pos_of_mem hf
  omega
end
end Go.Bx

namespace Go.Bx
open Go
set_option linter.unusedSimpArgs false
set_option linter.unusedVariables false
structure AllOnce (ord : List Int) : Prop where
  len : ord.length = 8
  all : ∀ v : Nat, v < 8 → ∃ j, j < 8 ∧ ord[j]? = some (v : Int)
  rng : ∀ j : Nat, j < 8 → ∃ v : Nat, v < 8 ∧ ord[j]? = some (v : Int)
  once : ∀ (i j : Nat) (v : Int), ord[i]? = some v → ord[j]? = some v → i = j
section
variable {ord : List Int} {f g : Fun8} {v : Int} {b : Bool} {i j : Nat}
def ov (ord : List Int) (j : Nat) : Int := ord.getD j 0
def lev (ord : List Int) (f : Fun8) : Nat → List Fun8
  | 0 => [f]
  | j + 1 => (lev ord f j).flatMap fun g => [cofF g (ov ord j) false, cofF g (ov ord j) true]
theorem lev_len : ∀ j, (lev ord f j).length = 2 ^ j
  | 0 => rfl
  | j + 1 => by
    have key : ∀ l : List Fun8, (l.flatMap fun g => [cofF g (ov ord j) false, cofF g (ov ord j) true]).length = l.length * 2 := fun l => by
      induction l with
      | nil => rfl
      | cons a l ih => rw [List.flatMap_cons, List.length_append, ih]; simp; omega
    rw [lev, key, lev_len j, Nat.pow_succ]
theorem lev_dep : ∀ {j : Nat} {g : Fun8}, g ∈ lev ord f j → ∀ i, i < j → depF g (ov ord i) = false
  | 0, _, _, i, hi => by omega
  | j + 1, g, hg, i, hi => by
    rw [lev, List.mem_flatMap] at hg
    obtain ⟨h, hh, hg⟩ := hg
    simp only [List.mem_cons, List.not_mem_nil, or_false] at hg
    by_cases e : i = j
    · subst e
      rcases hg with rfl | rfl <;> exact dep_cof
    · have := lev_dep hh i (by omega)
      rcases hg with rfl | rfl
      · cases hd : depF (cofF h (ov ord j) false) (ov ord i)
        · rfl
        · rw [dep_of_cof hd] at this; cases this
      · cases hd : depF (cofF h (ov ord j) true) (ov ord i)
        · rfl
        · rw [dep_of_cof hd] at this; cases this
theorem lev_stay (h : g ∈ lev ord f j) (hd : depF g (ov ord j) = false) : g ∈ lev ord f (j + 1) := by
  rw [lev, List.mem_flatMap]
  exact ⟨g, h, by rw [cof_same hd]; simp⟩
theorem lev_up (h : g ∈ lev ord f j) : ∀ k, (∀ i, j ≤ i → i < j + k → depF g (ov ord i) = false) → g ∈ lev ord f (j + k)
  | 0, _ => h
  | k + 1, hd => lev_stay (lev_up h k fun i h1 h2 => hd i h1 (by omega)) (hd (j + k) (by omega) (by omega))
theorem find_first {p : Int → Bool} : ∀ {l : List Int} {x : Int}, l.find? p = some x → ∃ i : Nat, l[i]? = some x ∧ ∀ (k : Nat) (y : Int), k < i → l[k]? = some y → p y = false
  | [], _, h => by cases h
  | a :: l, x, h => by
    cases ha : p a
    · rw [List.find?_cons_of_neg (by simp [ha])] at h
      obtain ⟨i, h1, h2⟩ := find_first h
      refine ⟨i + 1, by simpa using h1, fun k y hk hy => ?_⟩
      cases k with
      | zero => simp at hy; subst hy; exact ha
      | succ k => exact h2 k y (by omega) (by simpa using hy)
    · rw [List.find?_cons_of_pos ha] at h
      cases h
      exact ⟨0, rfl, fun k y hk => by omega⟩
theorem top_at (h : 0 ≤ topF ord f) : ∃ i, ord[i]? = some (topF ord f) ∧ ∀ k, k < i → depF f (ov ord k) = false := by
  unfold topF at h ⊢
  cases hf : ord.find? (depF f) with
  | none => rw [hf] at h; simp at h
  | some x =>
    obtain ⟨i, h1, h2⟩ := find_first hf
    refine ⟨i, h1, fun k hk => ?_⟩
    have hi := (List.getElem?_eq_some_iff.1 h1).1
    have hkl : k < ord.length := by omega
    refine h2 k _ hk ?_
    rw [ov, List.getD_eq_getElem?_getD, List.getElem?_eq_getElem hkl]; rfl
theorem rch_lev (ho : ord.length = 8) (h : Rch ord [f] g) : ∃ j, j ≤ 8 ∧ g ∈ lev ord f j := by
  induction h with
  | base h => rw [List.mem_singleton] at h; subst h; exact ⟨0, by omega, by simp [lev]⟩
  | @step g g' _ hk ih =>
    obtain ⟨j, hj, hg⟩ := ih
    unfold kids at hk
    split at hk
    · rename_i ht
      obtain ⟨i, hi, hd⟩ := top_at ht
      have hil := (List.getElem?_eq_some_iff.1 hi).1
      have hov : ov ord i = topF ord g := by rw [ov, List.getD_eq_getElem?_getD, hi]; rfl
      have hji : j ≤ i := by
        refine Nat.le_of_not_lt fun hl => ?_
        have := lev_dep hg i hl
        rw [hov, topF_dep ht] at this; cases this
      have hgi : g ∈ lev ord f i := by
        have := lev_up hg (i - j) fun k h1 h2 => hd k (by omega)
        rwa [show j + (i - j) = i by omega] at this
      refine ⟨i + 1, by omega, ?_⟩
      rw [lev, List.mem_flatMap]
      exact ⟨g, hgi, by rw [hov]; exact hk⟩
    · cases hk
def rep (p q : Nat) (a b : Bool) : Nat := (if a then 2 ^ p else 0) + (if b then 2 ^ q else 0)
theorem rep_all : ∀ p : Nat, p < 8 → ∀ q : Nat, q < 8 → p ≠ q → ∀ a b : Bool, rep p q a b < 256 ∧ (rep p q a b).testBit p = a ∧ (rep p q a b).testBit q = b := by decide +kernel
def tblF (p q : Nat) (n : Nat) : Fun8 := ofRows fun x => n.testBit ((x.testBit p).toNat + 2 * (x.testBit q).toNat)
theorem bits_ext {x y : Nat} (hx : x < 256) (hy : y < 256) (h : ∀ v, v < 8 → x.testBit v = y.testBit v) : x = y := by
  refine Nat.eq_of_testBit_eq fun i => ?_
  by_cases hi : i < 8
  · exact h i hi
  · have hp : 256 ≤ 2 ^ i := by
      have : 2 ^ 8 ≤ 2 ^ i := Nat.pow_le_pow_right (by decide) (by omega)
      exact this
    rw [Nat.testBit_lt_two_pow (by omega), Nat.testBit_lt_two_pow (by omega)]
theorem dep_agree {x y : Nat} (hx : x < 256) (hy : y < 256) (h : ∀ v : Nat, v < 8 → depF f v = true → x.testBit v = y.testBit v) : f.getLsbD x = f.getLsbD y := by
  have key : ∀ k : Nat, k ≤ 8 → ∃ z, z < 256 ∧ f.getLsbD z = f.getLsbD x ∧ (∀ v, v < k → z.testBit v = y.testBit v) ∧ ∀ v, k ≤ v → v < 8 → z.testBit v = x.testBit v := by
    intro k
    induction k with
    | zero => intro _; exact ⟨x, hx, rfl, fun v hv => by omega, fun v _ _ => rfl⟩
    | succ k ih =>
      intro hk
      obtain ⟨z, hz, h1, h2, h3⟩ := ih (by omega)
      cases hd : depF f k
      · refine ⟨setB z k (y.testBit k), setB_lt hz (by omega), by rw [← dep_set (by omega) hd hz, h1], fun v hv => ?_, fun v hv hv8 => ?_⟩
        · by_cases e : v = k
          · subst e; exact setB_bit_all v (by omega) z hz _
          · rw [setB_other_all k (by omega) v (by omega) (Ne.symm e) z hz]; exact h2 v (by omega)
        · rw [setB_other_all k (by omega) v hv8 (by omega) z hz]; exact h3 v (by omega) hv8
      · refine ⟨z, hz, h1, fun v hv => ?_, fun v hv hv8 => h3 v (by omega) hv8⟩
        by_cases e : v = k
        · subst e; rw [h3 v (Nat.le_refl _) (by omega)]; exact h v (by omega) hd
        · exact h2 v (by omega)
  obtain ⟨z, hz, h1, h2, _⟩ := key 8 (by omega)
  rw [← h1, bits_ext hz hy h2]
theorem tbl_bits : ∀ c0 c1 c2 c3 : Bool, ∀ a b : Bool, (c0.toNat + 2 * c1.toNat + 4 * c2.toNat + 8 * c3.toNat).testBit (a.toNat + 2 * b.toNat) = (if a then (if b then c3 else c1) else (if b then c2 else c0)) := by decide
theorem two_var {p q : Nat} (hp : p < 8) (hq : q < 8) (hne : p ≠ q) (h : ∀ v : Nat, v < 8 → v ≠ p → v ≠ q → depF f v = false) (hs : supF f ≠ 0) : ∃ n, 1 ≤ n ∧ n ≤ 14 ∧ f = tblF p q n := by
  have hr := rep_all p hp q hq hne
  have hbit : ∀ x, x < 256 → f.getLsbD x = f.getLsbD (rep p q (x.testBit p) (x.testBit q)) := fun x hx => by
    have := hr (x.testBit p) (x.testBit q)
    refine dep_agree hx this.1 fun v hv hd => ?_
    by_cases e1 : v = p
    · subst e1; exact this.2.1.symm
    · by_cases e2 : v = q
      · subst e2; exact this.2.2.symm
      · rw [h v hv e1 e2] at hd; cases hd
  generalize hc0 : f.getLsbD (rep p q false false) = c0
  generalize hc1 : f.getLsbD (rep p q true false) = c1
  generalize hc2 : f.getLsbD (rep p q false true) = c2
  generalize hc3 : f.getLsbD (rep p q true true) = c3
  have he : f = tblF p q (c0.toNat + 2 * c1.toNat + 4 * c2.toNat + 8 * c3.toNat) := by
    refine cof_ext fun x hx => ?_
    rw [tblF, bt_rows hx, tbl_bits, hbit x hx]
    cases x.testBit p <;> cases x.testBit q <;> simp [hc0, hc1, hc2, hc3]
  refine ⟨_, ?_, ?_, he⟩
  · refine Nat.pos_of_ne_zero fun h0 => hs ?_
    rw [h0] at he
    have : f = constF false := by rw [he]; refine cof_ext fun x hx => ?_; rw [tblF, bt_rows hx, bt_const hx]; simp
    rw [this]; exact sup_constF
  · refine Nat.le_of_not_lt fun h0 => hs ?_
    have h15 : c0.toNat + 2 * c1.toNat + 4 * c2.toNat + 8 * c3.toNat = 15 := by
      exact (by decide : ∀ c0 c1 c2 c3 : Bool, 14 < c0.toNat + 2 * c1.toNat + 4 * c2.toNat + 8 * c3.toNat → c0.toNat + 2 * c1.toNat + 4 * c2.toNat + 8 * c3.toNat = 15) c0 c1 c2 c3 h0
    rw [h15] at he
    have : f = constF true := by
      rw [he]; refine cof_ext fun x hx => ?_; rw [tblF, bt_rows hx, bt_const hx]
      cases x.testBit p <;> cases x.testBit q <;> decide
    rw [this]; exact sup_constF
theorem size_77 (ho : AllOnce ord) : sizeF ord [f] ≤ 77 := by
  obtain ⟨ns, hn⟩ := nodes_ex ord [f]
  obtain ⟨p, hp, hp'⟩ := ho.rng 6 (by decide)
  obtain ⟨q, hq, hq'⟩ := ho.rng 7 (by decide)
  have hne : p ≠ q := fun e => by
    subst e
    exact absurd (ho.once 6 7 _ hp' hq') (by decide)
  rw [← hn.size]
  have hlen : (lev ord f 0 ++ (lev ord f 1 ++ (lev ord f 2 ++ (lev ord f 3 ++ (lev ord f 4 ++ (lev ord f 5 ++ (List.range 14).map fun n => tblF p q (n + 1))))))).length = 77 := by
    simp only [List.length_append, lev_len, List.length_map, List.length_range]
  rw [← hlen]
  refine sub_len hn.nodup fun g hg => ?_
  obtain ⟨h1, h2⟩ := (hn.mem g).1 hg
  obtain ⟨j, hj, hl⟩ := rch_lev ho.len h1
  simp only [List.mem_append]
  by_cases h6 : j ≤ 5
  · rcases (by omega : j = 0 ∨ j = 1 ∨ j = 2 ∨ j = 3 ∨ j = 4 ∨ j = 5) with rfl | rfl | rfl | rfl | rfl | rfl
    · exact .inl hl
    · exact .inr (.inl hl)
    · exact .inr (.inr (.inl hl))
    · exact .inr (.inr (.inr (.inl hl)))
    · exact .inr (.inr (.inr (.inr (.inl hl))))
    · exact .inr (.inr (.inr (.inr (.inr (.inl hl)))))
  · have hd := lev_dep hl
    obtain ⟨n, n1, n2, hgn⟩ := two_var hp hq hne (f := g) (fun v hv e1 e2 => by
      obtain ⟨i, hi, hiv⟩ := ho.all v hv
      have hov : ov ord i = v := by rw [ov, List.getD_eq_getElem?_getD, hiv]; rfl
      have : i < 6 := by
        rcases (by omega : i < 6 ∨ i = 6 ∨ i = 7) with h | rfl | rfl
        · exact h
        · rw [hp'] at hiv; injection hiv with h; omega
        · rw [hq'] at hiv; injection hiv with h; omega
      rw [← hov]; exact hd i (by omega)) h2
    refine .inr (.inr (.inr (.inr (.inr (.inr ?_)))))
    exact List.mem_map.2 ⟨n - 1, List.mem_range.2 (by omega), by rw [hgn]; congr 1; omega⟩
theorem top_none_iff (ho : AllOnce ord) : topF ord f = -1 ↔ supF f = 0 := by
  constructor
  · intro h
    refine supF_zero.2 fun v => ?_
    by_cases hv : 0 ≤ v ∧ v < 8
    · obtain ⟨n, rfl, hn⟩ := nat8 hv
      obtain ⟨j, _, hj⟩ := ho.all n hn
      exact (topF_none (ord := ord) (f := f) (by omega)).1 _ (List.mem_of_getElem? hj)
    · exact depF_out hv
  · intro h
    by_cases ht : 0 ≤ topF ord f
    · have := supF_zero.1 h (topF ord f)
      rw [topF_dep ht] at this; cases this
    · exact (topF_none ht).2
def mayF (ord : List Int) : Bool := (List.range 8).all fun v => ord.count (v : Int) == 1
end
end Go.Bx

namespace Go.Bx
open Go
set_option linter.unusedSimpArgs false
set_option linter.unusedVariables false
section
variable {s s' : Md} {n m v lo hi : Int} {f g h : Fun8} {L K : List Fun8}
theorem OrdOK.once {ord : List Int} (O : OrdOK ord) : AllOnce ord := by
  refine ⟨O.len, fun v hv => ?_, fun j hj => ?_, O.one⟩
  · obtain ⟨k, hk, he⟩ := O.all v (by omega) (by omega)
    exact ⟨k, hk, he⟩
  · have hl := O.len
    obtain ⟨x, hx⟩ : ∃ x, ord[j]? = some x := ⟨ord[j], List.getElem?_eq_getElem (by omega)⟩
    have h := O.rng j x hx
    exact ⟨x.toNat, by omega, by rw [hx]; congr 1; omega⟩
open Classical in
noncomputable def Md.tab (s : Md) (n : Int) : Fun8 := if h : ∃ f, Den s n f then Classical.choose h else constF false
theorem Md.tab_den (d : Den s n f) : s.tab n = f := by
  have h : ∃ f, Den s n f := ⟨f, d⟩
  unfold Md.tab
  rw [dif_pos h]
  exact (Classical.choose_spec h).fn d
def Md.Full (s : Md) (L : List Fun8) : Prop := ∀ n f, s.has n = true → Den s n f → Rch s.ord L f
theorem Md.Full.sub (h : s.Full L) (hl : ∀ f ∈ L, f ∈ K) : s.Full K := fun n f hn d => (h n f hn d).sub hl
theorem node_sup (G : s.Good []) (hn : s.has n = true) (d : Den s n f) : supF f ≠ 0 := fun e => by
  have := G.top hn d
  rw [supF_zero.1 e] at this; cases this
theorem map_nodup {α β : Type} {q : α → β} : ∀ {l : List α}, l.Nodup → (∀ x ∈ l, ∀ y ∈ l, q x = q y → x = y) → (l.map q).Nodup
  | [], _, _ => List.nodup_nil
  | a :: l, hn, hi => by
    have hn' := List.nodup_cons.1 hn
    rw [List.map_cons, List.nodup_cons]
    refine ⟨fun hm => ?_, map_nodup hn'.2 fun x hx y hy => hi x (by simp [hx]) y (by simp [hy])⟩
    obtain ⟨y, hy, he⟩ := List.mem_map.1 hm
    have := hi y (by simp [hy]) a (by simp) he
    subst this; exact hn'.1 hy
theorem Md.Good.tabs (G : s.Good []) : (s.all.map s.tab).Nodup ∧ ∀ f, f ∈ s.all.map s.tab ↔ ∃ n, s.has n = true ∧ Den s n f := by
  have td : ∀ n, s.has n = true → Den s n (s.tab n) := fun n hn => by
    obtain ⟨f, d⟩ := G.has_den (.inr (.inr hn))
    rw [Md.tab_den d]; exact d
  refine ⟨map_nodup Md.nodup_all fun x hx y hy he => ?_, fun f => ?_⟩
  · have dx := td x (G.wf.mem_all.1 hx)
    have dy := td y (G.wf.mem_all.1 hy)
    rw [← he] at dy
    exact G.canon dx dy
  · rw [List.mem_map]
    constructor
    · rintro ⟨n, hn, rfl⟩
      exact ⟨n, G.wf.mem_all.1 hn, td n (G.wf.mem_all.1 hn)⟩
    · rintro ⟨n, hn, d⟩
      exact ⟨n, G.wf.mem_all.2 hn, Md.tab_den d⟩
theorem Md.Full.many (G : s.Good []) (hF : s.Full L) : s.a.many ≤ sizeF s.ord L := by
  obtain ⟨ns, hns⟩ := nodes_ex s.ord L
  have t := G.tabs
  have := sub_len t.1 (m := ns) fun f hf => by
    obtain ⟨n, hn, d⟩ := (t.2 f).1 hf
    exact (hns.mem f).2 ⟨hF n f hn d, node_sup G hn d⟩
  rw [List.length_map, hns.size] at this
  have := G.wf.len_all
  omega
theorem Md.Full.less (G : s.Good []) (hF : s.Full L) (hg : Rch s.ord L g) (hs : supF g ≠ 0) (hno : ∀ n, ¬ Den s n g) : s.a.many < sizeF s.ord L := by
  obtain ⟨ns, hns⟩ := nodes_ex s.ord L
  have t := G.tabs
  have := sub_len (l := g :: s.all.map s.tab) (List.nodup_cons.2 ⟨fun hm => by obtain ⟨n, _, d⟩ := (t.2 g).1 hm; exact hno n d, t.1⟩) (m := ns) fun f hf => by
    rcases List.mem_cons.1 hf with rfl | hf
    · exact (hns.mem f).2 ⟨hg, hs⟩
    · obtain ⟨n, hn, d⟩ := (t.2 f).1 hf
      exact (hns.mem f).2 ⟨hF n f hn d, node_sup G hn d⟩
  rw [List.length_cons, List.length_map, hns.size] at this
  have := G.wf.len_all
  omega
theorem kid_den (G : s.Good []) (d : Den s n f) (hk : g ∈ kids s.ord f) : ∃ m, Den s m g := by
  unfold kids at hk
  by_cases ht : 0 ≤ topF s.ord f
  · rw [if_pos ht] at hk
    have hd := topF_dep ht
    have ⟨hn, hl⟩ := G.dep d hd
    have hl2 := (top_first G.wf.ord (G.top hn d)).2
    have hv : (s.nd n).1 = topF s.ord f := G.wf.ord.inj (G.node n hn (by simp)).var (top_rng ht) (by omega)
    have ⟨d0, d1⟩ := G.sides d hn
    rw [hv] at d0 d1
    simp only [List.mem_cons, List.not_mem_nil, or_false] at hk
    rcases hk with rfl | rfl
    · exact ⟨_, d0⟩
    · exact ⟨_, d1⟩
  · rw [if_neg ht] at hk; cases hk
theorem rch_den (G : s.Good []) (hd : ∀ f ∈ L, ∃ n, Den s n f) (hr : Rch s.ord L g) : ∃ n, Den s n g := by
  induction hr with
  | base h => exact hd _ h
  | step _ hk ih => obtain ⟨n, d⟩ := ih; exact kid_den G d hk
theorem Md.Full.size (G : s.Good []) (hF : s.Full L) (hd : ∀ f ∈ L, ∃ n, Den s n f) : s.a.many = sizeF s.ord L := by
  obtain ⟨ns, hns⟩ := nodes_ex s.ord L
  have t := G.tabs
  have h1 := hF.many G
  have := sub_len hns.nodup (m := s.all.map s.tab) fun f hf => by
    obtain ⟨hr, hs⟩ := (hns.mem f).1 hf
    obtain ⟨n, d⟩ := rch_den G hd hr
    refine (t.2 f).2 ⟨n, ?_, d⟩
    rcases d.there with e | e | e
    · subst e; rw [d.zero] at hs; exact absurd sup_constF hs
    · subst e; rw [d.one] at hs; exact absurd sup_constF hs
    · exact e
  rw [List.length_map, hns.size] at this
  have := G.wf.len_all
  omega
theorem Md.Full.mk (G : s.Good []) (hF : s.Full L) (hv : 0 ≤ v ∧ v < 8) (h0 : s.below lo v = true) (h1 : s.below hi v = true) (d0 : Den s lo (cofF f v false)) (d1 : Den s hi (cofF f v true)) (hf : Rch s.ord L f) : (s.mk' [] v lo hi).2.Full L := by
  obtain ⟨G2, l2, _⟩ := G.mks v lo hi
  rcases G.mk_err hv h0 h1 with e | ⟨_, e, _⟩
  · obtain ⟨_, hh, hdn⟩ := G.made hv h0 h1 rfl e
    have dn := hdn _ _ d0 d1
    rw [ite_cof] at dn
    intro n f' hn d
    rw [l2.ord]
    rcases hh n hn with h | ⟨rfl, _⟩
    · obtain ⟨f2, d2⟩ := G.has_den (.inr (.inr h))
      rw [d.fn (d2.mono l2)]
      exact hF n f2 h d2
    · rw [d.fn dn]; exact hf
  · rw [e]; exact hF
theorem bld_flat (G : s.Good []) (ht : ¬ 0 ≤ topF s.ord f) : s.bld f = ((if f.getLsbD 0 then 1 else 0, 0), s) := by
  refine G.bld_ex ?_
  have hf := top_flat G.wf.ord (f := f) (by omega)
  have := den_const (s := s) (f.getLsbD 0)
  rwa [← hf] at this
theorem bld_full : ∀ (k : Nat) (s : Md) (f : Fun8), s.Good [] → nv f ≤ k → s.Full L → Rch s.ord L f → (s.bld f).2.Full L ∧ ((s.bld f).1.2 ≠ 0 → s.a.most < sizeF s.ord L) := by
  intro k
  induction k with
  | zero =>
    intro s f G hk hF hr
    have ht : ¬ 0 ≤ topF s.ord f := fun h => by have := nv_cof (b := false) (topF_dep h); omega
    rw [bld_flat G ht]
    exact ⟨hF, fun h => absurd rfl h⟩
  | succ k ih =>
    intro s f G hk hF hr
    by_cases ht : 0 ≤ topF s.ord f
    rotate_left
    · rw [bld_flat G ht]
      exact ⟨hF, fun h => absurd rfl h⟩
    have hd := topF_dep ht
    have hsp := bld_top G ht
    have hrt := top_rng ht
    have hbe := fun b u hu => cof_behind (f := f) (b := b) (u := u) G.wf.ord ht hu
    have n0 := nv_cof (b := false) hd
    have n1 := nv_cof (b := true) hd
    have r0 : Rch s.ord L (cofF f (topF s.ord f) false) := .step hr (by unfold kids; rw [if_pos ht]; simp)
    have r1 : Rch s.ord L (cofF f (topF s.ord f) true) := .step hr (by unfold kids; rw [if_pos ht]; simp)
    generalize topF s.ord f = v at hd hsp hrt hbe n0 n1 r0 r1
    obtain ⟨F0, E0⟩ := ih s (cofF f v false) G (by omega) hF r0
    rcases hsp with ⟨e0, eR⟩ | ⟨a, s0, e0, G0, L0, D0, hsp⟩
    · rw [eR]; exact ⟨F0, E0⟩
    rw [e0] at F0
    obtain ⟨F1, E1⟩ := ih s0 (cofF f v true) G0 (by omega) F0 (by rw [L0.ord]; exact r1)
    rw [L0.ord, L0.most] at E1
    rcases hsp with ⟨e1, eR⟩ | ⟨b, s1, e1, G1, L1, D1, eR⟩
    · rw [eR]; exact ⟨F1, E1⟩
    rw [e1] at F1
    dsimp only at F1
    have o1 : s1.ord = s.ord := (L0.trans L1).ord
    have b0 : s1.below a v = true := G1.belowF (D0.mono L1) fun u hu => by rw [o1]; exact hbe false u hu
    have b1 : s1.below b v = true := G1.belowF D1 fun u hu => by rw [o1]; exact hbe true u hu
    rw [eR]
    refine ⟨F1.mk G1 hrt b0 b1 (D0.mono L1) D1 (by rw [o1]; exact hr), fun he => ?_⟩
    rcases G1.mk_err hrt b0 b1 with e | ⟨_, _, hm⟩
    · exact absurd e he
    have hno : ∀ n, ¬ Den s1 n f := fun n d => by
      have ⟨hn, hl⟩ := G1.dep d hd
      have h2 : lvl s1.ord v ≤ lvl s1.ord (s1.nd n).1 := by
        have hdn := G1.top hn d
        by_cases e : (s1.nd n).1 = v
        · rw [e]; exact Int.le_refl _
        · rw [o1]
          by_cases hc : depF (cofF f v false) (s1.nd n).1 = true
          · have := hbe false _ hc; omega
          · by_cases hc1 : depF (cofF f v true) (s1.nd n).1 = true
            · have := hbe true _ hc1; omega
            · exfalso
              have hf : f = iteF (varF v) (cofF f v true) (cofF f v false) := ite_cof.symm
              rw [hf] at hdn
              rcases dep_node hdn with h | h | h
              · exact e h
              · exact hc1 h
              · exact hc h
      have hv : (s1.nd n).1 = v := G1.wf.ord.inj (G1.node n hn (by simp)).var hrt (by omega)
      have ⟨d0, d1⟩ := G1.sides d hn
      rw [hv] at d0 d1
      have h3 := G1.mk_ex hn
      rw [hv, G1.canon d0 (D0.mono L1), G1.canon d1 D1] at h3
      rw [h3] at he
      exact he rfl
    have := F1.less G1 (by rw [o1]; exact hr) (fun e => by rw [supF_zero.1 e] at hd; cases hd) hno
    rw [o1] at this
    rw [hm, (L0.trans L1).most] at this
    exact this
theorem Md.Good.bld_app (G : s.Good []) (hF : s.Full L) (f : Fun8) : (s.bld f).2.Full (L ++ [f]) := (bld_full (L := L ++ [f]) 8 s f G nv_le (hF.sub fun g hg => by simp [hg]) (.base (by simp))).1
theorem Md.Good.bld_ok (G : s.Good []) (hF : s.Full L) (f : Fun8) (hr : sizeF s.ord (L ++ [f]) ≤ s.a.most) : (s.bld f).1.2 = 0 := by
  by_cases h : (s.bld f).1.2 = 0
  · exact h
  · have := (bld_full (L := L ++ [f]) 8 s f G nv_le (hF.sub fun g hg => by simp [hg]) (.base (by simp))).2 h
    omega
theorem size_77s (ho : AllOnce s.ord) : ∀ L : List Fun8, sizeF s.ord L ≤ 77 * L.length
  | [] => by
    have h : IsNodes s.ord ([] : List Fun8) [] := ⟨List.nodup_nil, fun f => ⟨fun h => (by cases h), fun h => by
      exfalso
      obtain ⟨hr, hs⟩ := h
      clear hs
      induction hr with
      | base h => cases h
      | step _ _ ih => exact ih⟩⟩
    rw [← h.size]; simp
  | f :: L => by
    have h1 := size_77s ho L
    have h2 := size_77 (f := f) ho
    have h3 := size_app (ord := s.ord) (l := [f]) (k := L)
    rw [List.length_cons]
    have : [f] ++ L = f :: L := rfl
    rw [this] at h3
    omega
end
end Go.Bx

namespace Go.Bx
open Go
set_option linter.unusedSimpArgs false
set_option linter.unusedVariables false
def Md.there (s : Md) (n : Int) : Bool := decide (n = 0) || (decide (n = 1) || s.has n)
noncomputable def Md.ite (s : Md) (a b c : Int) : (Int × Int) × Md := if s.there a && (s.there b && s.there c) then s.bld (iteF (s.tab a) (s.tab b) (s.tab c)) else ((0, 1), s)
noncomputable def Md.xor (s : Md) (a b : Int) : (Int × Int) × Md := if s.there a && s.there b then (if (s.ite b 0 1).1.2 = 0 then (s.ite b 0 1).2.ite a (s.ite b 0 1).1.1 b else s.ite b 0 1) else ((0, 1), s)
section
variable {s s' : Md} {n m a b c : Int} {f g h : Fun8} {L : List Fun8}
structure Itt (s : Md) (r : (Int × Int) × Md) : Prop where
  good : r.2.Good []
  le : s.Le r.2
  err : r.1.2 = 0 ∨ r.1.2 = 1 ∨ r.1.2 = 2
  zero : r.1.2 ≠ 0 → r.1.1 = 0
  there : r.1.2 = 0 → r.2.there r.1.1 = true
end
end Go.Bx

namespace Go.Bx
open Go
set_option linter.unusedSimpArgs false
set_option linter.unusedVariables false
section
variable {s s' : Md} {n m a b c v : Int} {f g h : Fun8} {L K : List Fun8} {ord : List Int}
structure Ro (s : Md) (L : List Fun8) (M : Int) : Prop where
  good : s.Good []
  full : s.Full L
  most : s.a.most = M
theorem Ro.bld {M : Int} (R : Ro s L M) (f : Fun8) (hm : sizeF s.ord (L ++ [f]) ≤ M) : ∃ n s', s.bld f = ((n, 0), s') ∧ Ro s' (L ++ [f]) M ∧ s.Le s' ∧ Den s' n f := by
  have bl := R.good.bld f
  have ok := R.good.bld_ok R.full f (by rw [R.most]; exact hm)
  have F := R.good.bld_app R.full f
  obtain ⟨⟨⟨n, e⟩, s'⟩, hR⟩ : ∃ R, s.bld f = R := ⟨_, rfl⟩
  rw [hR] at bl ok F
  dsimp only at ok F
  subst ok
  rcases bl.res with ⟨_, d⟩ | ⟨e, _⟩
  · exact ⟨n, s', hR, ⟨bl.good, F, bl.le.most.trans R.most⟩, bl.le, d⟩
  · cases e
theorem Ro.size {M : Int} (R : Ro s L M) (h : 77 * ((L.length : Int) + 1) ≤ M) : sizeF s.ord (L ++ [f]) ≤ M := by
  have := size_77s R.good.wf.ord.once (L ++ [f])
  rw [List.length_append, List.length_singleton] at this
  omega
theorem Ro.new {M : Int} (h0 : 0 ≤ M) (h1 : M ≤ 20000) : Ro (Md.new M) [] M := ⟨Md.Good.start h0 h1, fun n f hn => by
  have : (Md.new M).has n = false := by
    cases h : (Md.new M).has n with
    | false => rfl
    | true =>
      have := (Md.Good.start h0 h1).wf.lt h
      have e : (Md.new M).N.length = 0 := rfl
      omega
  rw [this] at hn
  exact absurd hn (by simp), rfl⟩
theorem size_one (ho : AllOnce ord) (h : ∀ u, depF f u = true → u = v) : sizeF ord [f] ≤ 1 := by
  by_cases ht : 0 ≤ topF ord f
  · rw [size_sides ht]
    have hv := h _ (topF_dep ht)
    have z : ∀ b, sizeF ord [cofF f (topF ord f) b] = 0 := fun b => size_zero.2 (supF_zero.2 fun u => by
      cases hd : depF (cofF f (topF ord f) b) u
      · rfl
      · have := h u (dep_of_cof hd)
        rw [this, ← hv, dep_cof] at hd; cases hd)
    unfold kids
    rw [if_pos ht]
    have := size_app (ord := ord) (l := [cofF f (topF ord f) false]) (k := [cofF f (topF ord f) true])
    rw [z, z] at this
    have e : [cofF f (topF ord f) false] ++ [cofF f (topF ord f) true] = [cofF f (topF ord f) false, cofF f (topF ord f) true] := rfl
    rw [e] at this
    omega
  · have := size_zero (ord := ord).2 ((top_none_iff ho).1 (topF_none ht).2)
    omega
theorem dep_var {u : Int} (h : depF (varF v) u = true) : u = v := by
  by_cases e : u = v
  · exact e
  · exfalso
    by_cases hv : 0 ≤ v ∧ v < 8
    · rw [nodep_of (by rw [cof_var_other e, cof_var_other e])] at h; cases h
    · rw [varF_out hv, dep_const] at h; cases h
theorem size_var (ho : AllOnce ord) : sizeF ord [varF v] ≤ 1 := size_one ho fun u hu => dep_var hu
end
end Go.Bx

namespace Go.Proofs.Ytpeindhocndmnaa
open Go Go.Bx
set_option linter.unusedSimpArgs false
set_option linter.unusedVariables false
set_option maxRecDepth 100000
set_option maxHeartbeats 4000000
attribute [local irreducible] X XO XE XF XD XW thenX inX retX kN CallsR
section
variable {W w w' : World} {ps : Nat} {s s' : Md} {f : Fun8} {L : List Fun8} {M n : Int}
theorem oneNew (h0' : 0 ≤ M) (h1' : M ≤ 20000) (hE : Ext W w) : CallsR Try.prog 19 #[.int .i64 M] w fun r w' => ∃ p, r = .pointer (some ⟨p, 0, none⟩) ∧ OneI W w' p (Md.new M) := by
  refine (OneI.new h0' h1' w).mono ?_
  rintro r w' ⟨p, hr, o, h1, h2, h3⟩
  exact ⟨p, hr, o, h1, fun k hk => by have := h2 k hk; have := hE.size; omega, hE.trans h3⟩
structure OnR (W w : World) (ps : Nat) (s : Md) (own : Nat → Nat) : Prop where
  sti : StI own w ps s []
  low : ∀ k, own k ≠ 0 → W.heap.size ≤ k
  ext : Ext W w
theorem OneI.to (h : OneI W w ps s) : ∃ own, OnR W w ps s own := by obtain ⟨o, h1, h2, h3⟩ := h; exact ⟨o, h1, h2, h3⟩
theorem OnR.up {own : Nat → Nat} (h : OnR W w ps s own) (hE : Ext w w') : OnR W w' ps s own := ⟨h.sti.ext hE, h.low, h.ext.trans hE⟩
theorem OnR.fresh {own : Nat → Nat} (h : OnR W w ps s own) {k : Nat} (hk : w.heap.size ≤ k) : own k = 0 := by
  cases ho : own k with
  | zero => rfl
  | succ q => have := h.sti.lt k (by omega); omega
theorem OnR.chg {own : Nat → Nat} {F : Nat → Prop} (h : OnR W w ps s own) (hC : Chg F w w') (hF : ∀ k, F k → own k = 0 ∧ W.heap.size ≤ k) : OnR W w' ps s own :=
  ⟨h.sti.chg0 hC fun k hk => (hF k hk).1, h.low, hC.toExt h.ext fun k hk hf => by have := (hF k hf).2; omega⟩
theorem OnR.call {own : Nat → Nat} {fn : FuncId} {args : Array Value} {R : Value → Prop} (h : OnR W w ps s own) (hc : CallsR Try.prog fn args w fun r w' => R r ∧ TrI own w ps s' [] w') :
    CallsR Try.prog fn args w fun r w' => R r ∧ ∃ own', OnR W w' ps s' own' ∧ Sw own w own' w' := by
  refine hc.mono ?_
  rintro r w' ⟨hr, a', g1, ho, hC⟩
  have hsW := h.ext.size
  refine ⟨hr, a', ⟨g1, fun k hk => ?_, hC.toExt h.ext fun k hk hf => by have := h.low k hf; omega⟩, ⟨ho, hC⟩⟩
  by_cases hl : k < w.heap.size
  · exact h.low k (by rw [← ho k hl]; exact hk)
  · omega
theorem Sw.at {own own1 : Nat → Nat} {w1 : World} (h : Sw own w own1 w1) {k : Nat} {o : Obj} (hk : w.heap[k]? = some o) (h0 : own k = 0) : w1.heap[k]? = some o := (h.out (lt_of_heap hk) h0).2.trans hk
theorem Sw.own0 {own own1 : Nat → Nat} {w1 : World} (h : Sw own w own1 w1) {k : Nat} (hk : k < w.heap.size) (h0 : own k = 0) : own1 k = 0 := (h.ho k hk).trans h0
theorem Sw.slc {own own1 : Nat → Nat} {w1 : World} {E : TypeId} {a : Option Addr} {cap : Nat} {l : List Value} (h : Sw own w own1 w1) (hS : SlC w E a cap l) (h0 : ∀ g, blk a = some g → own g = 0) : SlC w1 E a cap l := hS.keep fun g hg => (h.out (hS.lt hg) (h0 g hg)).2
theorem onBuild {own : Nat → Nat} (h : OnR W w ps s own) (R : Ro s L M) (f : Fun8) (hm : sizeF s.ord (L ++ [f]) ≤ M) : CallsR Try.prog 33 #[.pointer (some ⟨ps, 0, none⟩), fv f] w fun r w' => ∃ n s' own', r = .tuple #[.int .i64 n, .nilIface] ∧ OnR W w' ps s' own' ∧ Sw own w own' w' ∧ Ro s' (L ++ [f]) M ∧ s.Le s' ∧ Den s' n f := by
  obtain ⟨n, s', e, R', l, d⟩ := R.bld f hm
  have hb := rdBuildTop_calls h.sti R.good f
  rw [e, errV0] at hb
  refine (h.call (R := fun r => r = .tuple #[.int .i64 n, .nilIface]) hb).mono ?_
  rintro r w' ⟨hr, own', hC, hS⟩
  exact ⟨n, s', own', hr, hC, hS, R', l, d⟩
end
end Go.Proofs.Ytpeindhocndmnaa

namespace Go.Proofs.Ytpeindhocndmnaa
open Go Go.Bx
set_option linter.unusedSimpArgs false
set_option linter.unusedVariables false
set_option maxRecDepth 100000
set_option maxHeartbeats 4000000
attribute [local irreducible] X XO XE XF XD XW thenX inX retX kN CallsR
section
variable {w : World} {b ck : Nat} {es : List (Ent Int)} {v : Value} {n : Int}
theorem luI1 (h : w.heap[b]? = some (mObj (Value.int .i64) es ck)) : luO Try.prog 150 b (.int .i64 n) false w (some (mObj (Value.int .i64) es ck)) h = .ok ((mget es n).getD (.int .i64 0)) w := lookup_at h T150 T3 (intK T3.und) trivial (fun _ _ => trivial) false
theorem muI (h : w.heap[b]? = some (mObj (Value.int .i64) es ck)) : muO Try.prog 150 b (.int .i64 n) v w (some (mObj (Value.int .i64) es ck)) h = .ok () (upd w b (mObj (Value.int .i64) (mput es n v ck) (mclock es n ck))) := update_at h T150 (intK T3.und) trivial (fun _ _ => trivial) v
attribute [push_cast] luI1 muI
theorem nod_has {s : Md} (hh : s.has n = true) : s.node n = (s.nd n, true) := by unfold Md.node; rw [hh]; rfl
theorem nod_no {s : Md} (hh : s.has n = false) : s.node n = ((0, 0, 0), false) := by unfold Md.node; rw [hh]; rfl
end
end Go.Proofs.Ytpeindhocndmnaa

namespace Go.Bx
open Go
set_option linter.unusedSimpArgs false
set_option linter.unusedVariables false
section
variable {P : Program} {Q : Exit → Env → World → Prop} {e : Env} {w : World} {a b c k : GCode} {D : List Nat}
theorem cu3_ (M : World → Env → World → Prop) (h : X P (.seq a (.seq b (.seq c .skip))) (thenX (M w) Q) e w) (h2 : ∀ e' w', (∀ i, D.contains i = false → e' i = e i) → M w e' w' → X P k Q e' w')
    (hD : dG (.seq a (.seq b (.seq c .skip))) = D := by (simp only [dG, List.filterMap_cons, List.filterMap_nil, List.cons_append, List.nil_append, List.append_nil] <;> rfl)) : X P (.seq a (.seq b (.seq c k))) Q e w := by
  have hf := X_frame (P := P) (D := D) (.seq a (.seq b (.seq c .skip))) (fun x hx => by rw [hD] at hx; exact hx) h
  have h3 := X_mono (.seq a (.seq b (.seq c .skip))) (Q' := thenX (X P k Q) Q) (fun ex e' w' hq => by
    cases ex with
    | normal => exact h2 e' w' hq.2 hq.1
    | _ => exact hq.1) hf
  have e1 : X P (.seq a (.seq b (.seq c .skip))) (thenX (X P k Q) Q) e w = X P (.seq a (.seq b (.seq c k))) Q e w := by
    have es : ∀ e w, X P .skip (thenX (X P k Q) Q) e w = X P k Q e w := fun e w => rfl
    have es' : X P .skip (thenX (X P k Q) Q) = X P k Q := funext fun e => funext fun w => es e w
    unfold X
    rw [then_then]
    congr 1
    congr 1
    funext e w
    unfold X
    rw [then_then]
    congr 1
    congr 1
    funext e w
    unfold X
    rw [then_then, es']
  rw [← e1]; exact h3
variable {a1 a2 a3 a4 a5 a6 a7 : GCode}
end
end Go.Bx

namespace Go.Proofs.Ytpeindhocndmnaa
open Go Go.Bx
set_option linter.unusedSimpArgs false
set_option linter.unusedVariables false
set_option maxRecDepth 100000
set_option maxHeartbeats 4000000
attribute [local irreducible] X XO XE XF XD XW thenX inX retX kN CallsR
def lays125_ren : Go.Shelf.Ren := ⟨fun | 125 => 153 | 128 => 172 | 129 => 173 | n => n, fun | 46 => 126 | 3 => 3 | 51 => 204 | 53 => 52 | 4 => 4 | 5 => 5 | 9 => 9 | n => n, fun | n => n⟩
theorem lays125 : Go.Proofs.Lays.n125 Try.prog lays125_ren := {
  mixed := by kernel_rfl
  f125 := Try.func153.trans (congrArg some (by kernel_rfl))
  f128 := Try.func172.trans (congrArg some (by kernel_rfl))
  f129 := Try.func173.trans (congrArg some (by kernel_rfl))
  t3 := Try.underlying3
  a3 := Try.isAgg3
  z3 := Try.sizeOf3
  v3 := Try.zeroValue3
  t4 := Try.underlying4
  a4 := Try.isAgg4
  z4 := Try.sizeOf4
  v4 := Try.zeroValue4
  t5 := Try.underlying5
  a5 := Try.isAgg5
  z5 := Try.sizeOf5
  v5 := Try.zeroValue5
  t9 := Try.underlying9
  a9 := Try.isAgg9
  z9 := Try.sizeOf9
  v9 := Try.zeroValue9
  t46 := Try.underlying126
  a46 := Try.isAgg126
  z46 := Try.sizeOf126
  v46 := Try.zeroValue126
  t51 := Try.underlying204
  a51 := Try.isAgg204
  z51 := Try.sizeOf204
  v51 := Try.zeroValue204
  t53 := Try.underlying52
  a53 := Try.isAgg52
  z53 := Try.sizeOf52
  v53 := Try.zeroValue52 }
theorem bitsLen_sure (x : Int) (h0 : 0 ≤ x) (h1 : x ≤ 18446744073709551615) : Sure Try.prog 153 #[.int .u64 x] (.int .i64 (Lib.bitLen x.toNat)) := fun w => by
  have h : Calls Try.prog 153 #[.int .u64 x] w (fun e w' => e = .returned (.int .i64 (Lib.bitLen x.toNat)) ∧ w' = w) := Any.bits_Len lays125 x w h0 h1
  unfold CallsR
  exact h.mono fun en w' ⟨h, hw⟩ => ⟨_, h, rfl, hw ▸ Ext.refl w⟩
def lays189_ren : Go.Shelf.Ren := ⟨fun | 125 => 153 | 128 => 172 | 129 => 173 | 189 => 127 | 215 => 180 | 216 => 169 | 257 => 152 | 294 => 163 | 295 => 164 | 296 => 165 | 297 => 166 | 298 => 167 | 299 => 168 | 300 => 170 | 301 => 171 | 328 => 175 | 329 => 176 | 330 => 177 | 331 => 178 | 332 => 179 | 343 => 181 | n => n, fun | 0 => 0 | 3 => 3 | 4 => 4 | 5 => 5 | 9 => 9 | 28 => 34 | 46 => 126 | 51 => 204 | 53 => 52 | 131 => 165 | 182 => 197 | 183 => 198 | 218 => 206 | 222 => 210 | 228 => 212 | 229 => 81 | n => n, fun | n => n⟩
theorem lays189 : Go.Proofs.Lays.n189 Try.prog lays189_ren := {
  mixed := by kernel_rfl
  f125 := Try.func153.trans (congrArg some (by kernel_rfl))
  f128 := Try.func172.trans (congrArg some (by kernel_rfl))
  f129 := Try.func173.trans (congrArg some (by kernel_rfl))
  f189 := Try.func127.trans (congrArg some (by kernel_rfl))
  f215 := Try.func180.trans (congrArg some (by kernel_rfl))
  f216 := Try.func169.trans (congrArg some (by kernel_rfl))
  f257 := Try.func152.trans (congrArg some (by kernel_rfl))
  f294 := Try.func163.trans (congrArg some (by kernel_rfl))
  f295 := Try.func164.trans (congrArg some (by kernel_rfl))
  f296 := Try.func165.trans (congrArg some (by kernel_rfl))
  f297 := Try.func166.trans (congrArg some (by kernel_rfl))
  f298 := Try.func167.trans (congrArg some (by kernel_rfl))
  f299 := Try.func168.trans (congrArg some (by kernel_rfl))
  f300 := Try.func170.trans (congrArg some (by kernel_rfl))
  f301 := Try.func171.trans (congrArg some (by kernel_rfl))
  f328 := Try.func175.trans (congrArg some (by kernel_rfl))
  f329 := Try.func176.trans (congrArg some (by kernel_rfl))
  f330 := Try.func177.trans (congrArg some (by kernel_rfl))
  f331 := Try.func178.trans (congrArg some (by kernel_rfl))
  f332 := Try.func179.trans (congrArg some (by kernel_rfl))
  f343 := Try.func181.trans (congrArg some (by kernel_rfl))
  t0 := Try.underlying0
  a0 := Try.isAgg0
  z0 := Try.sizeOf0
  v0 := Try.zeroValue0
  t3 := Try.underlying3
  a3 := Try.isAgg3
  z3 := Try.sizeOf3
  v3 := Try.zeroValue3
  t4 := Try.underlying4
  a4 := Try.isAgg4
  z4 := Try.sizeOf4
  v4 := Try.zeroValue4
  t5 := Try.underlying5
  a5 := Try.isAgg5
  z5 := Try.sizeOf5
  v5 := Try.zeroValue5
  t9 := Try.underlying9
  a9 := Try.isAgg9
  z9 := Try.sizeOf9
  v9 := Try.zeroValue9
  t28 := Try.underlying34
  a28 := Try.isAgg34
  z28 := Try.sizeOf34
  v28 := Try.zeroValue34
  t46 := Try.underlying126
  a46 := Try.isAgg126
  z46 := Try.sizeOf126
  v46 := Try.zeroValue126
  t51 := Try.underlying204
  a51 := Try.isAgg204
  z51 := Try.sizeOf204
  v51 := Try.zeroValue204
  t53 := Try.underlying52
  a53 := Try.isAgg52
  z53 := Try.sizeOf52
  v53 := Try.zeroValue52
  t131 := Try.underlying165
  a131 := Try.isAgg165
  z131 := Try.sizeOf165
  v131 := Try.zeroValue165
  t182 := Try.underlying197
  a182 := Try.isAgg197
  z182 := Try.sizeOf197
  v182 := Try.zeroValue197
  t183 := Try.underlying198
  a183 := Try.isAgg198
  z183 := Try.sizeOf198
  v183 := Try.zeroValue198
  t218 := Try.underlying206
  a218 := Try.isAgg206
  z218 := Try.sizeOf206
  v218 := Try.zeroValue206
  t222 := Try.underlying210
  a222 := Try.isAgg210
  z222 := Try.sizeOf210
  v222 := Try.zeroValue210
  t228 := Try.underlying212
  a228 := Try.isAgg212
  z228 := Try.sizeOf212
  v228 := Try.zeroValue212
  t229 := Try.underlying81
  a229 := Try.isAgg81
  z229 := Try.sizeOf81
  v229 := Try.zeroValue81 }
structure Pm (w0 : World) (g cap : Nat) (l0 : List Int) (w : World) (l : List Int) : Prop where
  perm : l.Perm l0
  up : l.Pairwise (· ≤ ·)
  sl : SlC w 3 (some ⟨g, 0, none⟩) cap (ints l)
  ch : Chg (fun k => k = g) w0 w
theorem at_c {P : Program} {f : FuncId} {args : Array Value} {w : World} {K : Value → World → Prop} (h : ∀ u, u = w → CallsR P f args u K) : CallsR P f args w K := h w rfl
section
variable {w w0 w1 w' : World} {g cap : Nat} {l0 l l1 : List Int} {cur : Array Value} {i j : Int}
theorem Pm.len (h : Pm w0 g cap l0 w l) : l.length = l0.length := h.perm.length_eq
theorem sort_calls (h : SlC w 3 (some ⟨g, 0, none⟩) cap (ints l)) (hl : l.length ≤ 1000000000) :
    CallsR Try.prog 127 #[.slice (some ⟨g, 0, none⟩) l.length cap] w fun r w' => r = .tuple #[] ∧ ∃ k, Pm w g cap l w' k := by
  rcases h.l.row with ⟨e, _⟩ | ⟨g', cur, e, hg, h1, h2, h3, h4⟩
  · cases e
  · cases e
    have hlen : (one1 (ints l)).length = l.length := by simp
    rw [hlen] at h1 h4
    rw [one1_flat, Nat.mul_one] at h4
    have hlt := lt_of_heap hg
    have hH := holds_of_blockI hg (ss := l) h4
    have hc := Go.Proofs.Any.slices_Sort_int lays189 g 0 cap l w hH hlt (by omega)
    unfold CallsR
    refine Calls.mono (R := _) hc ?_
    rintro en w' ⟨rfl, n, os, rfl⟩
    have hperm := List.mergeSort_perm l fun x y => decide (x ≤ y)
    have hup : (l.mergeSort fun x y => decide (x ≤ y)).Pairwise (· ≤ ·) := by
      have := List.pairwise_mergeSort (le := fun x y : Int => decide (x ≤ y)) (fun a b c h1 h2 => by simp at *; omega) (fun a b => by simp; omega) l
      exact this.imp fun h => by simpa using h
    have hml := hperm.length_eq
    generalize (l.mergeSort fun x y => decide (x ≤ y)) = k at *
    have hgb := grownBy_sortedI (w := w) (g := g) (n := n) (os := os) k.toArray
    have hb2 := heap_sortedI (n := n) (os := os) k.toArray hg
    have htk := take_putCellsI cur k (by rw [hml]; omega)
    refine ⟨_, rfl, rfl, k, hperm, hup, ?_, ?_⟩
    · have e1 : (one1 (ints k)).length = k.length := by simp
      exact ⟨⟨by rw [one1_flat, e1]; simp, .inr ⟨g, _, rfl, hb2, by rw [e1]; omega, h2, by simp [Sort.putCells, h3], by rw [e1, one1_flat, Nat.mul_one]; exact htk⟩⟩, one1_len⟩
    · obtain ⟨a, b, c, d, e⟩ := hgb
      exact ⟨a, b, c, d, fun j hj hf => e j hj (by intro h; apply hf; first | exact Option.some.inj h | exact (Option.some.inj h).symm)⟩
theorem insertion_nil : Sure Try.prog 163 #[.slice none 0 0, .int .i64 0, .int .i64 0] (.tuple #[]) := by
  intro w
  refine en3 Try.func163 Try.results163 mixed [(6, [15, 17])] ?_
  intro e0 h0 h1 h2
  refine w_ fun d => ?_
  refine un_ 1 ?_
  refine w_ fun d => ?_
  exact ⟨rfl, ext_⟩
theorem pdq_nil (lim : Int) : Sure Try.prog 152 #[.slice none 0 0, .int .i64 0, .int .i64 0, .int .i64 lim] (.tuple #[]) := by
  intro w
  have go := insertion_nil
  refine en4 Try.func152 Try.results152 mixed [] ?_
  intro e0 h0 h1 h2 h3
  refine w_ fun d => ?_
  refine un_ 1 ?_
  refine w_ fun d => ?_
  refine qq (go.quiet (w := w)) fun w1 hE1 hs1 => ?_
  refine w_ fun d => ?_
  exact ⟨rfl, ext_⟩
theorem sort_nil : Sure Try.prog 127 #[.slice none 0 0] (.tuple #[]) := by
  intro w
  have bl := bitsLen_sure 0 (by omega) (by omega)
  have go := fun n => pdq_nil n
  refine en1 Try.func127 Try.results127 mixed [] ?_
  intro e0 h0
  refine w_ fun d => ?_
  refine qq (bl.quiet (w := w)) fun w1 hE1 hs1 => ?_
  refine w_ fun d => ?_
  refine qq ((go _).quiet (w := w1)) fun w2 hE2 hs2 => ?_
  refine w_ fun d => ?_
  exact ⟨rfl, ext_⟩
theorem slc_app {w : World} {a b0 : Option Addr} {cap c : Nat} {l m : List Int} (h : SlC w 3 a cap (ints l)) (hI : InI w b0 m) (hm : l.length + m.length ≤ 1099511627776) :
    ∃ a' cap' w', apR Try.prog 34 (.slice a l.length cap) (.slice b0 m.length c) w = .ok (.slice a' (l ++ m).length cap') w' ∧ SlC w' 3 a' cap' (ints (l ++ m)) ∧ Chg (fun k => blk a = some k) w w' ∧ (∀ g, blk a' = some g → blk a = some g ∨ (w.heap.size ≤ g ∧ g < w'.heap.size)) := by
  obtain ⟨a2, c2, w2, hr, hS2, hC2, hB2⟩ := Sl.append (news := one1 (ints m)) (c := c) h T34 T3 rfl (by decide) hI one1_len (by rw [one1_flat]; exact List.all_eq_true.2 fun x hx => by obtain ⟨y, _, rfl⟩ := List.mem_map.1 hx; rfl) (by simp; omega) (by decide)
  rw [← List.map_append, ← List.map_append] at hr
  simp only [List.length_map] at hr
  exact ⟨a2, c2, w2, hr, by unfold SlC; rw [ints, List.map_append, one1, List.map_append]; exact hS2, hC2, hB2⟩
theorem clone_calls {a : Option Addr} {c : Nat} (hI : InI w a l) (hl : l.length ≤ 1000000000) :
    CallsR Try.prog 126 #[.slice a l.length c] w fun r w' => ∃ a' c', r = .slice a' l.length c' ∧ SlC w' 3 a' c' (ints l) ∧ (∀ g, blk a' = some g → w.heap.size ≤ g) ∧ Ext w w' := by
  cases a with
  | none =>
    rcases hI with h | ⟨g, o, cs, E, fz, h, _⟩
    · have : l = [] := by simpa using h
      subst this
      refine en1 Try.func126 Try.results126 mixed [] ?_
      intro e0 h0
      refine w_ fun d => ?_
      exact ⟨none, 0, rfl, SlC.nil _ _, (fun g h => by cases h), ext_⟩
    · cases h
  | some ad =>
    have hE0 : Ext w (w.alloc (.cells #[] 3)) := ext_
    have h0' : SlC (w.alloc (.cells #[] 3)) 3 (some ⟨w.heap.size, 0, none⟩) 0 (ints []) := SlC.made (l := []) (hA rfl) (by simp)
    obtain ⟨a2, c2, w2, hr, hS, hC, hB⟩ := slc_app (c := c) h0' (Inp.ext hI hE0) (by simp; omega)
    simp only [List.nil_append, List.length_nil] at hr hS
    have hE2 : Ext w w2 := hC.toExt hE0 fun k hk hb => by have := blk_g hb; omega
    have hs2 := hC.size
    have hB2 : ∀ g, blk a2 = some g → w.heap.size ≤ g := fun g hg => by
      rcases hB g hg with h | h
      · have := blk_g h; omega
      · have := h.1; simp only [alloc_size] at this; omega
    clear hI h0' hC hB hE0
    refine en1 Try.func126 Try.results126 mixed [] ?_
    intro e0 h0
    refine w_ fun d => ?_
    exact ⟨a2, c2, rfl, hS.ext ext_, hB2, ext_⟩
end
end Go.Proofs.Ytpeindhocndmnaa

namespace Go.Bx
open Go
set_option linter.unusedSimpArgs false
set_option linter.unusedVariables false
inductive Md.Rc (s : Md) (rs : List Int) : Int → Prop
  | root {n : Int} (h : n ∈ rs) (hn : s.has n = true) : Md.Rc s rs n
  | lo {n : Int} (h : Md.Rc s rs n) (hn : s.has (s.nd n).2.1 = true) : Md.Rc s rs (s.nd n).2.1
  | hi {n : Int} (h : Md.Rc s rs n) (hn : s.has (s.nd n).2.2 = true) : Md.Rc s rs (s.nd n).2.2
open Classical in
noncomputable def Md.keep (s : Md) (rs : List Int) (n : Int) : Bool := decide (s.Rc rs n)
noncomputable def Md.reach (s : Md) (rs : List Int) : List Int := s.all.filter (s.keep rs)
section
variable {s s' : Md} {n m c v : Int} {f g : Fun8} {rs l K w w' : List Int}
theorem Md.Rc.has (h : s.Rc rs n) : s.has n = true := by cases h <;> assumption
theorem Md.keep_iff : s.keep rs n = true ↔ s.Rc rs n := by unfold Md.keep; simp only [decide_eq_true_eq]
theorem Md.WF.mem_reach (W : s.WF) : n ∈ s.reach rs ↔ s.Rc rs n := by
  unfold Md.reach
  rw [List.mem_filter, W.mem_all, Md.keep_iff]
  exact ⟨fun h => h.2, fun h => ⟨h.has, h⟩⟩
theorem Md.all_up : s.all.Pairwise (· < ·) := by
  show (((List.range s.N.length).map fun j : Nat => (j : Int) + 2).filter fun n => s.has n).Pairwise (· < ·)
  refine List.Pairwise.filter _ ?_
  rw [List.pairwise_map]
  exact List.Pairwise.imp (fun h => by omega) List.pairwise_lt_range
theorem Md.reach_up : (s.reach rs).Pairwise (· < ·) := List.Pairwise.filter _ Md.all_up
theorem up_eq : ∀ {l k : List Int}, l.Pairwise (· < ·) → k.Pairwise (· < ·) → (∀ x, x ∈ l ↔ x ∈ k) → l = k
  | [], [], _, _, _ => rfl
  | [], b :: k, _, _, h => by have := (h b).2 (by simp); cases this
  | a :: l, [], _, _, h => by have := (h a).1 (by simp); cases this
  | a :: l, b :: k, hl, hk, h => by
    have hl' := List.pairwise_cons.1 hl
    have hk' := List.pairwise_cons.1 hk
    have hab : a = b := by
      rcases List.mem_cons.1 ((h a).1 (by simp)) with e | e
      · exact e
      · rcases List.mem_cons.1 ((h b).2 (by simp)) with e2 | e2
        · exact e2.symm
        · have := hl'.1 b e2; have := hk'.1 a e; omega
    subst hab
    rw [up_eq hl'.2 hk'.2 fun x => ?_]
    constructor
    · intro hx
      rcases List.mem_cons.1 ((h x).1 (by simp [hx])) with e | e
      · have := hl'.1 x hx; omega
      · exact e
    · intro hx
      rcases List.mem_cons.1 ((h x).2 (by simp [hx])) with e | e
      · have := hk'.1 x hx; omega
      · exact e
structure Rdf (s : Md) (rs K w : List Int) : Prop where
  nodup : K.Nodup
  rch : ∀ n ∈ K, s.Rc rs n
  wrk : ∀ n ∈ w, s.has n = true → s.Rc rs n
  root : ∀ n ∈ rs, s.has n = true → n ∈ K ∨ n ∈ w
  lo : ∀ n ∈ K, s.has (s.nd n).2.1 = true → (s.nd n).2.1 ∈ K ∨ (s.nd n).2.1 ∈ w
  hi : ∀ n ∈ K, s.has (s.nd n).2.2 = true → (s.nd n).2.2 ∈ K ∨ (s.nd n).2.2 ∈ w
theorem Rdf.init : Rdf s rs [] rs := ⟨List.nodup_nil, fun _ h => (by cases h), fun n hn hh => .root hn hh, fun n hn _ => .inr hn, fun _ h => (by cases h), fun _ h => (by cases h)⟩
theorem Rdf.skip (h : Rdf s rs K w) (hn : s.has n = false ∨ n ∈ K) (h1 : ∀ x ∈ w, x = n ∨ x ∈ w') (h2 : ∀ x ∈ w', x ∈ w) : Rdf s rs K w' := by
  have key : ∀ x, s.has x = true → x ∈ K ∨ x ∈ w → x ∈ K ∨ x ∈ w' := fun x hx hxw => by
    rcases hxw with e | e
    · exact .inl e
    · rcases h1 x e with rfl | e
      · rcases hn with e2 | e2
        · rw [e2] at hx; cases hx
        · exact .inl e2
      · exact .inr e
  exact ⟨h.nodup, h.rch, fun x hx => h.wrk x (h2 x hx), fun x hx hh => key x hh (h.root x hx hh), fun x hx hh => key _ hh (h.lo x hx hh), fun x hx hh => key _ hh (h.hi x hx hh)⟩
theorem Rdf.go (h : Rdf s rs K w) (hn : s.has n = true) (hK : n ∉ K) (hw : n ∈ w) (h1 : ∀ x ∈ w, x = n ∨ x ∈ w') (h2 : ∀ x ∈ w', x ∈ w ∨ x = (s.nd n).2.1 ∨ x = (s.nd n).2.2) (h3 : (s.nd n).2.1 ∈ w') (h4 : (s.nd n).2.2 ∈ w') : Rdf s rs (K ++ [n]) w' := by
  have hr := h.wrk n hw hn
  have key : ∀ x, s.has x = true → x ∈ K ∨ x ∈ w → x ∈ K ++ [n] ∨ x ∈ w' := fun x hx hxw => by
    rcases hxw with e | e
    · exact .inl (by simp [e])
    · rcases h1 x e with rfl | e
      · exact .inl (by simp)
      · exact .inr e
  refine ⟨?_, fun x hx => ?_, fun x hx hh => ?_, fun x hx hh => key x hh (h.root x hx hh), fun x hx hh => ?_, fun x hx hh => ?_⟩
  · rw [List.nodup_append]
    exact ⟨h.nodup, by simp, fun x hx y hy e => by rw [List.mem_singleton] at hy; subst e hy; exact hK hx⟩
  · rcases List.mem_append.1 hx with e | e
    · exact h.rch x e
    · rw [List.mem_singleton.1 e]; exact hr
  · rcases h2 x hx with e | rfl | rfl
    · exact h.wrk x e hh
    · exact .lo hr hh
    · exact .hi hr hh
  · rcases List.mem_append.1 hx with e | e
    · exact key _ hh (h.lo x e hh)
    · rw [List.mem_singleton.1 e]; exact .inr h3
  · rcases List.mem_append.1 hx with e | e
    · exact key _ hh (h.hi x e hh)
    · rw [List.mem_singleton.1 e]; exact .inr h4
theorem Rdf.done (h : Rdf s rs K []) : n ∈ K ↔ s.Rc rs n := by
  refine ⟨h.rch n, fun hr => ?_⟩
  induction hr with
  | root hm hh => exact (h.root _ hm hh).resolve_right (by simp)
  | lo _ hh ih => exact (h.lo _ ih hh).resolve_right (by simp)
  | hi _ hh ih => exact (h.hi _ ih hh).resolve_right (by simp)
theorem Rdf.len (h : Rdf s rs K w) (W : s.WF) : K.length ≤ s.all.length := sub_len' h.nodup fun x hx => W.mem_all.2 (h.rch x hx).has
theorem Rdf.len' (h : Rdf s rs K w) (W : s.WF) (hn : s.has n = true) (hK : n ∉ K) : K.length < s.all.length := by
  have := sub_len' (l := n :: K) (List.nodup_cons.2 ⟨hK, h.nodup⟩) (m := s.all) fun x hx => by
    rcases List.mem_cons.1 hx with rfl | hx
    · exact W.mem_all.2 hn
    · exact W.mem_all.2 (h.rch x hx).has
  rw [List.length_cons] at this; omega
def Md.drop1 (kp : Int → Bool) (v : Int) (s : Md) (n : Int) : Md := if s.of n v && !kp n then s.drop n else s
def Md.dropV (kp : Int → Bool) (v : Int) (l : List Int) (s : Md) : Md := l.foldl (Md.drop1 kp v) s
def Md.dropO (kp : Int → Bool) (l : List Int) (o : List Int) (s : Md) : Md := o.foldl (fun s v => s.dropV kp v l) s
noncomputable def Md.sweep (s : Md) (rs : List Int) : Md := s.dropO (s.keep rs) s.all s.ord
structure Swp (s0 : Md) (rs : List Int) (s : Md) : Prop where
  good : s.Good []
  ord : s.ord = s0.ord
  most : s.a.most = s0.a.most
  N : s.N = s0.N
  has : ∀ n, s.has n = true → s0.has n = true
  kept : ∀ n, s0.Rc rs n → s.has n = true
theorem Swp.nd (h : Swp s rs s') : s'.nd n = s.nd n := by unfold Md.nd; rw [h.N]
theorem Swp.start (G : s.Good []) : Swp s rs s := ⟨G, rfl, rfl, rfl, fun _ h => h, fun _ h => h.has⟩
def Ahd (s0 : Md) (rs : List Int) (s : Md) (v : Int) : Prop := ∀ n, s.has n = true → lvl s0.ord (s.nd n).1 < lvl s0.ord v → s0.Rc rs n
theorem Swp.free (h : Swp s rs s') (G : s.Good []) (ha : Ahd s rs s' v) (hn : s'.of n v = true) (hk : s.keep rs n = false) : s'.has n = true ∧ s'.pointed n = false := by
  unfold Md.of at hn
  rw [Bool.and_eq_true] at hn
  have hv : (s'.nd n).1 = v := by simpa using hn.2
  refine ⟨hn.1, ?_⟩
  cases hp : s'.pointed n with
  | false => rfl
  | true =>
    exfalso
    unfold Md.pointed at hp
    obtain ⟨m, hm, he⟩ := List.any_eq_true.1 hp
    have hmh := h.good.wf.mem_all.1 hm
    have ok := h.good.node m hmh (by simp)
    have nk : ¬ s.Rc rs n := fun hr => by rw [Md.keep_iff.2 hr] at hk; cases hk
    have lt : ∀ c, s'.below c (s'.nd m).1 = true → c = n → lvl s.ord (s'.nd m).1 < lvl s.ord v := fun c hb hc => by
      subst hc
      rcases Md.below_iff.1 hb with e | e | e
      · have := Md.has_ge hn.1; omega
      · have := Md.has_ge hn.1; omega
      · rw [h.ord, hv] at e; exact e.2
    rw [Bool.or_eq_true, decide_eq_true_iff, decide_eq_true_iff] at he
    rcases he with he | he
    · have hr := ha m hmh (lt _ ok.lo he)
      rw [h.nd] at he
      exact nk (he ▸ Md.Rc.lo hr (he ▸ h.has n hn.1))
    · have hr := ha m hmh (lt _ ok.hi he)
      rw [h.nd] at he
      exact nk (he ▸ Md.Rc.hi hr (he ▸ h.has n hn.1))
theorem Swp.drop (h : Swp s rs s') (G : s.Good []) (ha : Ahd s rs s' v) (hn : s'.of n v = true) (hk : s.keep rs n = false) : Swp s rs (s'.drop n) ∧ Ahd s rs (s'.drop n) v ∧ (s'.drop n).a.many = s'.a.many - 1 ∧ (∀ m, (s'.drop n).has m = (s'.has m && !decide (m = n))) := by
  obtain ⟨h1, h2⟩ := h.free G ha hn hk
  have hd := fun m => Md.has_drop (m := m) h1
  refine ⟨⟨h.good.drop h1 h2, h.ord, h.most, h.N, fun m hm => ?_, fun m hm => ?_⟩, fun m hm hl => ?_, (h.good.wf.drop h1).2, hd⟩
  · rw [hd, Bool.and_eq_true] at hm; exact h.has m hm.1
  · rw [hd, h.kept m hm, Bool.true_and]
    cases hmn : decide (m = n) with
    | false => rfl
    | true => rw [of_decide_eq_true hmn] at hm; rw [Md.keep_iff.2 hm] at hk; cases hk
  · rw [hd, Bool.and_eq_true] at hm; exact ha m hm.1 hl
theorem Swp.one (h : Swp s rs s') (G : s.Good []) (ha : Ahd s rs s' v) : Swp s rs (s'.drop1 (s.keep rs) v n) ∧ Ahd s rs (s'.drop1 (s.keep rs) v n) v ∧ (∀ m, (s'.drop1 (s.keep rs) v n).has m = (s'.has m && !(decide (m = n) && (decide ((s.nd m).1 = v) && !s.keep rs m)))) := by
  unfold Md.drop1
  cases ho : s'.of n v && !s.keep rs n with
  | false =>
    rw [if_neg (by simp)]
    refine ⟨h, ha, fun m => ?_⟩
    by_cases e : m = n
    · subst e
      unfold Md.of at ho
      rw [h.nd] at ho
      cases hh : s'.has m with
      | false => rfl
      | true =>
        rw [hh, Bool.true_and] at ho
        rw [ho]; simp
    · simp [e]
  | true =>
    rw [if_pos rfl]
    rw [Bool.and_eq_true] at ho
    have hk : s.keep rs n = false := by simpa using ho.2
    obtain ⟨a, b, _, d⟩ := h.drop G ha ho.1 hk
    refine ⟨a, b, fun m => ?_⟩
    rw [d]
    by_cases e : m = n
    · subst e
      have hv := ho.1
      unfold Md.of at hv
      rw [Bool.and_eq_true, h.nd] at hv
      rw [hk, hv.2]; simp
    · simp [e]
theorem Swp.lev (G : s.Good []) : ∀ (l : List Int) {s' : Md}, Swp s rs s' → Ahd s rs s' v → Swp s rs (s'.dropV (s.keep rs) v l) ∧ Ahd s rs (s'.dropV (s.keep rs) v l) v ∧ (∀ m, (s'.dropV (s.keep rs) v l).has m = (s'.has m && !(decide (m ∈ l) && (decide ((s.nd m).1 = v) && !s.keep rs m))))
  | [], s', h, ha => ⟨h, ha, fun m => by simp [Md.dropV]⟩
  | n :: l, s', h, ha => by
    obtain ⟨a, b, c⟩ := h.one (n := n) G ha
    obtain ⟨a2, b2, c2⟩ := Swp.lev G l a b
    refine ⟨a2, b2, fun m => ?_⟩
    show (Md.dropV (s.keep rs) v l (s'.drop1 (s.keep rs) v n)).has m = _
    rw [c2, c]
    cases s'.has m <;> cases decide ((s.nd m).1 = v) <;> cases s.keep rs m <;> simp
theorem Swp.levels (G : s.Good []) : ∀ (o : List Int) (k : Nat) {s' : Md}, s.ord.drop k = o → Swp s rs s' → (∀ n, s'.has n = true → lvl s.ord (s.nd n).1 < k → s.Rc rs n) → Swp s rs (s'.dropO (s.keep rs) s.all o) ∧ ∀ n, (s'.dropO (s.keep rs) s.all o).has n = true → s.Rc rs n
  | [], k, s', ho, h, ha => by
    refine ⟨h, fun n hn => ha n hn ?_⟩
    have hn' : s'.has n = true := hn
    have hv := (G.node n (h.has n hn') (by simp)).var
    have hl := G.wf.ord.lt hv
    have h8 := G.wf.ord.len
    have := congrArg List.length ho
    simp at this
    omega
  | v :: o, k, s', ho, h, ha => by
    have hk : s.ord[k]? = some v := by have := congrArg (·[0]?) ho; simpa using this
    have hlv := G.wf.ord.lvl hk
    have ha' : Ahd s rs s' v := fun n hn hl => ha n hn (by rw [h.nd] at hl; omega)
    obtain ⟨a, b, c⟩ := Swp.lev G s.all h ha'
    show Swp s rs (Md.dropO (s.keep rs) s.all o (s'.dropV (s.keep rs) v s.all)) ∧ _
    refine Swp.levels G o (k + 1) (by rw [← List.drop_drop, ho]; rfl) a fun n hn hl => ?_
    rw [c, Bool.and_eq_true] at hn
    by_cases hlk : lvl s.ord (s.nd n).1 < k
    · exact ha n hn.1 hlk
    · have hv := (G.node n (h.has n hn.1) (by simp)).var
      have hvr := G.wf.ord.rng k v hk
      have e : (s.nd n).1 = v := G.wf.ord.inj hv hvr (by rw [hlv]; omega)
      have h2 := hn.2
      rw [e] at h2
      have hm : n ∈ s.all := G.wf.mem_all.2 (h.has n hn.1)
      simp [hm] at h2
      exact Md.keep_iff.1 h2
structure Swept (s : Md) (rs : List Int) (s' : Md) : Prop where
  swp : Swp s rs s'
  only : ∀ n, s'.has n = true ↔ s.Rc rs n
theorem Md.Good.swept (G : s.Good []) : Swept s rs (s.sweep rs) := by
  obtain ⟨a, b⟩ := Swp.levels (rs := rs) G s.ord 0 rfl (Swp.start G) fun n hn hl => by
    have hv := (G.node n hn (by simp)).var
    have := G.wf.ord.lt hv
    omega
  exact ⟨a, fun n => ⟨b n, a.kept n⟩⟩
end
end Go.Bx

namespace Go.Proofs.Ytpeindhocndmnaa
open Go Go.Bx
set_option linter.unusedSimpArgs false
set_option linter.unusedVariables false
set_option maxRecDepth 100000
set_option maxHeartbeats 4000000
attribute [local irreducible] X XO XE XF XD XW thenX inX retX kN CallsR
theorem at_o {P : Program} {l : List GOp} {K : Env → World → Prop} {e : Env} {w : World} (h : ∀ u, u = w → XO P l K e u) : XO P l K e w := h w rfl
section
variable {w : World} {a : Option Addr} {cap : Nat} {l : List Int} {x y : Int}
theorem pushI2 (h : SlC w 3 a cap (ints l)) (hm : l.length ≤ 1000000000) (x y : Int) :
    ∃ a' cap' w', apR Try.prog 34 (.slice a l.length cap) (.slice (some ⟨w.heap.size, 0, none⟩) 2 2) (w.alloc (.cells #[.int .i64 x, .int .i64 y] 3)) = .ok (.slice a' (l.length + 2) cap') w' ∧
      SlC w' 3 a' cap' (ints (l ++ [x, y])) ∧ Chg (fun k => blk a = some k) w w' ∧ w.heap.size < w'.heap.size ∧ (∀ g, blk a' = some g → blk a = some g ∨ (w.heap.size ≤ g ∧ g < w'.heap.size)) := by
  obtain ⟨a2, c2, w2, hr, hS2, hC2, hs2, hB2⟩ := h.push (P := Try.prog) (news := [.int .i64 x, .int .i64 y]) T34 T3 rfl rfl (by rw [List.length_map]; simp; omega) (by decide) (k := 2) rfl rfl
  have hl1 : (ints l ++ [Value.int .i64 x, Value.int .i64 y]).length = l.length + 2 := by simp
  rw [List.length_map, hl1] at hr
  exact ⟨a2, c2, w2, hr, by unfold ints; rw [List.map_append]; exact hS2, hC2, hs2, hB2⟩
end
structure KnS (es : List (Ent Int)) (ck : Nat) (K : List Int) : Prop where
  inv : MInv es ck
  get : ∀ n, mget es n = if n ∈ K then some (.int .i64 1) else none
theorem KnS.nil : KnS [] 0 [] := ⟨MInv.nil, fun n => by rw [if_neg (by simp)]; rfl⟩
theorem KnS.put {es : List (Ent Int)} {ck : Nat} {K : List Int} {n : Int} (h : KnS es ck K) : KnS (mput es n (.int .i64 1) ck) (mclock es n ck) (K ++ [n]) := ⟨h.inv.put _ _, fun m => by
  rw [mget_put h.inv.keys, h.get]
  by_cases e : m = n
  · subst e; simp
  · simp [e, Ne.symm e]⟩
structure RchI (w0 w : World) (bm : Nat) (es : List (Ent Int)) (ck : Nat) (aw ao : Option Addr) (cw co : Nat) (wl K : List Int) : Prop where
  hm : w.heap[bm]? = some (mObj (Value.int .i64) es ck)
  kn : KnS es ck K
  sw : SlC w 3 aw cw (ints wl)
  so : SlC w 3 ao co (ints K)
  nw : ∀ g, blk aw = some g → w0.heap.size ≤ g
  no : ∀ g, blk ao = some g → w0.heap.size ≤ g
  nm : w0.heap.size ≤ bm
  dis : ∀ g, blk aw = some g → ¬ blk ao = some g
  ext : Ext w0 w
section
variable {own : Nat → Nat} {w w0 w' w1 : World} {p bm ck cw co : Nat} {es : List (Ent Int)} {aw ao : Option Addr} {wl K rs : List Int} {s : Md} {n x y : Int}
theorem RchI.up (h : RchI w0 w bm es ck aw ao cw co wl K) (hE : Ext w w') : RchI w0 w' bm es ck aw ao cw co wl K := ⟨hE.at h.hm, h.kn, h.sw.ext hE, h.so.ext hE, h.nw, h.no, h.nm, h.dis, h.ext.trans hE⟩
theorem RchI.pop (h : RchI w0 w bm es ck aw ao cw co (wl ++ [n]) K) : RchI w0 w bm es ck aw ao cw co wl K := by
  refine ⟨h.hm, h.kn, ?_, h.so, h.nw, h.no, h.nm, h.dis, h.ext⟩
  have := SlC.take h.sw (k := wl.length) (by simp)
  rwa [show (ints (wl ++ [n])).take wl.length = ints wl by unfold ints; rw [← List.map_take, List.take_left]] at this
theorem perm_up {l k : List Int} (h : l.Perm k) (hl : l.Pairwise (· ≤ ·)) (hk : k.Pairwise (· < ·)) : l = k := by
  refine up_eq ?_ hk fun x => h.mem_iff
  have nd : l.Nodup := h.nodup_iff.2 (hk.imp fun h => by omega)
  exact (hl.and nd).imp fun h => by omega
theorem rdReach_calls {a : Option Addr} {c : Nat} (h : StI own w p s []) (G : s.Good []) (hI : InI w a rs) (hl : rs.length ≤ 1000000) (hn : ∀ n ∈ rs, n ≤ 9223372036854775807) :
    CallsR Try.prog 77 #[.pointer (some ⟨p, 0, none⟩), .slice a rs.length c] w fun r w' => ∃ a' c' l, r = .slice a' l.length c' ∧ SlC w' 3 a' c' (ints l) ∧ (∀ g, blk a' = some g → w.heap.size ≤ g) ∧ Ext w w' ∧ l = s.reach rs := by
  have W := G.wf
  have hN := wf_N W
  have hal : s.all.length ≤ 20000 := by have := allTo_len (s := s) (k := s.N.length); rw [allTo_all] at this; omega
  have cl := fun u (hE : Ext w u) => clone_calls (c := c) (Inp.ext hI hE) (by omega)
  clear hI
  refine en2 Try.func77 Try.results77 mixed [] ?_
  intro e0 h0 h1
  refine w_ fun d => ?_
  refine (cl _ ext_).mono ?_
  rintro _ u1 ⟨aw, cw, rfl, hSw, hBw, hE1⟩
  have hEu1 : Ext w u1 := Ext.trans (by exact ext_) hE1
  have hm1 : u1.heap[w.heap.size]? = some (mObj (Value.int .i64) [] 0) := hE1.at (hA rfl)
  obtain ⟨bm, hbm⟩ : ∃ b, w.heap.size = b := ⟨_, rfl⟩
  rw [hbm] at hm1 ⊢
  have hR : RchI w u1 bm [] 0 aw none cw 0 rs [] := ⟨hm1, KnS.nil, hSw, SlC.nil _ _, fun g hg => by have := hBw g hg; simp only [alloc_size] at this; omega, (fun g hg => by cases hg), by omega, (fun g _ h => by cases h), hEu1⟩
  clear hSw hBw hE1 hm1 cl hEu1
  refine w_ fun d => ?_
  refine log_ (fun m W e u => ∃ es ck aw ao cw co wl K, e 6 = .slice aw wl.length cw ∧ e 7 = .slice ao K.length co ∧ RchI w u bm es ck aw ao cw co wl K ∧ Box (Rdf s rs K wl) ∧ Box (∀ n ∈ wl, n ≤ 9223372036854775807) ∧ wl.length ≤ rs.length + 2 * K.length ∧ 3 * (s.all.length - K.length) + wl.length = m) (3 * s.all.length + rs.length) ?_ ?_
  · exact ⟨[], 0, aw, none, cw, 0, rs, [], eA rfl, eA rfl, hR.up ext_, ⟨.init⟩, ⟨hn⟩, by simp, by simp⟩
  clear hR hn
  rintro m e u hf ⟨es, ck, aw, ao, cw, co, wl, K, h6, h7, hR, ⟨hD⟩, ⟨hn⟩, hwl, hm⟩
  have hKl := hD.len W
  rcases List.eq_nil_or_concat wl with rfl | ⟨ws, n, rfl⟩
  · -- all was met
    have hp : K.Perm (s.reach rs) := by
      rw [List.perm_ext_iff_of_nodup hD.nodup (List.Pairwise.imp (fun h => by omega) Md.reach_up)]
      intro x
      rw [hD.done, W.mem_reach]
    obtain ⟨hm0, kn, sw, so, nw, no, nm, dis, hE⟩ := hR
    simp only [List.length_nil] at h6
    cases ao with
    | none =>
      have hK0 : K.length = 0 ∧ co = 0 := by
        rcases so.l.row with ⟨_, h1, h2⟩ | ⟨g, cur, e, _⟩
        · exact ⟨by simpa using h1, h2⟩
        · cases e
      obtain ⟨h1, rfl⟩ := hK0
      have hK : K = [] := List.length_eq_zero_iff.1 h1
      subst hK
      have sn := sort_nil
      clear hD hn hm0 kn sw nw dis
      refine w_ fun d => ?_
      refine qq (sn.quiet (w := u)) fun u2 hE2 hs2 => ?_
      refine w_ fun d => ?_
      exact ⟨none, 0, [], rfl, SlC.nil _ _, (fun g h => by cases h), ext_, hp.nil_eq⟩
    | some ad =>
      have had : ∃ g, ad = ⟨g, 0, none⟩ := by
        rcases so.l.row with ⟨e, _⟩ | ⟨g, cur, e, _⟩
        · cases e
        · cases e; exact ⟨g, rfl⟩
      obtain ⟨g, rfl⟩ := had
      have sc := sort_calls so (by omega)
      have hg := no g rfl
      clear hD hn hm0 kn sw nw dis so
      refine w_ fun d => ?_
      refine sc.mono ?_
      rintro _ u2 ⟨rfl, l2, hP⟩
      have hE2 : Ext w u2 := hP.ch.toExt hE fun k hk hf => by omega
      have hl2 := hP.len
      rw [← hl2] at h7
      refine w_ fun d => ?_
      exact ⟨_, _, l2, (by rw [hl2]), hP.sl.ext ext_, fun g' hg' => by have := blk_g hg'; omega, ext_, perm_up (hP.perm.trans hp) hP.up Md.reach_up⟩
  rw [List.concat_eq_append] at *
  have hl1 : (ws ++ [n]).length = ws.length + 1 := by simp
  rw [hl1] at h6 hwl hm
  have hnb := hn n (by simp)
  obtain ⟨gw, cur, rfl, hgw, hcw, hlt, hat⟩ := hR.sw.at (i := ws.length) (v := .int .i64 n) (by unfold ints; rw [List.getElem?_map]; simp)
  rw [List.length_map, hl1] at hcw
  have lg := lt_of_heap hgw
  have e1 : (ws.length : Int) + 1 - 1 = ws.length := by omega
  have hR' := hR.pop
  have hm0 := hR.hm
  have lm := lt_of_heap hm0
  have hws : ∀ x ∈ ws, x ≤ 9223372036854775807 := fun x hx => hn x (by simp [hx])
  have n1 := stNode_calls (h.ext hR.ext) W n hnb
  have gk := hR.kn.get n
  have hEu := hR.ext
  clear hR hn
  by_cases hsk : s.has n = false ∨ n ∈ K
  · have hD' : Rdf s rs K ws := hD.skip hsk (fun x hx => by rcases List.mem_append.1 hx with h | h; exact .inr h; exact .inl (List.mem_singleton.1 h)) (fun x hx => by simp [hx])
    cases hh : s.has n with
    | false =>
      rw [nod_no hh] at n1
      simp only [ndV] at n1
      clear hsk hD gk hh
      refine w_ fun d => ?_
      refine qq n1 fun u2 hE2 hs2 => ?_
      refine w_ fun d => ?_
      exact ⟨_, (by omega), es, ck, _, ao, cw, co, ws, K, eA rfl, eA rfl, (hR'.up hE2).up ext_, ⟨hD'⟩, ⟨hws⟩, by omega, rfl⟩
    | true =>
      have hK : n ∈ K := by rcases hsk with h | h; rw [hh] at h; cases h; exact h
      rw [if_pos hK] at gk
      have g1 : (mget es n).getD (.int .i64 0) = .int .i64 1 := by rw [gk]; rfl
      rw [nod_has hh] at n1
      obtain ⟨⟨v, lo, hi⟩, hz⟩ : ∃ z, s.nd n = z := ⟨_, rfl⟩
      rw [hz] at n1
      simp only [ndV] at n1
      clear hsk hD gk hh hz hK
      refine w_ fun d => ?_
      refine qq n1 fun u2 hE2 hs2 => ?_
      have hm2 := hE2.at hm0
      have lm2 := lt_of_heap hm2
      refine w_ fun d => ?_
      exact ⟨_, (by omega), es, ck, _, ao, cw, co, ws, K, eA rfl, eA rfl, (hR'.up hE2).up ext_, ⟨hD'⟩, ⟨hws⟩, by omega, rfl⟩
  · have hh : s.has n = true := by
      cases hh : s.has n with
      | true => rfl
      | false => exact absurd (.inl hh) hsk
    have hK : n ∉ K := fun h => hsk (.inr h)
    rw [if_neg hK] at gk
    have g1 : (mget es n).getD (.int .i64 0) = .int .i64 0 := by rw [gk]; rfl
    have hKl2 := hD.len' W hh hK
    have ok := G.node n hh (by simp)
    have blo := (Md.below_lt W ok.lo).1
    have bhi := (Md.below_lt W ok.hi).1
    have hD' : Rdf s rs (K ++ [n]) (ws ++ [(s.nd n).2.1, (s.nd n).2.2]) := hD.go hh hK (by simp) (fun x hx => by rcases List.mem_append.1 hx with h | h; exact .inr (by simp [h]); exact .inl (List.mem_singleton.1 h)) (fun x hx => by simp at hx ⊢; rcases hx with h | h | h <;> simp [h]) (by simp) (by simp)
    rw [nod_has hh] at n1
    obtain ⟨⟨v, lo, hi⟩, hz⟩ : ∃ z, s.nd n = z := ⟨_, rfl⟩
    rw [hz] at n1 hD' blo bhi
    simp only [ndV] at n1
    dsimp only at hD' blo bhi
    have hws2 : ∀ x ∈ ws ++ [lo, hi], x ≤ 9223372036854775807 := fun x hx => by
      simp only [List.mem_append, List.mem_cons, List.not_mem_nil, or_false] at hx
      rcases hx with h | h | h
      · exact hws x h
      · omega
      · omega
    clear hsk hD gk hh hz hK ok hws
    refine w_ fun d => ?_
    refine qq n1 fun u2 hE2 hs2 => ?_
    have hR2 := hR'.up hE2
    clear hm0 lm
    refine w_ fun d => ?_
    refine at_o fun u3 hu3 => ?_
    have hE3 : Ext u2 u3 := by rw [hu3]; exact ext_
    have hx3 : u3.heap[u2.heap.size]? = some (.cells #[.int .i64 v, .int .i64 lo, .int .i64 hi] 39) := by rw [hu3]; exact hA rfl
    have hR3 := hR2.up hE3
    clear hu3 hR2 hR' hE2 hE3 hs2
    have hxl := lt_of_heap hx3
    obtain ⟨hm3, kn3, sw3, so3, nw3, no3, nm3, dis3, ext3⟩ := hR3
    have lm3 := lt_of_heap hm3
    obtain ⟨aw, haw⟩ : ∃ z : Option Addr, some ⟨gw, 0, none⟩ = z := ⟨_, rfl⟩
    rw [haw] at h6 sw3 nw3 dis3
    have hxm : u2.heap.size ≠ bm := fun e => by rw [e, hm3] at hx3; cases hx3
    have nwm : ∀ g, blk aw = some g → g ≠ bm := fun g hg e => by
      obtain ⟨c, hc⟩ := sw3.tag hg; rw [e, hm3] at hc; cases hc
    have nom : ∀ g, blk ao = some g → g ≠ bm := fun g hg e => by
      obtain ⟨c, hc⟩ := so3.tag hg; rw [e, hm3] at hc; cases hc
    obtain ⟨o, ho⟩ : ∃ o, mObj (Value.int .i64) (mput es n (.int .i64 1) ck) (mclock es n ck) = o := ⟨_, rfl⟩
    have sw4 := sw3.upd (b := bm) (o := o) nwm
    have so4 := so3.upd (b := bm) (o := o) nom
    have hm4 : (upd u3 bm o).heap[bm]? = some o := upd_same lm3
    have hx4 : (upd u3 bm o).heap[u2.heap.size]? = some (.cells #[.int .i64 v, .int .i64 lo, .int .i64 hi] 39) := by rw [upd_other (Ne.symm hxm)]; exact hx3
    have ext4 : Ext w (upd u3 bm o) := ext3.upd nm3 _
    obtain ⟨a5, c5, w5, hr5, so5, hC5, hs5, hB5⟩ := pushI so4 (by omega) n
    have sw5 := sw4.chg hC5 fun g hg h2 => dis3 g hg h2
    have hm5 : w5.heap[bm]? = some o := by rw [hC5.heap _ (lt_of_heap hm4) fun h => nom bm h rfl]; exact hm4
    have hx5 : w5.heap[u2.heap.size]? = some (.cells #[.int .i64 v, .int .i64 lo, .int .i64 hi] 39) := by
      rw [hC5.heap _ (lt_of_heap hx4) fun h => by
        obtain ⟨c, hc⟩ := so3.tag h; rw [hx3] at hc; cases hc]; exact hx4
    have ext5 : Ext w w5 := hC5.toExt ext4 fun g hg hb => by have := no3 g hb; omega
    have no5 : ∀ g, blk a5 = some g → w.heap.size ≤ g := fun g hg => by
      rcases hB5 g hg with h | ⟨h, _⟩
      · exact no3 g h
      · have := ext4.size; omega
    have dis5 : ∀ g, blk aw = some g → ¬ blk a5 = some g := fun g hg h => by
      rcases hB5 g h with h | ⟨h, _⟩
      · exact dis3 g hg h
      · have := sw4.lt hg; omega
    obtain ⟨a6, c6, w6, hr6, sw6, hC6, hs6, hB6⟩ := pushI2 sw5 (by omega) lo hi
    have so6 := so5.chg hC6 fun g hg h2 => dis5 g h2 hg
    have hm6 : w6.heap[bm]? = some o := by rw [hC6.heap _ (lt_of_heap hm5) fun h => nwm bm h rfl]; exact hm5
    have ext6 : Ext w w6 := hC6.toExt ext5 fun g hg hb => by have := nw3 g hb; omega
    have nw6 : ∀ g, blk a6 = some g → w.heap.size ≤ g := fun g hg => by
      rcases hB6 g hg with h | ⟨h, _⟩
      · exact nw3 g h
      · have := ext5.size; omega
    have dis6 : ∀ g, blk a6 = some g → ¬ blk a5 = some g := fun g hg h => by
      rcases hB6 g hg with h2 | ⟨h2, _⟩
      · exact dis5 g h2 h
      · have := so5.lt h; omega
    simp only [upd_size] at hr5
    subst ho haw
    have hR6 : RchI w w6 bm _ _ a6 a5 c6 c5 (ws ++ [lo, hi]) (K ++ [n]) := ⟨hm6, kn3.put, sw6, so6, nw6, no5, nm3, dis6, ext6⟩
    have hx5l := lt_of_heap hx5
    have e1 : (ws ++ [lo, hi]).length = ws.length + 2 := by simp
    have e2 : (K ++ [n]).length = K.length + 1 := by simp
    clear hC5 hC6 hB5 hB6 so5 sw5 so4 sw4 so3 sw3 hm4 hm5 hm6 hx4 nw6 no5 dis5 dis6 nwm nom dis3 no3 nw3 nm3 so6 sw6 ext4 ext5 ext6 kn3
    refine w_ fun d => ?_
    exact ⟨_, (by rw [e1, e2]; omega), _, _, a6, a5, c6, c5, ws ++ [lo, hi], K ++ [n], by rw [e1]; exact eA rfl, by rw [e2]; exact eA rfl, hR6.up ext_, ⟨hD'⟩, ⟨hws2⟩, by rw [e1, e2]; omega, rfl⟩
end
end Go.Proofs.Ytpeindhocndmnaa

namespace Go.Bx
open Go
set_option linter.unusedSimpArgs false
set_option linter.unusedVariables false
structure SwL (s : Md) (rs : List Int) (j : Nat) (s' : Md) : Prop where
  swp : Swp s rs s'
  low : ∀ n, s'.has n = true → lvl s.ord (s.nd n).1 < j → s.Rc rs n
noncomputable def Md.swJ (s : Md) (rs : List Int) (j : Nat) : Md := s.dropO (s.keep rs) s.all (s.ord.take j)
noncomputable def Md.swI (s : Md) (rs : List Int) (j : Nat) (v : Int) (i : Nat) : Md := (s.swJ rs j).dropV (s.keep rs) v (s.all.take i)
section
variable {s t : Md} {rs l : List Int} {j i : Nat} {v n : Int}
theorem SwL.start (G : s.Good []) : SwL s rs 0 s := ⟨Swp.start G, fun n hn hl => by
  have hv := (G.node n hn (by simp)).var
  have := G.wf.ord.lt hv
  omega⟩
theorem SwL.ahd (h : SwL s rs j t) (G : s.Good []) (hv : s.ord[j]? = some v) : Ahd s rs t v := fun n hn hl => h.low n hn (by rw [h.swp.nd, G.wf.ord.lvl hv] at hl; exact hl)
theorem SwL.in (h : SwL s rs j t) (G : s.Good []) (hv : s.ord[j]? = some v) (l : List Int) : Swp s rs (t.dropV (s.keep rs) v l) ∧ Ahd s rs (t.dropV (s.keep rs) v l) v :=
  ⟨(Swp.lev G l h.swp (h.ahd G hv)).1, (Swp.lev G l h.swp (h.ahd G hv)).2.1⟩
theorem SwL.next (h : SwL s rs j t) (G : s.Good []) (hv : s.ord[j]? = some v) : SwL s rs (j + 1) (t.dropV (s.keep rs) v s.all) := by
  obtain ⟨a, b, c⟩ := Swp.lev G s.all h.swp (h.ahd G hv)
  refine ⟨a, fun n hn hl => ?_⟩
  rw [c, Bool.and_eq_true] at hn
  by_cases hlk : lvl s.ord (s.nd n).1 < j
  · exact h.low n hn.1 hlk
  · have hvn := (G.node n (h.swp.has n hn.1) (by simp)).var
    have hvr := G.wf.ord.rng j v hv
    have e : (s.nd n).1 = v := G.wf.ord.inj hvn hvr (by rw [G.wf.ord.lvl hv]; omega)
    have h2 := hn.2
    rw [e] at h2
    have hm : n ∈ s.all := G.wf.mem_all.2 (h.swp.has n hn.1)
    simp [hm] at h2
    exact Md.keep_iff.1 h2
theorem swJ_zero : s.swJ rs 0 = s := rfl
theorem swJ_succ (hv : s.ord[j]? = some v) : s.swJ rs (j + 1) = (s.swJ rs j).dropV (s.keep rs) v s.all := by
  unfold Md.swJ Md.dropO
  rw [List.take_add_one, hv, List.foldl_append]; rfl
theorem swJ_all (W : s.WF) : s.swJ rs 8 = s.sweep rs := by
  unfold Md.swJ Md.sweep
  rw [List.take_of_length_le (by rw [W.ord.len]; exact Nat.le_refl _)]
theorem SwL.at (G : s.Good []) : ∀ j, j ≤ 8 → SwL s rs j (s.swJ rs j)
  | 0, _ => SwL.start G
  | j + 1, h => by
    obtain ⟨v, hv⟩ : ∃ v, s.ord[j]? = some v := ⟨_, List.getElem?_eq_getElem (by rw [G.wf.ord.len]; omega)⟩
    rw [swJ_succ hv]
    exact (SwL.at G j (by omega)).next G hv
theorem dropV_take (h : l[i]? = some n) (kp : Int → Bool) : t.dropV kp v (l.take (i + 1)) = (t.dropV kp v (l.take i)).drop1 kp v n := by
  unfold Md.dropV
  rw [List.take_add_one, h, List.foldl_append]; rfl
theorem drop1_no {kp : Int → Bool} (h : (t.of n v && !kp n) = false) : t.drop1 kp v n = t := by unfold Md.drop1; rw [h]; rfl
theorem drop1_yes {kp : Int → Bool} (h1 : t.of n v = true) (h2 : kp n = false) : t.drop1 kp v n = t.drop n := by unfold Md.drop1; rw [h1, h2]; rfl
theorem Swp.freed (h : Swp s rs t) (G : s.Good []) (ha : Ahd s rs t v) (h1 : t.of n v = true) (h2 : s.keep rs n = false) : t.free n = (0, t.drop n) ∧ (t.drop n).a.many = t.a.many - 1 := by
  obtain ⟨h3, h4⟩ := h.free G ha h1 h2
  refine ⟨?_, (h.drop G ha h1 h2).2.2.1⟩
  unfold Md.free
  rw [h3, h4]; rfl
end
end Go.Bx

namespace Go.Proofs.Ytpeindhocndmnaa
open Go Go.Bx
set_option linter.unusedSimpArgs false
set_option linter.unusedVariables false
set_option maxRecDepth 100000
set_option maxHeartbeats 4000000
attribute [local irreducible] X XO XE XF XD XW thenX inX retX kN CallsR
section
variable {own own1 : Nat → Nat} {w w1 w2 : World} {p : Nat} {s t : Md} {rs : List Int}
theorem TrI.toSw {but : List Int} (h : TrI own w p s but w1) : ∃ own1, StI own1 w1 p s but ∧ Sw own w own1 w1 := by
  obtain ⟨o, h1, h2, h3⟩ := h
  exact ⟨o, h1, h2, h3⟩
theorem Sw.toTr {but : List Int} (h : Sw own w own1 w1) (hI : StI own1 w1 p s but) : TrI own w p s but w1 := ⟨own1, hI, h.ho, h.ch⟩
theorem swSweep_calls {a : Option Addr} {c : Nat} (h : StI own w p s []) (G : s.Good []) (hI : InI w a rs) (hl : rs.length ≤ 1000000) (hn : ∀ n ∈ rs, n ≤ 9223372036854775807) :
    CallsR Try.prog 68 #[.pointer (some ⟨p, 0, none⟩), .slice a rs.length c] w fun r w' => r = .int .i64 (s.a.many - (s.sweep rs).a.many) ∧ TrI own w p (s.sweep rs) [] w' := by
  have W := G.wf
  have hN := wf_N W
  have own0 : ∀ k, w.heap.size ≤ k → own k = 0 := fun k hk => by
    cases ho : own k with
    | zero => rfl
    | succ q => have := h.lt k (by omega); omega
  have hal : s.all.length ≤ 20000 := by have := allTo_len (s := s) (k := s.N.length); rw [allTo_all] at this; omega
  have c1 := fun u (hE : Ext w u) => rdReach_calls (c := c) (h.ext hE) G (Inp.ext hI hE) hl hn
  clear hI hl hn
  refine en2 Try.func68 Try.results68 mixed [] ?_
  intro e0 h0 h1
  refine w_ fun d => ?_
  refine (c1 _ ext_).mono ?_
  rintro _ u1 ⟨ar, cr, l, rfl, hSr, hnr, hE1, hP⟩
  replace hP : l.Perm (s.reach rs) := by rw [hP]
  have hEu1 : Ext w u1 := Ext.trans (by exact ext_) hE1
  have hm1 : u1.heap[w.heap.size]? = some (mObj (Value.int .i64) [] 0) := hE1.at (hA rfl)
  obtain ⟨bm, hbm⟩ : ∃ b, w.heap.size = b := ⟨_, rfl⟩
  rw [hbm] at hm1 ⊢
  have hbm' : w.heap.size ≤ bm := by omega
  clear hbm hnr
  have hll : l.length ≤ 20000 := by
    rw [hP.length_eq]
    exact Nat.le_trans (List.length_filter_le _ _) hal
  have hmem : ∀ m, m ∈ l ↔ s.keep rs m = true := fun m => by rw [hP.mem_iff, W.mem_reach, Md.keep_iff]
  have hnd : l.Nodup := hP.nodup_iff.2 (List.Pairwise.imp (fun h => by omega) Md.reach_up)
  clear c1 hP hE1
  refine w_ fun d => ?_
  refine lo_ (fun W e u => ∃ (k : Nat) (es : List (Ent Int)) (ck : Nat), k ≤ l.length ∧ e 21 = .int .i64 k ∧ u.heap[bm]? = some (mObj (Value.int .i64) es ck) ∧ KnS es ck (l.take k) ∧ SlC u 3 ar cr (ints l) ∧ Ext w u) (fun e _ => l.length - nat (e 21)) ?_ ?_
  · exact ⟨0, [], 0, by omega, eA rfl, hA rfl, KnS.nil, hSr.ext ext_, ext_⟩
  clear hSr hm1 hEu1
  rintro e u hf ⟨k, es, ck, hk, h21, hm, hK, hS, hE⟩
  have lm := lt_of_heap hm
  by_cases hkl : k < l.length
  · obtain ⟨n, hn⟩ : ∃ n, l[k]? = some n := ⟨_, List.getElem?_eq_getElem hkl⟩
    obtain ⟨g, cur, rfl, hg, hc, hlt3, hat⟩ := hS.at (i := k) (v := .int .i64 n) (by unfold ints; rw [List.getElem?_map, hn]; rfl)
    rw [List.length_map] at hc
    have lg := lt_of_heap hg
    have hgm : g ≠ bm := fun e => by rw [e, hm] at hg; cases hg
    have hnk : n ∉ l.take k := fun hm => by
      have h3 := hnd
      rw [← List.take_append_drop k l, List.nodup_append] at h3
      exact h3.2.2 n hm n (List.mem_of_getElem? (i := 0) (by rw [List.getElem?_drop]; simpa using hn)) rfl
    have gk := hK.get n
    rw [if_neg hnk] at gk
    have g1 : (mget es n).getD (.int .i64 0) = .int .i64 0 := by rw [gk]; rfl
    have hK' := hK.put (n := n)
    rw [show l.take k ++ [n] = l.take (k + 1) by rw [List.take_add_one, hn]; rfl] at hK'
    have hS' := hS.upd (b := bm) (o := mObj (Value.int .i64) (mput es n (.int .i64 1) ck) (mclock es n ck)) (fun g' hg' => by rw [← blk_g hg']; exact hgm)
    have hE' : Ext w (upd u bm (mObj (Value.int .i64) (mput es n (.int .i64 1) ck) (mclock es n ck))) := hE.upd hbm' _
    clear hnk gk hnd hmem hK hS hE
    refine w_ fun d => ?_
    exact ⟨⟨k + 1, _, _, by omega, eA rfl, hA rfl, hK', hS'.ext ext_, hE'.trans ext_⟩, mA⟩
  obtain rfl : k = l.length := by omega
  rw [List.take_length] at hK
  clear hS hnd
  have hmk : ∀ n, (mget es n).getD (.int .i64 0) = .int .i64 (if s.keep rs n then 1 else 0) := fun n => by
    rw [hK.get n]
    by_cases e : n ∈ l
    · rw [if_pos e, (hmem n).1 e]; rfl
    · rw [if_neg e, show s.keep rs n = false by
        cases h : s.keep rs n with
        | false => rfl
        | true => exact absurd ((hmem n).2 h) e]; rfl
  have cA := fun v (hE' : Ext u v) => stAll_calls ((h.ext hE).ext hE') W
  obtain ⟨oc, hoc⟩ : ∃ oc, OrdC s.ord oc := ordC W.ord.len
  have od := fun v (hE' : Ext u v) => (stOrder_calls (h.ext hE)).at hE'
  rw [hoc.agg] at od
  clear hmem hK
  refine w_ fun d => ?_
  refine (cA _ ext_).mono ?_
  rintro _ v1 ⟨aA, cA', rfl, hSA, hnA, hEA⟩
  have hE1 : Ext u v1 := Ext.trans (by exact ext_) hEA
  have od1 := od v1 hE1
  clear cA od
  refine w_ fun d => ?_
  refine qq od1 fun v2 hE2 hs2 => ?_
  refine w_ fun d => ?_
  have hEw := (hE.trans hE1).trans hE2
  have hI2 := h.ext hEw
  have hm2 := (hE1.trans hE2).at hm
  have hS2 := hSA.ext hE2
  have hoA : ∀ g, blk aA = some g → g < v2.heap.size ∧ own g = 0 := fun g hg => by
    refine ⟨hS2.lt hg, own0 g ?_⟩
    have := hnA g hg
    have := hE.size
    omega
  have hom := own0 bm hbm'
  have lm2 := lt_of_heap hm2
  have hst : ∀ own1 x, Sw own v2 own1 x → x.heap[bm]? = some (mObj (Value.int .i64) es ck) ∧ SlC x 3 aA cA' (ints s.all) := fun own1 x hS => ⟨(hS.out lm2 hom).2.trans hm2, hS2.keep fun g hg => (hS.out (hoA g hg).1 (hoA g hg).2).2⟩
  clear hSA hnA hEA hE1 hE2 hS2 hm2 hoA hom lm2 hs2 hm lm
  refine lo_ (fun W e u => ∃ (j : Nat) (own1 : Nat → Nat), j ≤ 8 ∧ e 34 = .int .i64 j ∧ e 8 = .int .i64 (s.a.many - (s.swJ rs j).a.many) ∧ StI own1 u p (s.swJ rs j) [] ∧ Sw own v2 own1 u) (fun e _ => 8 - nat (e 34)) ?_ ?_
  · exact ⟨0, own, by omega, eA rfl, (by rw [swJ_zero, Int.sub_self]; exact eA rfl), hI2.ext ext_, Sw.of_ext ext_⟩
  clear hI2
  rintro e2 x hf2 ⟨j, own1, hj, h34, h8, hIj, hSj⟩
  by_cases hj8 : j < 8
  · obtain ⟨v, hv⟩ : ∃ v, s.ord[j]? = some v := ⟨_, List.getElem?_eq_getElem (by rw [W.ord.len]; omega)⟩
    have hat := hoc.at_ j v hv
    have hL := SwL.at (rs := rs) G j hj
    have hJ := swJ_succ (rs := rs) hv
    obtain ⟨T, hT⟩ : ∃ T, s.swJ rs j = T := ⟨_, rfl⟩
    rw [hT] at hL hJ h8 hIj
    refine w_ fun d => ?_
    refine lo_ (fun W e u => ∃ (i : Nat) (own1 : Nat → Nat), i ≤ s.all.length ∧ e 39 = .int .i64 i ∧ e 8 = .int .i64 (s.a.many - (T.dropV (s.keep rs) v (s.all.take i)).a.many) ∧ StI own1 u p (T.dropV (s.keep rs) v (s.all.take i)) [] ∧ Sw own v2 own1 u) (fun e _ => s.all.length - nat (e 39)) ?_ ?_
    · exact ⟨0, own1, by omega, eA rfl, eA h8, hIj.ext ext_, hSj.ext ext_⟩
    clear h8 hIj hSj
    rintro e3 y hf3 ⟨i, own2, hi, h39, h8, hI, hS⟩
    obtain ⟨hSw, hAh⟩ := hL.in G hv (s.all.take i)
    by_cases hil : i < s.all.length
    · obtain ⟨n, hn⟩ : ∃ n, s.all[i]? = some n := ⟨_, List.getElem?_eq_getElem hil⟩
      have hD := dropV_take (t := T) (v := v) hn (s.keep rs)
      obtain ⟨U, hU⟩ : ∃ U, T.dropV (s.keep rs) v (s.all.take i) = U := ⟨_, rfl⟩
      rw [hU] at hD hSw hAh h8 hI
      obtain ⟨hmy, hSy⟩ := hst _ _ hS
      have gk := hmk n
      have lmy := lt_of_heap hmy
      have hnb : n ≤ 9223372036854775807 := by
        have := W.lt (W.mem_all.1 (List.mem_of_getElem? hn)); omega
      have hnb0 : 0 ≤ n := by
        have := W.lt (W.mem_all.1 (List.mem_of_getElem? hn)); omega
      have WU := hSw.good.wf
      have n1 := stNode_calls hI WU n hnb
      obtain ⟨g, cur, rfl, hg, hc, hlt3, hat3⟩ := hSy.at (i := i) (v := .int .i64 n) (by unfold ints; rw [List.getElem?_map, hn]; rfl)
      rw [List.length_map] at hc
      have lg := lt_of_heap hg
      have hmU := WU.ar.many_le
      have hms := W.ar.many_le
      have hmoU := WU.ar.most
      have hmo := W.ar.most
      have hfr := fun z own3 (hIz : StI own3 z p U []) => stFree_calls hIz hSw.good hnb
      clear hst hL hJ hmk
      cases hh : U.has n with
      | false =>
        rw [drop1_no (show (U.of n v && !s.keep rs n) = false by unfold Md.of; rw [hh]; rfl)] at hD
        rw [nod_no hh] at n1
        simp only [ndV] at n1
        rw [← hD] at h8 hI
        clear hfr gk hSw hAh hh hD WU
        refine w_ fun d => ?_
        refine qq n1 fun y1 hE1 hs1 => ?_
        refine w_ fun d => ?_
        exact ⟨⟨i + 1, own2, by omega, eA rfl, eA h8, hI.ext ext_, hS.ext ext_⟩, mA⟩
      | true =>
        rw [nod_has hh] at n1
        obtain ⟨⟨v', lo, hi'⟩, hz⟩ : ∃ z, U.nd n = z := ⟨_, rfl⟩
        rw [hz] at n1
        simp only [ndV] at n1
        by_cases hvv : v' = v
        · subst hvv
          have hof : U.of n v' = true := by unfold Md.of; rw [hh, hz]; simp
          cases hk : s.keep rs n with
          | true =>
            rw [hk] at gk
            rw [drop1_no (show (U.of n v' && !s.keep rs n) = false by rw [hk]; simp)] at hD
            rw [← hD] at h8 hI
            simp only [if_true] at gk
            clear hfr hSw hAh hh hz hD WU hof hk
            refine w_ fun d => ?_
            refine qq n1 fun y1 hE1 hs1 => ?_
            have hm1 := hE1.at hmy
            have lm1 := lt_of_heap hm1
            refine w_ fun d => ?_
            exact ⟨⟨i + 1, own2, by omega, eA rfl, eA h8, hI.ext ext_, hS.ext ext_⟩, mA⟩
          | false =>
            rw [hk] at gk
            obtain ⟨hF, hM⟩ := hSw.freed G hAh hof hk
            rw [drop1_yes hof hk] at hD
            rw [hF] at hfr
            simp only [errV0] at hfr
            simp only [Bool.false_eq_true, if_false] at gk
            clear hSw hAh hh hz WU hof hk hF
            refine w_ fun d => ?_
            refine qq n1 fun y1 hE1 hs1 => ?_
            have hm1 := hE1.at hmy
            have lm1 := lt_of_heap hm1
            refine w_ fun d => ?_
            refine (hfr _ own2 (hI.ext ext_)).mono ?_
            rintro _ y2 ⟨rfl, hTr⟩
            obtain ⟨own3, hI3, hS3⟩ := hTr.toSw
            have hS4 := (hS.ext (by exact ext_)).trans hS3
            refine w_ fun d => ?_
            rw [← hD] at hI3
            exact ⟨⟨i + 1, own3, by omega, eA rfl, (by rw [hD, hM, show s.a.many - (U.a.many - 1) = s.a.many - U.a.many + 1 by omega]; exact eA rfl), hI3.ext ext_, hS4.ext ext_⟩, mA⟩
        · rw [drop1_no (show (U.of n v && !s.keep rs n) = false by unfold Md.of; rw [hz, decide_eq_false hvv, Bool.and_false]; rfl)] at hD
          rw [← hD] at h8 hI
          have hvb : (v' == v) = false := by simpa using hvv
          clear hfr gk hSw hAh hh hz hD WU
          refine w_ fun d => ?_
          refine qq n1 fun y1 hE1 hs1 => ?_
          refine w_ fun d => ?_
          exact ⟨⟨i + 1, own2, by omega, eA rfl, eA h8, hI.ext ext_, hS.ext ext_⟩, mA⟩
    · obtain rfl : i = s.all.length := by omega
      rw [List.take_length, ← hJ] at h8 hI
      clear hst hL hSw hAh hmk
      refine w_ fun d => ?_
      exact ⟨⟨j + 1, own2, by omega, eA rfl, eA h8, hI.ext ext_, hS.ext ext_⟩, mA⟩
  · obtain rfl : j = 8 := by omega
    rw [swJ_all W] at h8 hIj
    clear hst hmk
    refine w_ fun d => ?_
    exact ⟨rfl, ((Sw.of_ext hEw).trans (hSj.ext ext_)).toTr (hIj.ext ext_)⟩
end
end Go.Proofs.Ytpeindhocndmnaa

namespace Go.Bx
open Go
set_option linter.unusedSimpArgs false
set_option linter.unusedVariables false
section
variable {s t : Md} {rs : List Int} {L : List Fun8} {n v : Int} {f : Fun8}
theorem top_nd (G : s.Good []) (d : Den s n f) (hn : s.has n = true) : 0 ≤ topF s.ord f ∧ topF s.ord f = (s.nd n).1 := by
  have h1 := G.top hn d
  obtain ⟨h2, h3⟩ := top_first G.wf.ord h1
  have h4 := (G.dep d (topF_dep h2)).2
  have hr := top_rng h2
  exact ⟨h2, G.wf.ord.inj hr (G.node n hn (by simp)).var (by omega)⟩
theorem rc_rch (G : s.Good []) (hr : ∀ r ∈ rs, ∃ f ∈ L, Den s r f) (h : s.Rc rs n) : ∃ f, Den s n f ∧ Rch s.ord L f := by
  induction h with
  | root hm hh => obtain ⟨f, hf, d⟩ := hr _ hm; exact ⟨f, d, .base hf⟩
  | @lo m h hh ih =>
    obtain ⟨f, d, r⟩ := ih
    obtain ⟨h2, h3⟩ := top_nd G d h.has
    exact ⟨_, (G.sides d h.has).1, .step r (by unfold kids; rw [if_pos h2, h3]; simp)⟩
  | @hi m h hh ih =>
    obtain ⟨f, d, r⟩ := ih
    obtain ⟨h2, h3⟩ := top_nd G d h.has
    exact ⟨_, (G.sides d h.has).2, .step r (by unfold kids; rw [if_pos h2, h3]; simp)⟩
theorem Swept.den (h : Swept s rs t) (d : Den s n f) : (s.has n = true → s.Rc rs n) → Den t n f := by
  induction d with
  | c0 => intro _; exact .c0
  | c1 => intro _; exact .c1
  | @node n u lo hi f0 f1 hn hx h0 h1 ih0 ih1 =>
    intro hc
    have hr := hc hn
    refine .node ((h.only n).2 hr) (by rw [h.swp.nd]; exact hx) (ih0 fun hl => ?_) (ih1 fun hl => ?_)
    · have := Md.Rc.lo hr (by rw [hx]; exact hl)
      rwa [hx] at this
    · have := Md.Rc.hi hr (by rw [hx]; exact hl)
      rwa [hx] at this
theorem Swept.back (h : Swept s rs t) (d : Den t n f) : Den s n f := d.keep h.swp.has fun _ _ => h.swp.nd.symm
theorem Swept.root (h : Swept s rs t) (d : Den s n f) (hn : n ∈ rs) : Den t n f := h.den d fun hh => .root hn hh
theorem Swept.full (h : Swept s rs t) (G : s.Good []) (hr : ∀ r ∈ rs, ∃ f ∈ L, Den s r f) : t.Full L := fun n f hn d => by
  obtain ⟨g, d', r⟩ := rc_rch G hr ((h.only n).1 hn)
  rw [(h.back d).fn d', h.swp.ord]; exact r
theorem Swept.size (h : Swept s rs t) (G : s.Good []) (hr : ∀ r ∈ rs, ∃ f ∈ L, Den s r f) (hl : ∀ f ∈ L, ∃ r ∈ rs, Den s r f) : t.a.many = sizeF s.ord L := by
  rw [← h.swp.ord]
  refine (h.full G hr).size h.swp.good fun f hf => ?_
  obtain ⟨r, hm, d⟩ := hl f hf
  exact ⟨r, h.root d hm⟩
theorem Swept.again (h : Swept s rs t) : t.sweep rs = t := by
  have hk : ∀ n, t.has n = true → t.keep rs n = true := fun n hn => by
    have hr := (h.only n).1 hn
    clear hn
    rw [Md.keep_iff]
    induction hr with
    | root hm hh => exact .root hm (h.swp.kept _ (.root hm hh))
    | @lo m h2 hh ih =>
      have := Md.Rc.lo ih (by rw [h.swp.nd]; exact h.swp.kept _ (.lo h2 hh))
      rwa [h.swp.nd] at this
    | @hi m h2 hh ih =>
      have := Md.Rc.hi ih (by rw [h.swp.nd]; exact h.swp.kept _ (.hi h2 hh))
      rwa [h.swp.nd] at this
  have one : ∀ v l, t.dropV (t.keep rs) v l = t := fun v l => by
    induction l with
    | nil => rfl
    | cons n l ih =>
      show (t.drop1 (t.keep rs) v n).dropV (t.keep rs) v l = t
      rw [drop1_no (by
        unfold Md.of
        cases hh : t.has n with
        | true => rw [hk n hh]; simp
        | false => rfl)]
      exact ih
  unfold Md.sweep
  generalize t.ord = o
  induction o with
  | nil => rfl
  | cons v o ih =>
    show (t.dropV (t.keep rs) v t.all).dropO (t.keep rs) t.all o = t
    rw [one]; exact ih
end
end Go.Bx

namespace Go.Proofs.Ytpeindhocndmnaa
open Go Go.Bx
set_option linter.unusedSimpArgs false
set_option linter.unusedVariables false
set_option maxRecDepth 100000
set_option maxHeartbeats 4000000
attribute [local irreducible] X XO XE XF XD XW thenX inX retX kN CallsR
section
variable {W w w' w1 w2 : World} {ps : Nat} {own own' : Nat → Nat} {s s' : Md} {a b : Option Addr} {cap : Nat} {l rs : List Int} {x : Int}
structure LiI (W w : World) (own : Nat → Nat) (a : Option Addr) (cap : Nat) (l : List Int) : Prop where
  sl : SlC w 3 a cap (ints l)
  ow : ∀ g, blk a = some g → own g = 0 ∧ W.heap.size ≤ g
theorem LiI.nil (W w : World) (own : Nat → Nat) : LiI W w own none 0 [] := ⟨SlC.nil _ _, fun g h => by cases h⟩
theorem LiI.up (h : LiI W w own a cap l) (hE : Ext w w') : LiI W w' own a cap l := ⟨h.sl.ext hE, h.ow⟩
theorem LiI.sw (h : LiI W w own a cap l) (hS : Sw own w own' w') : LiI W w' own' a cap l := ⟨hS.slc h.sl fun g hg => (h.ow g hg).1, fun g hg => ⟨hS.own0 (h.sl.lt hg) (h.ow g hg).1, (h.ow g hg).2⟩⟩
theorem LiI.push (h : LiI W w own a cap l) (hO : OnR W w ps s own) (hm : l.length ≤ 1000000000) (x : Int) :
    ∃ a' cap' w', apR Try.prog 34 (.slice a l.length cap) (.slice (some ⟨w.heap.size, 0, none⟩) 1 1) (w.alloc (.cells #[.int .i64 x] 3)) = .ok (.slice a' (l.length + 1) cap') w' ∧
      LiI W w' own a' cap' (l ++ [x]) ∧ OnR W w' ps s own ∧ Chg (fun k => blk a = some k) w w' ∧ (∀ g, blk a' = some g → blk a = some g ∨ w.heap.size ≤ g) := by
  obtain ⟨a', c', w', hr, hS, hC, hs, hB⟩ := pushI h.sl hm x
  refine ⟨a', c', w', hr, ⟨hS, fun g hg => ?_⟩, hO.chg hC h.ow, hC, fun g hg => (hB g hg).imp id fun h => h.1⟩
  rcases hB g hg with hb | ⟨hb, _⟩
  · exact h.ow g hb
  · exact ⟨hO.fresh hb, Nat.le_trans hO.ext.size hb⟩
theorem onSweep {c : Nat} (h : OnR W w ps s own) (G : s.Good []) (hI : InI w a rs) (hl : rs.length ≤ 1000000) (hn : ∀ n ∈ rs, n ≤ 9223372036854775807) :
    CallsR Try.prog 68 #[.pointer (some ⟨ps, 0, none⟩), .slice a rs.length c] w fun r w' => r = .int .i64 (s.a.many - (s.sweep rs).a.many) ∧ ∃ own', OnR W w' ps (s.sweep rs) own' ∧ Sw own w own' w' :=
  h.call (R := fun r => r = .int .i64 (s.a.many - (s.sweep rs).a.many)) (swSweep_calls h.sti G hI hl hn)
end
end Go.Proofs.Ytpeindhocndmnaa

namespace Go.Bx
open Go
set_option linter.unusedSimpArgs false
set_option linter.unusedVariables false
noncomputable def Md.restr (s : Md) (a v : Int) (b : Bool) : (Int × Int) × Md := if s.there a && (decide (0 ≤ v) && decide (v < 8)) then s.bld (cofF (s.tab a) v b) else ((0, 1), s)
noncomputable def Md.both (s : Md) (a v : Int) (k : Md → Int → Int → (Int × Int) × Md) : (Int × Int) × Md :=
  if (s.restr a v false).1.2 = 0 then
    if ((s.restr a v false).2.restr a v true).1.2 = 0 then k ((s.restr a v false).2.restr a v true).2 (s.restr a v false).1.1 ((s.restr a v false).2.restr a v true).1.1
    else (s.restr a v false).2.restr a v true
  else s.restr a v false
noncomputable def Md.compose (s : Md) (a v g : Int) : (Int × Int) × Md := if s.there g && (decide (0 ≤ v) && decide (v < 8)) then s.both a v fun s lo hi => s.ite g hi lo else ((0, 1), s)
noncomputable def Md.exist (s : Md) (a v : Int) : (Int × Int) × Md := s.both a v fun s lo hi => s.ite lo 1 hi
noncomputable def Md.forall_ (s : Md) (a v : Int) : (Int × Int) × Md := s.both a v fun s lo hi => s.ite lo hi 0
section
variable {s s' : Md} {n m a b c v g : Int} {f h : Fun8} {rs : List Int}
noncomputable def Md.step (s : Md) (rs : List Int) (v : Int) (down : Bool) : Bool × Md :=
  if (s.swap (if down then lvl s.ord v else lvl s.ord v - 1)).1 = 0 then (true, (s.swap (if down then lvl s.ord v else lvl s.ord v - 1)).2.sweep rs) else (false, s)
structure Lk where
  s : Md
  best : Int
  few : Int
noncomputable def Lk.go (rs : List Int) (v grow : Int) (down : Bool) : Nat → Lk → Lk
  | 0, x => x
  | k + 1, x =>
    if lvl x.s.ord v = (if down then 7 else 0) then x
    else if (x.s.step rs v down).1 = false then x
    else
      let s' := (x.s.step rs v down).2
      let y : Lk := if s'.a.many < x.few then ⟨s', lvl s'.ord v, s'.a.many⟩ else ⟨s', x.best, x.few⟩
      if grow < s'.a.many then y else Lk.go rs v grow down k y
noncomputable def Md.back (rs : List Int) (v best : Int) : Nat → Md → Md
  | 0, s => s
  | k + 1, s => if lvl s.ord v = best then s else if (s.step rs v (decide (lvl s.ord v < best))).1 = false then s else Md.back rs v best k (s.step rs v (decide (lvl s.ord v < best))).2
noncomputable def Md.sift (s : Md) (rs : List Int) (v grow : Int) : Md :=
  let s1 := s.sweep rs
  let x := Lk.go rs v grow false 8 (Lk.go rs v grow true 8 ⟨s1, lvl s1.ord v, s1.a.many⟩)
  Md.back rs v x.best 8 x.s
noncomputable def Md.siftAll (rs : List Int) (grow : Int) (l : List Int) (s : Md) : Md := l.foldl (fun s v => s.sift rs v grow) s
end
end Go.Bx

namespace Go.Bx
open Go
set_option linter.unusedSimpArgs false
set_option linter.unusedVariables false
section
variable {s : Md} {v lv way : Int} {rs : List Int}
theorem swap_0 (h : (s.swap lv).1 = 0) : 0 ≤ lv ∧ lv ≤ 6 := by
  unfold Md.swap at h
  split at h
  · cases h
  · omega
theorem stp_lvl (G : s.Good []) (hv : 0 ≤ v ∧ v < 8) (hw : way = 1 ∧ lv = lvl s.ord v ∨ way = -1 ∧ lv = lvl s.ord v - 1) (h : (s.swap lv).1 = 0) : lvl ((s.swap lv).2.sweep rs).ord v = lvl s.ord v + way ∧ ((s.swap lv).2.sweep rs).Good [] := by
  obtain ⟨h0, h6⟩ := swap_0 h
  obtain ⟨Gs, ho, _⟩ := G.swap lv
  have S := Gs.good.swept (rs := rs)
  refine ⟨?_, S.swp.good⟩
  rw [S.swp.ord, ho h]
  have O := G.wf.ord
  obtain ⟨k, hk, he, hl⟩ := O.at hv.1 hv.2
  rcases hw with ⟨rfl, rfl⟩ | ⟨rfl, rfl⟩
  · rw [hl] at h6 ⊢
    obtain ⟨y, hy⟩ : ∃ y, s.ord[k + 1]? = some y := ⟨_, List.getElem?_eq_getElem (by rw [O.len]; omega)⟩
    exact (O.swp_lvl (n := k) (by omega) he hy).2.1
  · rw [hl] at h0 h6 ⊢
    obtain ⟨n, rfl⟩ : ∃ n, k = n + 1 := ⟨k - 1, by omega⟩
    obtain ⟨x, hx⟩ : ∃ x, s.ord[n]? = some x := ⟨_, List.getElem?_eq_getElem (by rw [O.len]; omega)⟩
    have := (O.swp_lvl (n := n) (by omega) hx he).1
    rw [show ((n + 1 : Nat) : Int) - 1 = n by omega, this]; omega
theorem step_eq {down : Bool} (hlv : lv = if down then lvl s.ord v else lvl s.ord v - 1) : s.step rs v down = if (s.swap lv).1 = 0 then (true, (s.swap lv).2.sweep rs) else (false, s) := by
  subst hlv; rfl
end
end Go.Bx

namespace Go.Proofs.Ytpeindhocndmnaa
open Go Go.Bx
set_option linter.unusedSimpArgs false
set_option linter.unusedVariables false
set_option maxRecDepth 100000
set_option maxHeartbeats 4000000
attribute [local irreducible] X XO XE XF XD XW thenX inX retX kN CallsR
structure MvI (own : Nat → Nat) (w : World) (p : Nat) (s : Md) (rs : List Int) (ar : Option Addr) (cr bm : Nat) (grow at_ best few : Int) : Prop where
  sti : StI own w p s []
  hb : w.heap[bm]? = some (.cells #[.pointer (some ⟨p, 0, none⟩), .slice ar rs.length cr, .int .i64 grow, .int .i64 at_, .int .i64 best, .int .i64 few] 161)
  ob : own bm = 0
  sl : SlC w 3 ar cr (ints rs)
  ow : ∀ g, blk ar = some g → own g = 0
section
variable {own own' : Nat → Nat} {w w' : World} {p : Nat} {s s' : Md} {rs : List Int} {ar : Option Addr} {cr bm : Nat} {grow a_ best few v : Int}
theorem MvI.up (h : MvI own w p s rs ar cr bm grow a_ best few) (hE : Ext w w') : MvI own w' p s rs ar cr bm grow a_ best few := ⟨h.sti.ext hE, hE.at h.hb, h.ob, h.sl.ext hE, h.ow⟩
theorem MvI.turn (h : MvI own w p s rs ar cr bm grow a_ best few) (hS : Sw own w own' w') (hI : StI own' w' p s' []) : MvI own' w' p s' rs ar cr bm grow a_ best few :=
  ⟨hI, hS.at h.hb h.ob, hS.own0 (lt_of_heap h.hb) h.ob, hS.slc h.sl h.ow, fun g hg => hS.own0 (h.sl.lt hg) (h.ow g hg)⟩
theorem MvI.set (h : MvI own w p s rs ar cr bm grow a_ best few) (a2 b2 f2 : Int) : MvI own (upd w bm (.cells #[.pointer (some ⟨p, 0, none⟩), .slice ar rs.length cr, .int .i64 grow, .int .i64 a2, .int .i64 b2, .int .i64 f2] 161)) p s rs ar cr bm grow a2 b2 f2 := by
  have lb := lt_of_heap h.hb
  refine ⟨h.sti.chg0 (F := fun k => k = bm) ((Chg.refl (fun k => k = bm) w).upd (fun _ => rfl) _) fun k hk => hk ▸ h.ob, upd_same lb, h.ob, h.sl.upd fun g hg e => ?_, h.ow⟩
  obtain ⟨c, hc⟩ := h.sl.tag hg
  rw [e, h.hb] at hc
  cases hc
theorem Sw.bts {bm : Nat} (h : Sw own w own' w') : BtS own w bm own' w' := ⟨h.ho, h.ch.mono fun k _ h => .inl h⟩
theorem MvI.bts (h : MvI own w p s rs ar cr bm grow a_ best few) (o : Obj) : BtS own w bm own (upd w bm o) := ⟨fun _ _ => rfl, (Chg.refl _ w).upd (fun _ => .inr rfl) _⟩
theorem siStepG_calls (h : MvI own w p s rs ar cr bm grow a_ best few) (G : s.Good []) (h0 : 0 ≤ a_ ∧ a_ < 8) (hl : rs.length ≤ 1000000) (hn : ∀ n ∈ rs, n ≤ 9223372036854775807) (way lv : Int) (hw : way = 1 ∧ lv = a_ ∨ way = -1 ∧ lv = a_ - 1) :
    CallsR Try.prog 124 #[.pointer (some ⟨bm, 0, none⟩), .int .i64 way] w fun r w' => ((s.swap lv).1 = 0 ∧ r = .bool true ∧ ∃ own', MvI own' w' p ((s.swap lv).2.sweep rs) rs ar cr bm grow (a_ + way) best few ∧ BtS own w bm own' w') ∨ ((s.swap lv).1 ≠ 0 ∧ r = .bool false ∧ ∃ own', MvI own' w' p s rs ar cr bm grow a_ best few ∧ BtS own w bm own' w') := by
  have hmin : (if a_ + way < a_ then a_ + way else a_) = lv := by
    rcases hw with ⟨rfl, rfl⟩ | ⟨rfl, rfl⟩
    · rw [if_neg (by omega)]
    · rw [if_pos (by omega)]; omega
  have hwr : -1 ≤ way ∧ way ≤ 1 := by omega
  obtain ⟨Gs, _, hbad⟩ := G.swap lv
  have c1 := fun u (hu : MvI own u p s rs ar cr bm grow a_ best few) => stSwap_calls hu.sti G lv
  have G2 := Gs.good
  have rb := swap_rng (s := s) (n := lv)
  obtain ⟨⟨e, s2⟩, hR⟩ : ∃ R, s.swap lv = R := ⟨_, rfl⟩
  rw [hR] at c1 G2 hbad rb ⊢
  dsimp only at c1 G2 hbad rb ⊢
  have c2 := fun own u (hu : MvI own u p s2 rs ar cr bm grow (a_ + way) best few) => swSweep_calls (c := cr) hu.sti G2 hu.sl.inp hl hn
  have hb := h.hb
  have lb := lt_of_heap hb
  clear hw hR Gs G hl hn
  refine en2 Try.func124 Try.results124 mixed [(1, [15]), (4, [8])] ?_
  intro e0 h0' h1
  refine w_ fun d => ?_
  refine s_draw (XD_ext ?_)
  refine de_ ?_
  refine xe2w fun u hE => ?_
  refine krA ?_
  refine ke ?_
  refine (c1 _ (h.up hE)).mono ?_
  rintro _ u2 ⟨rfl, hT⟩
  obtain ⟨own2, hI2, hS2⟩ := hT.toSw
  have hS02 : Sw own w own2 u2 := (Sw.of_ext hE).trans hS2
  have hM2 := h.turn hS02 hI2
  clear c1 hT hI2 hS2 hmin
  by_cases he : e = 0
  · subst he
    rw [errV0]
    refine de_ ?_
    refine xn_ fun u3 hE3 hs3 => ?_
    have hM3 := hM2.up hE3
    have hB3 := (hS02.bts (bm := bm)).ext hE3
    have hb3 := hM3.hb
    have lb3 := lt_of_heap hb3
    have hM4 := hM3.set (a_ + way) best few
    have hB4 := hB3.trans (hM3.bts (.cells #[.pointer (some ⟨p, 0, none⟩), .slice ar rs.length cr, .int .i64 grow, .int .i64 (a_ + way), .int .i64 best, .int .i64 few] 161))
    clear hM2 hM3 hB3 h hb lb hS02 hbad
    refine w_ fun d => ?_
    refine at_w fun u4 hu4 => ?_
    have hE4 : Ext (upd u3 bm (.cells #[.pointer (some ⟨p, 0, none⟩), .slice ar rs.length cr, .int .i64 grow, .int .i64 (a_ + way), .int .i64 best, .int .i64 few] 161)) u4 := by rw [hu4]; exact ext_
    clear hu4
    have hM5 := hM4.up hE4
    have hB5 := hB4.ext hE4
    have hb5 := hM5.hb
    have lb5 := lt_of_heap hb5
    clear hM4 hB4 hE4 hb3 lb3
    refine s_draw (XD_ext ?_)
    refine de_ ?_
    refine xe2w fun u6 hE6 => ?_
    refine krA ?_
    refine ke ?_
    have hM6 := hM5.up hE6
    refine (c2 _ _ hM6).mono ?_
    rintro _ u7 ⟨rfl, hT7⟩
    obtain ⟨own3, hI7, hS7⟩ := hT7.toSw
    have hM7 := hM6.turn hS7 hI7
    have hB7 := (hB5.ext hE6).trans (hS7.bts (bm := bm))
    clear hM5 hB5 hM6 hT7 hI7 hS7 c2
    refine de_ ?_
    refine xn_ fun u8 hE8 hs8 => ?_
    refine w_ fun d => ?_
    exact .inl ⟨rfl, rfl, own3, (hM7.up hE8).up ext_, (hB7.ext hE8).ext ext_⟩
  · rw [errV_ne he]
    refine de_ ?_
    refine xn_ fun u3 hE3 hs3 => ?_
    rw [hbad he] at hM2
    have hM3 := hM2.up hE3
    have hB3 := (hS02.bts (bm := bm)).ext hE3
    clear hM2 c2 hb lb h hbad
    refine w_ fun d => ?_
    exact .inr ⟨he, rfl, own2, hM3.up ext_, hB3.ext ext_⟩
theorem siStep_calls (h : MvI own w p s rs ar cr bm grow (lvl s.ord v) best few) (G : s.Good []) (hv : 0 ≤ v ∧ v < 8) (hl : rs.length ≤ 1000000) (hn : ∀ n ∈ rs, n ≤ 9223372036854775807) (down : Bool) (way : Int) (hw : way = if down then 1 else -1) :
    CallsR Try.prog 124 #[.pointer (some ⟨bm, 0, none⟩), .int .i64 way] w fun r w' => ∃ own', r = .bool (s.step rs v down).1 ∧ MvI own' w' p (s.step rs v down).2 rs ar cr bm grow (lvl (s.step rs v down).2.ord v) best few ∧ BtS own w bm own' w' := by
  have hlv := G.wf.ord.lt hv
  obtain ⟨lv, hlv'⟩ : ∃ lv, lv = if down then lvl s.ord v else lvl s.ord v - 1 := ⟨_, rfl⟩
  have hw2 : way = 1 ∧ lv = lvl s.ord v ∨ way = -1 ∧ lv = lvl s.ord v - 1 := by
    cases down
    · exact .inr ⟨hw, hlv'⟩
    · exact .inl ⟨hw, hlv'⟩
  rw [step_eq hlv']
  refine (siStepG_calls h G hlv hl hn way lv hw2).mono ?_
  rintro r w' (⟨h0, rfl, own', hM, hB⟩ | ⟨h0, rfl, own', hM, hB⟩)
  · rw [if_pos h0]
    rw [← (stp_lvl (rs := rs) G hv hw2 h0).1] at hM
    exact ⟨own', rfl, hM, hB⟩
  · rw [if_neg h0]
    exact ⟨own', rfl, hM, hB⟩
end
end Go.Proofs.Ytpeindhocndmnaa

namespace Go.Proofs.Ytpeindhocndmnaa
open Go Go.Bx
set_option linter.unusedSimpArgs false
set_option linter.unusedVariables false
set_option maxRecDepth 100000
set_option maxHeartbeats 4000000
attribute [local irreducible] X XO XE XF XD XW thenX inX retX kN CallsR
theorem go_end {rs : List Int} {v grow : Int} {down : Bool} {x : Lk} (h : lvl x.s.ord v = (if down then 7 else 0)) : ∀ k, Lk.go rs v grow down k x = x
  | 0 => rfl
  | k + 1 => by rw [Lk.go, if_pos h]
theorem go_no {rs : List Int} {v grow : Int} {down : Bool} {x : Lk} {k : Nat} (h : ¬ lvl x.s.ord v = (if down then 7 else 0)) (hs : (x.s.step rs v down).1 = false) : Lk.go rs v grow down (k + 1) x = x := by
  rw [Lk.go, if_neg h, if_pos hs]
theorem go_yes {rs : List Int} {v grow : Int} {down : Bool} {x : Lk} {k : Nat} (h : ¬ lvl x.s.ord v = (if down then 7 else 0)) (hs : (x.s.step rs v down).1 = true) {s2 : Md} (h2 : (x.s.step rs v down).2 = s2) {b f : Int} (hbf : (s2.a.many < x.few ∧ b = lvl s2.ord v ∧ f = s2.a.many) ∨ (¬ s2.a.many < x.few ∧ b = x.best ∧ f = x.few)) :
    Lk.go rs v grow down (k + 1) x = if grow < s2.a.many then ⟨s2, b, f⟩ else Lk.go rs v grow down k ⟨s2, b, f⟩ := by
  subst h2
  rw [Lk.go, if_neg h, if_neg (by rw [hs]; simp)]
  rcases hbf with ⟨h1, rfl, rfl⟩ | ⟨h1, rfl, rfl⟩
  · simp only [if_pos h1]
  · simp only [if_neg h1]
theorem step_no {s : Md} {v : Int} {rs : List Int} {down : Bool} (h : (s.step rs v down).1 = false) : (s.step rs v down).2 = s := by
  obtain ⟨lv, hlv'⟩ : ∃ lv, lv = if down then lvl s.ord v else lvl s.ord v - 1 := ⟨_, rfl⟩
  rw [step_eq hlv'] at h ⊢
  by_cases h0 : (s.swap lv).1 = 0
  · rw [if_pos h0] at h; cases h
  · rw [if_neg h0]
theorem step_good {s : Md} {v : Int} {rs : List Int} {down : Bool} (G : s.Good []) (hv : 0 ≤ v ∧ v < 8) (h : (s.step rs v down).1 = true) : (s.step rs v down).2.Good [] ∧ lvl (s.step rs v down).2.ord v = lvl s.ord v + (if down then 1 else -1) := by
  obtain ⟨lv, hlv'⟩ : ∃ lv, lv = if down then lvl s.ord v else lvl s.ord v - 1 := ⟨_, rfl⟩
  rw [step_eq hlv'] at h ⊢
  by_cases h0 : (s.swap lv).1 = 0
  · rw [if_pos h0]
    have hw2 : (if down then (1 : Int) else -1) = 1 ∧ lv = lvl s.ord v ∨ (if down then (1 : Int) else -1) = -1 ∧ lv = lvl s.ord v - 1 := by
      cases down
      · exact .inr ⟨rfl, hlv'⟩
      · exact .inl ⟨rfl, hlv'⟩
    obtain ⟨h1, h2⟩ := stp_lvl (rs := rs) G hv hw2 h0
    exact ⟨h2, h1⟩
  · rw [if_neg h0] at h; cases h
section
variable {own own' : Nat → Nat} {w w' : World} {p : Nat} {s s' : Md} {rs : List Int} {ar : Option Addr} {cr bm : Nat} {grow best few v : Int}
theorem siLook_calls (h : MvI own w p s rs ar cr bm grow (lvl s.ord v) best few) (G : s.Good []) (hv : 0 ≤ v ∧ v < 8) (hl : rs.length ≤ 1000000) (hn : ∀ n ∈ rs, n ≤ 9223372036854775807) (down : Bool) (way en : Int) (hw : way = if down then 1 else -1) (hen : en = if down then 7 else 0) {R : Lk} (hR : Lk.go rs v grow down 8 ⟨s, best, few⟩ = R) :
    CallsR Try.prog 123 #[.pointer (some ⟨bm, 0, none⟩), .int .i64 way, .int .i64 en] w fun r w' => r = .tuple #[] ∧ ∃ own', MvI own' w' p R.s rs ar cr bm grow (lvl R.s.ord v) R.best R.few ∧ R.s.Good [] ∧ BtS own w bm own' w' := by
  refine en3 Try.func123 Try.results123 mixed [] ?_
  intro e0 h0 h1 h2
  refine w_ fun d => ?_
  refine log_ (fun k W e u => ∃ (s : Md) (best few : Int) (ow : Nat → Nat), MvI ow u p s rs ar cr bm grow (lvl s.ord v) best few ∧ Box (s.Good []) ∧ BtS own w bm ow u ∧ Box (Lk.go rs v grow down k ⟨s, best, few⟩ = R) ∧ (if down then 7 - lvl s.ord v else lvl s.ord v) ≤ (k : Int)) 8 ?_ ?_
  · refine ⟨s, best, few, own, h.up ext_, ⟨G⟩, BtS.of_ext ext_, ⟨hR⟩, ?_⟩
    have := G.wf.ord.lt hv
    cases down
    · simp; omega
    · simp; omega
  clear h G hR
  rintro k e u hf ⟨s, best, few, ow, hM, ⟨G⟩, hB, ⟨hgo⟩, hk⟩
  have hlv := G.wf.ord.lt hv
  have hb := hM.hb
  have lb := lt_of_heap hb
  by_cases hx : lvl s.ord v = en
  · have hR : (⟨s, best, few⟩ : Lk) = R := by rw [← hgo]; exact (go_end (x := ⟨s, best, few⟩) (by rw [← hen]; exact hx) k).symm
    subst hR
    clear hgo hk
    refine w_ fun d => ?_
    exact ⟨rfl, ow, hM.up ext_, G, hB.ext ext_⟩
  have hxb : (lvl s.ord v == en) = false := by simpa using hx
  have hxe : ¬ lvl s.ord v = (if down then 7 else 0) := by rw [← hen]; exact hx
  obtain ⟨k, rfl⟩ : ∃ q, k = q + 1 := by
    refine ⟨k - 1, ?_⟩
    have : k ≠ 0 := fun h0 => by
      subst h0
      cases down
      · simp at hk hxe; omega
      · simp at hk hxe; omega
    omega
  have c1 := fun u2 (hE : Ext u u2) => siStep_calls (hM.up hE) G hv hl hn down way hw
  cases hs : (s.step rs v down).1 with
  | false =>
    have e2 := step_no hs
    rw [hs] at c1
    rw [e2] at c1
    have hR : (⟨s, best, few⟩ : Lk) = R := by rw [← hgo]; exact (go_no (x := ⟨s, best, few⟩) hxe hs).symm
    subst hR
    clear hgo hk e2 hs hM hw hen hxe
    refine w_ fun d => ?_
    refine (c1 _ ext_).mono ?_
    rintro _ u2 ⟨ow2, rfl, hM2, hB2⟩
    have hB3 := (hB.ext (by exact ext_)).trans hB2
    clear c1 hB hB2
    refine w_ fun d => ?_
    exact ⟨rfl, ow2, hM2.up ext_, G, hB3.ext ext_⟩
  | true =>
    obtain ⟨G2, hl2⟩ := step_good G hv hs
    have hgy := fun b f hbf => go_yes (grow := grow) (k := k) (x := ⟨s, best, few⟩) (b := b) (f := f) hxe hs rfl hbf
    dsimp only at hgy
    rw [hs] at c1
    obtain ⟨s2, hs2⟩ : ∃ z, (s.step rs v down).2 = z := ⟨_, rfl⟩
    rw [hs2] at c1 G2 hl2 hgy
    have hlv2 := G2.wf.ord.lt hv
    have hk2 : (if down then 7 - lvl s2.ord v else lvl s2.ord v) ≤ (k : Int) := by
      rw [hl2]
      cases down
      · simp at hk ⊢; omega
      · simp at hk ⊢; omega
    have mb := G2.wf.ar.many_le
    have mo := G2.wf.ar.most
    clear hk hs hs2 hw hen hl2 hxe hM
    refine w_ fun d => ?_
    refine (c1 _ ext_).mono ?_
    rintro _ u2 ⟨ow2, rfl, hM2, hB2⟩
    have hB3 := (hB.ext (by exact ext_)).trans hB2
    have hb2 := hM2.hb
    have lb2 := lt_of_heap hb2
    have lv := stLive_calls hM2.sti G2.wf
    obtain ⟨L2, hL2⟩ : ∃ z, lvl s2.ord v = z := ⟨_, rfl⟩
    obtain ⟨N2, hN2⟩ : ∃ z, s2.a.many = z := ⟨_, rfl⟩
    rw [hL2] at hb2
    rw [hN2] at lv hgy mb
    clear c1 hB hB2 hb lb
    refine w_ fun d => ?_
    refine qq lv fun u3 hE3 hs3 => ?_
    have hM3 := hM2.up hE3
    have hB4 := hB3.ext hE3
    have hb3 := hE3.at hb2
    have lb3 := lt_of_heap hb3
    clear lv hM2 hB3 hb2 lb2
    by_cases hf' : N2 < few
    · have hgy' := hgy L2 N2 (.inl ⟨hf', hL2.symm, rfl⟩)
      rw [hgo] at hgy'
      have hM5 := hM3.set L2 L2 N2
      have hB5 := hB4.trans (hM3.bts (.cells #[.pointer (some ⟨p, 0, none⟩), .slice ar rs.length cr, .int .i64 grow, .int .i64 L2, .int .i64 L2, .int .i64 N2] 161))
      by_cases hgr : grow < N2
      · rw [if_pos hgr] at hgy'
        subst hgy'
        clear hgy hM3 hB4 hgo
        refine w_ fun d => ?_
        refine ⟨rfl, ow2, ?_, G2, hB5.ext ext_⟩
        rw [hL2]
        exact hM5.up ext_
      · rw [if_neg hgr] at hgy'
        clear hgy hM3 hB4 hgo
        refine w_ fun d => ?_
        refine ⟨k, by omega, s2, L2, N2, ow2, ?_, ⟨G2⟩, hB5.ext ext_, ⟨hgy'.symm⟩, hk2⟩
        rw [hL2]
        exact hM5.up ext_
    · have hgy' := hgy best few (.inr ⟨hf', rfl, rfl⟩)
      rw [hgo] at hgy'
      by_cases hgr : grow < N2
      · rw [if_pos hgr] at hgy'
        subst hgy'
        clear hgy hgo
        refine w_ fun d => ?_
        refine ⟨rfl, ow2, ?_, G2, hB4.ext ext_⟩
        exact hM3.up ext_
      · rw [if_neg hgr] at hgy'
        clear hgy hgo
        refine w_ fun d => ?_
        refine ⟨k, by omega, s2, best, few, ow2, ?_, ⟨G2⟩, hB4.ext ext_, ⟨hgy'.symm⟩, hk2⟩
        exact hM3.up ext_
end
end Go.Proofs.Ytpeindhocndmnaa

namespace Go.Proofs.Ytpeindhocndmnaa
open Go Go.Bx
set_option linter.unusedSimpArgs false
set_option linter.unusedVariables false
set_option maxRecDepth 100000
set_option maxHeartbeats 4000000
attribute [local irreducible] X XO XE XF XD XW thenX inX retX kN CallsR
theorem go_rng {rs : List Int} {v grow : Int} {down : Bool} (hv : 0 ≤ v ∧ v < 8) : ∀ (k : Nat) (x : Lk), x.s.Good [] → 0 ≤ x.best ∧ x.best < 8 → 0 ≤ (Lk.go rs v grow down k x).best ∧ (Lk.go rs v grow down k x).best < 8
  | 0, x, _, h => h
  | k + 1, x, G, h => by
    by_cases hx : lvl x.s.ord v = (if down then 7 else 0)
    · rw [go_end hx]; exact h
    · cases hs : (x.s.step rs v down).1 with
      | false => rw [go_no hx hs]; exact h
      | true =>
        obtain ⟨G2, hl2⟩ := step_good G hv hs
        have hlv := G2.wf.ord.lt hv
        by_cases hf : (x.s.step rs v down).2.a.many < x.few
        · rw [go_yes hx hs rfl (.inl ⟨hf, rfl, rfl⟩)]
          split
          · exact hlv
          · exact go_rng hv k _ G2 hlv
        · rw [go_yes hx hs rfl (.inr ⟨hf, rfl, rfl⟩)]
          split
          · exact h
          · exact go_rng hv k _ G2 h
theorem back_end {rs : List Int} {v b : Int} {s : Md} (h : lvl s.ord v = b) : ∀ k, Md.back rs v b k s = s
  | 0 => rfl
  | k + 1 => by rw [Md.back, if_pos h]
theorem back_no {rs : List Int} {v b : Int} {s : Md} {k : Nat} {down : Bool} (h : ¬ lvl s.ord v = b) (hd : decide (lvl s.ord v < b) = down) (hs : (s.step rs v down).1 = false) : Md.back rs v b (k + 1) s = s := by
  subst hd; rw [Md.back, if_neg h, if_pos hs]
theorem back_yes {rs : List Int} {v b : Int} {s : Md} {k : Nat} {down : Bool} (h : ¬ lvl s.ord v = b) (hd : decide (lvl s.ord v < b) = down) (hs : (s.step rs v down).1 = true) : Md.back rs v b (k + 1) s = Md.back rs v b k (s.step rs v down).2 := by
  subst hd; rw [Md.back, if_neg h, if_neg (by rw [hs]; simp)]
section
variable {own own' own2 : Nat → Nat} {w w' w1 w2 : World} {p : Nat} {s s' : Md} {rs : List Int} {ar : Option Addr} {cr bm : Nat} {grow best few v : Int}
theorem Sw.local {bm : Nat} (h : Sw own w own' w1) (hb : w.heap.size ≤ bm) (k : BtS own' w1 bm own2 w2) : Sw own w own2 w2 := by
  have hs := h.ch.size
  refine ⟨fun j hj => (k.ho j (by omega)).trans (h.ho j hj), h.ch.trans k.ch fun b hb2 hf => ?_⟩
  rcases hf with hf | hf
  · show own b ≠ 0
    rw [← h.ho b hb2]; exact hf
  · omega
theorem siftNo_calls {a : Option Addr} {c : Nat} (hno : v < 0 ∨ 8 ≤ v ∨ grow < 0) : Quiet Try.prog 74 #[.pointer (some ⟨p, 0, none⟩), .slice a rs.length c, .int .i64 v, .int .i64 grow] w (errV 1) := by
  intro u hu
  rw [errV1]
  clear hu
  by_cases h0' : v < 0
  · clear hno
    refine en4 Try.func74 Try.results74 mixed [] ?_
    intro e0 h0 h1 h2 h3
    refine w_ fun d => ?_
    exact ⟨rfl, ext_⟩
  · by_cases h1' : 8 ≤ v
    · clear hno
      refine en4 Try.func74 Try.results74 mixed [] ?_
      intro e0 h0 h1 h2 h3
      refine w_ fun d => ?_
      exact ⟨rfl, ext_⟩
    · have hg : grow < 0 := by omega
      clear hno
      refine en4 Try.func74 Try.results74 mixed [] ?_
      intro e0 h0 h1 h2 h3
      refine w_ fun d => ?_
      exact ⟨rfl, ext_⟩
theorem siSift_calls (h : StI own w p s []) (G : s.Good []) (hS : SlC w 3 ar cr (ints rs)) (ho : ∀ g, blk ar = some g → own g = 0) (hl : rs.length ≤ 1000000) (hn : ∀ n ∈ rs, n ≤ 9223372036854775807) (hv : 0 ≤ v ∧ v < 8) (hg : 0 ≤ grow) :
    CallsR Try.prog 74 #[.pointer (some ⟨p, 0, none⟩), .slice ar rs.length cr, .int .i64 v, .int .i64 grow] w fun r w' => r = .nilIface ∧ ∃ own', StI own' w' p (s.sift rs v grow) [] ∧ Sw own w own' w' := by
  have c1 := fun u (hE : Ext w u) => swSweep_calls (c := cr) (h.ext hE) G (hS.ext hE).inp hl hn
  have S := G.swept (rs := rs)
  have G1 := S.swp.good
  obtain ⟨v0, v8⟩ := hv
  have hv : 0 ≤ v ∧ v < 8 := ⟨v0, v8⟩
  have v8' : ¬ 8 ≤ v := by omega
  have hg' : ¬ grow < 0 := by omega
  have v0' : ¬ v < 0 := by omega
  unfold Md.sift
  generalize s.sweep rs = s1 at *
  obtain ⟨oc, hoc⟩ : ∃ oc, OrdC s1.ord oc := ordC G1.wf.ord.len
  have lq := level_oc hoc v
  have hlv := G1.wf.ord.lt hv
  obtain ⟨X1, hX1⟩ : ∃ X, Lk.go rs v grow true 8 ⟨s1, lvl s1.ord v, s1.a.many⟩ = X := ⟨_, rfl⟩
  obtain ⟨X2, hX2⟩ : ∃ X, Lk.go rs v grow false 8 X1 = X := ⟨_, rfl⟩
  have r1 := go_rng (rs := rs) (grow := grow) (down := true) hv 8 ⟨s1, lvl s1.ord v, s1.a.many⟩ G1 hlv
  rw [hX1] at r1
  simp only [hX1, hX2]
  clear v0 hg
  refine en4 Try.func74 Try.results74 mixed [(11, [12])] ?_
  intro e0 h0 h1 h2 h3
  refine w_ fun d => ?_
  refine (c1 _ ext_).mono ?_
  rintro _ u1 ⟨rfl, hT⟩
  obtain ⟨own1, hI1, hS1⟩ := hT.toSw
  have hSw1 : Sw own w own1 u1 := (Sw.of_ext (by exact ext_)).trans hS1
  have hL1 := hSw1.slc hS ho
  have ho1 : ∀ g, blk ar = some g → own1 g = 0 := fun g hg => hSw1.own0 (hS.lt hg) (ho g hg)
  have od := stOrder_calls hI1
  have lv := stLive_calls hI1 G1.wf
  rw [hoc.agg] at od
  clear c1 hT hS1 hS ho h G
  refine w_ fun d => ?_
  refine qq od fun u2 hE2 hs2 => ?_
  refine w_ fun d => ?_
  refine qq (lq.quiet (w := u2)) fun u3 hE3 hs3 => ?_
  have lv3 := lv.at (hE2.trans hE3)
  refine w_ fun d => ?_
  refine qq lv3 fun u4 hE4 hs4 => ?_
  have hE14 := (hE2.trans hE3).trans hE4
  clear od lv lv3 lq hoc
  refine w_ fun d => ?_
  refine at_c fun u5 hu5 => ?_
  have hE5 : Ext u4 u5 := by rw [hu5]; exact ext_
  have hE15 := hE14.trans hE5
  obtain ⟨bm, hbm⟩ : ∃ b, u4.heap.size = b := ⟨_, rfl⟩
  have hbu : u1.heap.size ≤ bm := by have := hE14.size; omega
  have hbw : w.heap.size ≤ bm := Nat.le_trans hSw1.ch.size hbu
  have hob : own1 bm = 0 := by
    cases hob : own1 bm with
    | zero => rfl
    | succ q => have := hI1.lt bm (by omega); omega
  have hM5 : MvI own1 u5 p s1 rs ar cr bm grow (lvl s1.ord v) (lvl s1.ord v) s1.a.many := ⟨hI1.ext hE15, by rw [hu5, ← hbm]; exact alloc_new, hob, hL1.ext hE15, ho1⟩
  have hSw5 := hSw1.ext hE15
  rw [hbm]
  clear hu5 hE2 hE3 hE4 hE14 hE5 hE15 hI1 hL1 ho1 hSw1 hbm hob hs2 hs3 hs4
  refine (siLook_calls hM5 G1 hv hl hn true 1 7 rfl rfl hX1).mono ?_
  rintro _ u6 ⟨rfl, own6, hM6, G6, hB6⟩
  have hSw6 := hSw5.local hbw hB6
  clear hM5 hSw5 hB6 G1 hlv
  refine w_ fun d => ?_
  refine (siLook_calls (hM6.up (by exact ext_)) G6 hv hl hn false (-1) 0 rfl rfl hX2).mono ?_
  rintro _ u7 ⟨rfl, own7, hM7, G7, hB7⟩
  have hSw7 := (hSw6.ext (by exact ext_)).local hbw hB7
  have r2 := go_rng (rs := rs) (grow := grow) (down := false) hv 8 X1 G6 r1
  rw [hX2] at r2
  clear hM6 hSw6 hB7 G6 r1 hX1 hX2
  obtain ⟨S7, B7, F7⟩ := X2
  dsimp only at hM7 G7 r2 ⊢
  refine xo_nil ?_
  have hlv7 := G7.wf.ord.lt hv
  refine cu3_ (fun _ e w' => ∃ way, e 10 = .int .i64 way ∧ ((way = 1 ∧ lvl S7.ord v ≤ B7) ∨ (way = -1 ∧ B7 ≤ lvl S7.ord v)) ∧ Ext u7 w') ?_ ?_
  · have hb := hM7.hb
    have lb := lt_of_heap hb
    obtain ⟨L7, hL7⟩ : ∃ z, lvl S7.ord v = z := ⟨_, rfl⟩
    rw [hL7] at hb hlv7 ⊢
    by_cases hc : B7 < L7
    · clear hM7 G7 hSw7
      refine w_ fun d => ?_
      exact ⟨-1, eA rfl, .inr ⟨rfl, by omega⟩, ext_⟩
    · clear hM7 G7 hSw7
      refine w_ fun d => ?_
      exact ⟨1, eA rfl, .inl ⟨rfl, by omega⟩, ext_⟩
  rintro e8 u8 hf8 ⟨way, h10, hway, hE8⟩
  have hM8 := hM7.up hE8
  have hSw8 := hSw7.ext hE8
  clear hM7 hSw7 hE8
  obtain ⟨Rf, hRf⟩ : ∃ z, Md.back rs v B7 8 S7 = z := ⟨_, rfl⟩
  rw [hRf]
  refine w_ fun d => ?_
  refine log_ (fun k W e u => ∃ (s : Md) (ow : Nat → Nat), MvI ow u p s rs ar cr bm grow (lvl s.ord v) B7 F7 ∧ Box (s.Good []) ∧ Sw own w ow u ∧ Box (Md.back rs v B7 k s = Rf) ∧ ((way = 1 ∧ lvl s.ord v ≤ B7 ∧ B7 - lvl s.ord v ≤ k) ∨ (way = -1 ∧ B7 ≤ lvl s.ord v ∧ lvl s.ord v - B7 ≤ k))) 8 ?_ ?_
  · exact ⟨S7, own7, hM8.up ext_, ⟨G7⟩, hSw8.ext ext_, ⟨hRf⟩, by omega⟩
  clear hM8 hSw8 hRf G7 hway hlv7
  rintro k e9 u9 hf9 ⟨s, ow, hM, ⟨G⟩, hSw, ⟨hbk⟩, hway⟩
  have hlv := G.wf.ord.lt hv
  by_cases hx : lvl s.ord v = B7
  · rw [back_end hx] at hbk
    subst hbk
    have hb := hM.hb
    have lb := lt_of_heap hb
    have hbx : (lvl s.ord v == B7) = true := by simpa using hx
    obtain ⟨L7, hL7⟩ : ∃ z, lvl s.ord v = z := ⟨_, rfl⟩
    rw [hL7] at hb hx hbx
    subst hx
    have fin : ∀ {u}, Ext u9 u → ∃ own', StI own' u p s [] ∧ Sw own w own' u := fun h => ⟨ow, (hM.up h).sti, hSw.ext h⟩
    clear hM hSw G hway hlv hL7
    refine w_ fun d => ?_
    exact ⟨rfl, fin ext_⟩
  have hxb : (lvl s.ord v == B7) = false := by simpa using hx
  obtain ⟨k, rfl⟩ : ∃ q, k = q + 1 := ⟨k - 1, by omega⟩
  obtain ⟨down, hwd, hdd⟩ : ∃ down : Bool, way = (if down then 1 else -1) ∧ decide (lvl s.ord v < B7) = down := by
    rcases hway with ⟨rfl, h1, _⟩ | ⟨rfl, h1, _⟩
    · exact ⟨true, rfl, decide_eq_true (by omega)⟩
    · exact ⟨false, rfl, decide_eq_false (by omega)⟩
  have c1 := fun u2 (hE : Ext u9 u2) => siStep_calls (hM.up hE) G hv hl hn down way hwd
  have hb := hM.hb
  have lb := lt_of_heap hb
  cases hs : (s.step rs v down).1 with
  | false =>
    rw [hs] at c1
    rw [step_no hs] at c1
    rw [back_no hx hdd hs] at hbk
    subst hbk
    obtain ⟨L7, hL7⟩ : ∃ z, lvl s.ord v = z := ⟨_, rfl⟩
    rw [hL7] at hb hxb hlv c1 hx
    clear hM hway hdd hwd hL7 hs
    refine w_ fun d => ?_
    refine s_draw (XD_ext ?_)
    refine de_ ?_
    refine xe2w fun x1 hE1 => ?_
    refine krA ?_
    refine ke ?_
    refine (c1 _ hE1).mono ?_
    rintro _ x2 ⟨ow2, rfl, hM2, hB2⟩
    have hSw2 := (hSw.ext hE1).local hbw hB2
    clear c1 hB2 hSw hb lb
    refine de_ ?_
    refine xn_ fun x3 hE3 hs3 => ?_
    have fin : ∀ {u}, Ext x3 u → ∃ own', StI own' u p s [] ∧ Sw own w own' u := fun h => ⟨ow2, ((hM2.up hE3).up h).sti, (hSw2.ext hE3).ext h⟩
    refine w_ fun d => ?_
    exact ⟨rfl, fin ext_⟩
  | true =>
    obtain ⟨G2, hl2⟩ := step_good G hv hs
    rw [hs] at c1
    rw [back_yes hx hdd hs] at hbk
    obtain ⟨s2, hs2⟩ : ∃ z, (s.step rs v down).2 = z := ⟨_, rfl⟩
    rw [hs2] at c1 G2 hl2 hbk
    have hway2 : (way = 1 ∧ lvl s2.ord v ≤ B7 ∧ B7 - lvl s2.ord v ≤ k) ∨ (way = -1 ∧ B7 ≤ lvl s2.ord v ∧ lvl s2.ord v - B7 ≤ k) := by
      rw [hl2]
      rcases hway with ⟨rfl, h1, h2⟩ | ⟨rfl, h1, h2⟩
      · have hd : down = true := by
          cases down
          · simp at hwd
          · rfl
        subst hd
        simp; omega
      · have hd : down = false := by
          cases down
          · rfl
          · simp at hwd
        subst hd
        simp; omega
    obtain ⟨L7, hL7⟩ : ∃ z, lvl s.ord v = z := ⟨_, rfl⟩
    rw [hL7] at hb hxb hlv hx
    replace c1 : ∀ u2, Ext u9 u2 → CallsR Try.prog 124 #[.pointer (some ⟨bm, 0, none⟩), .int .i64 way] u2 fun r w' => ∃ own', r = .bool true ∧ MvI own' w' p s2 rs ar cr bm grow (lvl s2.ord v) B7 F7 ∧ BtS ow u2 bm own' w' := c1
    clear hM hway hdd hwd hL7 hs hs2 hl2
    refine w_ fun d => ?_
    refine s_draw (XD_ext ?_)
    refine de_ ?_
    refine xe2w fun x1 hE1 => ?_
    refine krA ?_
    refine ke ?_
    refine (c1 _ hE1).mono ?_
    rintro _ x2 ⟨ow2, rfl, hM2, hB2⟩
    have hSw2 := (hSw.ext hE1).local hbw hB2
    clear c1 hB2 hSw hb lb
    refine de_ ?_
    refine xn_ fun x3 hE3 hs3 => ?_
    refine w_ fun d => ?_
    exact ⟨k, by omega, s2, ow2, (hM2.up hE3).up ext_, ⟨G2⟩, (hSw2.ext hE3).ext ext_, ⟨hbk⟩, hway2⟩
end
end Go.Proofs.Ytpeindhocndmnaa

namespace Go.Proofs.Ytpeindhocndmnaa
open Go Go.Bx
set_option linter.unusedSimpArgs false
set_option linter.unusedVariables false
set_option maxRecDepth 100000
set_option maxHeartbeats 4000000
attribute [local irreducible] X XO XE XF XD XW thenX inX retX kN CallsR
theorem go_good {rs : List Int} {v grow : Int} {down : Bool} (hv : 0 ≤ v ∧ v < 8) : ∀ (k : Nat) (x : Lk), x.s.Good [] → (Lk.go rs v grow down k x).s.Good []
  | 0, x, G => G
  | k + 1, x, G => by
    by_cases hx : lvl x.s.ord v = (if down then 7 else 0)
    · rw [go_end hx]; exact G
    · cases hs : (x.s.step rs v down).1 with
      | false => rw [go_no hx hs]; exact G
      | true =>
        obtain ⟨G2, _⟩ := step_good G hv hs
        by_cases hf : (x.s.step rs v down).2.a.many < x.few
        · rw [go_yes hx hs rfl (.inl ⟨hf, rfl, rfl⟩)]
          split
          · exact G2
          · exact go_good hv k _ G2
        · rw [go_yes hx hs rfl (.inr ⟨hf, rfl, rfl⟩)]
          split
          · exact G2
          · exact go_good hv k _ G2
theorem back_good {rs : List Int} {v b : Int} (hv : 0 ≤ v ∧ v < 8) : ∀ (k : Nat) (s : Md), s.Good [] → (Md.back rs v b k s).Good []
  | 0, s, G => G
  | k + 1, s, G => by
    by_cases hx : lvl s.ord v = b
    · rw [back_end hx]; exact G
    · cases hs : (s.step rs v (decide (lvl s.ord v < b))).1 with
      | false => rw [back_no hx rfl hs]; exact G
      | true => rw [back_yes hx rfl hs]; exact back_good hv k _ (step_good G hv hs).1
theorem sift_good {s : Md} {rs : List Int} {v grow : Int} (G : s.Good []) (hv : 0 ≤ v ∧ v < 8) : (s.sift rs v grow).Good [] := by
  unfold Md.sift
  exact back_good hv _ _ (go_good hv _ _ (go_good hv _ _ G.swept.swp.good))
noncomputable def siftK (rs : List Int) (grow : Int) (s : Md) : Nat → Md
  | 0 => s
  | k + 1 => (siftK rs grow s k).sift rs k grow
end Go.Proofs.Ytpeindhocndmnaa

namespace Go.Proofs.Ytpeindhocndmnaa
open Go Go.Bx
set_option linter.unusedSimpArgs false
set_option linter.unusedVariables false
set_option maxRecDepth 100000
set_option maxHeartbeats 4000000
attribute [local irreducible] X XO XE XF XD XW thenX inX retX kN CallsR
section
variable {s s' : Md}
def Pairs (s : Md) (rl : List Int) (kl : List Fun8) : Prop := rl.length = kl.length ∧ ∀ (j : Nat) (r : Int) (f : Fun8), rl[j]? = some r → kl[j]? = some f → Den s r f
theorem Pairs.nil (s : Md) : Pairs s [] [] := ⟨rfl, fun j r f h => by simp at h⟩
theorem Pairs.mono {rl : List Int} {kl : List Fun8} (h : Pairs s rl kl) (hd : ∀ n f, Den s n f → Den s' n f) : Pairs s' rl kl := ⟨h.1, fun j r f h1 h2 => hd _ _ (h.2 j r f h1 h2)⟩
theorem Pairs.snoc {rl : List Int} {kl : List Fun8} {n : Int} {f : Fun8} (h : Pairs s rl kl) (d : Den s n f) : Pairs s (rl ++ [n]) (kl ++ [f]) := by
  refine ⟨by rw [List.length_append, List.length_append, h.1]; rfl, fun j r g h1 h2 => ?_⟩
  by_cases hj : j < rl.length
  · rw [List.getElem?_append_left hj] at h1
    rw [List.getElem?_append_left (by rw [← h.1]; exact hj)] at h2
    exact h.2 j r g h1 h2
  · rw [List.getElem?_append_right (by omega)] at h1
    rw [List.getElem?_append_right (by rw [← h.1]; omega)] at h2
    have hz : j - rl.length = 0 := by
      have := (List.getElem?_eq_some_iff.1 h1).1
      simpa using this
    rw [hz] at h1
    rw [← h.1, hz] at h2
    simp at h1 h2
    subst h1 h2
    exact d
theorem Pairs.left {rl : List Int} {kl : List Fun8} (h : Pairs s rl kl) : ∀ r ∈ rl, ∃ f ∈ kl, Den s r f := fun r hr => by
  obtain ⟨j, hj, e⟩ := List.getElem_of_mem hr
  have hj' : j < kl.length := by rw [← h.1]; exact hj
  exact ⟨kl[j], List.getElem_mem hj', h.2 j r _ (by rw [List.getElem?_eq_getElem hj, e]) (List.getElem?_eq_getElem hj')⟩
theorem Pairs.right {rl : List Int} {kl : List Fun8} (h : Pairs s rl kl) : ∀ f ∈ kl, ∃ r ∈ rl, Den s r f := fun f hf => by
  obtain ⟨j, hj, e⟩ := List.getElem_of_mem hf
  have hj' : j < rl.length := by rw [h.1]; exact hj
  exact ⟨rl[j], List.getElem_mem hj', h.2 j _ f (List.getElem?_eq_getElem hj') (by rw [List.getElem?_eq_getElem hj, e])⟩
end
end Go.Proofs.Ytpeindhocndmnaa

namespace Go.Bx
open Go
set_option linter.unusedSimpArgs false
set_option linter.unusedVariables false
section
variable {s s' : Md} {n m a b c v : Int} {f g h : Fun8} {L K : List Fun8} {ord : List Int} {M : Int}
theorem mk_var (G : s.Good []) (hv : 0 ≤ v ∧ v < 8) : s.mk' [] v 0 1 = s.bld (varF v) := by
  have h := bld_split (f := varF v) G hv fun u hu => by rw [dep_var hu]; exact Int.le_refl _
  unfold SplB at h
  rw [cof_var_same hv, cof_var_same hv, G.bld_ex .c0] at h
  rcases h with ⟨e, _⟩ | ⟨n0, s0, e, _, _, _, h⟩
  · cases e
  · cases e
    rw [G.bld_ex .c1] at h
    rcases h with ⟨e, _⟩ | ⟨n1, s1, e, _, _, _, h⟩
    · cases e
    · cases e
      exact h.symm
theorem Ro.var (R : Ro s L M) (hv : 0 ≤ v ∧ v < 8) (hm : sizeF s.ord (L ++ [varF v]) ≤ M) : ∃ n s', s.mk' [] v 0 1 = ((n, 0), s') ∧ Ro s' (L ++ [varF v]) M ∧ s.Le s' ∧ Den s' n (varF v) := by
  rw [mk_var R.good hv]; exact R.bld _ hm
end
end Go.Bx

namespace Go.Proofs.Ytpeindhocndmnaa
open Go Go.Bx
set_option linter.unusedSimpArgs false
set_option linter.unusedVariables false
set_option maxRecDepth 100000
set_option maxHeartbeats 4000000
attribute [local irreducible] X XO XE XF XD XW thenX inX retX kN CallsR
def pst (o : List Int) (v a : Int) : Int := lvl o a - if lvl o v < lvl o a then 1 else 0
def Nr (o o' : List Int) (v : Int) : Prop := ∀ a : Int, 0 ≤ a → a < 8 → a ≠ v → pst o' v a = pst o v a
theorem Nr.refl (o : List Int) (v : Int) : Nr o o v := fun _ _ _ _ => rfl
theorem Nr.swp {o o' : List Int} {v : Int} (O : OrdOK o') (hv : 0 ≤ v ∧ v < 8) (h : Nr o o' v) {lv : Int} (h0 : 0 ≤ lv) (h6 : lv ≤ 6) (hl : lv = lvl o' v ∨ lv + 1 = lvl o' v) : Nr o (swp o' lv) v := by
  obtain ⟨n, rfl⟩ := Int.eq_ofNat_of_zero_le h0
  obtain ⟨x, hx⟩ : ∃ x, o'[n]? = some x := ⟨_, List.getElem?_eq_getElem (by rw [O.len]; omega)⟩
  obtain ⟨y, hy⟩ : ∃ y, o'[n + 1]? = some y := ⟨_, List.getElem?_eq_getElem (by rw [O.len]; omega)⟩
  obtain ⟨ly, lx, lo⟩ := O.swp_lvl (n := n) (by omega) hx hy
  have xl := O.lvl hx
  have yl := O.lvl hy
  have xr := O.rng _ _ hx
  have yr := O.rng _ _ hy
  intro a ha0 ha8 hav
  rw [← h a ha0 ha8 hav]
  have hva : lvl o' v ≠ lvl o' a := fun e => hav (O.inj ⟨ha0, ha8⟩ hv e.symm)
  have hvxy : v = x ∨ v = y := by
    rcases hl with e | e
    · exact .inl (O.inj hv xr (by omega))
    · exact .inr (O.inj hv yr (by omega))
  unfold pst
  rcases hvxy with rfl | rfl
  · by_cases hay : a = y
    · subst hay
      rw [ly, lx, xl, yl]
      split <;> split <;> omega
    · have h1 := lo a hav hay ⟨ha0, ha8⟩
      have h2 : lvl o' a ≠ lvl o' y := fun e => hay (O.inj ⟨ha0, ha8⟩ yr e)
      rw [h1, lx, xl]
      rw [xl] at hva
      rw [yl] at h2
      split <;> split <;> omega
  · by_cases hax : a = x
    · subst hax
      rw [ly, lx, xl, yl]
      split <;> split <;> omega
    · have h1 := lo a hax hav ⟨ha0, ha8⟩
      have h2 : lvl o' a ≠ lvl o' x := fun e => hax (O.inj ⟨ha0, ha8⟩ xr e)
      rw [h1, ly, yl]
      rw [yl] at hva
      rw [xl] at h2
      split <;> split <;> omega
theorem ord_eq {o o' : List Int} (O : OrdOK o) (O' : OrdOK o') (h : ∀ a : Int, 0 ≤ a → a < 8 → lvl o a = lvl o' a) : o = o' := by
  refine List.ext_getElem? fun k => ?_
  by_cases hk : k < 8
  · obtain ⟨x, hx⟩ : ∃ x, o[k]? = some x := ⟨_, List.getElem?_eq_getElem (by rw [O.len]; omega)⟩
    have xr := O.rng _ _ hx
    have e := h x xr.1 xr.2
    rw [O.lvl hx] at e
    obtain ⟨j, hj, he, hl⟩ := O'.at xr.1 xr.2
    have : k = j := by omega
    subst this
    rw [hx, he]
  · rw [List.getElem?_eq_none (by rw [O.len]; omega), List.getElem?_eq_none (by rw [O'.len]; omega)]
theorem Nr.eq {o o1 o2 : List Int} {v : Int} (O1 : OrdOK o1) (O2 : OrdOK o2) (hv : 0 ≤ v ∧ v < 8) (h1 : Nr o o1 v) (h2 : Nr o o2 v) (e : lvl o1 v = lvl o2 v) : o1 = o2 := by
  refine ord_eq O1 O2 fun a h0 h8 => ?_
  by_cases hav : a = v
  · rw [hav]; exact e
  · have k1 := h1 a h0 h8 hav
    have k2 := h2 a h0 h8 hav
    have d1 : lvl o1 v ≠ lvl o1 a := fun e => hav (O1.inj ⟨h0, h8⟩ hv e.symm)
    have d2 : lvl o2 v ≠ lvl o2 a := fun e => hav (O2.inj ⟨h0, h8⟩ hv e.symm)
    rw [← k2] at k1
    unfold pst at k1
    split at k1 <;> split at k1 <;> omega
theorem Nr.ahead {o o' : List Int} {v : Int} (O : OrdOK o) (O' : OrdOK o') (hv : 0 ≤ v ∧ v < 8) (h : Nr o o' v) {a b : Int} (ha : 0 ≤ a ∧ a < 8) (hb : 0 ≤ b ∧ b < 8) (hav : a ≠ v) (hbv : b ≠ v) : (lvl o a < lvl o b) ↔ (lvl o' a < lvl o' b) := by
  have k1 := h a ha.1 ha.2 hav
  have k2 := h b hb.1 hb.2 hbv
  have d1 : lvl o v ≠ lvl o a := fun e => hav (O.inj ha hv e.symm)
  have d2 : lvl o v ≠ lvl o b := fun e => hbv (O.inj hb hv e.symm)
  have d3 : lvl o' v ≠ lvl o' a := fun e => hav (O'.inj ha hv e.symm)
  have d4 : lvl o' v ≠ lvl o' b := fun e => hbv (O'.inj hb hv e.symm)
  by_cases hab : a = b
  · subst hab; omega
  · have d5 : lvl o a ≠ lvl o b := fun e => hab (O.inj ha hb e)
    have d6 : lvl o' a ≠ lvl o' b := fun e => hab (O'.inj ha hb e)
    unfold pst at k1 k2
    split at k1 <;> split at k1 <;> split at k2 <;> split at k2 <;> omega
section
variable {s t : Md} {M B c : Int} {o0 : List Int} {rl : List Int} {kl : List Fun8} {v grow b m0 : Int}
structure Sk (M : Int) (o0 : List Int) (rl : List Int) (kl : List Fun8) (v : Int) (s : Md) : Prop where
  good : s.Good []
  pr : Pairs s rl kl
  most : s.a.most = M
  sz : s.a.many = sizeF s.ord kl
  near : Nr o0 s.ord v
theorem size_77o {ord : List Int} (ho : AllOnce ord) (L : List Fun8) : sizeF ord L ≤ 77 * L.length := size_77s (s := ⟨(Md.new 0).a, [], ord⟩) ho L
def Few (M B : Int) (kl : List Fun8) : Prop := 3 * B ≤ M ∧ ∀ ord, AllOnce ord → (sizeF ord kl : Int) ≤ B
theorem few_five {kl : List Fun8} (hk : kl.length ≤ 5) : Few 4000 385 kl := ⟨by decide, fun ord ho => by
  have := size_77o ho kl
  omega⟩
theorem Sk.many_le (h : Sk M o0 rl kl v s) (hk : Few M B kl) : s.a.many ≤ B := by
  rw [h.sz]; exact hk.2 _ h.good.wf.ord.once
theorem Sk.step (h : Sk M o0 rl kl v s) (hk : Few M B kl) (hv : 0 ≤ v ∧ v < 8) (down : Bool) (hd : lvl s.ord v ≠ if down then 7 else 0) : (s.step rl v down).1 = true ∧ Sk M o0 rl kl v (s.step rl v down).2 := by
  have hm := h.many_le hk
  have hlt := h.good.wf.ord.lt hv
  obtain ⟨lv, hlv⟩ : ∃ lv, lv = if down then lvl s.ord v else lvl s.ord v - 1 := ⟨_, rfl⟩
  have hr : 0 ≤ lv ∧ lv ≤ 6 ∧ (lv = lvl s.ord v ∨ lv + 1 = lvl s.ord v) := by
    cases down
    · simp at hd hlv; omega
    · simp at hd hlv; omega
  rw [step_eq hlv]
  have ok : (s.swap lv).1 = 0 := by
    unfold Md.swap
    rw [if_neg (by omega), if_neg]
    have hc : ∀ x y, (s.change x y).length ≤ s.all.length := fun x y => by unfold Md.change; exact List.length_filter_le _ _
    have hc := hc (s.ord.getD lv.toNat 0) (s.ord.getD (lv.toNat + 1) 0)
    have ha := h.good.wf.len_all
    have hk1 := hk.1
    unfold Md.room
    rw [h.most]
    omega
  rw [if_pos ok]
  obtain ⟨X, ho, _⟩ := h.good.swap lv
  have ho := ho ok
  have S := X.good.swept (rs := rl)
  have P1 := h.pr.mono X.den
  have hN : Nr o0 (s.swap lv).2.ord v := by rw [ho]; exact h.near.swp h.good.wf.ord hv hr.1 hr.2.1 hr.2.2
  refine ⟨rfl, S.swp.good, ⟨P1.1, fun j r f h1 h2 => S.root (P1.2 j r f h1 h2) (List.mem_of_getElem? h1)⟩, ?_, ?_, ?_⟩
  · rw [S.swp.most, X.most, h.most]
  · rw [S.swp.ord]; exact S.size X.good P1.left P1.right
  · rw [S.swp.ord]; exact hN
theorem Sk.same (h : Sk M o0 rl kl v s) (h' : Sk M o0 rl kl v t) (hv : 0 ≤ v ∧ v < 8) (e : lvl s.ord v = lvl t.ord v) : s.a.many = t.a.many := by
  rw [h.sz, h'.sz, h.near.eq h.good.wf.ord h'.good.wf.ord hv h'.near e]
structure LkI (M : Int) (o0 : List Int) (rl : List Int) (kl : List Fun8) (v m0 : Int) (x : Lk) : Prop where
  sk : Sk M o0 rl kl v x.s
  at_ : ∃ t, Sk M o0 rl kl v t ∧ lvl t.ord v = x.best ∧ t.a.many = x.few
  le : x.few ≤ m0
theorem LkI.go (hk : Few M B kl) (hv : 0 ≤ v ∧ v < 8) (down : Bool) : ∀ (k : Nat) (x : Lk), LkI M o0 rl kl v m0 x → LkI M o0 rl kl v m0 (Lk.go rl v grow down k x)
  | 0, x, h => h
  | k + 1, x, h => by
    by_cases hx : lvl x.s.ord v = (if down then 7 else 0)
    · rw [go_end hx]; exact h
    · obtain ⟨hs, k2⟩ := h.sk.step hk hv down hx
      by_cases hf : (x.s.step rl v down).2.a.many < x.few
      · have hy : LkI M o0 rl kl v m0 ⟨(x.s.step rl v down).2, lvl (x.s.step rl v down).2.ord v, (x.s.step rl v down).2.a.many⟩ := ⟨k2, ⟨_, k2, rfl, rfl⟩, by have := h.le; show (x.s.step rl v down).2.a.many ≤ m0; omega⟩
        rw [go_yes hx hs rfl (.inl ⟨hf, rfl, rfl⟩)]
        split
        · exact hy
        · exact LkI.go hk hv down k _ hy
      · have hy : LkI M o0 rl kl v m0 ⟨(x.s.step rl v down).2, x.best, x.few⟩ := ⟨k2, h.at_, h.le⟩
        rw [go_yes hx hs rfl (.inr ⟨hf, rfl, rfl⟩)]
        split
        · exact hy
        · exact LkI.go hk hv down k _ hy
theorem Sk.back (hk : Few M B kl) (hv : 0 ≤ v ∧ v < 8) (hb : 0 ≤ b ∧ b < 8) : ∀ (k : Nat) (s : Md), Sk M o0 rl kl v s → b - lvl s.ord v ≤ k → lvl s.ord v - b ≤ k → Sk M o0 rl kl v (Md.back rl v b k s) ∧ lvl (Md.back rl v b k s).ord v = b
  | 0, s, h, h1, h2 => ⟨h, by show lvl s.ord v = b; omega⟩
  | k + 1, s, h, h1, h2 => by
    by_cases hx : lvl s.ord v = b
    · rw [back_end hx]; exact ⟨h, hx⟩
    · have hlt := h.good.wf.ord.lt hv
      by_cases hd : lvl s.ord v < b
      · obtain ⟨hs, k2⟩ := h.step hk hv true (by simp; omega)
        have hl := (step_good h.good hv hs).2
        rw [back_yes hx (decide_eq_true hd) hs]
        simp at hl
        exact Sk.back hk hv hb k _ k2 (by omega) (by omega)
      · obtain ⟨hs, k2⟩ := h.step hk hv false (by simp; omega)
        have hl := (step_good h.good hv hs).2
        rw [back_yes hx (decide_eq_false hd) hs]
        simp at hl
        exact Sk.back hk hv hb k _ k2 (by omega) (by omega)
theorem Sk.sift (h : Sk M o0 rl kl v s) (hk : Few M B kl) (hv : 0 ≤ v ∧ v < 8) (he : s.sweep rl = s) : Sk M o0 rl kl v (s.sift rl v grow) ∧ (s.sift rl v grow).a.many ≤ s.a.many := by
  unfold Md.sift
  rw [he]
  have h0 : LkI M o0 rl kl v s.a.many ⟨s, lvl s.ord v, s.a.many⟩ := ⟨h, ⟨s, h, rfl, rfl⟩, Int.le_refl _⟩
  have h2 := LkI.go (grow := grow) hk hv false 8 _ (LkI.go (grow := grow) hk hv true 8 _ h0)
  dsimp only
  generalize Lk.go rl v grow false 8 (Lk.go rl v grow true 8 ⟨s, lvl s.ord v, s.a.many⟩) = x at h2
  obtain ⟨t, ht, e1, e2⟩ := h2.at_
  have hb := ht.good.wf.ord.lt hv
  rw [e1] at hb
  have hlt := h2.sk.good.wf.ord.lt hv
  obtain ⟨k1, k2⟩ := Sk.back hk hv hb 8 _ h2.sk (by omega) (by omega)
  refine ⟨k1, ?_⟩
  rw [k1.same ht hv (by rw [k2, e1]), e2]
  exact h2.le
theorem go_const (hk : Few M B kl) (hv : 0 ≤ v ∧ v < 8) (hc : ∀ t, Sk M o0 rl kl v t → t.a.many = c) (down : Bool) : ∀ (k : Nat) (x : Lk), LkI M o0 rl kl v m0 x → x.few = c → (Lk.go rl v grow down k x).few = c ∧ (Lk.go rl v grow down k x).best = x.best
  | 0, x, _, h => ⟨h, rfl⟩
  | k + 1, x, h, hf => by
    by_cases hx : lvl x.s.ord v = (if down then 7 else 0)
    · rw [go_end hx]; exact ⟨hf, rfl⟩
    · obtain ⟨hs, k2⟩ := h.sk.step hk hv down hx
      have hm := hc _ k2
      have hf' : ¬ (x.s.step rl v down).2.a.many < x.few := by omega
      have hy : LkI M o0 rl kl v m0 ⟨(x.s.step rl v down).2, x.best, x.few⟩ := ⟨k2, h.at_, h.le⟩
      rw [go_yes hx hs rfl (.inr ⟨hf', rfl, rfl⟩)]
      split
      · exact ⟨hf, rfl⟩
      · exact go_const hk hv hc down k _ hy hf
theorem Sk.sift_const (h : Sk M o0 rl kl v s) (hk : Few M B kl) (hv : 0 ≤ v ∧ v < 8) (he : s.sweep rl = s) (hc : ∀ t, Sk M o0 rl kl v t → t.a.many = c) : (s.sift rl v grow).a.many = c ∧ (s.sift rl v grow).ord = s.ord := by
  have k0 := (h.sift (grow := grow) hk hv he).1
  refine ⟨hc _ k0, k0.near.eq k0.good.wf.ord h.good.wf.ord hv h.near ?_⟩
  unfold Md.sift
  rw [he]
  have h0 : LkI M o0 rl kl v s.a.many ⟨s, lvl s.ord v, s.a.many⟩ := ⟨h, ⟨s, h, rfl, rfl⟩, Int.le_refl _⟩
  have h1 := LkI.go (grow := grow) hk hv true 8 _ h0
  have h2 := LkI.go (grow := grow) hk hv false 8 _ h1
  have b1 := go_const (grow := grow) hk hv hc true 8 _ h0 (hc _ h)
  have b2 := go_const (grow := grow) hk hv hc false 8 _ h1 b1.1
  dsimp only
  have hb := h.good.wf.ord.lt hv
  have hlt := h2.sk.good.wf.ord.lt hv
  have hbest : (Lk.go rl v grow false 8 (Lk.go rl v grow true 8 ⟨s, lvl s.ord v, s.a.many⟩)).best = lvl s.ord v := b2.2.trans b1.2
  rw [hbest]
  exact (Sk.back hk hv hb 8 _ h2.sk (by omega) (by omega)).2
theorem sift_sweep {s : Md} {rs : List Int} (G : s.Good []) : (s.sweep rs).sift rs v grow = s.sift rs v grow := by
  unfold Md.sift
  rw [G.swept.again]
theorem sift_var {n M : Int} (R : Ro s [varF v] M) (d : Den s n (varF v)) (hv : 0 ≤ v ∧ v < 8) (hM : 3 ≤ M) : (s.sift [n] v grow).a.many = 1 ∧ (s.sift [n] v grow).ord = s.ord := by
  have G := R.good
  have one : ∀ ord, AllOnce ord → sizeF ord [varF v] = 1 := fun ord ho => by
    have h1 := size_var (v := v) ho
    have h2 : sizeF ord [varF v] ≠ 0 := fun h => by
      have h3 := supF_zero.1 (size_zero.1 h) v
      rw [depF_def, cof_var_same hv, cof_var_same hv, decide_eq_false const_ne] at h3
      cases h3
    omega
  have S := G.swept (rs := [n])
  have P : Pairs s [n] [varF v] := (Pairs.nil s).snoc d
  have K : Sk M (s.sweep [n]).ord [n] [varF v] v (s.sweep [n]) := ⟨S.swp.good, ⟨P.1, fun j r f h1 h2 => S.root (P.2 j r f h1 h2) (List.mem_of_getElem? h1)⟩, S.swp.most.trans R.most, by rw [S.swp.ord]; exact S.size G P.left P.right, Nr.refl _ _⟩
  have hF : Few M 1 [varF v] := ⟨hM, fun ord ho => by rw [one ord ho]; decide⟩
  have h := K.sift_const (grow := grow) (c := 1) hF hv S.again fun t ht => by rw [ht.sz, one _ ht.good.wf.ord.once]; rfl
  rw [sift_sweep G, S.swp.ord] at h
  exact h
end
end Go.Proofs.Ytpeindhocndmnaa

namespace Go.Proofs.Ytpeindhocndmnaa
open Go Go.Bx
set_option linter.unusedSimpArgs false
set_option linter.unusedVariables false
set_option maxRecDepth 100000
set_option maxHeartbeats 4000000
attribute [local irreducible] X XO XE XF XD XW thenX inX retX kN CallsR
section
variable {W w w' w1 w2 : World} {ps : Nat} {own own' : Nat → Nat} {s s' : Md} {a : Option Addr} {cap : Nat} {rs : List Int} {v grow : Int}
theorem Sw.tri {but' : List Int} (h : Sw own w own' w') (hI : StI own' w' ps s' but') : TrI own w ps s' but' w' := ⟨own', hI, h.ho, h.ch⟩
theorem onSift (h : OnR W w ps s own) (G : s.Good []) (hS : SlC w 3 a cap (ints rs)) (ho : ∀ g, blk a = some g → own g = 0) (hl : rs.length ≤ 1000000) (hn : ∀ n ∈ rs, n ≤ 9223372036854775807) (hv : 0 ≤ v ∧ v < 8) (hg : 0 ≤ grow) :
    CallsR Try.prog 74 #[.pointer (some ⟨ps, 0, none⟩), .slice a rs.length cap, .int .i64 v, .int .i64 grow] w fun r w' => r = .nilIface ∧ ∃ own', OnR W w' ps (s.sift rs v grow) own' ∧ Sw own w own' w' := by
  refine h.call (R := fun r => r = .nilIface) ((siSift_calls h.sti G hS ho hl hn hv hg).mono ?_)
  rintro r w' ⟨hr, own', hI, hSw⟩
  exact ⟨hr, hSw.tri hI⟩
theorem eq8 (x y : Operand) (w : World) : binR Try.prog .eql 36 x y (.agg #[.int .i64 0, .int .i64 1, .int .i64 2, .int .i64 3, .int .i64 4, .int .i64 5, .int .i64 6, .int .i64 7]) (.agg #[.int .i64 0, .int .i64 1, .int .i64 2, .int .i64 3, .int .i64 4, .int .i64 5, .int .i64 6, .int .i64 7]) w = .ok (.bool true) w := by
  have hq : Value.agg #[.int .i64 0, .int .i64 1, .int .i64 2, .int .i64 3, .int .i64 4, .int .i64 5, .int .i64 6, .int .i64 7] = .agg ((plain).map (Value.int .i64)).toArray := rfl
  rw [hq, binR_eqlA (by kernel_rfl) (equal_ints T36 T3 rfl rfl)]
  simp
theorem up13_calls (w : World) : CallsR Try.prog 73 #[] w fun r w' => r = .bool true ∧ Ext w w' := by
  have R0 : Ro (Md.new 9) [] 9 := Ro.new (by decide) (by decide)
  obtain ⟨n, s1, e1, R1, l1, d1⟩ := R0.var (v := 0) (by decide) (by rw [List.nil_append]; have := size_var (v := 0) R0.good.wf.ord.once; omega)
  rw [List.nil_append] at R1
  obtain ⟨r5, r6⟩ := sift_var (grow := 100) R1 d1 (by decide) (by decide)
  have ho1 : s1.ord = plain := l1.ord
  rw [ho1] at r6
  have hn1 := bt_rng R1.good.wf d1
  have c0 := fun u (hE : Ext w u) => oneNew (M := 9) (by decide) (by decide) hE
  have c1 := fun u p own (h : OnR w u p (Md.new 9) own) => h.call (R := fun r => r = .tuple #[.int .i64 n, errV 0]) (s' := s1) (by
    have := stMk_calls (v := 0) (lo := 0) (hi := 1) h.sti R0.good (by decide) (by decide)
    rw [e1] at this
    exact this)
  rw [errV0] at c1
  have G1 := R1.good
  have G2 := sift_good (rs := [n]) (grow := 100) G1 (v := 0) ⟨by decide, by decide⟩
  have c2 := fun u p own a (h : OnR w u p s1 own) (hS : SlC u 3 a 1 (ints [n])) (ho : ∀ g, blk a = some g → own g = 0) => onSift (v := 0) (grow := 100) h G1 hS ho (by simp) (fun m hm => by rw [List.mem_singleton.1 hm]; exact hn1) ⟨by decide, by decide⟩ (by decide)
  generalize s1.sift [n] 0 100 = s2 at *
  have c3 := fun u p => siftNo_calls (p := p) (v := 8) (rs := []) (a := none) (c := 0) (w := u) (grow := 1) (.inr (.inl (by decide)))
  have code1 := code_sure 1 (by decide) (by decide)
  have e8 := eq8
  have hq : aI plain = .agg #[.int .i64 0, .int .i64 1, .int .i64 2, .int .i64 3, .int .i64 4, .int .i64 5, .int .i64 6, .int .i64 7] := rfl
  simp only [errV1, List.length_cons, List.length_nil] at *
  clear R0 R1 e1 d1 l1 ho1 hn1
  refine en0 Try.func73 Try.results73 mixed [] ?_
  intro e0
  refine w_ fun d => ?_
  refine (c0 _ ext_).mono ?_
  rintro _ w1 ⟨p, rfl, h1⟩
  obtain ⟨o1, k1⟩ := h1.to
  clear h1 c0
  refine w_ fun d => ?_
  refine (c1 _ _ _ (k1.up ext_)).mono ?_
  rintro _ w2 ⟨rfl, o2, k2, _⟩
  clear c1 k1
  refine w_ fun d => ?_
  refine at_c fun v hv => ?_
  have hE : Ext w2 v := by rw [hv]; exact ext_
  have hS : SlC v 3 (some ⟨w2.heap.size, 0, none⟩) 1 (ints [n]) := SlC.made (l := ints [n]) (by rw [hv]; exact hA rfl) (by simp)
  clear hv
  refine (c2 _ _ _ _ (k2.up hE) hS (fun g hg => by cases hg; exact k2.fresh (Nat.le_refl _))).mono ?_
  rintro _ w3 ⟨rfl, o3, k3, _⟩
  have lv := stLive_calls k3.sti G2.wf
  have od := stOrder_calls k3.sti
  have hW := k3.ext
  rw [r5] at lv
  rw [r6, hq] at od
  have c4 := c3 w3 p
  clear c2 k2 hS hE k3 c3 hq
  refine w_ fun d => ?_
  refine qq lv fun w4 hE4 hs4 => ?_
  have od := od.at hE4
  have c4 := c4.at hE4
  refine w_ fun d => ?_
  refine qq od fun w5 hE5 hs5 => ?_
  have c4 := c4.at hE5
  refine w_ fun d => ?_
  refine qq c4 fun w6 hE6 hs6 => ?_
  refine w_ fun d => ?_
  refine qq (code1.quiet (w := w6)) fun w7 hE7 hs7 => ?_
  refine w_ fun d => ?_
  exact ⟨rfl, ext_⟩
end
end Go.Proofs.Ytpeindhocndmnaa

namespace Go.Proofs.Ytpeindhocndmnaa
open Go Go.Bx
set_option linter.unusedSimpArgs false
set_option linter.unusedVariables false
set_option maxRecDepth 100000
set_option maxHeartbeats 4000000
attribute [local irreducible] X XO XE XF XD XW thenX inX retX kN CallsR
theorem refMay_oc {ord : List Int} {oc : Array Value} (h : OrdC ord oc) (O : OrdOK ord) : Sure Try.prog 75 #[.agg oc] (.bool true) := by
  intro w
  have hsz := h.size
  have hall := h.all
  have hcl := h.cell
  have hl8 := h.len8
  refine en1 Try.func75 Try.results75 mixed [] ?_
  intro e0 h0
  refine w_ fun d => ?_
  refine lo_ (fun _ e u => ∃ k : Nat, k ≤ 8 ∧ e 4 = .int .i64 k ∧ e 3 = .int .i64 k ∧ u.heap[w.heap.size]? = some (.cells oc 36) ∧ Ext w u) (fun e _ => 8 - nat (e 4)) ?_ ?_
  · exact ⟨0, by omega, eA rfl, eA rfl, hA rfl, ext_⟩
  rintro e u hf ⟨k, hk, h4, h3, hb, hE⟩
  have lb := lt_of_heap hb
  have hs := sz_ hE
  by_cases hk8 : k < 8
  · have lv := refLevel_oc h k
    have l0 := (O.lt (v := k) ⟨by omega, by omega⟩).1
    generalize lvl ord k = z at lv l0
    clear h O
    refine w_ fun d => ?_
    refine qq (lv.quiet (w := u)) fun u2 hE2 hs2 => ?_
    refine w_ fun d => ?_
    exact ⟨⟨k + 1, by omega, eA rfl, eA rfl, hA rfl, ext_⟩, mA⟩
  · obtain rfl : k = 8 := by omega
    clear h O
    refine w_ fun d => ?_
    exact ⟨rfl, ext_⟩
end Go.Proofs.Ytpeindhocndmnaa

namespace Go.Bx
open Go
set_option linter.unusedSimpArgs false
set_option linter.unusedVariables false
section
variable {s : Md} {M l n : Int}
theorem rch_nil {ord : List Int} {f : Fun8} (h : Rch ord [] f) : False := by
  induction h with
  | base h => cases h
  | step _ _ ih => exact ih
theorem Ro.emp (R : Ro s [] M) : ∀ n, s.has n = false := fun n => by
  cases h : s.has n with
  | false => rfl
  | true =>
    obtain ⟨f, d⟩ := R.good.has_den (.inr (.inr h))
    exact (rch_nil (R.full n f h d)).elim
theorem swap_empty (R : Ro s [] M) (h0 : 0 ≤ l) (h6 : l ≤ 6) : (s.swap l).1 = 0 ∧ Ro (s.swap l).2 [] M := by
  have hall : s.all = [] := by
    rw [List.eq_nil_iff_forall_not_mem]
    intro n hn
    have := R.good.wf.mem_all.1 hn
    rw [R.emp n] at this; cases this
  have hch : ∀ x y, s.change x y = [] := fun x y => by unfold Md.change; rw [hall]; rfl
  have hr : ¬ s.room < 2 * (([] : List Int).length : Int) := by
    have := R.good.wf.ar.many_le
    unfold Md.room
    simp
    omega
  have e : s.swap l = (0, s.ordS l) := by
    unfold Md.swap
    rw [if_neg (by omega), hch, if_neg hr]; rfl
  have gs := (R.good.swap l).1.good
  rw [e] at gs ⊢
  refine ⟨rfl, gs, fun n f hn d => ?_, R.most⟩
  have hn' : s.has n = true := hn
  rw [R.emp n] at hn'; cases hn'
end
end Go.Bx

namespace Go.Proofs.Ytpeindhocndmnaa
open Go Go.Bx
set_option linter.unusedSimpArgs false
set_option linter.unusedVariables false
set_option maxRecDepth 100000
set_option maxHeartbeats 4000000
attribute [local irreducible] X XO XE XF XD XW thenX inX retX kN CallsR
end Go.Proofs.Ytpeindhocndmnaa

namespace Go.Proofs.Ytpeindhocndmnaa
open Go Go.Bx
set_option linter.unusedSimpArgs false
set_option linter.unusedVariables false
set_option maxRecDepth 100000
set_option maxHeartbeats 4000000
attribute [local irreducible] X XO XE XF XD XW thenX inX retX kN CallsR
def okL (l : List Int) : Prop := ∀ n ∈ l, okI n
section
variable {W w w' w1 w2 : World} {p ps pm pc : Nat} {s s' sM : Md} {n v x y lo hi : Int}
theorem funAt {a : Option Addr} {l : List Fun8} (h : Inp w 4 a (l.map rowF)) {i : Nat} {f : Fun8} (hf : l[i]? = some f) :
    ∃ g o cs E fz, a = some ⟨g, o, none⟩ ∧ w.heap[g]? = some (.cells cs E fz) ∧ o + i * 4 + 4 ≤ cs.size ∧ Value.agg (cs.extract (o + i * 4) (o + i * 4 + 4)) = fv f := by
  rcases h with h | ⟨g, o, cs, E, fz, rfl, h2, h3⟩
  · rw [List.map_eq_nil_iff.1 h] at hf; simp at hf
  · have hr := h3 i (rowF f) (by rw [List.getElem?_map, hf]; rfl)
    obtain ⟨k1, k2⟩ := rowF_at (i := o + i * 4) hr
    exact ⟨g, o, cs, E, fz, rfl, h2, k1, k2⟩
end
end Go.Proofs.Ytpeindhocndmnaa

namespace Go.Proofs.Ytpeindhocndmnaa
open Go Go.Bx
set_option linter.unusedSimpArgs false
set_option linter.unusedVariables false
set_option maxRecDepth 100000
set_option maxHeartbeats 4000000
attribute [local irreducible] X XO XE XF XD XW thenX inX retX kN CallsR
section
variable {w : World}
theorem siftKeeps_calls {l : List Fun8} {sl : List Int} {a c : Option Addr} {ca cc : Nat} (v grow : Int) (hI : Inp w 4 a (l.map rowF)) (hK : InI w c sl) (hl : l.length ≤ 140737488351232) (hk : sl.length ≤ 140737488351232) :
    CallsR Try.prog 15 #[.slice a l.length ca, .slice c sl.length cc, .int .i64 v, .int .i64 grow] w fun r w' => r = .bool true ∧ Ext w w' := by
  have c0 := fun W u (hE : Ext W u) => oneNew (M := 4000) (by decide) (by decide) hE
  have up := up13_calls
  by_cases hno : l.length ≤ 5 ∧ sl.length ≤ 20 ∧ 0 ≤ v ∧ v ≤ 7 ∧ 0 ≤ grow
  rotate_left
  · have hno2 : (5 : Int) < l.length ∨ (¬ (5 : Int) < l.length ∧ (20 : Int) < sl.length) ∨ (¬ (5 : Int) < l.length ∧ ¬ (20 : Int) < sl.length ∧ v < 0) ∨ (¬ (5 : Int) < l.length ∧ ¬ (20 : Int) < sl.length ∧ ¬ v < 0 ∧ 7 < v) ∨ (¬ (5 : Int) < l.length ∧ ¬ (20 : Int) < sl.length ∧ ¬ v < 0 ∧ ¬ 7 < v ∧ grow < 0) := by omega
    clear hI hK hno
    rcases hno2 with hn1 | ⟨hn1, hn2⟩ | ⟨hn1, hn2, hn3⟩ | ⟨hn1, hn2, hn3, hn4⟩ | ⟨hn1, hn2, hn3, hn4, hn5⟩
    all_goals
      refine en4 Try.func15 Try.results15 mixed [] ?_
      intro e0 h0 h1 h2 h3
      refine w_ fun d => ?_
      refine (up _).mono ?_
      rintro _ u1 ⟨rfl, hE1⟩
      refine w_ fun d => ?_
      refine (c0 _ _ (Ext.refl _)).mono ?_
      rintro _ w1 ⟨ps, rfl, h1⟩
      have hE2 := h1.world
      clear up c0 h1
      refine w_ fun d => ?_
      exact ⟨rfl, ext_⟩
  obtain ⟨hl5, hk20, vg0, vl7, g0⟩ := hno
  have hl5' : ¬ (5 : Int) < l.length := by omega
  have hk20' : ¬ (20 : Int) < sl.length := by omega
  have vg0' : ¬ v < 0 := by omega
  have vl7' : ¬ 7 < v := by omega
  have g0' : ¬ grow < 0 := by omega
  refine en4 Try.func15 Try.results15 mixed [] ?_
  intro e0 h0 h1 h2 h3
  refine w_ fun d => ?_
  refine (up _).mono ?_
  rintro _ u1 ⟨rfl, hE1⟩
  have hEu1 : Ext w u1 := Ext.trans (by exact ext_) hE1
  refine w_ fun d => ?_
  refine (c0 u1 _ ext_).mono ?_
  rintro _ w1 ⟨ps, rfl, h1⟩
  have R0 : Ro (Md.new 4000) [] 4000 := Ro.new (by decide) (by decide)
  clear c0 up hE1
  refine w_ fun d => ?_
  refine lo_ (fun _ e w' => ∃ (i : Nat) (s : Md), i ≤ sl.length ∧ e 12 = .int .i64 i ∧ OneI u1 w' ps s ∧ Ro s [] 4000) (fun e _ => sl.length - nat (e 12)) ?_ ?_
  · exact ⟨0, _, by omega, eA rfl, h1.ext ext_, R0⟩
  clear h1 R0
  rintro e u hf ⟨i, s, hi, h12, hP, R⟩
  have hEu := hEu1.trans hP.world
  by_cases hlt : i < sl.length
  · obtain ⟨x, hx⟩ : ∃ x, sl[i]? = some x := ⟨sl[i], List.getElem?_eq_getElem hlt⟩
    rcases InI.at (Inp.ext hK hEu) with rfl | ⟨b1, o1, cs1, E1, fz1, rfl, hb1, hat1⟩
    · simp at hlt
    have hat1 := hat1 i x hx
    have pk := pick_sure x 7 (by decide) (by decide)
    have y0 : 0 ≤ x % 7 := Int.emod_nonneg _ (by decide)
    have y6 : x % 7 ≤ 6 := by have := Int.emod_lt_of_pos x (show (0 : Int) < 7 by decide); omega
    have hltk : (i : Int) < sl.length := by omega
    generalize x % 7 = y at pk y0 y6
    have bI := fun W u (h : OneI W u ps s) => h.turn fun own ho => stSwap_calls ho R.good y
    obtain ⟨e1, R1⟩ := swap_empty R y0 y6
    obtain ⟨⟨ec, sN⟩, hR⟩ : ∃ R, s.swap y = R := ⟨_, rfl⟩
    rw [hR] at bI e1 R1
    dsimp only at bI e1 R1
    subst e1
    rw [errV0] at bI
    have fin : ∀ (v : World), OneI u1 v ps sN → OneI u1 v ps sN ∧ Ro sN [] 4000 := fun v h => ⟨h, R1⟩
    clear R hK hI hx R1 hR hEu
    refine w_ fun d => ?_
    refine qq (pk.quiet (w := u)) fun v1 hE1 hs1 => ?_
    refine w_ fun d => ?_
    refine (bI _ _ ((hP.ext hE1).ext ext_)).mono ?_
    rintro _ u2 ⟨rfl, hP2⟩
    clear bI
    refine w_ fun d => ?_
    exact ⟨⟨i + 1, sN, by omega, eA rfl, fin _ (hP2.ext ext_)⟩, mA⟩
  obtain rfl : i = sl.length := by omega
  clear hK hlt
  obtain ⟨o1, k1⟩ := hP.to
  clear hP
  refine w_ fun d => ?_
  refine lo_ (fun _ e u => ∃ (i : Nat) (s : Md) (own : Nat → Nat) (ar : Option Addr) (cr : Nat) (rl : List Int), i ≤ l.length ∧ e 13 = .int .i64 i ∧ e 11 = .slice ar rl.length cr ∧
    OnR u1 u ps s own ∧ Ro s (l.take i) 4000 ∧ LiI u1 u own ar cr rl ∧ Box (Pairs s rl (l.take i))) (fun e _ => l.length - nat (e 13)) ?_ ?_
  · exact ⟨0, _, o1, none, 0, [], by omega, eA rfl, eA rfl, k1.up ext_, R, LiI.nil _ _ _, ⟨Pairs.nil _⟩⟩
  clear k1 R hEu
  rintro e u hf ⟨i, s, own, ar, cr, rl, hi, h13, h11, hO, R, hR, ⟨hP⟩⟩
  have hEu := hEu1.trans hO.ext
  have hrl : rl.length = i := by rw [hP.1, List.length_take]; omega
  by_cases hlt : i < l.length
  · obtain ⟨f, hfi⟩ : ∃ f, l[i]? = some f := ⟨l[i], List.getElem?_eq_getElem hlt⟩
    obtain ⟨g, o, ct, E, fz, rfl, hg, hsz, hex⟩ := funAt (Inp.ext hI hEu) hfi
    have hltl : (i : Int) < l.length := by omega
    have gl := lt_of_heap hg
    have hm : (sizeF s.ord (l.take i ++ [f]) : Int) ≤ 4000 := R.size (by rw [List.length_take]; omega)
    have hrl5 : rl.length ≤ 5 := by omega
    replace hrl : Box (rl.length = i) := ⟨hrl⟩
    refine w_ fun d => ?_
    refine (onBuild (hO.up (by exact ext_)) R f hm).mono ?_
    rintro _ u2 ⟨n, s2, own2, rfl, hO2, hS2, R2, l2, d2⟩
    have hSw : Sw own u own2 u2 := (Sw.of_ext (by exact ext_)).trans hS2
    have hR2 := hR.sw hSw
    have hP3 := (hP.mono fun _ _ d => d.mono l2).snoc d2
    rw [show l.take i ++ [f] = l.take (i + 1) by rw [List.take_add_one, hfi]; rfl] at R2 hP3
    obtain ⟨ar3, cr3, w3, hr3, hR3, hO3, hC3, hB3⟩ := hR2.push hO2 (by omega) n
    have hrl3 : (rl ++ [n]).length = rl.length + 1 := by simp
    clear hO hS2 hSw hR hR2 hP hg gl hex hsz R hm hEu hI hfi hO2 hC3 hB3
    refine w_ fun d => ?_
    exact ⟨⟨i + 1, s2, own2, ar3, cr3, rl ++ [n], by omega, eA rfl, by rw [hrl3]; exact eA rfl, hO3.up ext_, R2, hR3.up ext_, ⟨hP3⟩⟩, mA⟩
  obtain rfl : i = l.length := by omega
  rw [List.take_length] at hP R
  have G := R.good
  have S3 := G.swept (rs := rl)
  have K3 : Sk 4000 (s.sweep rl).ord rl l v (s.sweep rl) := ⟨S3.swp.good, ⟨hP.1, fun j r f h1 h2 => S3.root (hP.2 j r f h1 h2) (List.mem_of_getElem? h1)⟩, S3.swp.most.trans R.most, by rw [S3.swp.ord]; exact S3.size G hP.left hP.right, Nr.refl _ _⟩
  have KS := K3.sift (grow := grow) (few_five hl5) ⟨vg0, by omega⟩ S3.again
  obtain ⟨K4, hle⟩ := KS
  have hnb : ∀ n ∈ rl, n ≤ 9223372036854775807 := fun n hn => by
    obtain ⟨f, _, d⟩ := hP.left n hn
    exact bt_rng G.wf d
  have cS := fun u (h : OnR u1 u ps s own) hI => onSweep (a := ar) (c := cr) h G hI (by omega) hnb
  obtain ⟨s3, hs3⟩ : ∃ z, s.sweep rl = z := ⟨_, rfl⟩
  rw [hs3] at K3 K4 hle cS
  have cF := fun u own (h : OnR u1 u ps s3 own) hS ho => onSift (a := ar) (cap := cr) (v := v) (grow := grow) h K3.good hS ho (by omega) hnb ⟨vg0, by omega⟩ g0
  obtain ⟨s4, hs4⟩ : ∃ z, s3.sift rl v grow = z := ⟨_, rfl⟩
  rw [hs4] at K4 hle cF
  have lv3 := fun u own (h : OnR u1 u ps s3 own) => stLive_calls h.sti K3.good.wf
  have od3 := fun u own (h : OnR u1 u ps s3 own) => stOrder_calls h.sti
  have lv4 := fun u own (h : OnR u1 u ps s4 own) => stLive_calls h.sti K4.good.wf
  have od4 := fun u own (h : OnR u1 u ps s4 own) => stOrder_calls h.sti
  have O3 := K3.good.wf.ord
  have O4 := K4.good.wf.ord
  obtain ⟨oc3, hc3⟩ := ordC (ord := s3.ord) O3.len
  obtain ⟨oc4, hc4⟩ := ordC (ord := s4.ord) O4.len
  have z3 := hc3.size
  have a3 := hc3.all
  have x3 := hc3.cell
  have y3 := hc3.len8
  have z4 := hc4.size
  have a4 := hc4.all
  have x4 := hc4.cell
  have y4 := hc4.len8
  have sq : ∀ u, Inp u 4 a (l.map rowF) → Quiet Try.prog 48 #[.slice a l.length ca, aI s4.ord] u (.int .i64 (sizeF s4.ord l : Nat)) := fun u h x hx => refSize_calls l s4.ord O4.len (by omega) _ _ x (Inp.ext h hx)
  rw [hc3.agg] at od3
  rw [hc4.agg] at od4 sq
  have my := refMay_oc hc4 O4
  rw [K4.sz] at lv4 hle
  obtain ⟨Z3, hZ3⟩ : ∃ z : Int, s3.a.many = z := ⟨_, rfl⟩
  obtain ⟨Z4, hZ4⟩ : ∃ z : Int, (sizeF s4.ord l : Int) = z := ⟨_, rfl⟩
  rw [hZ3] at lv3 hle
  rw [hZ4] at lv4 hle sq
  have hle' : ¬ Z3 < Z4 := by omega
  clear S3 hs3 hs4 R hlt hle hZ3 hZ4
  replace hrl : Box (rl.length = l.length) := ⟨hrl⟩
  replace K3 : Box (Sk 4000 s3.ord rl l v s3) := ⟨K3⟩
  replace K4 : Box (Sk 4000 s3.ord rl l v s4) := ⟨K4⟩
  clear hP hnb G
  refine w_ fun d => ?_
  refine (cS _ (hO.up ext_) (hR.up (by exact ext_)).sl.inp).mono ?_
  rintro _ v2 ⟨rfl, own2, hO2, hS2⟩
  have hSw : Sw own u own2 v2 := (Sw.of_ext (by exact ext_)).trans hS2
  have hR2 := hR.sw hSw
  have lvA := lv3 _ _ hO2
  have odA := od3 _ _ hO2
  clear hS2 hSw hO hR cS lv3 od3
  refine w_ fun d => ?_
  refine qq lvA fun v3 hE3 hs3 => ?_
  have odA := odA.at hE3
  refine w_ fun d => ?_
  refine qq odA fun v4 hE4 hs4 => ?_
  have hE24 := hE3.trans hE4
  refine w_ fun d => ?_
  refine at_c fun v5 hv5 => ?_
  have hE5 : Ext v4 v5 := by rw [hv5]; exact ext_
  have hb17 : v5.heap[v4.heap.size]? = some (.cells oc3 36) := by rw [hv5]; exact hA rfl
  clear hv5 lvA odA
  have hE25 := hE24.trans hE5
  have hO5 := hO2.up hE25
  have hR5 := hR2.up hE25
  have ho17 : own2 v4.heap.size = 0 := hO2.fresh (sz_ hE24)
  obtain ⟨b17, e17⟩ : ∃ b, v4.heap.size = b := ⟨_, rfl⟩
  rw [e17] at hb17 ho17 ⊢
  refine (cF _ _ hO5 hR5.sl (fun g hg => (hR5.ow g hg).1)).mono ?_
  rintro _ v6 ⟨rfl, own6, hO6, hS6⟩
  have hb17 := hS6.at hb17 ho17
  have hR6 := hR5.sw hS6
  have odB := od4 _ _ hO6
  have lvB := lv4 _ _ hO6
  clear cF hO2 hR2 hO5 hR5 hS6 e17 hE3 hE4 hE5 hE24 hE25 hs3 hs4 lv4 od4 ho17
  have l17 := lt_of_heap hb17
  refine w_ fun d => ?_
  refine qq odB fun v7 hE7 hs7 => ?_
  have hb17 := hE7.at hb17
  have l17 := lt_of_heap hb17
  refine w_ fun d => ?_
  refine at_w fun v8 hv8 => ?_
  have hE8 : Ext v7 v8 := by rw [hv8]; exact ext_
  have hb19 : v8.heap[v7.heap.size]? = some (.cells oc4 36) := by rw [hv8]; exact hA rfl
  have hb17 := hE8.at hb17
  have l17 := lt_of_heap hb17
  have l19 := lt_of_heap hb19
  obtain ⟨b19, e19⟩ : ∃ b, v7.heap.size = b := ⟨_, rfl⟩
  rw [e19] at hb19 l19 ⊢
  have hE68 := hE7.trans hE8
  have hO8 := hO6.up hE68
  have hR8 := hR6.up hE68
  have lvC := lvB.at hE68
  have hI8 := Inp.ext hI (hEu1.trans hO8.ext)
  have sqC := sq _ hI8
  clear hv8 odB lvB hO6 hR6 e19 hE7 hs7 hE8 hE68 sq hI
  refine w_ fun d => ?_
  intro x0 hEx0 hsx0
  have hO9 := hO8.up hEx0
  have hR9 := hR8.up hEx0
  have hI9 := Inp.ext hI8 hEx0
  have hb17 := hEx0.at hb17
  have hb19 := hEx0.at hb19
  have hWx := hEu1.trans hO9.ext
  clear hO8 hR8 hI8 lvC sqC my hEx0 hsx0
  refine w_ fun d => ?_
  refine lo_ (fun _ e u => ∃ i : Nat, i ≤ 8 ∧ e 20 = .int .i64 i ∧ Ext x0 u) (fun e _ => 8 - nat (e 20)) ?_ ?_
  · exact ⟨0, by omega, eA rfl, ext_⟩
  rintro e2 x1 hf2 ⟨i, hi, h20, hE1⟩
  by_cases hi8 : i < 8
  · refine w_ fun d => ?_
    refine lo_ (fun _ e u => ∃ j : Nat, j ≤ 8 ∧ e 21 = .int .i64 j ∧ Ext x0 u) (fun e _ => 8 - nat (e 21)) ?_ ?_
    · exact ⟨0, by omega, eA rfl, hE1.trans ext_⟩
    clear hE1
    rintro e3 x2 hf3 ⟨j, hj, h21, hE2⟩
    by_cases hj8 : j < 8
    · have hb17 := hE2.at hb17
      have hb19 := hE2.at hb19
      have l17 := lt_of_heap hb17
      have l19 := lt_of_heap hb19
      have la3 := refLevel_oc hc3 i
      have lb3 := refLevel_oc hc3 j
      have la4 := refLevel_oc hc4 i
      have lb4 := refLevel_oc hc4 j
      have hnr : (i : Int) ≠ v → (j : Int) ≠ v → ((lvl s3.ord i < lvl s3.ord j) ↔ (lvl s4.ord i < lvl s4.ord j)) := fun h1 h2 => K4.1.near.ahead O3 O4 ⟨vg0, by omega⟩ ⟨by omega, by omega⟩ ⟨by omega, by omega⟩ h1 h2
      generalize lvl s3.ord i = A3 at *
      generalize lvl s3.ord j = B3 at *
      generalize lvl s4.ord i = A4 at *
      generalize lvl s4.ord j = B4 at *
      have fin : ∀ {u}, Ext x2 u → Ext x0 u := fun h => hE2.trans h
      clear hE2 hO9 hR9 hI9 O3 O4 K3 K4 hrl vg0 vl7 vg0' vl7' hc3 hc4
      by_cases hiv : (i : Int) = v
      · subst hiv
        clear hnr
        refine w_ fun d => ?_
        intro x3 hE3 hs3
        have hb17 := hE3.at hb17
        have hb19 := hE3.at hb19
        have l17 := lt_of_heap hb17
        have l19 := lt_of_heap hb19
        refine w_ fun d => ?_
        exact ⟨⟨j + 1, by omega, eA rfl, fin (hE3.trans ext_)⟩, mA⟩
      · have hiv' : ((i : Int) != v) = true := by simpa using hiv
        by_cases hjv : (j : Int) = v
        · subst hjv
          clear hnr
          refine w_ fun d => ?_
          intro x3 hE3 hs3
          have hb17 := hE3.at hb17
          have hb19 := hE3.at hb19
          have l17 := lt_of_heap hb17
          have l19 := lt_of_heap hb19
          refine w_ fun d => ?_
          exact ⟨⟨j + 1, by omega, eA rfl, fin (hE3.trans ext_)⟩, mA⟩
        · have hjv' : ((j : Int) != v) = true := by simpa using hjv
          have hn := hnr hiv hjv
          clear hnr
          by_cases h3' : A3 < B3
          · have h4' := hn.1 h3'
            clear hn hiv hjv
            refine w_ fun d => ?_
            intro x3 hE3 hs3
            have hb17 := hE3.at hb17
            have hb19 := hE3.at hb19
            have l17 := lt_of_heap hb17
            have l19 := lt_of_heap hb19
            refine w_ fun d => ?_
            intro x4 hE4 hs4
            refine w_ fun d => ?_
            exact ⟨⟨j + 1, by omega, eA rfl, fin ((hE3.trans hE4).trans ext_)⟩, mA⟩
          · have h4' : ¬ A4 < B4 := fun h => h3' (hn.2 h)
            clear hn hiv hjv
            refine w_ fun d => ?_
            intro x3 hE3 hs3
            have hb17 := hE3.at hb17
            have hb19 := hE3.at hb19
            have l17 := lt_of_heap hb17
            have l19 := lt_of_heap hb19
            refine w_ fun d => ?_
            intro x4 hE4 hs4
            refine w_ fun d => ?_
            exact ⟨⟨j + 1, by omega, eA rfl, fin ((hE3.trans hE4).trans ext_)⟩, mA⟩
    · obtain rfl : j = 8 := by omega
      clear hO9 hR9 hI9
      refine w_ fun d => ?_
      exact ⟨⟨i + 1, by omega, eA rfl, hE2.trans ext_⟩, mA⟩
  obtain rfl : i = 8 := by omega
  refine w_ fun d => ?_
  refine lo_ (fun _ e u => ∃ i : Nat, i ≤ rl.length ∧ e 23 = .int .i64 i ∧ Ext x0 u) (fun e _ => rl.length - nat (e 23)) ?_ ?_
  · exact ⟨0, by omega, eA rfl, hE1.trans ext_⟩
  clear hE1 hb17 hb19 O3 O4 K3
  rintro e4 y hf4 ⟨i, hi, h23, hEy⟩
  by_cases hlt : i < rl.length
  · obtain ⟨r, hr⟩ : ∃ r, rl[i]? = some r := ⟨rl[i], List.getElem?_eq_getElem hlt⟩
    obtain ⟨hlk⟩ := hrl
    obtain ⟨f, hfi⟩ : ∃ f, l[i]? = some f := ⟨l[i]'(by omega), List.getElem?_eq_getElem (by omega)⟩
    have hil : (i : Int) < l.length := by omega
    clear hlk
    have d := K4.1.pr.2 i r f hr hfi
    obtain ⟨g, cur, rfl, hg, hc, hlt3, hat⟩ := (hR9.up hEy).sl.at (i := i) (v := .int .i64 r) (by unfold ints; rw [List.getElem?_map, hr]; rfl)
    obtain ⟨g2, o2, ct2, E2, fz2, rfl, hg2, hsz2, hex2⟩ := funAt (Inp.ext hI9 hEy) hfi
    rw [List.length_map] at hc
    have lg := lt_of_heap hg
    have lg2 := lt_of_heap hg2
    have t1 := rdTop_calls K4.1.good (hO9.up hEy).sti d
    have hir : (i : Int) < rl.length := by omega
    have fin : ∀ {u}, Ext y u → Ext x0 u := fun h => hEy.trans h
    clear hO9 hR9 hI9 hr hfi d hlt3 K4 hEy
    refine w_ fun d => ?_
    intro y2 hEy2 hsy2
    refine w_ fun d => ?_
    exact ⟨⟨i + 1, by omega, eA rfl, fin (hEy2.trans ext_)⟩, mA⟩
  obtain rfl : i = rl.length := by omega
  clear hlt hO9 hR9 hI9 K4
  refine w_ fun d => ?_
  exact ⟨rfl, ext_⟩
end
end Go.Proofs.Ytpeindhocndmnaa

