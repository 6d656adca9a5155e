/- How many nodes functions need: bounds. No program is in sight. -/
import Derived.Test.YtghcmogbmaedfaaSizeP
namespace Go.Bx
open Go
set_option linter.unusedSimpArgs false
set_option linter.unusedVariables false

section
variable {ord : List Int} {l k ns ms : List Fun8} {f g : Fun8} {v : Int} {b : Bool}
theorem nodes_of : ∀ (n : Nat) {keys work : List Fun8}, wts work = n → Dfs ord l keys work → ∃ ns, IsNodes ord l ns ∧ ns.length ≤ keys.length + n := by
  intro n
  induction n using Nat.strongRecOn with
  | _ n ih =>
    intro keys work hn h
    rcases List.eq_nil_or_concat work with rfl | ⟨ws, f, rfl⟩
    · exact ⟨_, h.done, by omega⟩
    · rw [List.concat_eq_append] at h hn
      have hm := Dfs.meas (ord := ord) (f := f) (ws := ws)
      by_cases hk : f ∈ keys ∨ supF f = 0
      · obtain ⟨ns, h1, h2⟩ := ih _ (by omega) rfl (h.skip hk)
        exact ⟨ns, h1, by omega⟩
      · obtain ⟨ns, h1, h2⟩ := ih _ (by omega) rfl (h.go (fun h => hk (.inl h)) (fun h => hk (.inr h)))
        rw [List.length_append, List.length_singleton] at h2
        exact ⟨ns, h1, by omega⟩
theorem nodes_ex (ord : List Int) (l : List Fun8) : ∃ ns, IsNodes ord l ns := by
  obtain ⟨ns, h, _⟩ := nodes_of (ord := ord) (l := l) _ rfl Dfs.init
  exact ⟨ns, h⟩
theorem size_most : sizeF ord l ≤ 6561 * l.length := by
  obtain ⟨ns, h, h2⟩ := nodes_of (ord := ord) (l := l) _ rfl Dfs.init
  have := wts_le (l := l)
  rw [← h.size]
  simp at h2
  omega
theorem Rch.mono (h : Rch ord l f) (hl : ∀ g ∈ l, Rch ord k g) : Rch ord k f := by
  induction h with
  | base h => exact hl _ h
  | step _ h ih => exact .step ih h
theorem Rch.sub (h : Rch ord l f) (hl : ∀ g ∈ l, g ∈ k) : Rch ord k f := h.mono fun g hg => .base (hl g hg)
theorem rch_app : Rch ord (l ++ k) f ↔ Rch ord l f ∨ Rch ord k f := by
  constructor
  · intro h
    induction h with
    | base h => exact (List.mem_append.1 h).imp .base .base
    | step _ h ih => exact ih.imp (fun i => .step i h) (fun i => .step i h)
  · rintro (h | h)
    · exact h.sub fun g hg => by simp [hg]
    · exact h.sub fun g hg => by simp [hg]
theorem size_le (h : ∀ f, Rch ord l f → Rch ord k f) : sizeF ord l ≤ sizeF ord k := by
  obtain ⟨ns, hn⟩ := nodes_ex ord l
  obtain ⟨ms, hm⟩ := nodes_ex ord k
  rw [← hn.size, ← hm.size]
  exact sub_len hn.nodup fun f hf => (hm.mem f).2 ⟨h f ((hn.mem f).1 hf).1, ((hn.mem f).1 hf).2⟩
theorem size_eq (h : ∀ f, Rch ord l f ↔ Rch ord k f) : sizeF ord l = sizeF ord k := Nat.le_antisymm (size_le fun f => (h f).1) (size_le fun f => (h f).2)
theorem size_app : sizeF ord (l ++ k) ≤ sizeF ord l + sizeF ord k := by
  obtain ⟨ns, hn⟩ := nodes_ex ord l
  obtain ⟨ms, hm⟩ := nodes_ex ord k
  obtain ⟨os, ho⟩ := nodes_ex ord (l ++ k)
  rw [← hn.size, ← hm.size, ← ho.size, ← List.length_append]
  refine sub_len ho.nodup fun f hf => ?_
  obtain ⟨h1, h2⟩ := (ho.mem f).1 hf
  rw [List.mem_append]
  exact (rch_app.1 h1).imp (fun h => (hn.mem f).2 ⟨h, h2⟩) (fun h => (hm.mem f).2 ⟨h, h2⟩)

/-! ### No variable -/
theorem dep_set {n : Nat} (hn : n < 8) (h : depF f n = false) {x : Nat} (hx : x < 256) : f.getLsbD x = f.getLsbD (setB x n b) := by
  have he : cofF f n false = cofF f n true := by rw [depF_def] at h; simpa using h
  have e0 := cofF_bit (f := f) (b := false) hn hx
  have e1 := cofF_bit (f := f) (b := true) hn hx
  rw [he, e1] at e0
  have hs := setB_self_all n hn x hx
  cases ht : x.testBit n <;> rw [ht] at hs <;> cases b
  · rw [hs]
  · rw [e0, hs]
  · rw [← e0, hs]
  · rw [hs]
theorem cof_same (h : depF f v = false) : cofF f v b = f := by
  by_cases hv : 0 ≤ v ∧ v < 8
  · obtain ⟨n, rfl, hn⟩ := nat8 hv
    exact cof_ext fun x hx => by rw [cofF_bit hn hx, ← dep_set hn h hx]
  · exact cofF_out hv
theorem clear_all : ∀ x : Nat, x < 256 → setB (setB (setB (setB (setB (setB (setB (setB x 0 false) 1 false) 2 false) 3 false) 4 false) 5 false) 6 false) 7 false = 0 := by decide +kernel
theorem sup_zero_const (h : supF f = 0) : f = constF (f.getLsbD 0) := by
  have hd := supF_zero.1 h
  refine cof_ext fun x hx => ?_
  rw [bt_const hx]
  have st : ∀ (n : Nat), n < 8 → ∀ y : Nat, y < 256 → f.getLsbD y = f.getLsbD (setB y n false) ∧ setB y n false < 256 := fun n hn y hy => ⟨dep_set hn (hd n) hy, setB_lt hy hn⟩
  obtain ⟨a0, l0⟩ := st 0 (by decide) x hx
  obtain ⟨a1, l1⟩ := st 1 (by decide) _ l0
  obtain ⟨a2, l2⟩ := st 2 (by decide) _ l1
  obtain ⟨a3, l3⟩ := st 3 (by decide) _ l2
  obtain ⟨a4, l4⟩ := st 4 (by decide) _ l3
  obtain ⟨a5, l5⟩ := st 5 (by decide) _ l4
  obtain ⟨a6, l6⟩ := st 6 (by decide) _ l5
  obtain ⟨a7, l7⟩ := st 7 (by decide) _ l6
  rw [clear_all x hx] at a7
  rw [a0, a1, a2, a3, a4, a5, a6, a7]
theorem cof_const {c : Bool} : cofF (constF b) v c = constF b := by
  by_cases hv : 0 ≤ v ∧ v < 8
  · obtain ⟨n, rfl, hn⟩ := nat8 hv
    exact cof_ext fun x hx => by rw [cofF_bit hn hx, bt_const hx, bt_const (setB_lt hx hn)]
  · exact cofF_out hv
theorem sup_constF : supF (constF b) = 0 := supF_zero.2 fun v => by rw [depF_def, cof_const, cof_const]; simp
theorem sup_zero_iff : supF f = 0 ↔ f = constF true ∨ f = constF false := by
  constructor
  · intro h
    have := sup_zero_const h
    cases hb : f.getLsbD 0 <;> rw [hb] at this
    · exact .inr this
    · exact .inl this
  · rintro (rfl | rfl) <;> exact sup_constF
theorem size_zero : sizeF ord [f] = 0 ↔ supF f = 0 := by
  obtain ⟨ns, hn⟩ := nodes_ex ord [f]
  rw [← hn.size]
  constructor
  · intro h
    by_cases hs : supF f = 0
    · exact hs
    · have := (hn.mem f).2 ⟨.base (by simp), hs⟩
      rw [List.eq_nil_of_length_eq_zero h] at this; cases this
  · intro hs
    have key : ∀ g, Rch ord [f] g → g = f := fun g hg => by
      induction hg with
      | base h => simpa using h
      | step _ h ih => subst ih; rw [kids_flat hs] at h; cases h
    cases ns with
    | nil => rfl
    | cons g ns =>
      have := (hn.mem g).1 (by simp)
      rw [key g this.1] at this
      exact absurd hs this.2

/-! ### The other way round -/
theorem cof_not : cofF (notF f) v b = notF (cofF f v b) := by
  by_cases hv : 0 ≤ v ∧ v < 8
  · obtain ⟨n, rfl, hn⟩ := nat8 hv
    exact cof_ext fun x hx => by rw [cofF_bit hn hx, bt_not hx, bt_not (setB_lt hx hn), cofF_bit hn hx]
  · rw [cofF_out hv, cofF_out hv]
theorem not_inj (h : notF f = notF g) : f = g := by rw [← notF_notF (f := f), h, notF_notF]
theorem dep_not : depF (notF f) v = depF f v := by
  rw [depF_def, depF_def, cof_not, cof_not]
  congr 1
  exact decide_eq_decide.2 ⟨not_inj, fun h => by rw [h]⟩
theorem top_not : topF ord (notF f) = topF ord f := by
  unfold topF
  rw [show depF (notF f) = depF f from funext fun v => dep_not]
theorem kids_not : kids ord (notF f) = (kids ord f).map notF := by
  unfold kids
  rw [top_not]
  split
  · simp [cof_not]
  · rfl
theorem sup_not : supF (notF f) = 0 ↔ supF f = 0 := by
  rw [supF_zero, supF_zero]
  exact ⟨fun h v => by rw [← dep_not]; exact h v, fun h v => by rw [dep_not]; exact h v⟩
theorem rch_not (h : Rch ord [f] g) : Rch ord [notF f] (notF g) := by
  induction h with
  | base h => rw [List.mem_singleton] at h; subst h; exact .base (by simp)
  | step _ h ih => exact .step ih (by rw [kids_not]; exact List.mem_map_of_mem h)
theorem size_not : sizeF ord [notF f] = sizeF ord [f] := by
  have key : ∀ f, sizeF ord [f] ≤ sizeF ord [notF f] := fun f => by
    obtain ⟨ns, hn⟩ := nodes_ex ord [f]
    obtain ⟨ms, hm⟩ := nodes_ex ord [notF f]
    rw [← hn.size, ← hm.size]
    have := sub_len (l := ns.map notF) (m := ms) ?_ ?_
    · rwa [List.length_map] at this
    · exact List.pairwise_map.2 (hn.nodup.imp fun h e => h (not_inj e))
    · intro x hx
      obtain ⟨g, hg, rfl⟩ := List.mem_map.1 hx
      have := (hn.mem g).1 hg
      exact (hm.mem _).2 ⟨rch_not this.1, fun h => this.2 (sup_not.1 h)⟩
  refine Nat.le_antisymm ?_ (key f)
  have := key (notF f)
  rwa [notF_notF] at this

/-! ### The sides -/
theorem nv_rch (h : Rch ord (kids ord f) g) : nv g < nv f := by
  have key : ∀ {a c : Fun8}, c ∈ kids ord a → nv c < nv a := fun {a c} hc => by
    unfold kids at hc
    split at hc
    · rename_i ht
      have hd := topF_dep ht
      simp only [List.mem_cons, List.not_mem_nil, or_false] at hc
      rcases hc with rfl | rfl <;> exact nv_cof hd
    · cases hc
  induction h with
  | base h => exact key h
  | step _ h ih => exact Nat.lt_trans (key h) ih
theorem size_sides (h : 0 ≤ topF ord f) : sizeF ord [f] = sizeF ord (kids ord f) + 1 := by
  obtain ⟨ns, hn⟩ := nodes_ex ord [f]
  have hs : supF f ≠ 0 := fun hs => by
    have := supF_zero.1 hs (topF ord f)
    rw [topF_dep h] at this; cases this
  have hf : f ∈ ns := (hn.mem f).2 ⟨.base (by simp), hs⟩
  have hr : ∀ g, Rch ord [f] g ↔ g = f ∨ Rch ord (kids ord f) g := fun g => by
    constructor
    · intro hg
      induction hg with
      | base h => exact .inl (by simpa using h)
      | step _ hk ih =>
        rcases ih with rfl | ih
        · exact .inr (.base hk)
        · exact .inr (.step ih hk)
    · rintro (rfl | hg)
      · exact .base (by simp)
      · exact hg.mono fun c hc => .step (.base (by simp)) hc
  have hI : IsNodes ord (kids ord f) (ns.erase f) := by
    refine ⟨hn.nodup.erase f, fun g => ?_⟩
    rw [hn.nodup.mem_erase_iff, hn.mem, hr]
    constructor
    · rintro ⟨h1, h2, h3⟩
      exact ⟨h2.resolve_left h1, h3⟩
    · rintro ⟨h1, h2⟩
      exact ⟨fun e => by subst e; have := nv_rch h1; omega, .inr h1, h2⟩
  rw [← hn.size, ← hI.size, List.length_erase_of_mem hf]
  have := List.length_pos_of_mem hf
  omega
end
end Go.Bx
