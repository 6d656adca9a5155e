/- Plain facts of orders. -/
import Derived.Test.YtjdomnpfgdbckaaPerm
namespace Go.Proofs.Ytjdomnpfgdbckaa
open Go Go.Bx
set_option linter.unusedSimpArgs false

theorem swp_swp (l : List Int) (hl : l.length = 8) (i : Int) : swp (swp l i) i = l := by
  by_cases h : 0 ≤ i ∧ i < 7
  · have h1 : swp l i = (l.set i.toNat (l.getD (i.toNat + 1) 0)).set (i.toNat + 1) (l.getD i.toNat 0) := if_pos h
    have h2 : swp (swp l i) i = ((swp l i).set i.toNat ((swp l i).getD (i.toNat + 1) 0)).set (i.toNat + 1) ((swp l i).getD i.toNat 0) := if_pos h
    rw [h2]
    generalize hn : i.toNat = n at *
    have hn7 : n < 7 := by omega
    apply List.ext_getElem?
    intro j
    have e1 : (swp l i)[n]? = l[n + 1]? := by
      rw [h1, List.getElem?_set_ne (by omega), List.getElem?_set_self (by omega), List.getElem?_eq_getElem (by omega)]
      simp [List.getD, List.getElem?_eq_getElem (show n + 1 < l.length by omega)]
    have e2 : (swp l i)[n + 1]? = l[n]? := by
      rw [h1, List.getElem?_set_self (by simp; omega), List.getElem?_eq_getElem (by omega)]
      simp [List.getD, List.getElem?_eq_getElem (show n < l.length by omega)]
    have e3 : (swp l i).length = 8 := by rw [swp_length, hl]
    by_cases hj1 : j = n + 1
    · subst hj1
      rw [List.getElem?_set_self (by simp; omega)]
      simp only [List.getD, e1]
      rw [List.getElem?_eq_getElem (show n + 1 < l.length by omega)]; rfl
    · rw [List.getElem?_set_ne (by omega)]
      by_cases hj : j = n
      · subst hj
        rw [List.getElem?_set_self (by omega)]
        simp only [List.getD, e2]
        rw [List.getElem?_eq_getElem (show j < l.length by omega)]; rfl
      · rw [List.getElem?_set_ne (by omega), h1, List.getElem?_set_ne (by omega), List.getElem?_set_ne (by omega)]
  · have h1 : swp l i = l := if_neg h
    rw [h1, h1]

/-- The places after the exchange. -/
theorem swp_at (l : List Int) (hl : l.length = 8) (i : Int) (h0 : 0 ≤ i) (h7 : i < 7) (j : Nat) :
    (swp l i)[j]? = if j = i.toNat then l[i.toNat + 1]? else if j = i.toNat + 1 then l[i.toNat]? else l[j]? := by
  have h1 : swp l i = (l.set i.toNat (l.getD (i.toNat + 1) 0)).set (i.toNat + 1) (l.getD i.toNat 0) := if_pos ⟨h0, h7⟩
  generalize hn : i.toNat = n at *
  rw [h1]
  by_cases hj : j = n
  · subst hj
    rw [List.getElem?_set_ne (by omega), List.getElem?_set_self (by omega), List.getElem?_eq_getElem (show j + 1 < l.length by omega)]
    simp [List.getD, List.getElem?_eq_getElem (show j + 1 < l.length by omega)]
  · by_cases hj1 : j = n + 1
    · subst hj1
      rw [List.getElem?_set_self (by simp; omega), List.getElem?_eq_getElem (show n < l.length by omega)]
      simp [List.getD, List.getElem?_eq_getElem (show n < l.length by omega)]
    · rw [List.getElem?_set_ne (by omega), List.getElem?_set_ne (by omega), if_neg hj, if_neg hj1]

theorem lvl_mem {l : List Int} {v : Int} : 0 ≤ lvl l v ↔ v ∈ l := by
  unfold lvl
  cases h : l.idxOf? v with
  | none =>
    rw [List.idxOf?_eq_none_iff] at h
    constructor
    · intro h'; simp at h'
    · intro h'; exact absurd h' h
  | some k =>
    constructor
    · intro _
      unfold List.idxOf? at h
      rw [List.findIdx?_eq_some_iff_getElem] at h
      obtain ⟨hk, h1, _⟩ := h
      have : l[k] = v := by simpa using h1
      exact this ▸ List.getElem_mem hk
    · intro _; exact Int.natCast_nonneg k

theorem swp_mem (l : List Int) (hl : l.length = 8) (i v : Int) : v ∈ swp l i ↔ v ∈ l := by
  by_cases h : 0 ≤ i ∧ i < 7
  · have key : ∀ l : List Int, l.length = 8 → v ∈ swp l i → v ∈ l := by
      intro l hl hv
      obtain ⟨j, hj⟩ := List.mem_iff_getElem?.1 hv
      rw [swp_at l hl i h.1 h.2] at hj
      split at hj
      · exact List.mem_iff_getElem?.2 ⟨_, hj⟩
      · split at hj
        · exact List.mem_iff_getElem?.2 ⟨_, hj⟩
        · exact List.mem_iff_getElem?.2 ⟨_, hj⟩
    exact ⟨key l hl, fun hv => key (swp l i) (by rw [swp_length, hl]) (by rw [swp_swp l hl]; exact hv)⟩
  · have h1 : swp l i = l := if_neg h
    rw [h1]

theorem mayL_iff {l : List Int} : mayL l = true ↔ ∀ v : Nat, v < 8 → (v : Int) ∈ l := by
  unfold mayL
  rw [List.all_eq_true]
  constructor
  · intro h v hv; exact lvl_mem.1 (by simpa using h v (List.mem_range.2 hv))
  · intro h v hv; simpa using lvl_mem.2 (h v (List.mem_range.1 hv))

theorem may_swp (l : List Int) (hl : l.length = 8) (i : Int) : mayL (swp l i) = mayL l := by
  rw [Bool.eq_iff_iff, mayL_iff, mayL_iff]
  exact forall_congr' fun v => imp_congr_right fun _ => swp_mem l hl i v

theorem perm_of_sub : ∀ (s l : List Int), s.Nodup → (∀ x ∈ s, x ∈ l) → l.length = s.length → s.Perm l
  | [], l, _, _, h => by
    have : l = [] := List.length_eq_zero_iff.1 h
    rw [this]
  | x :: s, l, hs, hm, h => by
    rw [List.nodup_cons] at hs
    have hx : x ∈ l := hm x (by simp)
    have h1 : s.Perm (l.erase x) := perm_of_sub s (l.erase x) hs.2 (fun y hy => by
      have : y ≠ x := fun e => hs.1 (e ▸ hy)
      exact (List.mem_erase_of_ne this).2 (hm y (by simp [hy]))) (by
      rw [List.length_erase_of_mem hx, h]; simp)
    exact (h1.cons x).trans (List.perm_cons_erase hx).symm

theorem may_nodup {l : List Int} (hl : l.length = 8) (h : mayL l = true) : l.Nodup := by
  have h' := mayL_iff.1 h
  have hp : ((List.range 8).map (fun v : Nat => (v : Int))).Perm l := perm_of_sub _ _ (by decide) (fun x hx => by
    obtain ⟨v, hv, rfl⟩ := List.mem_map.1 hx
    exact h' v (List.mem_range.1 hv)) (by simp [hl])
  exact hp.nodup_iff.1 (by decide)

theorem lvl_at {l : List Int} (hn : l.Nodup) {k : Nat} {v : Int} (h : l[k]? = some v) : lvl l v = k := by
  refine lvl_first h fun i hi he => ?_
  have hk : k < l.length := (List.getElem?_eq_some_iff.1 h).1
  have := (List.getElem?_inj (show i < l.length by omega) hn).1 (he.trans h.symm)
  omega

theorem may_lvl {l : List Int} (hl : l.length = 8) (h : mayL l = true) {v : Int} (h0 : 0 ≤ v) (h7 : v ≤ 7) : ∃ k : Nat, k < 8 ∧ l[k]? = some v ∧ lvl l v = k := by
  obtain ⟨n, rfl⟩ := Int.eq_ofNat_of_zero_le h0
  obtain ⟨k, hk⟩ := List.mem_iff_getElem?.1 (mayL_iff.1 h n (by omega))
  have := (List.getElem?_eq_some_iff.1 hk).1
  exact ⟨k, by omega, hk, lvl_at (may_nodup hl h) hk⟩

theorem lvl_stay {l : List Int} (hl : l.length = 8) (h : mayL l = true) {v i : Int} (h0 : 0 ≤ v) (h7 : v ≤ 7) (hi : i < 0 ∨ 6 < i ∨ (lvl l v ≠ i ∧ lvl l v ≠ i + 1)) : lvl (swp l i) v = lvl l v := by
  by_cases hr : 0 ≤ i ∧ i < 7
  · obtain ⟨k, hk, hkv, e⟩ := may_lvl hl h h0 h7
    have hn : (swp l i).Nodup := may_nodup (by rw [swp_length, hl]) (by rw [may_swp l hl]; exact h)
    rw [e]
    refine lvl_at hn ?_
    rw [swp_at l hl i hr.1 hr.2, if_neg (by omega), if_neg (by omega)]
    exact hkv
  · have h1 : swp l i = l := if_neg hr
    rw [h1]
theorem lvl_move {l : List Int} (hl : l.length = 8) (h : mayL l = true) {v i : Int} (h0 : 0 ≤ v) (h7 : v ≤ 7) (hi0 : 0 ≤ i) (hi6 : i ≤ 6) (hi : lvl l v = i ∨ lvl l v = i + 1) : lvl l v + lvl (swp l i) v = 2 * i + 1 := by
  obtain ⟨k, hk, hkv, e⟩ := may_lvl hl h h0 h7
  have hn : (swp l i).Nodup := may_nodup (by rw [swp_length, hl]) (by rw [may_swp l hl]; exact h)
  rw [e] at hi ⊢
  rcases hi with hi | hi
  · have hk' : i.toNat = k := by omega
    have : lvl (swp l i) v = ((k + 1 : Nat) : Int) := lvl_at hn (by rw [swp_at l hl i hi0 (by omega), if_neg (by omega), if_pos (by omega), hk']; exact hkv)
    rw [this]; omega
  · have hk' : i.toNat + 1 = k := by omega
    have : lvl (swp l i) v = ((i.toNat : Nat) : Int) := lvl_at hn (by rw [swp_at l hl i hi0 (by omega), if_pos rfl, hk']; exact hkv)
    rw [this]; omega
end Go.Proofs.Ytjdomnpfgdbckaa
