/- Layer 16: no handle twice, in plain words. No code is walked here. -/
import Derived.Test.YtjdomnpfgdbckaaSlots
namespace Go.Proofs.Ytjdomnpfgdbckaa
open Go Go.Bx
set_option linter.unusedSimpArgs false
set_option linter.unusedVariables false

def b2 (b : Bool) : Int := if b then 1 else 0
theorem b2_rng (b : Bool) : 0 ≤ b2 b ∧ b2 b ≤ 1 := by cases b <;> decide
def sumF {α : Type} (f : α → Int) (l : List α) : Int := (l.map f).sum
theorem sumF_nil {α : Type} (f : α → Int) : sumF f [] = 0 := rfl
theorem sumF_cons {α : Type} (f : α → Int) (a : α) (l : List α) : sumF f (a :: l) = f a + sumF f l := by simp [sumF]
theorem sumF_app {α : Type} (f : α → Int) (l l' : List α) : sumF f (l ++ l') = sumF f l + sumF f l' := by simp [sumF]
theorem sumF_set {α : Type} (f : α → Int) : ∀ (l : List α) (i : Nat) (x y : α), l[i]? = some x → sumF f (l.set i y) = sumF f l - f x + f y
  | [], _, _, _, h => by cases h
  | a :: l, 0, x, y, h => by
    obtain rfl : a = x := by simpa using h
    rw [List.set_cons_zero, sumF_cons, sumF_cons]; omega
  | a :: l, i + 1, x, y, h => by
    have ih := sumF_set f l i x y (by simpa using h)
    rw [List.set_cons_succ, sumF_cons, sumF_cons, ih]; omega
theorem sumF_nonneg {α : Type} (f : α → Int) : ∀ (l : List α), (∀ x ∈ l, 0 ≤ f x) → 0 ≤ sumF f l
  | [], _ => by rw [sumF_nil]; omega
  | a :: l, h => by
    have h1 := h a (by simp)
    have ih := sumF_nonneg f l (fun x hx => h x (by simp [hx]))
    rw [sumF_cons]; omega
theorem sumF_mem {α : Type} (f : α → Int) : ∀ (l : List α), (∀ x ∈ l, 0 ≤ f x) → ∀ x ∈ l, f x ≤ sumF f l
  | [], _, _, h => by cases h
  | a :: l, h, x, hx => by
    have h1 := h a (by simp)
    have h2 : ∀ y ∈ l, 0 ≤ f y := fun y hy => h y (by simp [hy])
    rw [sumF_cons]
    rcases List.mem_cons.1 hx with rfl | hx
    · have := sumF_nonneg f l h2; omega
    · have := sumF_mem f l h2 x hx; omega
theorem sumF_le {α : Type} (f : α → Int) (c : Int) : ∀ (l : List α), (∀ x ∈ l, f x ≤ c) → sumF f l ≤ c * l.length
  | [], _ => by simp [sumF_nil]
  | a :: l, h => by
    have h1 := h a (by simp)
    have ih := sumF_le f c l (fun x hx => h x (by simp [hx]))
    rw [sumF_cons, List.length_cons]
    have : c * ((l.length + 1 : Nat) : Int) = c * l.length + c := by rw [Int.natCast_add, Int.mul_add]; simp
    omega
theorem sumF_all {α : Type} (f : α → Int) : ∀ (l : List α), (∀ x ∈ l, f x = 1) → sumF f l = l.length
  | [], _ => rfl
  | a :: l, h => by
    have h1 := h a (by simp)
    have ih := sumF_all f l (fun x hx => h x (by simp [hx]))
    rw [sumF_cons, List.length_cons, h1, ih]; omega

theorem pack_inj {t s g s' g' : Int} (ht : 1 ≤ t ∧ t ≤ 8) (h : 0 ≤ s ∧ s ≤ 15 ∧ 0 ≤ g ∧ g ≤ 15) (h' : 0 ≤ s' ∧ s' ≤ 15 ∧ 0 ≤ g' ∧ g' ≤ 15) (he : packN t s g = packN t s' g') : s = s' ∧ g = g' := by
  rw [packN_in (by omega), packN_in (by omega)] at he
  omega
theorem pack_rng {t s g : Int} : 0 ≤ packN t s g ∧ packN t s g < 18446744073709551616 := by
  by_cases h : 1 ≤ t ∧ t ≤ 8 ∧ 0 ≤ s ∧ s ≤ 15 ∧ 0 ≤ g ∧ g ≤ 15
  · rw [packN_in h]; omega
  · rw [packN_out h]; omega

/-- What is so of the slots, of the handles that were told, and of those that are good yet. -/
structure OnceInv (tn : Int) (ss : List Sl) (told : List Int) (good : List Bool) : Prop where
  tn1 : 1 ≤ tn ∧ tn ≤ 8
  len : ss.length = 16
  glen : good.length = told.length
  wf : ∀ x ∈ ss, 0 ≤ x.1 ∧ x.1 ≤ 16 ∧ (x.2.1 = true → x.1 ≤ 15)
  each : ∀ (k : Nat) (h : Int), told[k]? = some h → ∃ (s : Nat) (x : Sl) (g : Int), ss[s]? = some x ∧ h = packN tn s g ∧ 0 ≤ g ∧ g ≤ 15 ∧ (g < x.1 ∨ (g = x.1 ∧ x.2.1 = true)) ∧ good[k]? = some (decide (g = x.1) && x.2.1)
  nodup : told.Nodup
  count : (told.length : Int) = sumF (fun x : Sl => x.1 + b2 x.2.1) ss
  held : sumF b2 good = sumF (fun x : Sl => b2 x.2.1) ss

theorem OnceInv.start {tn : Int} (h : 1 ≤ tn ∧ tn ≤ 8) : OnceInv tn (List.replicate 16 (0, false, 0)) [] [] := by
  refine ⟨h, by simp, rfl, fun x hx => ?_, fun k h hk => by simp at hk, List.nodup_nil, by decide, by decide⟩
  obtain rfl := List.eq_of_mem_replicate hx
  exact ⟨by decide, by decide, by decide⟩
section
variable {tn : Int} {ss : List Sl} {told : List Int} {good : List Bool} (V : OnceInv tn ss told good)
include V
theorem OnceInv.slot {s : Nat} {x : Sl} (hx : ss[s]? = some x) : s < 16 := by
  have := (List.getElem?_eq_some_iff.1 hx).1
  have := V.len; omega
theorem OnceInv.rng16 : ∀ x ∈ ss, 0 ≤ x.1 ∧ x.1 ≤ 16 := fun x hx => ⟨(V.wf x hx).1, (V.wf x hx).2.1⟩
/-- What the slots tell of a handle that was told. -/
theorem OnceInv.find {k : Nat} {h : Int} {g0 : Bool} (hk : told[k]? = some h) (hg : good[k]? = some g0) : (0 ≤ h ∧ h < 18446744073709551616) ∧ h ≠ 0 ∧ ((g0 = false ∧ findI tn ss h = none) ∨ (g0 = true ∧ ∃ (s : Nat) (x : Sl), findI tn ss h = some s ∧ ss[s]? = some x ∧ x.2.1 = true ∧ x.1 = h % 256 ∧ h = packN tn s x.1 ∧ x.1 ≤ 15)) := by
  obtain ⟨s, x, g, hx, rfl, h0, h15, hor, hgd⟩ := V.each k h hk
  have hs := V.slot hx
  have hin : 1 ≤ tn ∧ tn ≤ 8 ∧ 0 ≤ (s : Int) ∧ (s : Int) ≤ 15 ∧ 0 ≤ g ∧ g ≤ 15 := ⟨V.tn1.1, V.tn1.2, by omega, by omega, h0, h15⟩
  obtain ⟨ok, d1, d2, d3⟩ := okH_of hin
  refine ⟨pack_rng, ok.1, ?_⟩
  have e0 : g0 = (decide (g = x.1) && x.2.1) := by rw [hg] at hgd; exact Option.some.inj hgd
  unfold findI
  rw [if_pos ⟨ok, d1⟩, d2, d3, Int.toNat_natCast, hx]
  by_cases hb : x.2.1 = true ∧ x.1 = g
  · refine .inr ⟨by rw [e0, hb.1, hb.2]; simp, s, x, if_pos hb, hx, hb.1, hb.2, by rw [hb.2], by omega⟩
  · refine .inl ⟨?_, if_neg hb⟩
    rw [e0]
    by_cases h1 : g = x.1
    · have : ¬ x.2.1 = true := fun h2 => hb ⟨h2, h1.symm⟩
      simp [this]
    · simp [h1]
theorem OnceInv.rel {k : Nat} {h : Int} {g0 : Bool} (hk : told[k]? = some h) (hg : good[k]? = some g0) : (relI tn ss h).1 = (if g0 then 0 else 5) ∧ OnceInv tn (relI tn ss h).2 told (good.set k false) := by
  obtain ⟨_, _, ⟨rfl, hf⟩ | ⟨rfl, s, x, hf, hx, hxh, hxg, hh, hx15⟩⟩ := V.find hk hg
  · have hR : relI tn ss h = (5, ss) := by rw [relI, hf]
    rw [hR]
    have : good.set k false = good := by
      apply List.ext_getElem?
      intro i
      by_cases hi : k = i
      · subst hi; rw [List.getElem?_set_self (List.getElem?_eq_some_iff.1 hg).1, hg]
      · rw [List.getElem?_set_ne hi]
    exact ⟨rfl, by rw [this]; exact V⟩
  · have hR : relI tn ss h = (0, ss.set s (h % 256 + 1, false, 0)) := by rw [relI, hf]
    rw [hR, ← hxg]
    have hs := V.slot hx
    have hkl := (List.getElem?_eq_some_iff.1 hg).1
    have hx0 := (V.wf x (List.mem_of_getElem? hx)).1
    refine ⟨rfl, V.tn1, by rw [List.length_set]; exact V.len, by rw [List.length_set]; exact V.glen, fun y hy => ?_, fun k' h' hk' => ?_, V.nodup, ?_, ?_⟩
    · rcases List.mem_or_eq_of_mem_set hy with hy | rfl
      · exact V.wf y hy
      · exact ⟨by dsimp only; omega, by dsimp only; omega, fun h => by cases h⟩
    · obtain ⟨s', x', g', hx', hh', g0', g15', hor, hgd⟩ := V.each k' h' hk'
      have hs' := V.slot hx'
      by_cases hss : s' = s
      · subst hss
        rw [hx] at hx'
        obtain rfl := Option.some.inj hx'
        refine ⟨s', (x.1 + 1, false, 0), g', by rw [List.getElem?_set_self (by rw [V.len]; omega)], hh', g0', g15', .inl ?_, ?_⟩
        · dsimp only
          rcases hor with h1 | h1 <;> omega
        · rw [Bool.and_false]
          by_cases hkk : k = k'
          · subst hkk; rw [List.getElem?_set_self hkl]
          · rw [List.getElem?_set_ne hkk, hgd]
            congr 1
            have hne : g' ≠ x.1 := by
              intro he
              subst he
              have : h = h' := by rw [hh, hh']
              subst this
              have i1 := (List.getElem?_eq_some_iff.1 hk)
              have i2 := (List.getElem?_eq_some_iff.1 hk')
              exact hkk ((List.getElem_inj V.nodup).1 (i1.2.trans i2.2.symm))
            simp [hne]
      · refine ⟨s', x', g', by rw [List.getElem?_set_ne (fun h => hss h.symm)]; exact hx', hh', g0', g15', hor, ?_⟩
        have hkk : k ≠ k' := by
          rintro rfl
          rw [hk] at hk'
          have := Option.some.inj hk'
          have := pack_inj V.tn1 (s := s) (g := x.1) (s' := s') (g' := g') (by omega) (by omega) (by rw [← hh, ← hh', this])
          omega
        rw [List.getElem?_set_ne hkk, hgd]
    · rw [sumF_set _ _ _ _ _ hx, V.count, hxh]
      simp only [b2, if_true, if_false, Bool.false_eq_true]; omega
    · rw [sumF_set _ _ _ _ _ hx, sumF_set _ _ _ _ _ hg, V.held, hxh]
theorem OnceInv.get {k : Nat} {h : Int} {g0 : Bool} (hk : told[k]? = some h) (hg : good[k]? = some g0) : (getI tn ss h).2 = (if g0 then 0 else 5) := by
  obtain ⟨_, _, ⟨rfl, hf⟩ | ⟨rfl, s, x, hf, _⟩⟩ := V.find hk hg
  · rw [getI, hf]; rfl
  · rw [getI, hf]; rfl
theorem OnceInv.most : told.length ≤ 256 := by
  have h1 := V.count
  have h2 := sumF_le (fun x : Sl => x.1 + b2 x.2.1) 16 ss (fun x hx => by
    obtain ⟨_, h2, h3⟩ := V.wf x hx
    cases hb : x.2.1
    · simp only [b2, if_false, Bool.false_eq_true]; omega
    · have := h3 hb
      simp only [b2, if_true]; omega)
  rw [V.len] at h2
  omega
theorem OnceInv.grant (v : Int) : (0 ≤ (grantI tn ss v).1 ∧ (grantI tn ss v).1 < 18446744073709551616) ∧ (∀ h ∈ told, h ≠ (grantI tn ss v).1) ∧
    (((grantI tn ss v).2.1 = 0 ∧ OnceInv tn (grantI tn ss v).2.2 (told ++ [(grantI tn ss v).1]) (good ++ [true])) ∨
     ((grantI tn ss v).2.1 = 6 ∧ (grantI tn ss v).2.2 = ss ∧ (sumF b2 good < 16 → 16 ≤ told.length))) := by
  by_cases hn : 0 ≤ nextI ss
  · obtain ⟨i, x, hi, hx, hxh, hxg⟩ := nextI_some hn
    have hgx : ss.getD i (0, false, 0) = x := by rw [List.getD_eq_getElem?_getD, hx]; rfl
    have hG : grantI tn ss v = (packN tn i x.1, 0, ss.set i (x.1, true, v)) := by
      rw [grantI, if_pos hn, hi, Int.toNat_natCast, hgx]
    rw [hG]
    have hi16 := V.slot hx
    have hx0 := (V.wf x (List.mem_of_getElem? hx)).1
    have hnew : ∀ h ∈ told, h ≠ packN tn i x.1 := by
      intro h hm he
      obtain ⟨k, hk⟩ := List.mem_iff_getElem?.1 hm
      obtain ⟨s', x', g', hx', hh', g0', g15', hor, hgd⟩ := V.each k h hk
      have hs' := V.slot hx'
      obtain ⟨e1, e2⟩ := pack_inj V.tn1 (s := s') (g := g') (s' := i) (g' := x.1) (by omega) (by omega) (by rw [← hh', he])
      have : s' = i := by omega
      subst this
      rw [hx] at hx'
      obtain rfl := Option.some.inj hx'
      rcases hor with h1 | h1
      · omega
      · rw [hxh] at h1; exact absurd h1.2 (by simp)
    refine ⟨pack_rng, hnew, .inl ⟨rfl, V.tn1, by rw [List.length_set]; exact V.len, by simp [V.glen], fun y hy => ?_, fun k' h' hk' => ?_, ?_, ?_, ?_⟩⟩
    · rcases List.mem_or_eq_of_mem_set hy with hy | rfl
      · exact V.wf y hy
      · exact ⟨hx0, by dsimp only; omega, fun _ => hxg⟩
    · rw [List.getElem?_append] at hk'
      split at hk'
      · rename_i hlt
        obtain ⟨s', x', g', hx', hh', g0', g15', hor, hgd⟩ := V.each k' h' hk'
        have hgk : (good ++ [true])[k']? = good[k']? := List.getElem?_append_left (by rw [V.glen]; exact hlt)
        by_cases hss : s' = i
        · subst hss
          rw [hx] at hx'
          obtain rfl := Option.some.inj hx'
          have hlt' : g' < x.1 := by
            rcases hor with h1 | h1
            · exact h1
            · rw [hxh] at h1; exact absurd h1.2 (by simp)
          refine ⟨s', (x.1, true, v), g', by rw [List.getElem?_set_self (by rw [V.len]; omega)], hh', g0', g15', .inl hlt', ?_⟩
          rw [hgk, hgd]
          have hne : g' ≠ x.1 := by omega
          simp [hne]
        · exact ⟨s', x', g', by rw [List.getElem?_set_ne (fun h => hss h.symm)]; exact hx', hh', g0', g15', hor, by rw [hgk, hgd]⟩
      · rename_i hge
        have hk0 : k' = told.length := by
          have := (List.getElem?_eq_some_iff.1 hk').1
          simp at this; omega
        subst hk0
        rw [Nat.sub_self] at hk'
        obtain rfl : packN tn i x.1 = h' := by simpa using hk'
        refine ⟨i, (x.1, true, v), x.1, by rw [List.getElem?_set_self (by rw [V.len]; omega)], rfl, hx0, hxg, .inr ⟨rfl, rfl⟩, ?_⟩
        rw [List.getElem?_append_right (by rw [V.glen]; exact Nat.le_refl _), V.glen, Nat.sub_self]
        simp
    · rw [List.nodup_append]
      refine ⟨V.nodup, by simp, fun a ha b hb => ?_⟩
      obtain rfl : b = packN tn i x.1 := by simpa using hb
      exact hnew a ha
    · rw [sumF_set _ _ _ _ _ hx, ← V.count, hxh, List.length_append]
      simp only [b2, if_true, if_false, Bool.false_eq_true, List.length_cons, List.length_nil]; omega
    · rw [sumF_set _ _ _ _ _ hx, ← V.held, hxh, sumF_app, sumF_cons, sumF_nil]
      simp only [b2, if_true, if_false, Bool.false_eq_true]; omega
  · obtain ⟨hm, hall⟩ := nextI_neg hn
    have hG : grantI tn ss v = (0, 6, ss) := by rw [grantI, if_neg hn]
    rw [hG]
    refine ⟨⟨Int.le_refl 0, by show (0 : Int) < 18446744073709551616; decide⟩, fun h hm => ?_, .inr ⟨rfl, rfl, fun hlt => ?_⟩⟩
    · obtain ⟨k, hk⟩ := List.mem_iff_getElem?.1 hm
      have hkl := (List.getElem?_eq_some_iff.1 hk).1
      exact (V.find hk (List.getElem?_eq_getElem (by rw [V.glen]; exact hkl))).2.1
    · by_cases hex : ∃ x ∈ ss, 15 < x.1
      · obtain ⟨x, hx, h15⟩ := hex
        have := sumF_mem (fun x : Sl => x.1 + b2 x.2.1) ss (fun y hy => by
          have := (V.wf y hy).1
          have := b2_rng y.2.1
          omega) x hx
        rw [← V.count] at this
        have := b2_rng x.2.1
        omega
      · have := sumF_all (fun x : Sl => b2 x.2.1) ss (fun x hx => by
          rcases hall x hx with h | h
          · simp [b2, h]
          · exact absurd ⟨x, hx, h⟩ hex)
        rw [← V.held, V.len] at this
        omega
end
end Go.Proofs.Ytjdomnpfgdbckaa
