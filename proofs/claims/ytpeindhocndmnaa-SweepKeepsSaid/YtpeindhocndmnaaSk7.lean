/- SizeP3, FullP, IteP, IteP2, OneT, MpI, BxCut, SoI, SoI2, SoI3, SoI4, SoI5, SoI6, SoI7, RchP, RdR, SwP, SwW, SwP2, Law12, EmpP, IteK, IteC, IteT, IteI, IteI2, Oper, SiP, Rs8, CaI, PcO, Law09, Law12b: texts of this work, one behind the other. -/
import Derived.Test.YtpeindhocndmnaaSk6
import Derived.Shelf.Small.Bits
namespace Go.Bx
open Go
set_option linter.unusedSimpArgs false
set_option linter.unusedVariables false
structure AllOnce (ord : List Int) : Prop where
  len : ord.length = 8
  all : ∀ v : Nat, v < 8 → ∃ j, j < 8 ∧ ord[j]? = some (v : Int)
  rng : ∀ j : Nat, j < 8 → ∃ v : Nat, v < 8 ∧ ord[j]? = some (v : Int)
  once : ∀ (i j : Nat) (v : Int), ord[i]? = some v → ord[j]? = some v → i = j
section
variable {ord : List Int} {f g : Fun8} {v : Int} {b : Bool} {i j : Nat}
def ov (ord : List Int) (j : Nat) : Int := ord.getD j 0
def lev (ord : List Int) (f : Fun8) : Nat → List Fun8
  | 0 => [f]
  | j + 1 => (lev ord f j).flatMap fun g => [cofF g (ov ord j) false, cofF g (ov ord j) true]
theorem lev_len : ∀ j, (lev ord f j).length = 2 ^ j
  | 0 => rfl
  | j + 1 => by
    have key : ∀ l : List Fun8, (l.flatMap fun g => [cofF g (ov ord j) false, cofF g (ov ord j) true]).length = l.length * 2 := fun l => by
      induction l with
      | nil => rfl
      | cons a l ih => rw [List.flatMap_cons, List.length_append, ih]; simp; omega
    rw [lev, key, lev_len j, Nat.pow_succ]
theorem lev_dep : ∀ {j : Nat} {g : Fun8}, g ∈ lev ord f j → ∀ i, i < j → depF g (ov ord i) = false
  | 0, _, _, i, hi => by omega
  | j + 1, g, hg, i, hi => by
    rw [lev, List.mem_flatMap] at hg
    obtain ⟨h, hh, hg⟩ := hg
    simp only [List.mem_cons, List.not_mem_nil, or_false] at hg
    by_cases e : i = j
    · subst e
      rcases hg with rfl | rfl <;> exact dep_cof
    · have := lev_dep hh i (by omega)
      rcases hg with rfl | rfl
      · cases hd : depF (cofF h (ov ord j) false) (ov ord i)
        · rfl
        · rw [dep_of_cof hd] at this; cases this
      · cases hd : depF (cofF h (ov ord j) true) (ov ord i)
        · rfl
        · rw [dep_of_cof hd] at this; cases this
theorem lev_stay (h : g ∈ lev ord f j) (hd : depF g (ov ord j) = false) : g ∈ lev ord f (j + 1) := by
  rw [lev, List.mem_flatMap]
  exact ⟨g, h, by rw [cof_same hd]; simp⟩
theorem lev_up (h : g ∈ lev ord f j) : ∀ k, (∀ i, j ≤ i → i < j + k → depF g (ov ord i) = false) → g ∈ lev ord f (j + k)
  | 0, _ => h
  | k + 1, hd => lev_stay (lev_up h k fun i h1 h2 => hd i h1 (by omega)) (hd (j + k) (by omega) (by omega))
theorem find_first {p : Int → Bool} : ∀ {l : List Int} {x : Int}, l.find? p = some x → ∃ i : Nat, l[i]? = some x ∧ ∀ (k : Nat) (y : Int), k < i → l[k]? = some y → p y = false
  | [], _, h => by cases h
  | a :: l, x, h => by
    cases ha : p a
    · rw [List.find?_cons_of_neg (by simp [ha])] at h
      obtain ⟨i, h1, h2⟩ := find_first h
      refine ⟨i + 1, by simpa using h1, fun k y hk hy => ?_⟩
      cases k with
      | zero => simp at hy; subst hy; exact ha
      | succ k => exact h2 k y (by omega) (by simpa using hy)
    · rw [List.find?_cons_of_pos ha] at h
      cases h
      exact ⟨0, rfl, fun k y hk => by omega⟩
theorem top_at (h : 0 ≤ topF ord f) : ∃ i, ord[i]? = some (topF ord f) ∧ ∀ k, k < i → depF f (ov ord k) = false := by
  unfold topF at h ⊢
  cases hf : ord.find? (depF f) with
  | none => rw [hf] at h; simp at h
  | some x =>
    obtain ⟨i, h1, h2⟩ := find_first hf
    refine ⟨i, h1, fun k hk => ?_⟩
    have hi := (List.getElem?_eq_some_iff.1 h1).1
    have hkl : k < ord.length := by omega
    refine h2 k _ hk ?_
    rw [ov, List.getD_eq_getElem?_getD, List.getElem?_eq_getElem hkl]; rfl
theorem rch_lev (ho : ord.length = 8) (h : Rch ord [f] g) : ∃ j, j ≤ 8 ∧ g ∈ lev ord f j := by
  induction h with
  | base h => rw [List.mem_singleton] at h; subst h; exact ⟨0, by omega, by simp [lev]⟩
  | @step g g' _ hk ih =>
    obtain ⟨j, hj, hg⟩ := ih
    unfold kids at hk
    split at hk
    · rename_i ht
      obtain ⟨i, hi, hd⟩ := top_at ht
      have hil := (List.getElem?_eq_some_iff.1 hi).1
      have hov : ov ord i = topF ord g := by rw [ov, List.getD_eq_getElem?_getD, hi]; rfl
      have hji : j ≤ i := by
        refine Nat.le_of_not_lt fun hl => ?_
        have := lev_dep hg i hl
        rw [hov, topF_dep ht] at this; cases this
      have hgi : g ∈ lev ord f i := by
        have := lev_up hg (i - j) fun k h1 h2 => hd k (by omega)
        rwa [show j + (i - j) = i by omega] at this
      refine ⟨i + 1, by omega, ?_⟩
      rw [lev, List.mem_flatMap]
      exact ⟨g, hgi, by rw [hov]; exact hk⟩
    · cases hk
def rep (p q : Nat) (a b : Bool) : Nat := (if a then 2 ^ p else 0) + (if b then 2 ^ q else 0)
theorem rep_all : ∀ p : Nat, p < 8 → ∀ q : Nat, q < 8 → p ≠ q → ∀ a b : Bool, rep p q a b < 256 ∧ (rep p q a b).testBit p = a ∧ (rep p q a b).testBit q = b := by decide +kernel
def tblF (p q : Nat) (n : Nat) : Fun8 := ofRows fun x => n.testBit ((x.testBit p).toNat + 2 * (x.testBit q).toNat)
theorem bits_ext {x y : Nat} (hx : x < 256) (hy : y < 256) (h : ∀ v, v < 8 → x.testBit v = y.testBit v) : x = y := by
  refine Nat.eq_of_testBit_eq fun i => ?_
  by_cases hi : i < 8
  · exact h i hi
  · have hp : 256 ≤ 2 ^ i := by
      have : 2 ^ 8 ≤ 2 ^ i := Nat.pow_le_pow_right (by decide) (by omega)
      exact this
    rw [Nat.testBit_lt_two_pow (by omega), Nat.testBit_lt_two_pow (by omega)]
theorem dep_agree {x y : Nat} (hx : x < 256) (hy : y < 256) (h : ∀ v : Nat, v < 8 → depF f v = true → x.testBit v = y.testBit v) : f.getLsbD x = f.getLsbD y := by
  have key : ∀ k : Nat, k ≤ 8 → ∃ z, z < 256 ∧ f.getLsbD z = f.getLsbD x ∧ (∀ v, v < k → z.testBit v = y.testBit v) ∧ ∀ v, k ≤ v → v < 8 → z.testBit v = x.testBit v := by
    intro k
    induction k with
    | zero => intro _; exact ⟨x, hx, rfl, fun v hv => by omega, fun v _ _ => rfl⟩
    | succ k ih =>
      intro hk
      obtain ⟨z, hz, h1, h2, h3⟩ := ih (by omega)
      cases hd : depF f k
      · refine ⟨setB z k (y.testBit k), setB_lt hz (by omega), by rw [← dep_set (by omega) hd hz, h1], fun v hv => ?_, fun v hv hv8 => ?_⟩
        · by_cases e : v = k
          · subst e; exact setB_bit_all v (by omega) z hz _
          · rw [setB_other_all k (by omega) v (by omega) (Ne.symm e) z hz]; exact h2 v (by omega)
        · rw [setB_other_all k (by omega) v hv8 (by omega) z hz]; exact h3 v (by omega) hv8
      · refine ⟨z, hz, h1, fun v hv => ?_, fun v hv hv8 => h3 v (by omega) hv8⟩
        by_cases e : v = k
        · subst e; rw [h3 v (Nat.le_refl _) (by omega)]; exact h v (by omega) hd
        · exact h2 v (by omega)
  obtain ⟨z, hz, h1, h2, _⟩ := key 8 (by omega)
  rw [← h1, bits_ext hz hy h2]
theorem tbl_bits : ∀ c0 c1 c2 c3 : Bool, ∀ a b : Bool, (c0.toNat + 2 * c1.toNat + 4 * c2.toNat + 8 * c3.toNat).testBit (a.toNat + 2 * b.toNat) = (if a then (if b then c3 else c1) else (if b then c2 else c0)) := by decide
theorem two_var {p q : Nat} (hp : p < 8) (hq : q < 8) (hne : p ≠ q) (h : ∀ v : Nat, v < 8 → v ≠ p → v ≠ q → depF f v = false) (hs : supF f ≠ 0) : ∃ n, 1 ≤ n ∧ n ≤ 14 ∧ f = tblF p q n := by
  have hr := rep_all p hp q hq hne
  have hbit : ∀ x, x < 256 → f.getLsbD x = f.getLsbD (rep p q (x.testBit p) (x.testBit q)) := fun x hx => by
    have := hr (x.testBit p) (x.testBit q)
    refine dep_agree hx this.1 fun v hv hd => ?_
    by_cases e1 : v = p
    · subst e1; exact this.2.1.symm
    · by_cases e2 : v = q
      · subst e2; exact this.2.2.symm
      · rw [h v hv e1 e2] at hd; cases hd
  generalize hc0 : f.getLsbD (rep p q false false) = c0
  generalize hc1 : f.getLsbD (rep p q true false) = c1
  generalize hc2 : f.getLsbD (rep p q false true) = c2
  generalize hc3 : f.getLsbD (rep p q true true) = c3
  have he : f = tblF p q (c0.toNat + 2 * c1.toNat + 4 * c2.toNat + 8 * c3.toNat) := by
    refine cof_ext fun x hx => ?_
    rw [tblF, bt_rows hx, tbl_bits, hbit x hx]
    cases x.testBit p <;> cases x.testBit q <;> simp [hc0, hc1, hc2, hc3]
  refine ⟨_, ?_, ?_, he⟩
  · refine Nat.pos_of_ne_zero fun h0 => hs ?_
    rw [h0] at he
    have : f = constF false := by rw [he]; refine cof_ext fun x hx => ?_; rw [tblF, bt_rows hx, bt_const hx]; simp
    rw [this]; exact sup_constF
  · refine Nat.le_of_not_lt fun h0 => hs ?_
    have h15 : c0.toNat + 2 * c1.toNat + 4 * c2.toNat + 8 * c3.toNat = 15 := by
      exact (by decide : ∀ c0 c1 c2 c3 : Bool, 14 < c0.toNat + 2 * c1.toNat + 4 * c2.toNat + 8 * c3.toNat → c0.toNat + 2 * c1.toNat + 4 * c2.toNat + 8 * c3.toNat = 15) c0 c1 c2 c3 h0
    rw [h15] at he
    have : f = constF true := by
      rw [he]; refine cof_ext fun x hx => ?_; rw [tblF, bt_rows hx, bt_const hx]
      cases x.testBit p <;> cases x.testBit q <;> decide
    rw [this]; exact sup_constF
theorem size_77 (ho : AllOnce ord) : sizeF ord [f] ≤ 77 := by
  obtain ⟨ns, hn⟩ := nodes_ex ord [f]
  obtain ⟨p, hp, hp'⟩ := ho.rng 6 (by decide)
  obtain ⟨q, hq, hq'⟩ := ho.rng 7 (by decide)
  have hne : p ≠ q := fun e => by
    subst e
    exact absurd (ho.once 6 7 _ hp' hq') (by decide)
  rw [← hn.size]
  have hlen : (lev ord f 0 ++ (lev ord f 1 ++ (lev ord f 2 ++ (lev ord f 3 ++ (lev ord f 4 ++ (lev ord f 5 ++ (List.range 14).map fun n => tblF p q (n + 1))))))).length = 77 := by
    simp only [List.length_append, lev_len, List.length_map, List.length_range]
  rw [← hlen]
  refine sub_len hn.nodup fun g hg => ?_
  obtain ⟨h1, h2⟩ := (hn.mem g).1 hg
  obtain ⟨j, hj, hl⟩ := rch_lev ho.len h1
  simp only [List.mem_append]
  by_cases h6 : j ≤ 5
  · rcases (by omega : j = 0 ∨ j = 1 ∨ j = 2 ∨ j = 3 ∨ j = 4 ∨ j = 5) with rfl | rfl | rfl | rfl | rfl | rfl
    · exact .inl hl
    · exact .inr (.inl hl)
    · exact .inr (.inr (.inl hl))
    · exact .inr (.inr (.inr (.inl hl)))
    · exact .inr (.inr (.inr (.inr (.inl hl))))
    · exact .inr (.inr (.inr (.inr (.inr (.inl hl)))))
  · have hd := lev_dep hl
    obtain ⟨n, n1, n2, hgn⟩ := two_var hp hq hne (f := g) (fun v hv e1 e2 => by
      obtain ⟨i, hi, hiv⟩ := ho.all v hv
      have hov : ov ord i = v := by rw [ov, List.getD_eq_getElem?_getD, hiv]; rfl
      have : i < 6 := by
        rcases (by omega : i < 6 ∨ i = 6 ∨ i = 7) with h | rfl | rfl
        · exact h
        · rw [hp'] at hiv; injection hiv with h; omega
        · rw [hq'] at hiv; injection hiv with h; omega
      rw [← hov]; exact hd i (by omega)) h2
    refine .inr (.inr (.inr (.inr (.inr (.inr ?_)))))
    exact List.mem_map.2 ⟨n - 1, List.mem_range.2 (by omega), by rw [hgn]; congr 1; omega⟩
def mayF (ord : List Int) : Bool := (List.range 8).all fun v => ord.count (v : Int) == 1
end
end Go.Bx

namespace Go.Bx
open Go
set_option linter.unusedSimpArgs false
set_option linter.unusedVariables false
section
variable {s s' : Md} {n m v lo hi : Int} {f g h : Fun8} {L K : List Fun8}
theorem OrdOK.once {ord : List Int} (O : OrdOK ord) : AllOnce ord := by
  refine ⟨O.len, fun v hv => ?_, fun j hj => ?_, O.one⟩
  · obtain ⟨k, hk, he⟩ := O.all v (by omega) (by omega)
    exact ⟨k, hk, he⟩
  · have hl := O.len
    obtain ⟨x, hx⟩ : ∃ x, ord[j]? = some x := ⟨ord[j], List.getElem?_eq_getElem (by omega)⟩
    have h := O.rng j x hx
    exact ⟨x.toNat, by omega, by rw [hx]; congr 1; omega⟩
open Classical in
noncomputable def Md.tab (s : Md) (n : Int) : Fun8 := if h : ∃ f, Den s n f then Classical.choose h else constF false
theorem Md.tab_den (d : Den s n f) : s.tab n = f := by
  have h : ∃ f, Den s n f := ⟨f, d⟩
  unfold Md.tab
  rw [dif_pos h]
  exact (Classical.choose_spec h).fn d
def Md.Full (s : Md) (L : List Fun8) : Prop := ∀ n f, s.has n = true → Den s n f → Rch s.ord L f
theorem Md.Full.sub (h : s.Full L) (hl : ∀ f ∈ L, f ∈ K) : s.Full K := fun n f hn d => (h n f hn d).sub hl
theorem node_sup (G : s.Good []) (hn : s.has n = true) (d : Den s n f) : supF f ≠ 0 := fun e => by
  have := G.top hn d
  rw [supF_zero.1 e] at this; cases this
theorem map_nodup {α β : Type} {q : α → β} : ∀ {l : List α}, l.Nodup → (∀ x ∈ l, ∀ y ∈ l, q x = q y → x = y) → (l.map q).Nodup
  | [], _, _ => List.nodup_nil
  | a :: l, hn, hi => by
    have hn' := List.nodup_cons.1 hn
    rw [List.map_cons, List.nodup_cons]
    refine ⟨fun hm => ?_, map_nodup hn'.2 fun x hx y hy => hi x (by simp [hx]) y (by simp [hy])⟩
    obtain ⟨y, hy, he⟩ := List.mem_map.1 hm
    have := hi y (by simp [hy]) a (by simp) he
    subst this; exact hn'.1 hy
theorem Md.Good.tabs (G : s.Good []) : (s.all.map s.tab).Nodup ∧ ∀ f, f ∈ s.all.map s.tab ↔ ∃ n, s.has n = true ∧ Den s n f := by
  have td : ∀ n, s.has n = true → Den s n (s.tab n) := fun n hn => by
    obtain ⟨f, d⟩ := G.has_den (.inr (.inr hn))
    rw [Md.tab_den d]; exact d
  refine ⟨map_nodup Md.nodup_all fun x hx y hy he => ?_, fun f => ?_⟩
  · have dx := td x (G.wf.mem_all.1 hx)
    have dy := td y (G.wf.mem_all.1 hy)
    rw [← he] at dy
    exact G.canon dx dy
  · rw [List.mem_map]
    constructor
    · rintro ⟨n, hn, rfl⟩
      exact ⟨n, G.wf.mem_all.1 hn, td n (G.wf.mem_all.1 hn)⟩
    · rintro ⟨n, hn, d⟩
      exact ⟨n, G.wf.mem_all.2 hn, Md.tab_den d⟩
theorem Md.Full.many (G : s.Good []) (hF : s.Full L) : s.a.many ≤ sizeF s.ord L := by
  obtain ⟨ns, hns⟩ := nodes_ex s.ord L
  have t := G.tabs
  have := sub_len t.1 (m := ns) fun f hf => by
    obtain ⟨n, hn, d⟩ := (t.2 f).1 hf
    exact (hns.mem f).2 ⟨hF n f hn d, node_sup G hn d⟩
  rw [List.length_map, hns.size] at this
  have := G.wf.len_all
  omega
theorem Md.Full.less (G : s.Good []) (hF : s.Full L) (hg : Rch s.ord L g) (hs : supF g ≠ 0) (hno : ∀ n, ¬ Den s n g) : s.a.many < sizeF s.ord L := by
  obtain ⟨ns, hns⟩ := nodes_ex s.ord L
  have t := G.tabs
  have := sub_len (l := g :: s.all.map s.tab) (List.nodup_cons.2 ⟨fun hm => by obtain ⟨n, _, d⟩ := (t.2 g).1 hm; exact hno n d, t.1⟩) (m := ns) fun f hf => by
    rcases List.mem_cons.1 hf with rfl | hf
    · exact (hns.mem f).2 ⟨hg, hs⟩
    · obtain ⟨n, hn, d⟩ := (t.2 f).1 hf
      exact (hns.mem f).2 ⟨hF n f hn d, node_sup G hn d⟩
  rw [List.length_cons, List.length_map, hns.size] at this
  have := G.wf.len_all
  omega
theorem kid_den (G : s.Good []) (d : Den s n f) (hk : g ∈ kids s.ord f) : ∃ m, Den s m g := by
  unfold kids at hk
  by_cases ht : 0 ≤ topF s.ord f
  · rw [if_pos ht] at hk
    have hd := topF_dep ht
    have ⟨hn, hl⟩ := G.dep d hd
    have hl2 := (top_first G.wf.ord (G.top hn d)).2
    have hv : (s.nd n).1 = topF s.ord f := G.wf.ord.inj (G.node n hn (by simp)).var (top_rng ht) (by omega)
    have ⟨d0, d1⟩ := G.sides d hn
    rw [hv] at d0 d1
    simp only [List.mem_cons, List.not_mem_nil, or_false] at hk
    rcases hk with rfl | rfl
    · exact ⟨_, d0⟩
    · exact ⟨_, d1⟩
  · rw [if_neg ht] at hk; cases hk
theorem rch_den (G : s.Good []) (hd : ∀ f ∈ L, ∃ n, Den s n f) (hr : Rch s.ord L g) : ∃ n, Den s n g := by
  induction hr with
  | base h => exact hd _ h
  | step _ hk ih => obtain ⟨n, d⟩ := ih; exact kid_den G d hk
theorem Md.Full.size (G : s.Good []) (hF : s.Full L) (hd : ∀ f ∈ L, ∃ n, Den s n f) : s.a.many = sizeF s.ord L := by
  obtain ⟨ns, hns⟩ := nodes_ex s.ord L
  have t := G.tabs
  have h1 := hF.many G
  have := sub_len hns.nodup (m := s.all.map s.tab) fun f hf => by
    obtain ⟨hr, hs⟩ := (hns.mem f).1 hf
    obtain ⟨n, d⟩ := rch_den G hd hr
    refine (t.2 f).2 ⟨n, ?_, d⟩
    rcases d.there with e | e | e
    · subst e; rw [d.zero] at hs; exact absurd sup_constF hs
    · subst e; rw [d.one] at hs; exact absurd sup_constF hs
    · exact e
  rw [List.length_map, hns.size] at this
  have := G.wf.len_all
  omega
theorem Md.Full.mk (G : s.Good []) (hF : s.Full L) (hv : 0 ≤ v ∧ v < 8) (h0 : s.below lo v = true) (h1 : s.below hi v = true) (d0 : Den s lo (cofF f v false)) (d1 : Den s hi (cofF f v true)) (hf : Rch s.ord L f) : (s.mk' [] v lo hi).2.Full L := by
  obtain ⟨G2, l2, _⟩ := G.mks v lo hi
  rcases G.mk_err hv h0 h1 with e | ⟨_, e, _⟩
  · obtain ⟨_, hh, hdn⟩ := G.made hv h0 h1 rfl e
    have dn := hdn _ _ d0 d1
    rw [ite_cof] at dn
    intro n f' hn d
    rw [l2.ord]
    rcases hh n hn with h | ⟨rfl, _⟩
    · obtain ⟨f2, d2⟩ := G.has_den (.inr (.inr h))
      rw [d.fn (d2.mono l2)]
      exact hF n f2 h d2
    · rw [d.fn dn]; exact hf
  · rw [e]; exact hF
theorem bld_flat (G : s.Good []) (ht : ¬ 0 ≤ topF s.ord f) : s.bld f = ((if f.getLsbD 0 then 1 else 0, 0), s) := by
  refine G.bld_ex ?_
  have hf := top_flat G.wf.ord (f := f) (by omega)
  have := den_const (s := s) (f.getLsbD 0)
  rwa [← hf] at this
theorem bld_full : ∀ (k : Nat) (s : Md) (f : Fun8), s.Good [] → nv f ≤ k → s.Full L → Rch s.ord L f → (s.bld f).2.Full L ∧ ((s.bld f).1.2 ≠ 0 → s.a.most < sizeF s.ord L) := by
  intro k
  induction k with
  | zero =>
    intro s f G hk hF hr
    have ht : ¬ 0 ≤ topF s.ord f := fun h => by have := nv_cof (b := false) (topF_dep h); omega
    rw [bld_flat G ht]
    exact ⟨hF, fun h => absurd rfl h⟩
  | succ k ih =>
    intro s f G hk hF hr
    by_cases ht : 0 ≤ topF s.ord f
    rotate_left
    · rw [bld_flat G ht]
      exact ⟨hF, fun h => absurd rfl h⟩
    have hd := topF_dep ht
    have hsp := bld_top G ht
    have hrt := top_rng ht
    have hbe := fun b u hu => cof_behind (f := f) (b := b) (u := u) G.wf.ord ht hu
    have n0 := nv_cof (b := false) hd
    have n1 := nv_cof (b := true) hd
    have r0 : Rch s.ord L (cofF f (topF s.ord f) false) := .step hr (by unfold kids; rw [if_pos ht]; simp)
    have r1 : Rch s.ord L (cofF f (topF s.ord f) true) := .step hr (by unfold kids; rw [if_pos ht]; simp)
    generalize topF s.ord f = v at hd hsp hrt hbe n0 n1 r0 r1
    obtain ⟨F0, E0⟩ := ih s (cofF f v false) G (by omega) hF r0
    rcases hsp with ⟨e0, eR⟩ | ⟨a, s0, e0, G0, L0, D0, hsp⟩
    · rw [eR]; exact ⟨F0, E0⟩
    rw [e0] at F0
    obtain ⟨F1, E1⟩ := ih s0 (cofF f v true) G0 (by omega) F0 (by rw [L0.ord]; exact r1)
    rw [L0.ord, L0.most] at E1
    rcases hsp with ⟨e1, eR⟩ | ⟨b, s1, e1, G1, L1, D1, eR⟩
    · rw [eR]; exact ⟨F1, E1⟩
    rw [e1] at F1
    dsimp only at F1
    have o1 : s1.ord = s.ord := (L0.trans L1).ord
    have b0 : s1.below a v = true := G1.belowF (D0.mono L1) fun u hu => by rw [o1]; exact hbe false u hu
    have b1 : s1.below b v = true := G1.belowF D1 fun u hu => by rw [o1]; exact hbe true u hu
    rw [eR]
    refine ⟨F1.mk G1 hrt b0 b1 (D0.mono L1) D1 (by rw [o1]; exact hr), fun he => ?_⟩
    rcases G1.mk_err hrt b0 b1 with e | ⟨_, _, hm⟩
    · exact absurd e he
    have hno : ∀ n, ¬ Den s1 n f := fun n d => by
      have ⟨hn, hl⟩ := G1.dep d hd
      have h2 : lvl s1.ord v ≤ lvl s1.ord (s1.nd n).1 := by
        have hdn := G1.top hn d
        by_cases e : (s1.nd n).1 = v
        · rw [e]; exact Int.le_refl _
        · rw [o1]
          by_cases hc : depF (cofF f v false) (s1.nd n).1 = true
          · have := hbe false _ hc; omega
          · by_cases hc1 : depF (cofF f v true) (s1.nd n).1 = true
            · have := hbe true _ hc1; omega
            · exfalso
              have hf : f = iteF (varF v) (cofF f v true) (cofF f v false) := ite_cof.symm
              rw [hf] at hdn
              rcases dep_node hdn with h | h | h
              · exact e h
              · exact hc1 h
              · exact hc h
      have hv : (s1.nd n).1 = v := G1.wf.ord.inj (G1.node n hn (by simp)).var hrt (by omega)
      have ⟨d0, d1⟩ := G1.sides d hn
      rw [hv] at d0 d1
      have h3 := G1.mk_ex hn
      rw [hv, G1.canon d0 (D0.mono L1), G1.canon d1 D1] at h3
      rw [h3] at he
      exact he rfl
    have := F1.less G1 (by rw [o1]; exact hr) (fun e => by rw [supF_zero.1 e] at hd; cases hd) hno
    rw [o1] at this
    rw [hm, (L0.trans L1).most] at this
    exact this
theorem Md.Good.bld_app (G : s.Good []) (hF : s.Full L) (f : Fun8) : (s.bld f).2.Full (L ++ [f]) := (bld_full (L := L ++ [f]) 8 s f G nv_le (hF.sub fun g hg => by simp [hg]) (.base (by simp))).1
theorem Md.Good.bld_ok (G : s.Good []) (hF : s.Full L) (f : Fun8) (hr : sizeF s.ord (L ++ [f]) ≤ s.a.most) : (s.bld f).1.2 = 0 := by
  by_cases h : (s.bld f).1.2 = 0
  · exact h
  · have := (bld_full (L := L ++ [f]) 8 s f G nv_le (hF.sub fun g hg => by simp [hg]) (.base (by simp))).2 h
    omega
theorem size_77s (ho : AllOnce s.ord) : ∀ L : List Fun8, sizeF s.ord L ≤ 77 * L.length
  | [] => by
    have h : IsNodes s.ord ([] : List Fun8) [] := ⟨List.nodup_nil, fun f => ⟨fun h => (by cases h), fun h => by
      exfalso
      obtain ⟨hr, hs⟩ := h
      clear hs
      induction hr with
      | base h => cases h
      | step _ _ ih => exact ih⟩⟩
    rw [← h.size]; simp
  | f :: L => by
    have h1 := size_77s ho L
    have h2 := size_77 (f := f) ho
    have h3 := size_app (ord := s.ord) (l := [f]) (k := L)
    rw [List.length_cons]
    have : [f] ++ L = f :: L := rfl
    rw [this] at h3
    omega
end
end Go.Bx

namespace Go.Bx
open Go
set_option linter.unusedSimpArgs false
set_option linter.unusedVariables false
def Md.there (s : Md) (n : Int) : Bool := decide (n = 0) || (decide (n = 1) || s.has n)
noncomputable def Md.ite (s : Md) (a b c : Int) : (Int × Int) × Md := if s.there a && (s.there b && s.there c) then s.bld (iteF (s.tab a) (s.tab b) (s.tab c)) else ((0, 1), s)
noncomputable def Md.xor (s : Md) (a b : Int) : (Int × Int) × Md := if s.there a && s.there b then (if (s.ite b 0 1).1.2 = 0 then (s.ite b 0 1).2.ite a (s.ite b 0 1).1.1 b else s.ite b 0 1) else ((0, 1), s)
section
variable {s s' : Md} {n m a b c : Int} {f g h : Fun8} {L : List Fun8}
structure Itt (s : Md) (r : (Int × Int) × Md) : Prop where
  good : r.2.Good []
  le : s.Le r.2
  err : r.1.2 = 0 ∨ r.1.2 = 1 ∨ r.1.2 = 2
  zero : r.1.2 ≠ 0 → r.1.1 = 0
  there : r.1.2 = 0 → r.2.there r.1.1 = true
end
end Go.Bx

namespace Go.Bx
open Go
set_option linter.unusedSimpArgs false
set_option linter.unusedVariables false
section
variable {s s' : Md} {n m a b c v : Int} {f g h : Fun8} {L K : List Fun8} {ord : List Int}
structure Ro (s : Md) (L : List Fun8) (M : Int) : Prop where
  good : s.Good []
  full : s.Full L
  most : s.a.most = M
theorem Ro.bld {M : Int} (R : Ro s L M) (f : Fun8) (hm : sizeF s.ord (L ++ [f]) ≤ M) : ∃ n s', s.bld f = ((n, 0), s') ∧ Ro s' (L ++ [f]) M ∧ s.Le s' ∧ Den s' n f := by
  have bl := R.good.bld f
  have ok := R.good.bld_ok R.full f (by rw [R.most]; exact hm)
  have F := R.good.bld_app R.full f
  obtain ⟨⟨⟨n, e⟩, s'⟩, hR⟩ : ∃ R, s.bld f = R := ⟨_, rfl⟩
  rw [hR] at bl ok F
  dsimp only at ok F
  subst ok
  rcases bl.res with ⟨_, d⟩ | ⟨e, _⟩
  · exact ⟨n, s', hR, ⟨bl.good, F, bl.le.most.trans R.most⟩, bl.le, d⟩
  · cases e
theorem Ro.size {M : Int} (R : Ro s L M) (h : 77 * ((L.length : Int) + 1) ≤ M) : sizeF s.ord (L ++ [f]) ≤ M := by
  have := size_77s R.good.wf.ord.once (L ++ [f])
  rw [List.length_append, List.length_singleton] at this
  omega
theorem Ro.new {M : Int} (h0 : 0 ≤ M) (h1 : M ≤ 20000) : Ro (Md.new M) [] M := ⟨Md.Good.start h0 h1, fun n f hn => by
  have : (Md.new M).has n = false := by
    cases h : (Md.new M).has n with
    | false => rfl
    | true =>
      have := (Md.Good.start h0 h1).wf.lt h
      have e : (Md.new M).N.length = 0 := rfl
      omega
  rw [this] at hn
  exact absurd hn (by simp), rfl⟩
end
end Go.Bx

namespace Go.Proofs.Ytpeindhocndmnaa
open Go Go.Bx
set_option linter.unusedSimpArgs false
set_option linter.unusedVariables false
set_option maxRecDepth 100000
set_option maxHeartbeats 4000000
attribute [local irreducible] X XO XE XF XD XW thenX inX retX kN CallsR
section
variable {W w w' : World} {ps : Nat} {s s' : Md} {f : Fun8} {L : List Fun8} {M n : Int}
theorem oneNew (h0' : 0 ≤ M) (h1' : M ≤ 20000) (hE : Ext W w) : CallsR Try.prog 19 #[.int .i64 M] w fun r w' => ∃ p, r = .pointer (some ⟨p, 0, none⟩) ∧ OneI W w' p (Md.new M) := by
  refine (OneI.new h0' h1' w).mono ?_
  rintro r w' ⟨p, hr, o, h1, h2, h3⟩
  exact ⟨p, hr, o, h1, fun k hk => by have := h2 k hk; have := hE.size; omega, hE.trans h3⟩
structure OnR (W w : World) (ps : Nat) (s : Md) (own : Nat → Nat) : Prop where
  sti : StI own w ps s []
  low : ∀ k, own k ≠ 0 → W.heap.size ≤ k
  ext : Ext W w
theorem OneI.to (h : OneI W w ps s) : ∃ own, OnR W w ps s own := by obtain ⟨o, h1, h2, h3⟩ := h; exact ⟨o, h1, h2, h3⟩
theorem OnR.up {own : Nat → Nat} (h : OnR W w ps s own) (hE : Ext w w') : OnR W w' ps s own := ⟨h.sti.ext hE, h.low, h.ext.trans hE⟩
theorem OnR.fresh {own : Nat → Nat} (h : OnR W w ps s own) {k : Nat} (hk : w.heap.size ≤ k) : own k = 0 := by
  cases ho : own k with
  | zero => rfl
  | succ q => have := h.sti.lt k (by omega); omega
theorem OnR.chg {own : Nat → Nat} {F : Nat → Prop} (h : OnR W w ps s own) (hC : Chg F w w') (hF : ∀ k, F k → own k = 0 ∧ W.heap.size ≤ k) : OnR W w' ps s own :=
  ⟨h.sti.chg0 hC fun k hk => (hF k hk).1, h.low, hC.toExt h.ext fun k hk hf => by have := (hF k hf).2; omega⟩
theorem OnR.call {own : Nat → Nat} {fn : FuncId} {args : Array Value} {R : Value → Prop} (h : OnR W w ps s own) (hc : CallsR Try.prog fn args w fun r w' => R r ∧ TrI own w ps s' [] w') :
    CallsR Try.prog fn args w fun r w' => R r ∧ ∃ own', OnR W w' ps s' own' ∧ Sw own w own' w' := by
  refine hc.mono ?_
  rintro r w' ⟨hr, a', g1, ho, hC⟩
  have hsW := h.ext.size
  refine ⟨hr, a', ⟨g1, fun k hk => ?_, hC.toExt h.ext fun k hk hf => by have := h.low k hf; omega⟩, ⟨ho, hC⟩⟩
  by_cases hl : k < w.heap.size
  · exact h.low k (by rw [← ho k hl]; exact hk)
  · omega
theorem Sw.own0 {own own1 : Nat → Nat} {w1 : World} (h : Sw own w own1 w1) {k : Nat} (hk : k < w.heap.size) (h0 : own k = 0) : own1 k = 0 := (h.ho k hk).trans h0
theorem Sw.slc {own own1 : Nat → Nat} {w1 : World} {E : TypeId} {a : Option Addr} {cap : Nat} {l : List Value} (h : Sw own w own1 w1) (hS : SlC w E a cap l) (h0 : ∀ g, blk a = some g → own g = 0) : SlC w1 E a cap l := hS.keep fun g hg => (h.out (hS.lt hg) (h0 g hg)).2
theorem onBuild {own : Nat → Nat} (h : OnR W w ps s own) (R : Ro s L M) (f : Fun8) (hm : sizeF s.ord (L ++ [f]) ≤ M) : CallsR Try.prog 33 #[.pointer (some ⟨ps, 0, none⟩), fv f] w fun r w' => ∃ n s' own', r = .tuple #[.int .i64 n, .nilIface] ∧ OnR W w' ps s' own' ∧ Sw own w own' w' ∧ Ro s' (L ++ [f]) M ∧ s.Le s' ∧ Den s' n f := by
  obtain ⟨n, s', e, R', l, d⟩ := R.bld f hm
  have hb := rdBuildTop_calls h.sti R.good f
  rw [e, errV0] at hb
  refine (h.call (R := fun r => r = .tuple #[.int .i64 n, .nilIface]) hb).mono ?_
  rintro r w' ⟨hr, own', hC, hS⟩
  exact ⟨n, s', own', hr, hC, hS, R', l, d⟩
end
end Go.Proofs.Ytpeindhocndmnaa

namespace Go.Proofs.Ytpeindhocndmnaa
open Go Go.Bx
set_option linter.unusedSimpArgs false
set_option linter.unusedVariables false
set_option maxRecDepth 100000
set_option maxHeartbeats 4000000
attribute [local irreducible] X XO XE XF XD XW thenX inX retX kN CallsR
section
variable {w : World} {b ck : Nat} {es : List (Ent Int)} {v : Value} {n : Int}
theorem luI1 (h : w.heap[b]? = some (mObj (Value.int .i64) es ck)) : luO Try.prog 150 b (.int .i64 n) false w (some (mObj (Value.int .i64) es ck)) h = .ok ((mget es n).getD (.int .i64 0)) w := lookup_at h T150 T3 (intK T3.und) trivial (fun _ _ => trivial) false
theorem muI (h : w.heap[b]? = some (mObj (Value.int .i64) es ck)) : muO Try.prog 150 b (.int .i64 n) v w (some (mObj (Value.int .i64) es ck)) h = .ok () (upd w b (mObj (Value.int .i64) (mput es n v ck) (mclock es n ck))) := update_at h T150 (intK T3.und) trivial (fun _ _ => trivial) v
attribute [push_cast] luI1 muI
theorem nod_has {s : Md} (hh : s.has n = true) : s.node n = (s.nd n, true) := by unfold Md.node; rw [hh]; rfl
theorem nod_no {s : Md} (hh : s.has n = false) : s.node n = ((0, 0, 0), false) := by unfold Md.node; rw [hh]; rfl
end
end Go.Proofs.Ytpeindhocndmnaa

namespace Go.Bx
open Go
set_option linter.unusedSimpArgs false
set_option linter.unusedVariables false
section
variable {P : Program} {Q : Exit → Env → World → Prop} {e : Env} {w : World} {a b c k : GCode} {D : List Nat}
theorem cu3_ (M : World → Env → World → Prop) (h : X P (.seq a (.seq b (.seq c .skip))) (thenX (M w) Q) e w) (h2 : ∀ e' w', (∀ i, D.contains i = false → e' i = e i) → M w e' w' → X P k Q e' w')
    (hD : dG (.seq a (.seq b (.seq c .skip))) = D := by (simp only [dG, List.filterMap_cons, List.filterMap_nil, List.cons_append, List.nil_append, List.append_nil] <;> rfl)) : X P (.seq a (.seq b (.seq c k))) Q e w := by
  have hf := X_frame (P := P) (D := D) (.seq a (.seq b (.seq c .skip))) (fun x hx => by rw [hD] at hx; exact hx) h
  have h3 := X_mono (.seq a (.seq b (.seq c .skip))) (Q' := thenX (X P k Q) Q) (fun ex e' w' hq => by
    cases ex with
    | normal => exact h2 e' w' hq.2 hq.1
    | _ => exact hq.1) hf
  have e1 : X P (.seq a (.seq b (.seq c .skip))) (thenX (X P k Q) Q) e w = X P (.seq a (.seq b (.seq c k))) Q e w := by
    have es : ∀ e w, X P .skip (thenX (X P k Q) Q) e w = X P k Q e w := fun e w => rfl
    have es' : X P .skip (thenX (X P k Q) Q) = X P k Q := funext fun e => funext fun w => es e w
    unfold X
    rw [then_then]
    congr 1
    congr 1
    funext e w
    unfold X
    rw [then_then]
    congr 1
    congr 1
    funext e w
    unfold X
    rw [then_then, es']
  rw [← e1]; exact h3
theorem seq_skip_k {a : GCode} {K : Env → World → Prop} {B B' : GCode} (h : X P B (thenX K Q) = X P B' Q) : X P (.seq a B) (thenX K Q) = X P (.seq a B') Q := by
  funext e w
  show X P a (thenX (X P B (thenX K Q)) (thenX K Q)) e w = X P a (thenX (X P B' Q) Q) e w
  rw [then_then, h]
variable {a1 a2 a3 a4 a5 a6 a7 : GCode}
theorem cu2_ (M : World → Env → World → Prop) (h : X P (.seq a1 (.seq a2 .skip)) (thenX (M w) Q) e w) (h2 : ∀ e' w', (∀ i, D.contains i = false → e' i = e i) → M w e' w' → X P k Q e' w')
    (hD : dG (.seq a1 (.seq a2 .skip)) = D := by (simp only [dG, List.filterMap_cons, List.filterMap_nil, List.cons_append, List.nil_append, List.append_nil] <;> rfl)) : X P (.seq a1 (.seq a2 k)) Q e w := by
  have hf := X_frame (P := P) (D := D) _ (fun x hx => by rw [hD] at hx; exact hx) h
  have h3 := X_mono _ (Q' := thenX (X P k Q) Q) (fun ex e' w' hq => by
    cases ex with
    | normal => exact h2 e' w' hq.2 hq.1
    | _ => exact hq.1) hf
  have e0 : X P .skip (thenX (X P k Q) Q) = X P k Q := rfl
  rw [seq_skip_k (seq_skip_k e0)] at h3
  exact h3
theorem cu1_ (M : World → Env → World → Prop) (h : X P (.seq a1 .skip) (thenX (M w) Q) e w) (h2 : ∀ e' w', (∀ i, D.contains i = false → e' i = e i) → M w e' w' → X P k Q e' w')
    (hD : dG (.seq a1 .skip) = D := by (simp only [dG, List.filterMap_cons, List.filterMap_nil, List.cons_append, List.nil_append, List.append_nil] <;> rfl)) : X P (.seq a1 k) Q e w := by
  have hf := X_frame (P := P) (D := D) _ (fun x hx => by rw [hD] at hx; exact hx) h
  have h3 := X_mono _ (Q' := thenX (X P k Q) Q) (fun ex e' w' hq => by
    cases ex with
    | normal => exact h2 e' w' hq.2 hq.1
    | _ => exact hq.1) hf
  have e0 : X P .skip (thenX (X P k Q) Q) = X P k Q := rfl
  rw [seq_skip_k e0] at h3
  exact h3
end
end Go.Bx

namespace Go.Proofs.Ytpeindhocndmnaa
open Go Go.Bx
set_option linter.unusedSimpArgs false
set_option linter.unusedVariables false
set_option maxRecDepth 100000
set_option maxHeartbeats 4000000
attribute [local irreducible] X XO XE XF XD XW thenX inX retX kN CallsR
def lays125_ren : Go.Shelf.Ren := ⟨fun | 125 => 153 | 128 => 172 | 129 => 173 | n => n, fun | 46 => 126 | 3 => 3 | 51 => 204 | 53 => 52 | 4 => 4 | 5 => 5 | 9 => 9 | n => n, fun | n => n⟩
theorem lays125 : Go.Proofs.Lays.n125 Try.prog lays125_ren := {
  mixed := by kernel_rfl
  f125 := Try.func153.trans (congrArg some (by kernel_rfl))
  f128 := Try.func172.trans (congrArg some (by kernel_rfl))
  f129 := Try.func173.trans (congrArg some (by kernel_rfl))
  t3 := Try.underlying3
  a3 := Try.isAgg3
  z3 := Try.sizeOf3
  v3 := Try.zeroValue3
  t4 := Try.underlying4
  a4 := Try.isAgg4
  z4 := Try.sizeOf4
  v4 := Try.zeroValue4
  t5 := Try.underlying5
  a5 := Try.isAgg5
  z5 := Try.sizeOf5
  v5 := Try.zeroValue5
  t9 := Try.underlying9
  a9 := Try.isAgg9
  z9 := Try.sizeOf9
  v9 := Try.zeroValue9
  t46 := Try.underlying126
  a46 := Try.isAgg126
  z46 := Try.sizeOf126
  v46 := Try.zeroValue126
  t51 := Try.underlying204
  a51 := Try.isAgg204
  z51 := Try.sizeOf204
  v51 := Try.zeroValue204
  t53 := Try.underlying52
  a53 := Try.isAgg52
  z53 := Try.sizeOf52
  v53 := Try.zeroValue52 }
theorem bitsLen_sure (x : Int) (h0 : 0 ≤ x) (h1 : x ≤ 18446744073709551615) : Sure Try.prog 153 #[.int .u64 x] (.int .i64 (Lib.bitLen x.toNat)) := fun w => by
  have h : Calls Try.prog 153 #[.int .u64 x] w (fun e w' => e = .returned (.int .i64 (Lib.bitLen x.toNat)) ∧ w' = w) := Any.bits_Len lays125 x w h0 h1
  unfold CallsR
  exact h.mono fun en w' ⟨h, hw⟩ => ⟨_, h, rfl, hw ▸ Ext.refl w⟩
theorem bitLen_up {n : Nat} (h0 : 0 < n) (h1 : n < 2 ^ 63) : 2 ^ Lib.bitLen n ≤ 2 * n ∧ Lib.bitLen n ≤ 63 := by
  refine ⟨?_, Lib.bitLen_le n 63 (by decide) h1⟩
  rcases hk : Lib.bitLen n with _ | k
  · omega
  · by_cases h : n < 2 ^ k
    · have := Lib.bitLen_le n k (by have := Lib.bitLen_le n 63 (by decide) h1; omega) h
      omega
    · rw [Nat.pow_succ]; omega
theorem swap_perm {l : List Int} {i j : Nat} (hi : i < l.length) (hj : j < l.length) : ((l.set i (l.getD j 0)).set j (l.getD i 0)).Perm l := by
  have key : ∀ a b, a = l[j] → b = l[i] → ((l.set i a).set j b).Perm l := by
    intro a b ha hb
    rw [List.perm_iff_count]
    intro x
    rw [List.count_set (by simpa using hj), List.count_set hi, List.getElem_set]
    have c1 : (if (l[i] == x) = true then 1 else 0) ≤ List.count x l := by
      split
      · rename_i h
        exact List.count_pos_iff.2 (by have := List.getElem_mem hi; rwa [eq_of_beq h] at this)
      · omega
    subst hb
    by_cases hij : i = j
    · subst hij
      subst ha
      rw [if_pos rfl]
      omega
    · rw [if_neg hij]
      subst ha
      omega
  exact key _ _ (by rw [List.getD, List.getElem?_eq_getElem hj]; rfl) (by rw [List.getD, List.getElem?_eq_getElem hi]; rfl)
structure Pm (w0 : World) (g cap : Nat) (l0 : List Int) (w : World) (l : List Int) : Prop where
  perm : l.Perm l0
  sl : SlC w 3 (some ⟨g, 0, none⟩) cap (ints l)
  ch : Chg (fun k => k = g) w0 w
section
variable {w w0 w1 w' : World} {g cap : Nat} {l0 l l1 : List Int} {cur : Array Value} {i j : Int}
theorem Pm.start (h : SlC w 3 (some ⟨g, 0, none⟩) cap (ints l)) : Pm w g cap l w l := ⟨List.Perm.refl l, h, Chg.refl _ w⟩
theorem Pm.len (h : Pm w0 g cap l0 w l) : l.length = l0.length := h.perm.length_eq
theorem Pm.ext (h : Pm w0 g cap l0 w l) (hE : Ext w w') : Pm w0 g cap l0 w' l := ⟨h.perm, h.sl.ext hE, h.ch.transE hE⟩
theorem Pm.trans (h : Pm w0 g cap l0 w l) (k : Pm w g cap l w' l1) : Pm w0 g cap l0 w' l1 := ⟨k.perm.trans h.perm, k.sl, h.ch.trans k.ch fun _ _ h => h⟩
theorem Pm.cell (h : Pm w0 g cap l0 w l) : ∃ cur, w.heap[g]? = some (.cells cur 3) ∧ g < w.heap.size ∧ l.length ≤ cap ∧ l.length ≤ cur.size ∧ ∀ i : Int, 0 ≤ i → i < l.length → cur[i.toNat]? = some (.int .i64 (l.getD i.toNat 0)) := by
  rcases h.sl.l.row with ⟨e, _⟩ | ⟨g', cur, e, hg, h1, h2, h3, h4⟩
  · cases e
  · cases e
    have hl : (one1 (ints l)).length = l.length := by simp
    rw [hl] at h1 h4
    rw [one1_flat, Nat.mul_one] at h4
    refine ⟨cur, hg, lt_of_heap hg, h1, by omega, fun i h0 hi => ?_⟩
    have : (cur.toList.take l.length)[i.toNat]? = (ints l)[i.toNat]? := by rw [h4]
    rw [List.getElem?_take_of_lt (by omega), Array.getElem?_toList, List.getElem?_map, List.getElem?_eq_getElem (by omega)] at this
    rw [this, List.getD, List.getElem?_eq_getElem (by omega)]; rfl
def Pe (w0 : World) (g cap : Nat) (l0 : List Int) (w : World) : Prop := ∃ l, Pm w0 g cap l0 w l
theorem Pe.ext (h : Pe w0 g cap l0 w) (hE : Ext w w') : Pe w0 g cap l0 w' := by obtain ⟨l, h⟩ := h; exact ⟨l, h.ext hE⟩
theorem Pm.pe (h : Pm w0 g cap l0 w l) : Pe w0 g cap l0 w := ⟨l, h⟩
theorem Pm.swapped (h : Pm w0 g cap l0 w l) (hg : w.heap[g]? = some (.cells cur 3)) (hi : 0 ≤ i ∧ i < l.length) (hj : 0 ≤ j ∧ j < l.length) (hC : Chg (fun k => k = g) w w')
    (hb : w'.heap[g]? = some (.cells ((cur.setIfInBounds i.toNat (.int .i64 (l.getD j.toNat 0))).setIfInBounds j.toNat (.int .i64 (l.getD i.toNat 0))) 3)) : Pe w0 g cap l0 w' := by
  refine ⟨(l.set i.toNat (l.getD j.toNat 0)).set j.toNat (l.getD i.toNat 0), (swap_perm (by omega) (by omega)).trans h.perm, ?_, h.ch.trans hC fun _ _ h => h⟩
  rcases h.sl.l.row with ⟨e, _⟩ | ⟨g', cur', e, hg', h1, h2, h3, h4⟩
  · cases e
  · cases e
    rw [hg] at hg'
    cases hg'
    have hl : (one1 (ints l)).length = l.length := by simp
    rw [hl] at h1 h4
    rw [one1_flat, Nat.mul_one] at h4
    have hl' : (one1 (ints ((l.set i.toNat (l.getD j.toNat 0)).set j.toNat (l.getD i.toNat 0)))).length = l.length := by simp
    refine ⟨⟨?_, .inr ⟨g, _, rfl, hb, by rw [hl']; exact h1, h2, by simpa using h3, ?_⟩⟩, one1_len⟩
    · rw [one1_flat, hl']; simp
    · rw [hl', one1_flat, Nat.mul_one, Array.toList_setIfInBounds, Array.toList_setIfInBounds, List.take_set, List.take_set, h4]
      show ((l.map (Value.int .i64)).set _ _).set _ _ = List.map (Value.int .i64) _
      rw [List.map_set, List.map_set]
end
theorem less_sure (x y : Int) : Sure Try.prog 169 #[.int .i64 x, .int .i64 y] (.bool (decide (x < y))) := by
  intro w
  have nn : ∀ x : Int, Sure Try.prog 180 #[.int .i64 x] (.bool false) := fun x w => by
    refine en1 Try.func180 Try.results180 mixed [] ?_
    intro e0 h0
    refine w_ fun d => ?_
    exact ⟨by simp, ext_⟩
  have n1 := nn x
  have n2 := nn y
  clear nn
  refine en2 Try.func169 Try.results169 mixed [] ?_
  intro e0 h0 h1
  refine w_ fun d => ?_
  refine qq (n1.quiet (w := w)) fun w1 hE1 hs1 => ?_
  refine w_ fun d => ?_
  exact ⟨rfl, ext_⟩
section
variable {w w0 : World} {g cap : Nat} {l : List Int} {a b : Int}
theorem insertion_calls (h : SlC w 3 (some ⟨g, 0, none⟩) cap (ints l)) (hl : l.length ≤ 1000000000) (ha : 0 ≤ a) (hab : a ≤ b) (hb : b ≤ l.length) :
    CallsR Try.prog 163 #[.slice (some ⟨g, 0, none⟩) l.length cap, .int .i64 a, .int .i64 b] w fun r w' => r = .tuple #[] ∧ Pe w g cap l w' := by
  have hP := Pm.start h
  clear h
  refine en3 Try.func163 Try.results163 mixed [(6, [15, 17])] ?_
  intro e0 h0 h1 h2
  refine w_ fun d => ?_
  refine lo_ (fun _ e u => ∃ (i : Int), a < i ∧ i ≤ b + 1 ∧ e 6 = .int .i64 i ∧ Pe w g cap l u) (fun e _ => (b + 2).toNat - nat (e 6)) ?_ ?_
  · exact ⟨a + 1, by omega, by omega, eA rfl, hP.pe.ext ext_⟩
  rintro e u hf ⟨i, hi1, hi2, h6, l1, hP1⟩
  have hl1 := hP1.len
  clear hP
  by_cases hib : i < b
  · refine w_ fun d => ?_
    refine lo_ (fun _ e u => ∃ (j : Int), a ≤ j ∧ j ≤ i ∧ e 7 = .int .i64 j ∧ Pe w g cap l u) (fun e _ => upI (e 7)) ?_ ?_
    · exact ⟨i, by omega, by omega, eA rfl, hP1.pe.ext ext_⟩
    rintro e2 u2 hf2 ⟨j, hj1, hj2, h7, l2, hP2⟩
    have hl2 := hP2.len
    clear hP1
    by_cases hja : a < j
    · obtain ⟨cur, hg, lg, hc, hz, hat⟩ := hP2.cell
      have x1 := hat j (by omega) (by omega)
      have x2 := hat (j - 1) (by omega) (by omega)
      have ls := less_sure (l2.getD j.toNat 0) (l2.getD (j - 1).toNat 0)
      cases hd : decide (l2.getD j.toNat 0 < l2.getD (j - 1).toNat 0)
      · rw [hd] at ls
        clear hat hd
        refine w_ fun d => ?_
        intro u3 hE3 hs3
        refine w_ fun d => ?_
        exact ⟨⟨i + 1, by omega, by omega, eA rfl, hP2.pe.ext ext_⟩, mA⟩
      · rw [hd] at ls
        clear hd
        refine w_ fun d => ?_
        intro u3 hE3 hs3
        have hP3 := hP2.ext hE3
        have hg3 := hE3.at hg
        have lg3 := lt_of_heap hg3
        have sw := fun w' => hP3.swapped (w' := w') (i := j) (j := j - 1) hg3 (by omega) (by omega)
        clear hat hg lg
        have hq : (cur.setIfInBounds j.toNat (.int .i64 (l2.getD (j - 1).toNat 0))).size = cur.size := Array.size_setIfInBounds
        refine w_ fun d => ?_
        exact ⟨⟨j - 1, by omega, by omega, eA rfl, sw _ chg_ (hA rfl)⟩, mS⟩
    · refine w_ fun d => ?_
      exact ⟨⟨i + 1, by omega, by omega, eA rfl, hP2.pe.ext ext_⟩, mA⟩
  · refine w_ fun d => ?_
    exact ⟨rfl, hP1.pe.ext ext_⟩
end
end Go.Proofs.Ytpeindhocndmnaa

namespace Go.Proofs.Ytpeindhocndmnaa
open Go Go.Bx
set_option linter.unusedSimpArgs false
set_option linter.unusedVariables false
set_option maxRecDepth 100000
set_option maxHeartbeats 4000000
attribute [local irreducible] X XO XE XF XD XW thenX inX retX kN CallsR
theorem at_c {P : Program} {f : FuncId} {args : Array Value} {w : World} {K : Value → World → Prop} (h : ∀ u, u = w → CallsR P f args u K) : CallsR P f args w K := h w rfl
section
variable {w w0 : World} {g cap : Nat} {l : List Int} {a b : Int}
theorem reverse_calls (h : SlC w 3 (some ⟨g, 0, none⟩) cap (ints l)) (hl : l.length ≤ 1000000000) (ha : 0 ≤ a) (hab : a ≤ b) (hb : b ≤ l.length) :
    CallsR Try.prog 167 #[.slice (some ⟨g, 0, none⟩) l.length cap, .int .i64 a, .int .i64 b] w fun r w' => r = .tuple #[] ∧ Pe w g cap l w' := by
  have hP := Pm.start h
  clear h
  refine en3 Try.func167 Try.results167 mixed [(3, [13, 15])] ?_
  intro e0 h0 h1 h2
  refine w_ fun d => ?_
  refine lo_ (fun _ e u => ∃ (i j : Int), a ≤ i ∧ i ≤ b ∧ a - 1 ≤ j ∧ j < b ∧ e 6 = .int .i64 i ∧ e 7 = .int .i64 j ∧ Pe w g cap l u) (fun e _ => (b + 2).toNat - nat (e 6)) ?_ ?_
  · exact ⟨a, b - 1, by omega, by omega, by omega, by omega, eA rfl, eA rfl, hP.pe.ext ext_⟩
  rintro e u hf ⟨i, j, hi1, hi2, hj1, hj2, h6, h7, l1, hP1⟩
  have hl1 := hP1.len
  clear hP
  by_cases hij : i < j
  · obtain ⟨cur, hg, lg, hc, hz, hat⟩ := hP1.cell
    have x1 := hat i (by omega) (by omega)
    have x2 := hat j (by omega) (by omega)
    have sw := fun w' => hP1.swapped (w' := w') (i := i) (j := j) hg (by omega) (by omega)
    have hq : (cur.setIfInBounds i.toNat (.int .i64 (l1.getD j.toNat 0))).size = cur.size := Array.size_setIfInBounds
    clear hat
    refine w_ fun d => ?_
    exact ⟨⟨i + 1, j - 1, by omega, by omega, by omega, by omega, eA rfl, eA rfl, sw _ chg_ (hA rfl)⟩, mA⟩
  · refine w_ fun d => ?_
    exact ⟨rfl, hP1.pe.ext ext_⟩
theorem sift_calls {lo hi first : Int} (h : SlC w 3 (some ⟨g, 0, none⟩) cap (ints l)) (hl : l.length ≤ 1000000000) (hlo : 0 ≤ lo) (hlo2 : lo ≤ 1000000000) (hhi : 0 ≤ hi) (hf0 : 0 ≤ first) (hb : first + hi ≤ l.length) :
    CallsR Try.prog 175 #[.slice (some ⟨g, 0, none⟩) l.length cap, .int .i64 lo, .int .i64 hi, .int .i64 first] w fun r w' => r = .tuple #[] ∧ Pe w g cap l w' := by
  have hP := Pm.start h
  clear h
  refine en4 Try.func175 Try.results175 mixed [(6, [21, 23])] ?_
  intro e0 h0 h1 h2 h3
  refine w_ fun d => ?_
  refine lo_ (fun _ e u => ∃ (r : Int), 0 ≤ r ∧ r ≤ 1000000000 ∧ e 8 = .int .i64 r ∧ Pe w g cap l u) (fun e _ => 1000000001 - nat (e 8)) ?_ ?_
  · exact ⟨lo, by omega, by omega, eA rfl, hP.pe.ext ext_⟩
  rintro e u hf ⟨r, hr1, hr2, h8, l1, hP1⟩
  have hl1 := hP1.len
  clear hP
  obtain ⟨c, hc⟩ : ∃ c, 2 * r + 1 = c := ⟨_, rfl⟩
  by_cases hch : hi ≤ c
  · refine w_ fun d => ?_
    exact ⟨rfl, hP1.pe.ext ext_⟩
  · obtain ⟨cur, hg, lg, hcp, hz, hat⟩ := hP1.cell
    have lgw := lg
    refine w_ fun d => ?_
    refine cu2_ (fun W e w' => ∃ c : Int, r < c ∧ c < hi ∧ e 9 = .int .i64 c ∧ Ext W w') ?_ ?_
    · by_cases h1c : c + 1 < hi
      · have x1 := hat (first + c) (by omega) (by omega)
        have x2 := hat (first + c + 1) (by omega) (by omega)
        have ls := less_sure (l1.getD (first + c).toNat 0) (l1.getD (first + c + 1).toNat 0)
        cases hd : decide (l1.getD (first + c).toNat 0 < l1.getD (first + c + 1).toNat 0)
        · rw [hd] at ls
          clear hat hd hP1
          refine w_ fun d => ?_
          intro u3 hE3 hs3
          refine w_ fun d => ?_
          exact ⟨c, by omega, by omega, eA rfl, ext_⟩
        · rw [hd] at ls
          clear hat hd hP1
          refine w_ fun d => ?_
          intro u3 hE3 hs3
          refine w_ fun d => ?_
          exact ⟨c + 1, by omega, by omega, eA rfl, ext_⟩
      · refine w_ fun d => ?_
        exact ⟨c, by omega, by omega, eA rfl, ext_⟩
    rintro e2 u2 hf2 ⟨c2, hc1, hc2, h9, hE2⟩
    have hP2 := hP1.ext (Ext.trans (by exact ext_) hE2 : Ext u u2)
    have hg2 := (Ext.trans (by exact ext_) hE2 : Ext u u2).at hg
    have lg2 := lt_of_heap hg2
    have x1 := hat (first + r) (by omega) (by omega)
    have x2 := hat (first + c2) (by omega) (by omega)
    have ls := less_sure (l1.getD (first + r).toNat 0) (l1.getD (first + c2).toNat 0)
    clear hE2 hg lg lgw hat hP1
    cases hd : decide (l1.getD (first + r).toNat 0 < l1.getD (first + c2).toNat 0)
    · rw [hd] at ls
      clear hd
      refine w_ fun d => ?_
      intro u3 hE3 hs3
      refine w_ fun d => ?_
      exact ⟨rfl, (hP2.pe.ext hE3).ext ext_⟩
    · rw [hd] at ls
      clear hd
      refine w_ fun d => ?_
      intro u3 hE3 hs3
      have hP3 := hP2.ext hE3
      have hg3 := hE3.at hg2
      have lg3 := lt_of_heap hg3
      have sw := fun w' => hP3.swapped (w' := w') (i := first + r) (j := first + c2) hg3 (by omega) (by omega)
      have hq : (cur.setIfInBounds (first + r).toNat (.int .i64 (l1.getD (first + c2).toNat 0))).size = cur.size := Array.size_setIfInBounds
      clear hg2 lg2
      refine w_ fun d => ?_
      exact ⟨⟨c2, by omega, by omega, eA rfl, sw _ chg_ (hA rfl)⟩, mA⟩
theorem heap_calls (h : SlC w 3 (some ⟨g, 0, none⟩) cap (ints l)) (hl : l.length ≤ 1000000000) (ha : 0 ≤ a) (hab : a ≤ b) (hb : b ≤ l.length) :
    CallsR Try.prog 164 #[.slice (some ⟨g, 0, none⟩) l.length cap, .int .i64 a, .int .i64 b] w fun r w' => r = .tuple #[] ∧ Pe w g cap l w' := by
  have hP := Pm.start h
  clear h
  obtain ⟨n, hn⟩ : ∃ n, b - a = n := ⟨_, rfl⟩
  obtain ⟨m, hm⟩ : ∃ m, (n - 1).tdiv 2 = m := ⟨_, rfl⟩
  have hm0 : 0 ≤ m ∧ m ≤ n := by
    rw [← hm]
    by_cases h1 : n = 0
    · subst h1; decide
    · have := Int.tdiv_eq_ediv_of_nonneg (a := n - 1) (b := 2) (by omega)
      rw [this]; omega
  refine en3 Try.func164 Try.results164 mixed [(10, [16, 18])] ?_
  intro e0 h0 h1 h2
  refine w_ fun d => ?_
  refine lo_ (fun _ e u => ∃ (i : Int), -1 ≤ i ∧ i ≤ n ∧ e 9 = .int .i64 i ∧ Pe w g cap l u) (fun e _ => upI (e 9)) ?_ ?_
  · exact ⟨m, by omega, by omega, eA rfl, hP.pe.ext ext_⟩
  rintro e u hf ⟨i, hi1, hi2, h9, l1, hP1⟩
  have hl1 := hP1.len
  clear hP
  by_cases hi0 : 0 ≤ i
  · have sf := sift_calls (lo := i) (hi := n) (first := a) hP1.sl (by omega) hi0 (by omega) (by omega) ha (by omega)
    rw [hl1] at sf
    refine w_ fun d => ?_
    refine sf.mono ?_
    rintro _ u2 ⟨rfl, l2, hP2⟩
    refine w_ fun d => ?_
    exact ⟨⟨i - 1, by omega, by omega, eA rfl, (hP1.trans hP2).pe.ext ext_⟩, mS⟩
  · refine w_ fun d => ?_
    refine lo_ (fun _ e u => ∃ (i : Int), -1 ≤ i ∧ i < n ∧ e 10 = .int .i64 i ∧ Pe w g cap l u) (fun e _ => upI (e 10)) ?_ ?_
    · exact ⟨n - 1, by omega, by omega, eA rfl, hP1.pe.ext ext_⟩
    rintro e2 u2 hf2 ⟨i2, hi3, hi4, h10, l2, hP2⟩
    have hl2 := hP2.len
    clear hP1
    by_cases hi5 : 0 ≤ i2
    · obtain ⟨cur, hg, lg, hcp, hz, hat⟩ := hP2.cell
      have x1 := hat a (by omega) (by omega)
      have x2 := hat (a + i2) (by omega) (by omega)
      have sw := fun w' => hP2.swapped (w' := w') (i := a) (j := a + i2) hg (by omega) (by omega)
      have hq : (cur.setIfInBounds a.toNat (.int .i64 (l2.getD (a + i2).toNat 0))).size = cur.size := Array.size_setIfInBounds
      clear hat
      refine w_ fun d => ?_
      refine at_c fun u3 hu3 => ?_
      obtain ⟨l3, hP3⟩ := sw u3 (by rw [hu3]; exact chg_) (by rw [hu3]; exact hA rfl)
      have hl3 := hP3.len
      have sf := sift_calls (lo := 0) (hi := i2) (first := a) hP3.sl (by omega) (by omega) (by omega) (by omega) ha (by omega)
      rw [hl3] at sf
      clear hu3 sw
      refine sf.mono ?_
      rintro _ u4 ⟨rfl, l4, hP4⟩
      refine w_ fun d => ?_
      exact ⟨⟨i2 - 1, by omega, by omega, eA rfl, (hP3.trans hP4).pe.ext ext_⟩, mS⟩
    · refine w_ fun d => ?_
      exact ⟨rfl, hP2.pe.ext ext_⟩
end
end Go.Proofs.Ytpeindhocndmnaa

namespace Go.Proofs.Ytpeindhocndmnaa
open Go Go.Bx
set_option linter.unusedSimpArgs false
set_option linter.unusedVariables false
set_option maxRecDepth 100000
set_option maxHeartbeats 4000000
attribute [local irreducible] X XO XE XF XD XW thenX inX retX kN CallsR
theorem and_u64_up {a b : Int} (h0 : 0 ≤ b) (h1 : b < 18446744073709551616) : 0 ≤ bits .and .u64 a b ∧ bits .and .u64 a b ≤ b := by
  obtain ⟨m, rfl⟩ := Int.eq_ofNat_of_zero_le h0
  have hm : m < 18446744073709551616 := by omega
  have e : bits .and .u64 a (m : Int) = ((BitVec.ofInt 64 a &&& BitVec.ofNat 64 m).toNat : Int) := by
    unfold bits
    simp only [IntKind.bits]
    have e1 : BitVec.ofInt 64 (m : Int) = BitVec.ofNat 64 m := BitVec.ofInt_natCast ..
    rw [e1]
    exact wrap_u64 (by omega) (by have := (BitVec.ofInt 64 a &&& BitVec.ofNat 64 m).isLt; omega)
  rw [e, BitVec.toNat_and, BitVec.toNat_ofNat, Nat.mod_eq_of_lt hm]
  have := Nat.and_le_right (n := (BitVec.ofInt 64 a).toNat) (m := m)
  omega
section
variable {w w0 : World} {g cap bs : Nat} {l : List Int} {a b c i n : Int}
theorem Pm.loc {w' : World} {l0 : List Int} {br : Nat} (h : Pm w0 g cap l0 w l) (hC : Chg (fun k => k = br) w w') (hb : w0.heap.size ≤ br) (hg : g ≠ br) : Pm w0 g cap l0 w' l :=
  ⟨h.perm, h.sl.chg hC fun k hk e => by cases hk; exact hg e, h.ch.trans hC fun k hk e => by omega⟩
theorem npow_calls (hn0 : 0 < n) (hn1 : n ≤ 1000000000) : ∃ m : Int, 1 ≤ m ∧ m ≤ 2 * n ∧ Sure Try.prog 176 #[.int .i64 n] (.int .u64 m) := by
  obtain ⟨k, rfl⟩ := Int.eq_ofNat_of_zero_le (by omega : 0 ≤ n)
  have hb := bitLen_up (n := k) (by omega) (by omega)
  have bl := bitsLen_sure (k : Int) (by omega) (by omega)
  rw [Int.toNat_natCast] at bl
  refine ⟨((2 ^ Lib.bitLen k : Nat) : Int), by have := Nat.pow_pos (n := Lib.bitLen k) (show 0 < 2 by decide); omega, by omega, fun w => ?_⟩
  have hw : IntKind.u64.wrap (1 * 2 ^ min (((Lib.bitLen k : Nat) : Int)).toNat IntKind.u64.bits) = ((2 ^ Lib.bitLen k : Nat) : Int) := by
    have e : min (((Lib.bitLen k : Nat) : Int)).toNat IntKind.u64.bits = Lib.bitLen k := by
      rw [Int.toNat_natCast]
      show min (Lib.bitLen k) 64 = _
      omega
    have e2 : (2 : Int) ^ Lib.bitLen k = ((2 ^ Lib.bitLen k : Nat) : Int) := (Int.natCast_pow 2 _).symm
    rw [e, Int.one_mul, e2]
    have h3 : (2 ^ Lib.bitLen k : Nat) ≤ 2000000000 := by omega
    exact wrap_u64 (Int.natCast_nonneg _) (Int.le_trans (Int.ofNat_le.2 h3) (by decide))
  obtain ⟨M, hM⟩ : ∃ M : Int, ((2 ^ Lib.bitLen k : Nat) : Int) = M := ⟨_, rfl⟩
  rw [hM] at hw ⊢
  have hv : vU (1#64 <<< Lib.bitLen k) = .int .u64 M := by
    have h3 : (2 ^ Lib.bitLen k : Nat) ≤ 2000000000 := by omega
    unfold vU
    rw [BitVec.toNat_shiftLeft, show (1#64).toNat = 1 from rfl, Nat.one_shiftLeft, Nat.mod_eq_of_lt (by omega), hM]
  generalize Lib.bitLen k = z at *
  refine en1 Try.func176 Try.results176 mixed [] ?_
  intro e0 h0
  refine w_ fun d => ?_
  refine qq (bl.quiet (w := w)) fun w1 hE1 hs1 => ?_
  refine w_ fun d => ?_
  exact ⟨by first | exact hv | rfl, ext_⟩
theorem next_calls {x : Int} (hb : w.heap[bs]? = some (.cells #[.int .u64 x] 206)) : CallsR Try.prog 177 #[.pointer (some ⟨bs, 0, none⟩)] w fun r w' => ∃ y, r = .int .u64 y ∧ w'.heap[bs]? = some (.cells #[.int .u64 y] 206) ∧ Chg (fun k => k = bs) w w' := by
  have lb := lt_of_heap hb
  refine en1 Try.func177 Try.results177 mixed [(1, [9]), (2, [9]), (3, [9])] ?_
  intro e0 h0
  refine w_ fun d => ?_
  exact ⟨_, rfl, hA rfl, chg_⟩
theorem break_calls (h : SlC w 3 (some ⟨g, 0, none⟩) cap (ints l)) (hl : l.length ≤ 1000000000) (ha : 0 ≤ a) (hab : a ≤ b) (hb : b ≤ l.length) :
    CallsR Try.prog 165 #[.slice (some ⟨g, 0, none⟩) l.length cap, .int .i64 a, .int .i64 b] w fun r w' => r = .tuple #[] ∧ Pe w g cap l w' := by
  have hP := Pm.start h
  clear h
  obtain ⟨n, hn⟩ : ∃ n, b - a = n := ⟨_, rfl⟩
  by_cases h8 : 8 ≤ n
  · obtain ⟨m, hm1, hm2, np⟩ := npow_calls (n := n) (by omega) (by omega)
    obtain ⟨q, hq⟩ : ∃ q, n.tdiv 4 = q := ⟨_, rfl⟩
    have hq4 : 4 * q ≤ n ∧ 2 ≤ q := by
      have := Int.tdiv_eq_ediv_of_nonneg (a := n) (b := 4) (by omega)
      rw [← hq, this]; omega
    obtain ⟨cur0, hg0, lg0, _⟩ := hP.cell
    refine en3 Try.func165 Try.results165 mixed [(10, [16, 18])] ?_
    intro e0 h0 h1 h2
    refine w_ fun d => ?_
    refine qq (np.quiet (w := _)) fun u1 hE1 hs1 => ?_
    have h7 : ∃ x, u1.heap[w.heap.size]? = some (.cells #[.int .u64 x] 206) := ⟨_, hE1.at (hA rfl)⟩
    have hP1 := hP.ext (Ext.trans (by exact ext_) hE1 : Ext w u1)
    obtain ⟨br, hbr⟩ : ∃ b, w.heap.size = b := ⟨_, rfl⟩
    rw [hbr] at h7 ⊢
    have hz0 : w.heap.size ≤ br := by omega
    have hgb : g ≠ br := by omega
    clear hP hE1 hs1 hbr hg0 lg0 np
    refine w_ fun d => ?_
    refine lo_ (fun _ e u => ∃ (i : Int), a + q * 2 - 1 ≤ i ∧ i ≤ a + q * 2 + 2 ∧ e 9 = .int .i64 i ∧ (∃ x, u.heap[br]? = some (.cells #[.int .u64 x] 206)) ∧ Pe w g cap l u) (fun e _ => (a + q * 2 + 3).toNat - nat (e 9)) ?_ ?_
    · exact ⟨a + q * 2 - 1, by omega, by omega, eA rfl, h7, hP1.pe.ext ext_⟩
    rintro e u hf ⟨i, hi1, hi2, h9, ⟨x, hx⟩, l2, hP2⟩
    have hl2 := hP2.len
    clear hP1 h7
    by_cases hi3 : i ≤ a + q * 2 + 1
    · have an := fun a => and_u64_up (a := a) (b := m - 1) (by omega) (by omega)
      refine w_ fun d => ?_
      refine (next_calls hx).mono ?_
      rintro _ u2 ⟨y, rfl, hx2, hC2⟩
      have hP3 := hP2.loc hC2 hz0 hgb
      obtain ⟨z, hz⟩ : ∃ z, bits .and .u64 y (m - 1) = z := ⟨_, rfl⟩
      have an := an y
      rw [hz] at an
      clear hP2 hC2 hx
      obtain ⟨cur, hg, lg, hcp, hzz, hat⟩ := hP3.cell
      have hbrl := lt_of_heap hx2
      have fin : ∀ (o : Int), 0 ≤ o → o < n → ∀ w', Chg (fun k => k = g) u2 w' → w'.heap[g]? = some (.cells ((cur.setIfInBounds i.toNat (.int .i64 (l2.getD (a + o).toNat 0))).setIfInBounds (a + o).toNat (.int .i64 (l2.getD i.toNat 0))) 3) → (∃ x, w'.heap[br]? = some (.cells #[.int .u64 x] 206)) ∧ Pe w g cap l w' := fun o h1 h2 w' hC hb => ⟨⟨_, (hC.heap br hbrl (fun h => hgb h.symm)).trans hx2⟩, hP3.swapped hg (by omega) (by omega) hC hb⟩
      by_cases hzn : n ≤ z
      · have x1 := hat i (by omega) (by omega)
        have x2 := hat (a + (z - n)) (by omega) (by omega)
        have fin := fin (z - n) (by omega) (by omega)
        have hq2 : (cur.setIfInBounds i.toNat (.int .i64 (l2.getD (a + (z - n)).toNat 0))).size = cur.size := Array.size_setIfInBounds
        clear hat
        refine w_ fun d => ?_
        refine ⟨⟨i + 1, by omega, by omega, eA rfl, fin _ chg_ (hA rfl)⟩, mA⟩
      · have x1 := hat i (by omega) (by omega)
        have x2 := hat (a + z) (by omega) (by omega)
        have fin := fin z (by omega) (by omega)
        have hq2 : (cur.setIfInBounds i.toNat (.int .i64 (l2.getD (a + z).toNat 0))).size = cur.size := Array.size_setIfInBounds
        clear hat
        refine w_ fun d => ?_
        refine ⟨⟨i + 1, by omega, by omega, eA rfl, fin _ chg_ (hA rfl)⟩, mA⟩
    · clear hx
      refine w_ fun d => ?_
      exact ⟨rfl, hP2.pe.ext ext_⟩
  · refine en3 Try.func165 Try.results165 mixed [(10, [16, 18])] ?_
    intro e0 h0 h1 h2
    refine w_ fun d => ?_
    exact ⟨rfl, hP.pe.ext ext_⟩
end
end Go.Proofs.Ytpeindhocndmnaa

namespace Go.Proofs.Ytpeindhocndmnaa
open Go Go.Bx
set_option linter.unusedSimpArgs false
set_option linter.unusedVariables false
set_option maxRecDepth 100000
set_option maxHeartbeats 4000000
attribute [local irreducible] X XO XE XF XD XW thenX inX retX kN CallsR
section
variable {w w0 : World} {g cap bs : Nat} {l : List Int} {a b c i n p x : Int}
def RdI (w : World) (g cap : Nat) (l : List Int) : Prop := SlC w 3 (some ⟨g, 0, none⟩) cap (ints l)
theorem order2_calls (h : SlC w 3 (some ⟨g, 0, none⟩) cap (ints l)) (ha : 0 ≤ a ∧ a < l.length) (hb : 0 ≤ b ∧ b < l.length) (hs : w.heap[bs]? = some (.cells #[.int .i64 x] 3)) :
    CallsR Try.prog 181 #[.slice (some ⟨g, 0, none⟩) l.length cap, .int .i64 a, .int .i64 b, .pointer (some ⟨bs, 0, none⟩)] w fun r w' => ∃ c d y, r = .tuple #[.int .i64 c, .int .i64 d] ∧ ((c = a ∧ d = b) ∨ (c = b ∧ d = a)) ∧ w'.heap[bs]? = some (.cells #[.int .i64 y] 3) ∧ Chg (fun k => k = bs) w w' := by
  obtain ⟨cur, hg, lg, hcp, hz, hat⟩ := (Pm.start h).cell
  have x1 := hat a (by omega) (by omega)
  have x2 := hat b (by omega) (by omega)
  have ls := less_sure (l.getD b.toNat 0) (l.getD a.toNat 0)
  have lb := lt_of_heap hs
  clear hat h
  cases hd : decide (l.getD b.toNat 0 < l.getD a.toNat 0)
  · rw [hd] at ls
    clear hd
    refine en4 Try.func181 Try.results181 mixed [] ?_
    intro e0 h0 h1 h2 h3
    refine w_ fun d => ?_
    intro w1 hE1 hs1
    refine w_ fun d => ?_
    exact ⟨a, b, x, rfl, .inl ⟨rfl, rfl⟩, hE1.at hs, chg_⟩
  · rw [hd] at ls
    clear hd
    refine en4 Try.func181 Try.results181 mixed [] ?_
    intro e0 h0 h1 h2 h3
    refine w_ fun d => ?_
    intro w1 hE1 hs1
    have hs' := hE1.at hs
    have lb' := lt_of_heap hs'
    have hw : ∃ y, IntKind.i64.wrap (x + 1) = y := ⟨_, rfl⟩
    obtain ⟨y, hy⟩ := hw
    refine w_ fun d => ?_
    exact ⟨b, a, y, rfl, .inr ⟨rfl, rfl⟩, hA rfl, chg_⟩
theorem median_calls (h : SlC w 3 (some ⟨g, 0, none⟩) cap (ints l)) (hne : g ≠ bs) (ha : 0 ≤ a ∧ a < l.length) (hb : 0 ≤ b ∧ b < l.length) (hc : 0 ≤ c ∧ c < l.length) (hs : w.heap[bs]? = some (.cells #[.int .i64 x] 3)) :
    CallsR Try.prog 179 #[.slice (some ⟨g, 0, none⟩) l.length cap, .int .i64 a, .int .i64 b, .int .i64 c, .pointer (some ⟨bs, 0, none⟩)] w fun r w' => ∃ d y, r = .int .i64 d ∧ (d = a ∨ d = b ∨ d = c) ∧ w'.heap[bs]? = some (.cells #[.int .i64 y] 3) ∧ Chg (fun k => k = bs) w w' := by
  have kp : ∀ u, Chg (fun k => k = bs) w u → SlC u 3 (some ⟨g, 0, none⟩) cap (ints l) := fun u hC => h.chg hC fun k hk e => by cases hk; exact hne e
  have o1 := order2_calls h ha hb hs
  refine en5 Try.func179 Try.results179 mixed [] ?_
  intro e0 h0 h1 h2 h3 h4
  refine w_ fun d => ?_
  refine o1.mono ?_
  rintro _ w1 ⟨a1, b1, y1, rfl, e1, hs1, hC1⟩
  have o2 := order2_calls (kp _ hC1) (a := b1) (b := c) (by omega) hc hs1
  clear o1
  refine w_ fun d => ?_
  refine o2.mono ?_
  rintro _ w2 ⟨b2, c2, y2, rfl, e2, hs2, hC2⟩
  have hC12 := hC1.trans hC2 fun _ _ h => h
  have o3 := order2_calls (kp _ hC12) (a := a1) (b := b2) (by omega) (by omega) hs2
  clear o2
  refine w_ fun d => ?_
  refine o3.mono ?_
  rintro _ w3 ⟨a3, b3, y3, rfl, e3, hs3, hC3⟩
  have hC13 := hC12.trans hC3 fun _ _ h => h
  clear o3
  refine w_ fun d => ?_
  exact ⟨b3, y3, rfl, by omega, hs3, hC13⟩
theorem medadj_calls (h : SlC w 3 (some ⟨g, 0, none⟩) cap (ints l)) (hl : l.length ≤ 1000000000) (hne : g ≠ bs) (ha : 1 ≤ a ∧ a + 1 < l.length) (hs : w.heap[bs]? = some (.cells #[.int .i64 x] 3)) :
    CallsR Try.prog 178 #[.slice (some ⟨g, 0, none⟩) l.length cap, .int .i64 a, .pointer (some ⟨bs, 0, none⟩)] w fun r w' => ∃ d y, r = .int .i64 d ∧ (a - 1 ≤ d ∧ d ≤ a + 1) ∧ w'.heap[bs]? = some (.cells #[.int .i64 y] 3) ∧ Chg (fun k => k = bs) w w' := by
  have o1 := median_calls h hne (a := a - 1) (b := a) (c := a + 1) (by omega) (by omega) (by omega) hs
  clear h
  refine en3 Try.func178 Try.results178 mixed [] ?_
  intro e0 h0 h1 h2
  refine w_ fun d => ?_
  refine o1.mono ?_
  rintro _ w1 ⟨dd, y, rfl, e1, hs1, hC1⟩
  refine w_ fun d => ?_
  exact ⟨dd, y, rfl, by omega, hs1, hC1⟩
theorem pivot_calls (h : SlC w 3 (some ⟨g, 0, none⟩) cap (ints l)) (hl : l.length ≤ 1000000000) (ha : 0 ≤ a) (hab : 12 < b - a) (hb : b ≤ l.length) :
    CallsR Try.prog 166 #[.slice (some ⟨g, 0, none⟩) l.length cap, .int .i64 a, .int .i64 b] w fun r w' => ∃ p hint, r = .tuple #[.int .i64 p, .int .i64 hint] ∧ (a ≤ p ∧ p < b) ∧ Ext w w' := by
  obtain ⟨n, hn⟩ : ∃ n, b - a = n := ⟨_, rfl⟩
  obtain ⟨q, hq⟩ : ∃ q, n.tdiv 4 = q := ⟨_, rfl⟩
  have hq4 : 4 * q ≤ n ∧ n ≤ 4 * q + 3 ∧ 3 ≤ q := by
    have := Int.tdiv_eq_ediv_of_nonneg (a := n) (b := 4) (by omega)
    rw [← hq, this]; omega
  have hne : g ≠ w.heap.size := by have := h.lt (g := g) rfl; omega
  have kp : ∀ u, Chg (fun k => k = w.heap.size) w u → SlC u 3 (some ⟨g, 0, none⟩) cap (ints l) := fun u hC => h.chg hC fun k hk e => by cases hk; exact hne e
  clear h
  -- the end, whatever was met
  refine en3 Try.func166 Try.results166 mixed [] ?_
  intro e0 h0 h1 h2
  by_cases h50 : 50 ≤ n
  · have m1 := fun u x (hC : Chg (fun k => k = w.heap.size) w u) (hs : u.heap[w.heap.size]? = some (.cells #[.int .i64 x] 3)) => medadj_calls (kp u hC) hl hne (a := a + q * 1) (by omega) hs
    have m2 := fun u x (hC : Chg (fun k => k = w.heap.size) w u) (hs : u.heap[w.heap.size]? = some (.cells #[.int .i64 x] 3)) => medadj_calls (kp u hC) hl hne (a := a + q * 2) (by omega) hs
    have m3 := fun u x (hC : Chg (fun k => k = w.heap.size) w u) (hs : u.heap[w.heap.size]? = some (.cells #[.int .i64 x] 3)) => medadj_calls (kp u hC) hl hne (a := a + q * 3) (by omega) hs
    refine w_ fun d => ?_
    refine (m1 _ 0 chg_ (hA rfl)).mono ?_
    rintro _ w1 ⟨d1, y1, rfl, e1, hs1, hC1⟩
    have hC1' : Chg (fun k => k = w.heap.size) w w1 := Chg.trans (by exact chg_) hC1 fun _ _ h => h
    clear hC1 m1
    refine w_ fun d => ?_
    refine (m2 _ y1 (hC1'.transE (by exact ext_)) ((by exact ext_ : Ext w1 _).at hs1)).mono ?_
    rintro _ w2 ⟨d2, y2, rfl, e2, hs2, hC2⟩
    have hC2' : Chg (fun k => k = w.heap.size) w w2 := (hC1'.transE (by exact ext_)).trans hC2 fun _ _ h => h
    clear hC2 m2 hC1' hs1
    refine w_ fun d => ?_
    refine (m3 _ y2 (hC2'.transE (by exact ext_)) ((by exact ext_ : Ext w2 _).at hs2)).mono ?_
    rintro _ w3 ⟨d3, y3, rfl, e3, hs3, hC3⟩
    have hC3' : Chg (fun k => k = w.heap.size) w w3 := (hC2'.transE (by exact ext_)).trans hC3 fun _ _ h => h
    clear hC3 m3 hC2' hs2
    have m4 := fun u (hE : Ext w3 u) => median_calls (kp u (hC3'.transE hE)) hne (a := d1) (b := d2) (c := d3) (by omega) (by omega) (by omega) (hE.at hs3)
    refine w_ fun d => ?_
    refine (m4 _ ext_).mono ?_
    rintro _ w4 ⟨d4, y4, rfl, e4, hs4, hC4⟩
    have hC4' : Chg (fun k => k = w.heap.size) w w4 := (hC3'.transE (by exact ext_)).trans hC4 fun _ _ h => h
    have hE4 : Ext w w4 := hC4'.ext fun k hk e => by omega
    have l4 := lt_of_heap hs4
    clear hC4 hC4' hC3' m4 kp
    by_cases y0 : y4 = 0
    · subst y0
      refine w_ fun d => ?_
      exact ⟨d4, 1, rfl, by omega, ext_⟩
    · have y0' : (y4 == 0) = false := by simpa using y0
      by_cases y12 : y4 = 12
      · subst y12
        refine w_ fun d => ?_
        exact ⟨d4, 2, rfl, by omega, ext_⟩
      · have y12' : (y4 == 12) = false := by simpa using y12
        refine w_ fun d => ?_
        exact ⟨d4, 0, rfl, by omega, ext_⟩
  · have m4 := fun u x (hC : Chg (fun k => k = w.heap.size) w u) (hs : u.heap[w.heap.size]? = some (.cells #[.int .i64 x] 3)) => median_calls (kp u hC) hne (a := a + q * 1) (b := a + q * 2) (c := a + q * 3) (by omega) (by omega) (by omega) hs
    refine w_ fun d => ?_
    refine (m4 _ 0 chg_ (hA rfl)).mono ?_
    rintro _ w4 ⟨d4, y4, rfl, e4, hs4, hC4⟩
    have hC4' : Chg (fun k => k = w.heap.size) w w4 := Chg.trans (by exact chg_) hC4 fun _ _ h => h
    have hE4 : Ext w w4 := hC4'.ext fun k hk e => by omega
    have l4 := lt_of_heap hs4
    clear hC4 hC4' m4 kp
    by_cases y0 : y4 = 0
    · subst y0
      refine w_ fun d => ?_
      exact ⟨d4, 1, rfl, by omega, ext_⟩
    · have y0' : (y4 == 0) = false := by simpa using y0
      by_cases y12 : y4 = 12
      · subst y12
        refine w_ fun d => ?_
        exact ⟨d4, 2, rfl, by omega, ext_⟩
      · have y12' : (y4 == 12) = false := by simpa using y12
        refine w_ fun d => ?_
        exact ⟨d4, 0, rfl, by omega, ext_⟩
end
end Go.Proofs.Ytpeindhocndmnaa

namespace Go.Proofs.Ytpeindhocndmnaa
open Go Go.Bx
set_option linter.unusedSimpArgs false
set_option linter.unusedVariables false
set_option maxRecDepth 100000
set_option maxHeartbeats 4000000
attribute [local irreducible] X XO XE XF XD XW thenX inX retX kN CallsR
section
variable {w w0 : World} {g cap bs : Nat} {l : List Int} {a b c i n p x : Int}
theorem partial_calls (h : SlC w 3 (some ⟨g, 0, none⟩) cap (ints l)) (hl : l.length ≤ 1000000000) (ha : 0 ≤ a) (hab : a < b) (hb : b ≤ l.length) :
    CallsR Try.prog 168 #[.slice (some ⟨g, 0, none⟩) l.length cap, .int .i64 a, .int .i64 b] w fun r w' => ∃ t, r = .bool t ∧ Pe w g cap l w' := by
  have hP := Pm.start h
  clear h
  refine en3 Try.func168 Try.results168 mixed [(11, [15, 17]), (17, [15, 17]), (23, [15, 17])] ?_
  intro e0 h0 h1 h2
  refine w_ fun d => ?_
  refine lo_ (fun _ e u => ∃ (k i : Int), 0 ≤ k ∧ k ≤ 5 ∧ a < i ∧ i ≤ b ∧ e 8 = .int .i64 k ∧ e 7 = .int .i64 i ∧ Pe w g cap l u) (fun e _ => 6 - nat (e 8)) ?_ ?_
  · exact ⟨0, a + 1, by omega, by omega, by omega, by omega, eA rfl, eA rfl, hP.pe.ext ext_⟩
  rintro e u hf ⟨k, i0, hk0, hk5, hi1, hi2, h8, h7, hP1⟩
  clear hP
  by_cases hk : k < 5
  rotate_left
  · refine w_ fun d => ?_
    exact ⟨false, rfl, hP1.ext ext_⟩
  refine w_ fun d => ?_
  refine lo_ (fun _ e u => ∃ (i : Int), a < i ∧ i ≤ b ∧ e 7 = .int .i64 i ∧ Pe w g cap l u) (fun e _ => (b + 1).toNat - nat (e 7)) ?_ ?_
  · exact ⟨i0, by omega, by omega, eA rfl, hP1.ext ext_⟩
  rintro e2 u2 hf2 ⟨i, hi3, hi4, h7, l2, hP2⟩
  have hl2 := hP2.len
  clear hP1
  obtain ⟨cur, hg, lg, hcp, hz, hat⟩ := hP2.cell
  -- what is behind the first loop
  have stay : i < b → ∃ t, decide (l2.getD i.toNat 0 < l2.getD (i - 1).toNat 0) = t := fun _ => ⟨_, rfl⟩
  by_cases hib : i < b
  rotate_left
  · obtain rfl : i = b := by omega
    clear hat hg
    refine w_ fun d => ?_
    exact ⟨true, rfl, hP2.pe.ext ext_⟩
  have x1 := hat i (by omega) (by omega)
  have x2 := hat (i - 1) (by omega) (by omega)
  have ls := less_sure (l2.getD i.toNat 0) (l2.getD (i - 1).toNat 0)
  have hne : (i == b) = false := by simpa using (by omega : ¬ i = b)
  cases hd : decide (l2.getD i.toNat 0 < l2.getD (i - 1).toNat 0)
  · rw [hd] at ls
    clear hat hd
    refine w_ fun d => ?_
    intro u3 hE3 hs3
    refine w_ fun d => ?_
    exact ⟨⟨i + 1, by omega, by omega, eA rfl, (hP2.pe.ext hE3).ext ext_⟩, mA⟩
  rw [hd] at ls
  clear hd hat stay
  by_cases h50 : b - a < 50
  · refine w_ fun d => ?_
    intro u3 hE3 hs3
    refine w_ fun d => ?_
    exact ⟨false, rfl, (hP2.pe.ext hE3).ext ext_⟩
  refine w_ fun d => ?_
  intro u3 hE3 hs3
  have hP3 := hP2.ext hE3
  have hg3 := hE3.at hg
  have lg3 := lt_of_heap hg3
  have sw := fun w' => hP3.swapped (w' := w') (i := i) (j := i - 1) hg3 (by omega) (by omega)
  have hq : (cur.setIfInBounds i.toNat (.int .i64 (l2.getD (i - 1).toNat 0))).size = cur.size := Array.size_setIfInBounds
  clear hg lg hP2
  refine w_ fun d => ?_
  refine cu1_ (fun _ e w' => Pe w g cap l w') ?_ ?_
  · refine at_w fun u4 hu4 => ?_
    have hP4 := sw u4 (by rw [hu4]; exact chg_) (by rw [hu4]; exact hA rfl)
    clear hu4 sw hg3 lg3 hP3 hE3 hs3 hq x1 x2 ls
    by_cases h2 : 2 ≤ i - a
    · refine w_ fun d => ?_
      refine lo_ (fun _ e u => ∃ (j : Int), 0 ≤ j ∧ j < i ∧ e 9 = .int .i64 j ∧ Pe w g cap l u) (fun e _ => upI (e 9)) ?_ ?_
      · exact ⟨i - 1, by omega, by omega, eA rfl, hP4.ext ext_⟩
      rintro e3 u5 hf3 ⟨j, hj1, hj2, h9, l5, hP5⟩
      have hl5 := hP5.len
      clear hP4
      by_cases hj : 1 ≤ j
      · obtain ⟨cur, hg, lg, hcp, hz, hat⟩ := hP5.cell
        have x1 := hat j (by omega) (by omega)
        have x2 := hat (j - 1) (by omega) (by omega)
        have ls := less_sure (l5.getD j.toNat 0) (l5.getD (j - 1).toNat 0)
        cases hd : decide (l5.getD j.toNat 0 < l5.getD (j - 1).toNat 0)
        · rw [hd] at ls
          clear hat hd
          refine w_ fun d => ?_
          intro u6 hE6 hs6
          refine w_ fun d => ?_
          exact (hP5.pe.ext hE6).ext ext_
        · rw [hd] at ls
          clear hd hat
          refine w_ fun d => ?_
          intro u6 hE6 hs6
          have hP6 := hP5.ext hE6
          have hg6 := hE6.at hg
          have lg6 := lt_of_heap hg6
          have sw := fun w' => hP6.swapped (w' := w') (i := j) (j := j - 1) hg6 (by omega) (by omega)
          have hq : (cur.setIfInBounds j.toNat (.int .i64 (l5.getD (j - 1).toNat 0))).size = cur.size := Array.size_setIfInBounds
          clear hg lg hP5
          refine w_ fun d => ?_
          exact ⟨⟨j - 1, by omega, by omega, eA rfl, sw _ chg_ (hA rfl)⟩, mS⟩
      · refine w_ fun d => ?_
        exact hP5.pe.ext ext_
    · refine w_ fun d => ?_
      exact hP4.ext ext_
  rintro e3 u4 hf3 hP4
  clear sw hg3 lg3 hP3 hE3 hs3 hq x1 x2 ls
  refine w_ fun d => ?_
  refine cu1_ (fun _ e w' => Pe w g cap l w') ?_ ?_
  · by_cases h2 : 2 ≤ b - i
    · refine w_ fun d => ?_
      refine lo_ (fun _ e u => ∃ (j : Int), i < j ∧ j ≤ b ∧ e 10 = .int .i64 j ∧ Pe w g cap l u) (fun e _ => (b + 1).toNat - nat (e 10)) ?_ ?_
      · exact ⟨i + 1, by omega, by omega, eA rfl, hP4.ext ext_⟩
      rintro e4 u5 hf4 ⟨j, hj1, hj2, h10, l5, hP5⟩
      have hl5 := hP5.len
      clear hP4
      by_cases hj : j < b
      · obtain ⟨cur, hg, lg, hcp, hz, hat⟩ := hP5.cell
        have x1 := hat j (by omega) (by omega)
        have x2 := hat (j - 1) (by omega) (by omega)
        have ls := less_sure (l5.getD j.toNat 0) (l5.getD (j - 1).toNat 0)
        cases hd : decide (l5.getD j.toNat 0 < l5.getD (j - 1).toNat 0)
        · rw [hd] at ls
          clear hat hd
          refine w_ fun d => ?_
          intro u6 hE6 hs6
          refine w_ fun d => ?_
          exact (hP5.pe.ext hE6).ext ext_
        · rw [hd] at ls
          clear hd hat
          refine w_ fun d => ?_
          intro u6 hE6 hs6
          have hP6 := hP5.ext hE6
          have hg6 := hE6.at hg
          have lg6 := lt_of_heap hg6
          have sw := fun w' => hP6.swapped (w' := w') (i := j) (j := j - 1) hg6 (by omega) (by omega)
          have hq : (cur.setIfInBounds j.toNat (.int .i64 (l5.getD (j - 1).toNat 0))).size = cur.size := Array.size_setIfInBounds
          clear hg lg hP5
          refine w_ fun d => ?_
          exact ⟨⟨j + 1, by omega, by omega, eA rfl, sw _ chg_ (hA rfl)⟩, mA⟩
      · refine w_ fun d => ?_
        exact hP5.pe.ext ext_
    · refine w_ fun d => ?_
      exact hP4.ext ext_
  rintro e4 u5 hf4 hP5
  refine w_ fun d => ?_
  exact ⟨⟨k + 1, i, by omega, by omega, by omega, by omega, eA rfl, eA rfl, hP5.ext ext_⟩, mA⟩
end
end Go.Proofs.Ytpeindhocndmnaa

namespace Go.Proofs.Ytpeindhocndmnaa
open Go Go.Bx
set_option linter.unusedSimpArgs false
set_option linter.unusedVariables false
set_option maxRecDepth 100000
set_option maxHeartbeats 4000000
attribute [local irreducible] X XO XE XF XD XW thenX inX retX kN CallsR
section
variable {w w0 : World} {g cap bs : Nat} {l : List Int} {a b c i n p x : Int}
theorem parteq_calls (h : SlC w 3 (some ⟨g, 0, none⟩) cap (ints l)) (hl : l.length ≤ 1000000000) (ha : 0 ≤ a) (hap : a ≤ p) (hpb : p < b) (hb : b ≤ l.length) :
    CallsR Try.prog 170 #[.slice (some ⟨g, 0, none⟩) l.length cap, .int .i64 a, .int .i64 b, .int .i64 p] w fun r w' => ∃ m, r = .int .i64 m ∧ (a < m ∧ m ≤ b) ∧ Pe w g cap l w' := by
  have hP := Pm.start h
  clear h
  obtain ⟨cur, hg, lg, hcp, hz, hat⟩ := hP.cell
  have x1 := hat a (by omega) (by omega)
  have x2 := hat p (by omega) (by omega)
  have sw := fun w' => hP.swapped (w' := w') (i := a) (j := p) hg (by omega) (by omega)
  have hq : (cur.setIfInBounds a.toNat (.int .i64 (l.getD p.toNat 0))).size = cur.size := Array.size_setIfInBounds
  clear hat
  refine en4 Try.func170 Try.results170 mixed [(1, [13, 15]), (8, [13, 15])] ?_
  intro e0 h0 h1 h2 h3
  refine w_ fun d => ?_
  refine at_w fun u0 hu0 => ?_
  have hP0 := sw u0 (by rw [hu0]; exact chg_) (by rw [hu0]; exact hA rfl)
  clear hu0 sw hq hg lg x1 x2 hP hcp hz
  refine lo_ (fun _ e u => ∃ (i j : Int), a < i ∧ i ≤ b ∧ a ≤ j ∧ j < b ∧ e 9 = .int .i64 i ∧ e 10 = .int .i64 j ∧ Pe w g cap l u) (fun e _ => (b + 1).toNat - nat (e 9)) ?_ ?_
  · exact ⟨a + 1, b - 1, by omega, by omega, by omega, by omega, eA rfl, eA rfl, hP0⟩
  rintro e u hf ⟨i0, j0, hi1, hi2, hj1, hj2, h9, h10, hP1⟩
  clear hP0
  refine s_block ?_
  refine cu1_ (fun _ e w' => ∃ i, i0 ≤ i ∧ i ≤ b ∧ e 9 = .int .i64 i ∧ Pe w g cap l w') ?_ ?_
  · refine w_ fun d => ?_
    refine lo_ (fun _ e u => ∃ i, i0 ≤ i ∧ i ≤ b ∧ e 9 = .int .i64 i ∧ Pe w g cap l u) (fun e _ => (b + 1).toNat - nat (e 9)) ?_ ?_
    · exact ⟨i0, by omega, by omega, eA rfl, hP1.ext ext_⟩
    rintro e2 u2 hf2 ⟨i, hv1, hv2, hslot, l2, hP2⟩
    have hl2 := hP2.len
    clear hP1
    by_cases hij : i ≤ j0
    · obtain ⟨cur, hg, lg, hcp, hz, hat⟩ := hP2.cell
      have x1 := hat a (by omega) (by omega)
      have x2 := hat i (by omega) (by omega)
      have ls := less_sure (l2.getD (a).toNat 0) (l2.getD (i).toNat 0)
      cases hd : decide (l2.getD (a).toNat 0 < l2.getD (i).toNat 0)
      · rw [hd] at ls
        clear hat hd
        refine w_ fun d => ?_
        intro u3 hE3 hs3
        refine w_ fun d => ?_
        exact ⟨⟨i + 1, by omega, by omega, eA rfl, (hP2.pe.ext hE3).ext ext_⟩, mA⟩
      · rw [hd] at ls
        clear hat hd
        refine w_ fun d => ?_
        intro u3 hE3 hs3
        refine w_ fun d => ?_
        exact ⟨i, by omega, by omega, eA rfl, (hP2.pe.ext hE3).ext ext_⟩
    · refine w_ fun d => ?_
      exact ⟨i, by omega, by omega, eA rfl, hP2.pe.ext ext_⟩
  rintro e1 u1 hf1 ⟨i, hi3, hi4, h9, hP1⟩
  refine cu1_ (fun _ e w' => ∃ j, a ≤ j ∧ j ≤ j0 ∧ e 10 = .int .i64 j ∧ Pe w g cap l w') ?_ ?_
  · refine w_ fun d => ?_
    refine lo_ (fun _ e u => ∃ j, a ≤ j ∧ j ≤ j0 ∧ e 10 = .int .i64 j ∧ Pe w g cap l u) (fun e _ => upI (e 10)) ?_ ?_
    · exact ⟨j0, by omega, by omega, eA rfl, hP1.ext ext_⟩
    rintro e2 u2 hf2 ⟨j, hv1, hv2, hslot, l2, hP2⟩
    have hl2 := hP2.len
    clear hP1
    by_cases hij : i ≤ j
    · obtain ⟨cur, hg, lg, hcp, hz, hat⟩ := hP2.cell
      have x1 := hat a (by omega) (by omega)
      have x2 := hat j (by omega) (by omega)
      have ls := less_sure (l2.getD (a).toNat 0) (l2.getD (j).toNat 0)
      cases hd : decide (l2.getD (a).toNat 0 < l2.getD (j).toNat 0)
      · rw [hd] at ls
        clear hat hd
        refine w_ fun d => ?_
        intro u3 hE3 hs3
        refine w_ fun d => ?_
        exact ⟨j, by omega, by omega, eA rfl, (hP2.pe.ext hE3).ext ext_⟩
      · rw [hd] at ls
        clear hat hd
        refine w_ fun d => ?_
        intro u3 hE3 hs3
        refine w_ fun d => ?_
        exact ⟨⟨j - 1, by omega, by omega, eA rfl, (hP2.pe.ext hE3).ext ext_⟩, mS⟩
    · refine w_ fun d => ?_
      exact ⟨j, by omega, by omega, eA rfl, hP2.pe.ext ext_⟩
  rintro e2 u2 hf2 ⟨j, hj3, hj4, h10, l2, hP2⟩
  have hl2 := hP2.len
  clear hP1
  by_cases hij : j < i
  · refine w_ fun d => ?_
    exact ⟨i, rfl, by omega, hP2.pe.ext ext_⟩
  · obtain ⟨cur, hg, lg, hcp, hz, hat⟩ := hP2.cell
    have x1 := hat i (by omega) (by omega)
    have x2 := hat j (by omega) (by omega)
    have sw := fun w' => hP2.swapped (w' := w') (i := i) (j := j) hg (by omega) (by omega)
    have hq : (cur.setIfInBounds i.toNat (.int .i64 (l2.getD j.toNat 0))).size = cur.size := Array.size_setIfInBounds
    clear hat
    refine w_ fun d => ?_
    exact ⟨⟨i + 1, j - 1, by omega, by omega, by omega, by omega, eA rfl, eA rfl, sw _ chg_ (hA rfl)⟩, mA⟩
theorem part_calls (h : SlC w 3 (some ⟨g, 0, none⟩) cap (ints l)) (hl : l.length ≤ 1000000000) (ha : 0 ≤ a) (hap : a ≤ p) (hpb : p < b) (hb : b ≤ l.length) :
    CallsR Try.prog 171 #[.slice (some ⟨g, 0, none⟩) l.length cap, .int .i64 a, .int .i64 b, .int .i64 p] w fun r w' => ∃ m t, r = .tuple #[.int .i64 m, .bool t] ∧ (a ≤ m ∧ m < b) ∧ Pe w g cap l w' := by
  have hP := Pm.start h
  clear h
  refine en4 Try.func171 Try.results171 mixed [(1, [13, 15]), (8, [13, 15]), (10, [13, 15]), (18, [13, 15]), (21, [13, 15])] ?_
  intro e0 h0 h1 h2 h3
  refine cu3_ (fun _ e w' => e 10 = .int .i64 (a + 1) ∧ e 11 = .int .i64 (b - 1) ∧ Pe w g cap l w') ?_ ?_
  · obtain ⟨cur, hg, lg, hcp, hz, hat⟩ := hP.cell
    have x1 := hat a (by omega) (by omega)
    have x2 := hat p (by omega) (by omega)
    have sw := fun w' => hP.swapped (w' := w') (i := a) (j := p) hg (by omega) (by omega)
    have hq : (cur.setIfInBounds a.toNat (.int .i64 (l.getD p.toNat 0))).size = cur.size := Array.size_setIfInBounds
    clear hat
    refine w_ fun d => ?_
    exact ⟨eA rfl, eA rfl, sw _ chg_ (hA rfl)⟩
  clear hP
  rintro e u0 hf ⟨h10, h11, hP0⟩
  obtain ⟨i0, hi0⟩ : ∃ i0, a + 1 = i0 := ⟨_, rfl⟩
  obtain ⟨j0, hj0⟩ : ∃ j0, b - 1 = j0 := ⟨_, rfl⟩
  rw [hi0] at h10
  rw [hj0] at h11
  refine cu1_ (fun _ e w' => ∃ i, i0 ≤ i ∧ i ≤ b ∧ e 10 = .int .i64 i ∧ Pe w g cap l w') ?_ ?_
  · refine w_ fun d => ?_
    refine lo_ (fun _ e u => ∃ i, i0 ≤ i ∧ i ≤ b ∧ e 10 = .int .i64 i ∧ Pe w g cap l u) (fun e _ => (b + 1).toNat - nat (e 10)) ?_ ?_
    · exact ⟨i0, by omega, by omega, eA rfl, hP0.ext ext_⟩
    rintro e2 u2 hf2 ⟨i, hv1, hv2, hslot, l2, hP2⟩
    have hl2 := hP2.len
    clear hP0
    by_cases hij : i ≤ j0
    · obtain ⟨cur, hg, lg, hcp, hz, hat⟩ := hP2.cell
      have x1 := hat i (by omega) (by omega)
      have x2 := hat a (by omega) (by omega)
      have ls := less_sure (l2.getD (i).toNat 0) (l2.getD (a).toNat 0)
      cases hd : decide (l2.getD (i).toNat 0 < l2.getD (a).toNat 0)
      · rw [hd] at ls
        clear hat hd
        refine w_ fun d => ?_
        intro u3 hE3 hs3
        refine w_ fun d => ?_
        exact ⟨i, by omega, by omega, eA rfl, (hP2.pe.ext hE3).ext ext_⟩
      · rw [hd] at ls
        clear hat hd
        refine w_ fun d => ?_
        intro u3 hE3 hs3
        refine w_ fun d => ?_
        exact ⟨⟨i + 1, by omega, by omega, eA rfl, (hP2.pe.ext hE3).ext ext_⟩, mA⟩
    · refine w_ fun d => ?_
      exact ⟨i, by omega, by omega, eA rfl, hP2.pe.ext ext_⟩
  rintro e1 u1 hf1 ⟨i, hi3, hi4, h10, hP1⟩
  refine cu1_ (fun _ e w' => ∃ j, a ≤ j ∧ j ≤ j0 ∧ e 11 = .int .i64 j ∧ Pe w g cap l w') ?_ ?_
  · refine w_ fun d => ?_
    refine lo_ (fun _ e u => ∃ j, a ≤ j ∧ j ≤ j0 ∧ e 11 = .int .i64 j ∧ Pe w g cap l u) (fun e _ => upI (e 11)) ?_ ?_
    · exact ⟨j0, by omega, by omega, eA rfl, hP1.ext ext_⟩
    rintro e2 u2 hf2 ⟨j, hv1, hv2, hslot, l2, hP2⟩
    have hl2 := hP2.len
    clear hP1
    by_cases hij : i ≤ j
    · obtain ⟨cur, hg, lg, hcp, hz, hat⟩ := hP2.cell
      have x1 := hat j (by omega) (by omega)
      have x2 := hat a (by omega) (by omega)
      have ls := less_sure (l2.getD (j).toNat 0) (l2.getD (a).toNat 0)
      cases hd : decide (l2.getD (j).toNat 0 < l2.getD (a).toNat 0)
      · rw [hd] at ls
        clear hat hd
        refine w_ fun d => ?_
        intro u3 hE3 hs3
        refine w_ fun d => ?_
        exact ⟨⟨j - 1, by omega, by omega, eA rfl, (hP2.pe.ext hE3).ext ext_⟩, mS⟩
      · rw [hd] at ls
        clear hat hd
        refine w_ fun d => ?_
        intro u3 hE3 hs3
        refine w_ fun d => ?_
        exact ⟨j, by omega, by omega, eA rfl, (hP2.pe.ext hE3).ext ext_⟩
    · refine w_ fun d => ?_
      exact ⟨j, by omega, by omega, eA rfl, hP2.pe.ext ext_⟩
  rintro e2 u2 hf2 ⟨j, hj3, hj4, h11, l2, hP2⟩
  have hl2 := hP2.len
  clear hP1 hP0
  obtain ⟨cur, hg, lg, hcp, hz, hat⟩ := hP2.cell
  by_cases hij : j < i
  · have x1 := hat j (by omega) (by omega)
    have x2 := hat a (by omega) (by omega)
    have sw := fun w' => hP2.swapped (w' := w') (i := j) (j := a) hg (by omega) (by omega)
    have hq : (cur.setIfInBounds j.toNat (.int .i64 (l2.getD a.toNat 0))).size = cur.size := Array.size_setIfInBounds
    clear hat
    refine w_ fun d => ?_
    exact ⟨j, true, rfl, by omega, sw _ chg_ (hA rfl)⟩
  have x1 := hat i (by omega) (by omega)
  have x2 := hat j (by omega) (by omega)
  have sw := fun w' => hP2.swapped (w' := w') (i := i) (j := j) hg (by omega) (by omega)
  have hq : (cur.setIfInBounds i.toNat (.int .i64 (l2.getD j.toNat 0))).size = cur.size := Array.size_setIfInBounds
  clear hat
  refine w_ fun d => ?_
  refine at_w fun u3 hu3 => ?_
  have hP3 := sw u3 (by rw [hu3]; exact chg_) (by rw [hu3]; exact hA rfl)
  clear hu3 sw hq x1 x2 hg lg hcp hz hP2 hl2
  refine lo_ (fun _ e u => ∃ (i j : Int), a < i ∧ i ≤ b ∧ a ≤ j ∧ j < b ∧ e 10 = .int .i64 i ∧ e 11 = .int .i64 j ∧ Pe w g cap l u) (fun e _ => (b + 1).toNat - nat (e 10)) ?_ ?_
  · exact ⟨i + 1, j - 1, by omega, by omega, by omega, by omega, eA rfl, eA rfl, hP3⟩
  clear hij hi3 hi4 hj3 hj4 hi0 hj0
  rintro e3 u4 hf3 ⟨i0, j0, hi1, hi2, hj1, hj2, h10, h11, hP4⟩
  clear hP3
  refine s_block ?_
  refine cu1_ (fun _ e w' => ∃ i, i0 ≤ i ∧ i ≤ b ∧ e 10 = .int .i64 i ∧ Pe w g cap l w') ?_ ?_
  · refine w_ fun d => ?_
    refine lo_ (fun _ e u => ∃ i, i0 ≤ i ∧ i ≤ b ∧ e 10 = .int .i64 i ∧ Pe w g cap l u) (fun e _ => (b + 1).toNat - nat (e 10)) ?_ ?_
    · exact ⟨i0, by omega, by omega, eA rfl, hP4.ext ext_⟩
    rintro e2 u2 hf2 ⟨i, hv1, hv2, hslot, l2, hP2⟩
    have hl2 := hP2.len
    clear hP4
    by_cases hij : i ≤ j0
    · obtain ⟨cur, hg, lg, hcp, hz, hat⟩ := hP2.cell
      have x1 := hat i (by omega) (by omega)
      have x2 := hat a (by omega) (by omega)
      have ls := less_sure (l2.getD (i).toNat 0) (l2.getD (a).toNat 0)
      cases hd : decide (l2.getD (i).toNat 0 < l2.getD (a).toNat 0)
      · rw [hd] at ls
        clear hat hd
        refine w_ fun d => ?_
        intro u3 hE3 hs3
        refine w_ fun d => ?_
        exact ⟨i, by omega, by omega, eA rfl, (hP2.pe.ext hE3).ext ext_⟩
      · rw [hd] at ls
        clear hat hd
        refine w_ fun d => ?_
        intro u3 hE3 hs3
        refine w_ fun d => ?_
        exact ⟨⟨i + 1, by omega, by omega, eA rfl, (hP2.pe.ext hE3).ext ext_⟩, mA⟩
    · refine w_ fun d => ?_
      exact ⟨i, by omega, by omega, eA rfl, hP2.pe.ext ext_⟩
  rintro e1 u1 hf1 ⟨i, hi3, hi4, h10, hP1⟩
  refine cu1_ (fun _ e w' => ∃ j, a ≤ j ∧ j ≤ j0 ∧ e 11 = .int .i64 j ∧ Pe w g cap l w') ?_ ?_
  · refine w_ fun d => ?_
    refine lo_ (fun _ e u => ∃ j, a ≤ j ∧ j ≤ j0 ∧ e 11 = .int .i64 j ∧ Pe w g cap l u) (fun e _ => upI (e 11)) ?_ ?_
    · exact ⟨j0, by omega, by omega, eA rfl, hP1.ext ext_⟩
    rintro e2 u2 hf2 ⟨j, hv1, hv2, hslot, l2, hP2⟩
    have hl2 := hP2.len
    clear hP1
    by_cases hij : i ≤ j
    · obtain ⟨cur, hg, lg, hcp, hz, hat⟩ := hP2.cell
      have x1 := hat j (by omega) (by omega)
      have x2 := hat a (by omega) (by omega)
      have ls := less_sure (l2.getD (j).toNat 0) (l2.getD (a).toNat 0)
      cases hd : decide (l2.getD (j).toNat 0 < l2.getD (a).toNat 0)
      · rw [hd] at ls
        clear hat hd
        refine w_ fun d => ?_
        intro u3 hE3 hs3
        refine w_ fun d => ?_
        exact ⟨⟨j - 1, by omega, by omega, eA rfl, (hP2.pe.ext hE3).ext ext_⟩, mS⟩
      · rw [hd] at ls
        clear hat hd
        refine w_ fun d => ?_
        intro u3 hE3 hs3
        refine w_ fun d => ?_
        exact ⟨j, by omega, by omega, eA rfl, (hP2.pe.ext hE3).ext ext_⟩
    · refine w_ fun d => ?_
      exact ⟨j, by omega, by omega, eA rfl, hP2.pe.ext ext_⟩
  rintro e2 u2 hf2 ⟨j, hj3, hj4, h11, l2, hP2⟩
  have hl2 := hP2.len
  clear hP1
  obtain ⟨cur, hg, lg, hcp, hz, hat⟩ := hP2.cell
  by_cases hij : j < i
  · have x1 := hat j (by omega) (by omega)
    have x2 := hat a (by omega) (by omega)
    have sw := fun w' => hP2.swapped (w' := w') (i := j) (j := a) hg (by omega) (by omega)
    have hq : (cur.setIfInBounds j.toNat (.int .i64 (l2.getD a.toNat 0))).size = cur.size := Array.size_setIfInBounds
    clear hat
    refine w_ fun d => ?_
    exact ⟨j, false, rfl, by omega, sw _ chg_ (hA rfl)⟩
  · have x1 := hat i (by omega) (by omega)
    have x2 := hat j (by omega) (by omega)
    have sw := fun w' => hP2.swapped (w' := w') (i := i) (j := j) hg (by omega) (by omega)
    have hq : (cur.setIfInBounds i.toNat (.int .i64 (l2.getD j.toNat 0))).size = cur.size := Array.size_setIfInBounds
    clear hat
    refine w_ fun d => ?_
    exact ⟨⟨i + 1, j - 1, by omega, by omega, by omega, by omega, eA rfl, eA rfl, sw _ chg_ (hA rfl)⟩, mA⟩
end
end Go.Proofs.Ytpeindhocndmnaa

namespace Go.Proofs.Ytpeindhocndmnaa
open Go Go.Bx
set_option linter.unusedSimpArgs false
set_option linter.unusedVariables false
set_option maxRecDepth 100000
set_option maxHeartbeats 4000000
attribute [local irreducible] X XO XE XF XD XW thenX inX retX kN CallsR
section
variable {w w0 : World} {g cap bs : Nat} {l : List Int} {a b c i p x : Int}
theorem pdq_calls {g cap : Nat} : ∀ (n : Nat) (w : World) (l : List Int) (a b lim : Int), (b - a).toNat ≤ n → SlC w 3 (some ⟨g, 0, none⟩) cap (ints l) → l.length ≤ 1000000000 → 0 ≤ a → a ≤ b → b ≤ l.length → 0 ≤ lim → lim ≤ 64 →
    CallsR Try.prog 152 #[.slice (some ⟨g, 0, none⟩) l.length cap, .int .i64 a, .int .i64 b, .int .i64 lim] w fun r w' => r = .tuple #[] ∧ Pe w g cap l w' := by
  intro n
  induction n using Nat.strongRecOn with
  | _ n ih =>
  intro w l a b lim hn h hl ha hab hb hm0 hm1
  have hP := Pm.start h
  clear h
  refine en4 Try.func152 Try.results152 mixed [] ?_
  intro e0 h0 h1 h2 h3
  refine w_ fun d => ?_
  refine log_ (fun m W e u => ∃ (a b lim : Int) (t1 t2 : Bool), 0 ≤ a ∧ a ≤ b ∧ b ≤ l.length ∧ 0 ≤ lim ∧ lim ≤ 64 ∧ (b - a).toNat = m ∧ m ≤ n ∧ e 1 = .int .i64 a ∧ e 2 = .int .i64 b ∧ e 3 = .int .i64 lim ∧ e 8 = .bool t1 ∧ e 9 = .bool t2 ∧ Pe w g cap l u) (b - a).toNat ?_ ?_
  · exact ⟨a, b, lim, true, true, ha, hab, hb, hm0, hm1, rfl, hn, eA rfl, eA rfl, eA rfl, eA rfl, eA rfl, hP.pe.ext ext_⟩
  clear hP hn ha hab hb hm0 hm1
  rintro m e u hf ⟨a, b, lim, t1, t2, ha, hab, hb, hm0, hm1, hm, hmn, h1, h2, h3, h8, h9, l1, hP⟩
  have hl1 := hP.len
  by_cases h12 : b - a ≤ 12
  · have go := insertion_calls hP.sl (by omega) ha hab (by omega)
    rw [hl1] at go
    clear ih
    refine w_ fun d => ?_
    refine go.mono ?_
    rintro _ u2 ⟨rfl, l2, hP2⟩
    refine w_ fun d => ?_
    exact ⟨rfl, (hP.trans hP2).pe.ext ext_⟩
  by_cases hz : lim = 0
  · subst hz
    have go := heap_calls hP.sl (by omega) ha hab (by omega)
    rw [hl1] at go
    clear ih
    refine w_ fun d => ?_
    refine go.mono ?_
    rintro _ u2 ⟨rfl, l2, hP2⟩
    refine w_ fun d => ?_
    exact ⟨rfl, (hP.trans hP2).pe.ext ext_⟩
  have hz' : (lim == 0) = false := by simpa using hz
  refine w_ fun d => ?_
  refine cu1_ (fun _ e w' => ∃ lim, 0 ≤ lim ∧ lim ≤ 64 ∧ e 3 = .int .i64 lim ∧ Pe w g cap l w') ?_ ?_
  · cases t1
    · have go := break_calls hP.sl (by omega) ha hab (by omega)
      rw [hl1] at go
      clear ih
      refine w_ fun d => ?_
      refine go.mono ?_
      rintro _ u2 ⟨rfl, l2, hP2⟩
      refine w_ fun d => ?_
      exact ⟨lim - 1, by omega, by omega, eA rfl, (hP.trans hP2).pe.ext ext_⟩
    · clear ih
      refine w_ fun d => ?_
      exact ⟨lim, by omega, by omega, eA rfl, hP.pe.ext ext_⟩
  clear hP hl1 h3 hz hz' hm0 hm1
  rintro e2 u2 hf2 ⟨lim, hm0, hm1, h3, l2, hP⟩
  have hl2 := hP.len
  have go := pivot_calls (a := a) (b := b) hP.sl (by omega) ha (by omega) (by omega)
  rw [hl2] at go
  refine w_ fun d => ?_
  refine go.mono ?_
  rintro _ u3 ⟨p, hint, rfl, hp, hE3⟩
  have hP3 := hP.ext hE3
  clear go hP hE3
  refine w_ fun d => ?_
  refine cu1_ (fun _ e w' => ∃ p hint, a ≤ p ∧ p < b ∧ e 11 = .int .i64 p ∧ e 12 = .int .i64 hint ∧ Pe w g cap l w') ?_ ?_
  · by_cases hh : hint = 2
    · subst hh
      have go := reverse_calls hP3.sl (by omega) ha hab (by omega)
      rw [hl2] at go
      clear ih
      refine w_ fun d => ?_
      refine go.mono ?_
      rintro _ u4 ⟨rfl, l4, hP4⟩
      refine w_ fun d => ?_
      exact ⟨b - 1 - (p - a), 1, by omega, by omega, eA rfl, eA rfl, (hP3.trans hP4).pe.ext ext_⟩
    · have hh' : (hint == 2) = false := by simpa using hh
      clear ih
      refine w_ fun d => ?_
      exact ⟨p, hint, by omega, by omega, eA rfl, eA rfl, hP3.pe.ext ext_⟩
  clear hP3 hp hl2
  rintro e3 u4 hf3 ⟨p, hint, hp1, hp2, h11, h12', l4, hP⟩
  have hl4 := hP.len
  refine cu2_ (fun _ e w' => Pe w g cap l w') ?_ ?_
  · cases t1
    · clear ih
      refine w_ fun d => ?_
      exact hP.pe.ext ext_
    cases t2
    · clear ih
      refine w_ fun d => ?_
      exact hP.pe.ext ext_
    by_cases hh : hint = 1
    · subst hh
      have go := partial_calls (a := a) (b := b) hP.sl (by omega) ha (by omega) (by omega)
      rw [hl4] at go
      clear ih
      refine w_ fun d => ?_
      refine go.mono ?_
      rintro _ u5 ⟨t, rfl, l5, hP5⟩
      cases t
      · refine w_ fun d => ?_
        exact (hP.trans hP5).pe.ext ext_
      · refine w_ fun d => ?_
        exact ⟨rfl, (hP.trans hP5).pe.ext ext_⟩
    · have hh' : (hint == 1) = false := by simpa using hh
      clear ih
      refine w_ fun d => ?_
      exact hP.pe.ext ext_
  clear hP hl4
  rintro e4 u5 hf4 ⟨l5, hP⟩
  have hl5 := hP.len
  refine cu2_ (fun _ e w' => e 1 = .int .i64 a ∧ Pe w g cap l w') ?_ ?_
  · by_cases ha0 : 0 < a
    · obtain ⟨cur, hg, lg, hcp, hz, hat⟩ := hP.cell
      have x1 := hat (a - 1) (by omega) (by omega)
      have x2 := hat p (by omega) (by omega)
      have ls := less_sure (l5.getD (a - 1).toNat 0) (l5.getD p.toNat 0)
      cases hd : decide (l5.getD (a - 1).toNat 0 < l5.getD p.toNat 0)
      · rw [hd] at ls
        have go := fun u (hE : Ext u5 u) => parteq_calls (hP.sl.ext hE) (by omega) ha hp1 hp2 (by omega)
        rw [hl5] at go
        clear hat hd ih
        refine w_ fun d => ?_
        intro u6 hE6 hs6
        have hP6 := hP.ext hE6
        refine w_ fun d => ?_
        refine (go _ (hE6.trans (by exact ext_))).mono ?_
        rintro _ u7 ⟨mm, rfl, hmm, l7, hP7⟩
        have hP7' := (hP6.ext (by exact ext_)).trans hP7
        refine w_ fun d => ?_
        exact ⟨(b - mm).toNat, by omega, mm, b, lim, t1, t2, by omega, by omega, by omega, hm0, hm1, rfl, by omega, eA rfl, eA rfl, eA rfl, eA rfl, eA rfl, hP7'.pe.ext ext_⟩
      · rw [hd] at ls
        clear hat hd ih
        refine w_ fun d => ?_
        intro u6 hE6 hs6
        refine w_ fun d => ?_
        exact ⟨eA rfl, (hP.pe.ext hE6).ext ext_⟩
    · clear ih
      refine w_ fun d => ?_
      exact ⟨eA rfl, hP.pe.ext ext_⟩
  clear hP hl5
  rintro e5 u6 hf5 ⟨h1, l6, hP⟩
  have hl6 := hP.len
  have go := part_calls hP.sl (by omega) ha hp1 hp2 (by omega)
  rw [hl6] at go
  obtain ⟨q8, hq8⟩ : ∃ q, (b - a).tdiv 8 = q := ⟨_, rfl⟩
  have hq8' : 0 ≤ q8 ∧ q8 ≤ b - a := by
    have := Int.tdiv_eq_ediv_of_nonneg (a := b - a) (b := 8) (by omega)
    rw [← hq8, this]; omega
  refine w_ fun d => ?_
  refine go.mono ?_
  rintro _ u7 ⟨mm, t, rfl, hmm, l7, hP7⟩
  have hP8 := hP.trans hP7
  have hl8 := hP8.len
  clear go hP hP7 hl6
  by_cases hlr : mm - a < b - mm
  · have rcl := fun u (hE : Ext u7 u) => ih ((mm - a).toNat) (by omega) u l7 a mm lim (Nat.le_refl _) (hP8.sl.ext hE) (by omega) ha (by omega) (by omega) hm0 hm1
    rw [hl8] at rcl
    clear ih
    refine w_ fun d => ?_
    refine (rcl _ ext_).mono ?_
    rintro _ u8 ⟨rfl, l9, hP9⟩
    have hP10 := (hP8.ext (by exact ext_)).trans hP9
    refine w_ fun d => ?_
    exact ⟨(b - (mm + 1)).toNat, by omega, mm + 1, b, lim, decide (q8 ≤ mm - a), t, by omega, by omega, by omega, hm0, hm1, rfl, by omega, eA rfl, eA rfl, eA rfl, eA rfl, eA rfl, hP10.pe.ext ext_⟩
  · have rcl := fun u (hE : Ext u7 u) => ih ((b - (mm + 1)).toNat) (by omega) u l7 (mm + 1) b lim (Nat.le_refl _) (hP8.sl.ext hE) (by omega) (by omega) (by omega) (by omega) hm0 hm1
    rw [hl8] at rcl
    clear ih
    refine w_ fun d => ?_
    refine (rcl _ ext_).mono ?_
    rintro _ u8 ⟨rfl, l9, hP9⟩
    have hP10 := (hP8.ext (by exact ext_)).trans hP9
    refine w_ fun d => ?_
    exact ⟨(mm - a).toNat, by omega, a, mm, lim, decide (q8 ≤ b - mm), t, by omega, by omega, by omega, hm0, hm1, rfl, by omega, eA rfl, eA rfl, eA rfl, eA rfl, eA rfl, hP10.pe.ext ext_⟩
theorem sort_calls (h : SlC w 3 (some ⟨g, 0, none⟩) cap (ints l)) (hl : l.length ≤ 1000000000) :
    CallsR Try.prog 127 #[.slice (some ⟨g, 0, none⟩) l.length cap] w fun r w' => r = .tuple #[] ∧ Pe w g cap l w' := by
  have bl := bitsLen_sure (l.length : Int) (by omega) (by omega)
  rw [Int.toNat_natCast] at bl
  have b64 : Lib.bitLen l.length ≤ 63 := Lib.bitLen_le _ 63 (by decide) (by omega)
  have go := fun u (hE : Ext w u) => pdq_calls _ u l 0 (l.length : Int) (Lib.bitLen l.length : Nat) (Nat.le_refl _) (h.ext hE) hl (by omega) (by omega) (by omega) (by omega) (by omega)
  generalize Lib.bitLen l.length = k at *
  clear h
  refine en1 Try.func127 Try.results127 mixed [] ?_
  intro e0 h0
  refine w_ fun d => ?_
  refine qq (bl.quiet (w := w)) fun w1 hE1 hs1 => ?_
  refine w_ fun d => ?_
  refine (go _ (hE1.trans (by exact ext_))).mono ?_
  rintro _ w2 ⟨rfl, l2, hP⟩
  have hP2 : Pm w g cap l w2 l2 := ⟨hP.perm, hP.sl, ((hE1.trans (by exact ext_)).chg _).trans hP.ch fun _ _ h => h⟩
  refine w_ fun d => ?_
  exact ⟨rfl, hP2.pe.ext ext_⟩
theorem insertion_nil : Sure Try.prog 163 #[.slice none 0 0, .int .i64 0, .int .i64 0] (.tuple #[]) := by
  intro w
  refine en3 Try.func163 Try.results163 mixed [(6, [15, 17])] ?_
  intro e0 h0 h1 h2
  refine w_ fun d => ?_
  refine un_ 1 ?_
  refine w_ fun d => ?_
  exact ⟨rfl, ext_⟩
theorem pdq_nil (lim : Int) : Sure Try.prog 152 #[.slice none 0 0, .int .i64 0, .int .i64 0, .int .i64 lim] (.tuple #[]) := by
  intro w
  have go := insertion_nil
  refine en4 Try.func152 Try.results152 mixed [] ?_
  intro e0 h0 h1 h2 h3
  refine w_ fun d => ?_
  refine un_ 1 ?_
  refine w_ fun d => ?_
  refine qq (go.quiet (w := w)) fun w1 hE1 hs1 => ?_
  refine w_ fun d => ?_
  exact ⟨rfl, ext_⟩
theorem sort_nil : Sure Try.prog 127 #[.slice none 0 0] (.tuple #[]) := by
  intro w
  have bl := bitsLen_sure 0 (by omega) (by omega)
  have go := fun n => pdq_nil n
  refine en1 Try.func127 Try.results127 mixed [] ?_
  intro e0 h0
  refine w_ fun d => ?_
  refine qq (bl.quiet (w := w)) fun w1 hE1 hs1 => ?_
  refine w_ fun d => ?_
  refine qq ((go _).quiet (w := w1)) fun w2 hE2 hs2 => ?_
  refine w_ fun d => ?_
  exact ⟨rfl, ext_⟩
theorem slc_app {w : World} {a b0 : Option Addr} {cap c : Nat} {l m : List Int} (h : SlC w 3 a cap (ints l)) (hI : InI w b0 m) (hm : l.length + m.length ≤ 1099511627776) :
    ∃ a' cap' w', apR Try.prog 34 (.slice a l.length cap) (.slice b0 m.length c) w = .ok (.slice a' (l ++ m).length cap') w' ∧ SlC w' 3 a' cap' (ints (l ++ m)) ∧ Chg (fun k => blk a = some k) w w' ∧ (∀ g, blk a' = some g → blk a = some g ∨ (w.heap.size ≤ g ∧ g < w'.heap.size)) := by
  obtain ⟨a2, c2, w2, hr, hS2, hC2, hB2⟩ := Sl.append (news := one1 (ints m)) (c := c) h T34 T3 rfl (by decide) hI one1_len (by rw [one1_flat]; exact List.all_eq_true.2 fun x hx => by obtain ⟨y, _, rfl⟩ := List.mem_map.1 hx; rfl) (by simp; omega) (by decide)
  rw [← List.map_append, ← List.map_append] at hr
  simp only [List.length_map] at hr
  exact ⟨a2, c2, w2, hr, by unfold SlC; rw [ints, List.map_append, one1, List.map_append]; exact hS2, hC2, hB2⟩
theorem clone_calls {a : Option Addr} {c : Nat} (hI : InI w a l) (hl : l.length ≤ 1000000000) :
    CallsR Try.prog 126 #[.slice a l.length c] w fun r w' => ∃ a' c', r = .slice a' l.length c' ∧ SlC w' 3 a' c' (ints l) ∧ (∀ g, blk a' = some g → w.heap.size ≤ g) ∧ Ext w w' := by
  cases a with
  | none =>
    rcases hI with h | ⟨g, o, cs, E, fz, h, _⟩
    · have : l = [] := by simpa using h
      subst this
      refine en1 Try.func126 Try.results126 mixed [] ?_
      intro e0 h0
      refine w_ fun d => ?_
      exact ⟨none, 0, rfl, SlC.nil _ _, (fun g h => by cases h), ext_⟩
    · cases h
  | some ad =>
    have hE0 : Ext w (w.alloc (.cells #[] 3)) := ext_
    have h0' : SlC (w.alloc (.cells #[] 3)) 3 (some ⟨w.heap.size, 0, none⟩) 0 (ints []) := SlC.made (l := []) (hA rfl) (by simp)
    obtain ⟨a2, c2, w2, hr, hS, hC, hB⟩ := slc_app (c := c) h0' (Inp.ext hI hE0) (by simp; omega)
    simp only [List.nil_append, List.length_nil] at hr hS
    have hE2 : Ext w w2 := hC.toExt hE0 fun k hk hb => by have := blk_g hb; omega
    have hs2 := hC.size
    have hB2 : ∀ g, blk a2 = some g → w.heap.size ≤ g := fun g hg => by
      rcases hB g hg with h | h
      · have := blk_g h; omega
      · have := h.1; simp only [alloc_size] at this; omega
    clear hI h0' hC hB hE0
    refine en1 Try.func126 Try.results126 mixed [] ?_
    intro e0 h0
    refine w_ fun d => ?_
    exact ⟨a2, c2, rfl, hS.ext ext_, hB2, ext_⟩
end
end Go.Proofs.Ytpeindhocndmnaa

namespace Go.Bx
open Go
set_option linter.unusedSimpArgs false
set_option linter.unusedVariables false
inductive Md.Rc (s : Md) (rs : List Int) : Int → Prop
  | root {n : Int} (h : n ∈ rs) (hn : s.has n = true) : Md.Rc s rs n
  | lo {n : Int} (h : Md.Rc s rs n) (hn : s.has (s.nd n).2.1 = true) : Md.Rc s rs (s.nd n).2.1
  | hi {n : Int} (h : Md.Rc s rs n) (hn : s.has (s.nd n).2.2 = true) : Md.Rc s rs (s.nd n).2.2
open Classical in
noncomputable def Md.keep (s : Md) (rs : List Int) (n : Int) : Bool := decide (s.Rc rs n)
noncomputable def Md.reach (s : Md) (rs : List Int) : List Int := s.all.filter (s.keep rs)
section
variable {s s' : Md} {n m c v : Int} {f g : Fun8} {rs l K w w' : List Int}
theorem Md.Rc.has (h : s.Rc rs n) : s.has n = true := by cases h <;> assumption
theorem Md.keep_iff : s.keep rs n = true ↔ s.Rc rs n := by unfold Md.keep; simp only [decide_eq_true_eq]
theorem Md.WF.mem_reach (W : s.WF) : n ∈ s.reach rs ↔ s.Rc rs n := by
  unfold Md.reach
  rw [List.mem_filter, W.mem_all, Md.keep_iff]
  exact ⟨fun h => h.2, fun h => ⟨h.has, h⟩⟩
theorem Md.all_up : s.all.Pairwise (· < ·) := by
  show (((List.range s.N.length).map fun j : Nat => (j : Int) + 2).filter fun n => s.has n).Pairwise (· < ·)
  refine List.Pairwise.filter _ ?_
  rw [List.pairwise_map]
  exact List.Pairwise.imp (fun h => by omega) List.pairwise_lt_range
theorem Md.reach_up : (s.reach rs).Pairwise (· < ·) := List.Pairwise.filter _ Md.all_up
structure Rdf (s : Md) (rs K w : List Int) : Prop where
  nodup : K.Nodup
  rch : ∀ n ∈ K, s.Rc rs n
  wrk : ∀ n ∈ w, s.has n = true → s.Rc rs n
  root : ∀ n ∈ rs, s.has n = true → n ∈ K ∨ n ∈ w
  lo : ∀ n ∈ K, s.has (s.nd n).2.1 = true → (s.nd n).2.1 ∈ K ∨ (s.nd n).2.1 ∈ w
  hi : ∀ n ∈ K, s.has (s.nd n).2.2 = true → (s.nd n).2.2 ∈ K ∨ (s.nd n).2.2 ∈ w
theorem Rdf.init : Rdf s rs [] rs := ⟨List.nodup_nil, fun _ h => (by cases h), fun n hn hh => .root hn hh, fun n hn _ => .inr hn, fun _ h => (by cases h), fun _ h => (by cases h)⟩
theorem Rdf.skip (h : Rdf s rs K w) (hn : s.has n = false ∨ n ∈ K) (h1 : ∀ x ∈ w, x = n ∨ x ∈ w') (h2 : ∀ x ∈ w', x ∈ w) : Rdf s rs K w' := by
  have key : ∀ x, s.has x = true → x ∈ K ∨ x ∈ w → x ∈ K ∨ x ∈ w' := fun x hx hxw => by
    rcases hxw with e | e
    · exact .inl e
    · rcases h1 x e with rfl | e
      · rcases hn with e2 | e2
        · rw [e2] at hx; cases hx
        · exact .inl e2
      · exact .inr e
  exact ⟨h.nodup, h.rch, fun x hx => h.wrk x (h2 x hx), fun x hx hh => key x hh (h.root x hx hh), fun x hx hh => key _ hh (h.lo x hx hh), fun x hx hh => key _ hh (h.hi x hx hh)⟩
theorem Rdf.go (h : Rdf s rs K w) (hn : s.has n = true) (hK : n ∉ K) (hw : n ∈ w) (h1 : ∀ x ∈ w, x = n ∨ x ∈ w') (h2 : ∀ x ∈ w', x ∈ w ∨ x = (s.nd n).2.1 ∨ x = (s.nd n).2.2) (h3 : (s.nd n).2.1 ∈ w') (h4 : (s.nd n).2.2 ∈ w') : Rdf s rs (K ++ [n]) w' := by
  have hr := h.wrk n hw hn
  have key : ∀ x, s.has x = true → x ∈ K ∨ x ∈ w → x ∈ K ++ [n] ∨ x ∈ w' := fun x hx hxw => by
    rcases hxw with e | e
    · exact .inl (by simp [e])
    · rcases h1 x e with rfl | e
      · exact .inl (by simp)
      · exact .inr e
  refine ⟨?_, fun x hx => ?_, fun x hx hh => ?_, fun x hx hh => key x hh (h.root x hx hh), fun x hx hh => ?_, fun x hx hh => ?_⟩
  · rw [List.nodup_append]
    exact ⟨h.nodup, by simp, fun x hx y hy e => by rw [List.mem_singleton] at hy; subst e hy; exact hK hx⟩
  · rcases List.mem_append.1 hx with e | e
    · exact h.rch x e
    · rw [List.mem_singleton.1 e]; exact hr
  · rcases h2 x hx with e | rfl | rfl
    · exact h.wrk x e hh
    · exact .lo hr hh
    · exact .hi hr hh
  · rcases List.mem_append.1 hx with e | e
    · exact key _ hh (h.lo x e hh)
    · rw [List.mem_singleton.1 e]; exact .inr h3
  · rcases List.mem_append.1 hx with e | e
    · exact key _ hh (h.hi x e hh)
    · rw [List.mem_singleton.1 e]; exact .inr h4
theorem Rdf.done (h : Rdf s rs K []) : n ∈ K ↔ s.Rc rs n := by
  refine ⟨h.rch n, fun hr => ?_⟩
  induction hr with
  | root hm hh => exact (h.root _ hm hh).resolve_right (by simp)
  | lo _ hh ih => exact (h.lo _ ih hh).resolve_right (by simp)
  | hi _ hh ih => exact (h.hi _ ih hh).resolve_right (by simp)
theorem Rdf.len (h : Rdf s rs K w) (W : s.WF) : K.length ≤ s.all.length := sub_len' h.nodup fun x hx => W.mem_all.2 (h.rch x hx).has
theorem Rdf.len' (h : Rdf s rs K w) (W : s.WF) (hn : s.has n = true) (hK : n ∉ K) : K.length < s.all.length := by
  have := sub_len' (l := n :: K) (List.nodup_cons.2 ⟨hK, h.nodup⟩) (m := s.all) fun x hx => by
    rcases List.mem_cons.1 hx with rfl | hx
    · exact W.mem_all.2 hn
    · exact W.mem_all.2 (h.rch x hx).has
  rw [List.length_cons] at this; omega
def Md.drop1 (kp : Int → Bool) (v : Int) (s : Md) (n : Int) : Md := if s.of n v && !kp n then s.drop n else s
def Md.dropV (kp : Int → Bool) (v : Int) (l : List Int) (s : Md) : Md := l.foldl (Md.drop1 kp v) s
def Md.dropO (kp : Int → Bool) (l : List Int) (o : List Int) (s : Md) : Md := o.foldl (fun s v => s.dropV kp v l) s
noncomputable def Md.sweep (s : Md) (rs : List Int) : Md := s.dropO (s.keep rs) s.all s.ord
structure Swp (s0 : Md) (rs : List Int) (s : Md) : Prop where
  good : s.Good []
  ord : s.ord = s0.ord
  most : s.a.most = s0.a.most
  N : s.N = s0.N
  has : ∀ n, s.has n = true → s0.has n = true
  kept : ∀ n, s0.Rc rs n → s.has n = true
theorem Swp.nd (h : Swp s rs s') : s'.nd n = s.nd n := by unfold Md.nd; rw [h.N]
theorem Swp.start (G : s.Good []) : Swp s rs s := ⟨G, rfl, rfl, rfl, fun _ h => h, fun _ h => h.has⟩
def Ahd (s0 : Md) (rs : List Int) (s : Md) (v : Int) : Prop := ∀ n, s.has n = true → lvl s0.ord (s.nd n).1 < lvl s0.ord v → s0.Rc rs n
theorem Swp.free (h : Swp s rs s') (G : s.Good []) (ha : Ahd s rs s' v) (hn : s'.of n v = true) (hk : s.keep rs n = false) : s'.has n = true ∧ s'.pointed n = false := by
  unfold Md.of at hn
  rw [Bool.and_eq_true] at hn
  have hv : (s'.nd n).1 = v := by simpa using hn.2
  refine ⟨hn.1, ?_⟩
  cases hp : s'.pointed n with
  | false => rfl
  | true =>
    exfalso
    unfold Md.pointed at hp
    obtain ⟨m, hm, he⟩ := List.any_eq_true.1 hp
    have hmh := h.good.wf.mem_all.1 hm
    have ok := h.good.node m hmh (by simp)
    have nk : ¬ s.Rc rs n := fun hr => by rw [Md.keep_iff.2 hr] at hk; cases hk
    have lt : ∀ c, s'.below c (s'.nd m).1 = true → c = n → lvl s.ord (s'.nd m).1 < lvl s.ord v := fun c hb hc => by
      subst hc
      rcases Md.below_iff.1 hb with e | e | e
      · have := Md.has_ge hn.1; omega
      · have := Md.has_ge hn.1; omega
      · rw [h.ord, hv] at e; exact e.2
    rw [Bool.or_eq_true, decide_eq_true_iff, decide_eq_true_iff] at he
    rcases he with he | he
    · have hr := ha m hmh (lt _ ok.lo he)
      rw [h.nd] at he
      exact nk (he ▸ Md.Rc.lo hr (he ▸ h.has n hn.1))
    · have hr := ha m hmh (lt _ ok.hi he)
      rw [h.nd] at he
      exact nk (he ▸ Md.Rc.hi hr (he ▸ h.has n hn.1))
theorem Swp.drop (h : Swp s rs s') (G : s.Good []) (ha : Ahd s rs s' v) (hn : s'.of n v = true) (hk : s.keep rs n = false) : Swp s rs (s'.drop n) ∧ Ahd s rs (s'.drop n) v ∧ (s'.drop n).a.many = s'.a.many - 1 ∧ (∀ m, (s'.drop n).has m = (s'.has m && !decide (m = n))) := by
  obtain ⟨h1, h2⟩ := h.free G ha hn hk
  have hd := fun m => Md.has_drop (m := m) h1
  refine ⟨⟨h.good.drop h1 h2, h.ord, h.most, h.N, fun m hm => ?_, fun m hm => ?_⟩, fun m hm hl => ?_, (h.good.wf.drop h1).2, hd⟩
  · rw [hd, Bool.and_eq_true] at hm; exact h.has m hm.1
  · rw [hd, h.kept m hm, Bool.true_and]
    cases hmn : decide (m = n) with
    | false => rfl
    | true => rw [of_decide_eq_true hmn] at hm; rw [Md.keep_iff.2 hm] at hk; cases hk
  · rw [hd, Bool.and_eq_true] at hm; exact ha m hm.1 hl
theorem Swp.one (h : Swp s rs s') (G : s.Good []) (ha : Ahd s rs s' v) : Swp s rs (s'.drop1 (s.keep rs) v n) ∧ Ahd s rs (s'.drop1 (s.keep rs) v n) v ∧ (∀ m, (s'.drop1 (s.keep rs) v n).has m = (s'.has m && !(decide (m = n) && (decide ((s.nd m).1 = v) && !s.keep rs m)))) := by
  unfold Md.drop1
  cases ho : s'.of n v && !s.keep rs n with
  | false =>
    rw [if_neg (by simp)]
    refine ⟨h, ha, fun m => ?_⟩
    by_cases e : m = n
    · subst e
      unfold Md.of at ho
      rw [h.nd] at ho
      cases hh : s'.has m with
      | false => rfl
      | true =>
        rw [hh, Bool.true_and] at ho
        rw [ho]; simp
    · simp [e]
  | true =>
    rw [if_pos rfl]
    rw [Bool.and_eq_true] at ho
    have hk : s.keep rs n = false := by simpa using ho.2
    obtain ⟨a, b, _, d⟩ := h.drop G ha ho.1 hk
    refine ⟨a, b, fun m => ?_⟩
    rw [d]
    by_cases e : m = n
    · subst e
      have hv := ho.1
      unfold Md.of at hv
      rw [Bool.and_eq_true, h.nd] at hv
      rw [hk, hv.2]; simp
    · simp [e]
theorem Swp.lev (G : s.Good []) : ∀ (l : List Int) {s' : Md}, Swp s rs s' → Ahd s rs s' v → Swp s rs (s'.dropV (s.keep rs) v l) ∧ Ahd s rs (s'.dropV (s.keep rs) v l) v ∧ (∀ m, (s'.dropV (s.keep rs) v l).has m = (s'.has m && !(decide (m ∈ l) && (decide ((s.nd m).1 = v) && !s.keep rs m))))
  | [], s', h, ha => ⟨h, ha, fun m => by simp [Md.dropV]⟩
  | n :: l, s', h, ha => by
    obtain ⟨a, b, c⟩ := h.one (n := n) G ha
    obtain ⟨a2, b2, c2⟩ := Swp.lev G l a b
    refine ⟨a2, b2, fun m => ?_⟩
    show (Md.dropV (s.keep rs) v l (s'.drop1 (s.keep rs) v n)).has m = _
    rw [c2, c]
    cases s'.has m <;> cases decide ((s.nd m).1 = v) <;> cases s.keep rs m <;> simp
theorem Swp.levels (G : s.Good []) : ∀ (o : List Int) (k : Nat) {s' : Md}, s.ord.drop k = o → Swp s rs s' → (∀ n, s'.has n = true → lvl s.ord (s.nd n).1 < k → s.Rc rs n) → Swp s rs (s'.dropO (s.keep rs) s.all o) ∧ ∀ n, (s'.dropO (s.keep rs) s.all o).has n = true → s.Rc rs n
  | [], k, s', ho, h, ha => by
    refine ⟨h, fun n hn => ha n hn ?_⟩
    have hn' : s'.has n = true := hn
    have hv := (G.node n (h.has n hn') (by simp)).var
    have hl := G.wf.ord.lt hv
    have h8 := G.wf.ord.len
    have := congrArg List.length ho
    simp at this
    omega
  | v :: o, k, s', ho, h, ha => by
    have hk : s.ord[k]? = some v := by have := congrArg (·[0]?) ho; simpa using this
    have hlv := G.wf.ord.lvl hk
    have ha' : Ahd s rs s' v := fun n hn hl => ha n hn (by rw [h.nd] at hl; omega)
    obtain ⟨a, b, c⟩ := Swp.lev G s.all h ha'
    show Swp s rs (Md.dropO (s.keep rs) s.all o (s'.dropV (s.keep rs) v s.all)) ∧ _
    refine Swp.levels G o (k + 1) (by rw [← List.drop_drop, ho]; rfl) a fun n hn hl => ?_
    rw [c, Bool.and_eq_true] at hn
    by_cases hlk : lvl s.ord (s.nd n).1 < k
    · exact ha n hn.1 hlk
    · have hv := (G.node n (h.has n hn.1) (by simp)).var
      have hvr := G.wf.ord.rng k v hk
      have e : (s.nd n).1 = v := G.wf.ord.inj hv hvr (by rw [hlv]; omega)
      have h2 := hn.2
      rw [e] at h2
      have hm : n ∈ s.all := G.wf.mem_all.2 (h.has n hn.1)
      simp [hm] at h2
      exact Md.keep_iff.1 h2
structure Swept (s : Md) (rs : List Int) (s' : Md) : Prop where
  swp : Swp s rs s'
  only : ∀ n, s'.has n = true ↔ s.Rc rs n
theorem Md.Good.swept (G : s.Good []) : Swept s rs (s.sweep rs) := by
  obtain ⟨a, b⟩ := Swp.levels (rs := rs) G s.ord 0 rfl (Swp.start G) fun n hn hl => by
    have hv := (G.node n hn (by simp)).var
    have := G.wf.ord.lt hv
    omega
  exact ⟨a, fun n => ⟨b n, a.kept n⟩⟩
end
end Go.Bx

namespace Go.Proofs.Ytpeindhocndmnaa
open Go Go.Bx
set_option linter.unusedSimpArgs false
set_option linter.unusedVariables false
set_option maxRecDepth 100000
set_option maxHeartbeats 4000000
attribute [local irreducible] X XO XE XF XD XW thenX inX retX kN CallsR
theorem at_o {P : Program} {l : List GOp} {K : Env → World → Prop} {e : Env} {w : World} (h : ∀ u, u = w → XO P l K e u) : XO P l K e w := h w rfl
section
variable {w : World} {a : Option Addr} {cap : Nat} {l : List Int} {x y : Int}
theorem pushI2 (h : SlC w 3 a cap (ints l)) (hm : l.length ≤ 1000000000) (x y : Int) :
    ∃ a' cap' w', apR Try.prog 34 (.slice a l.length cap) (.slice (some ⟨w.heap.size, 0, none⟩) 2 2) (w.alloc (.cells #[.int .i64 x, .int .i64 y] 3)) = .ok (.slice a' (l.length + 2) cap') w' ∧
      SlC w' 3 a' cap' (ints (l ++ [x, y])) ∧ Chg (fun k => blk a = some k) w w' ∧ w.heap.size < w'.heap.size ∧ (∀ g, blk a' = some g → blk a = some g ∨ (w.heap.size ≤ g ∧ g < w'.heap.size)) := by
  obtain ⟨a2, c2, w2, hr, hS2, hC2, hs2, hB2⟩ := h.push (P := Try.prog) (news := [.int .i64 x, .int .i64 y]) T34 T3 rfl rfl (by rw [List.length_map]; simp; omega) (by decide) (k := 2) rfl rfl
  have hl1 : (ints l ++ [Value.int .i64 x, Value.int .i64 y]).length = l.length + 2 := by simp
  rw [List.length_map, hl1] at hr
  exact ⟨a2, c2, w2, hr, by unfold ints; rw [List.map_append]; exact hS2, hC2, hs2, hB2⟩
end
structure KnS (es : List (Ent Int)) (ck : Nat) (K : List Int) : Prop where
  inv : MInv es ck
  get : ∀ n, mget es n = if n ∈ K then some (.int .i64 1) else none
theorem KnS.nil : KnS [] 0 [] := ⟨MInv.nil, fun n => by rw [if_neg (by simp)]; rfl⟩
theorem KnS.put {es : List (Ent Int)} {ck : Nat} {K : List Int} {n : Int} (h : KnS es ck K) : KnS (mput es n (.int .i64 1) ck) (mclock es n ck) (K ++ [n]) := ⟨h.inv.put _ _, fun m => by
  rw [mget_put h.inv.keys, h.get]
  by_cases e : m = n
  · subst e; simp
  · simp [e, Ne.symm e]⟩
structure RchI (w0 w : World) (bm : Nat) (es : List (Ent Int)) (ck : Nat) (aw ao : Option Addr) (cw co : Nat) (wl K : List Int) : Prop where
  hm : w.heap[bm]? = some (mObj (Value.int .i64) es ck)
  kn : KnS es ck K
  sw : SlC w 3 aw cw (ints wl)
  so : SlC w 3 ao co (ints K)
  nw : ∀ g, blk aw = some g → w0.heap.size ≤ g
  no : ∀ g, blk ao = some g → w0.heap.size ≤ g
  nm : w0.heap.size ≤ bm
  dis : ∀ g, blk aw = some g → ¬ blk ao = some g
  ext : Ext w0 w
section
variable {own : Nat → Nat} {w w0 w' w1 : World} {p bm ck cw co : Nat} {es : List (Ent Int)} {aw ao : Option Addr} {wl K rs : List Int} {s : Md} {n x y : Int}
theorem RchI.up (h : RchI w0 w bm es ck aw ao cw co wl K) (hE : Ext w w') : RchI w0 w' bm es ck aw ao cw co wl K := ⟨hE.at h.hm, h.kn, h.sw.ext hE, h.so.ext hE, h.nw, h.no, h.nm, h.dis, h.ext.trans hE⟩
theorem RchI.pop (h : RchI w0 w bm es ck aw ao cw co (wl ++ [n]) K) : RchI w0 w bm es ck aw ao cw co wl K := by
  refine ⟨h.hm, h.kn, ?_, h.so, h.nw, h.no, h.nm, h.dis, h.ext⟩
  have := SlC.take h.sw (k := wl.length) (by simp)
  rwa [show (ints (wl ++ [n])).take wl.length = ints wl by unfold ints; rw [← List.map_take, List.take_left]] at this
theorem rdReach_calls {a : Option Addr} {c : Nat} (h : StI own w p s []) (G : s.Good []) (hI : InI w a rs) (hl : rs.length ≤ 1000000) (hn : ∀ n ∈ rs, n ≤ 9223372036854775807) :
    CallsR Try.prog 77 #[.pointer (some ⟨p, 0, none⟩), .slice a rs.length c] w fun r w' => ∃ a' c' l, r = .slice a' l.length c' ∧ SlC w' 3 a' c' (ints l) ∧ (∀ g, blk a' = some g → w.heap.size ≤ g) ∧ Ext w w' ∧ l.Perm (s.reach rs) := by
  have W := G.wf
  have hN := wf_N W
  have hal : s.all.length ≤ 20000 := by have := allTo_len (s := s) (k := s.N.length); rw [allTo_all] at this; omega
  have cl := fun u (hE : Ext w u) => clone_calls (c := c) (Inp.ext hI hE) (by omega)
  clear hI
  refine en2 Try.func77 Try.results77 mixed [] ?_
  intro e0 h0 h1
  refine w_ fun d => ?_
  refine (cl _ ext_).mono ?_
  rintro _ u1 ⟨aw, cw, rfl, hSw, hBw, hE1⟩
  have hEu1 : Ext w u1 := Ext.trans (by exact ext_) hE1
  have hm1 : u1.heap[w.heap.size]? = some (mObj (Value.int .i64) [] 0) := hE1.at (hA rfl)
  obtain ⟨bm, hbm⟩ : ∃ b, w.heap.size = b := ⟨_, rfl⟩
  rw [hbm] at hm1 ⊢
  have hR : RchI w u1 bm [] 0 aw none cw 0 rs [] := ⟨hm1, KnS.nil, hSw, SlC.nil _ _, fun g hg => by have := hBw g hg; simp only [alloc_size] at this; omega, (fun g hg => by cases hg), by omega, (fun g _ h => by cases h), hEu1⟩
  clear hSw hBw hE1 hm1 cl hEu1
  refine w_ fun d => ?_
  refine log_ (fun m W e u => ∃ es ck aw ao cw co wl K, e 6 = .slice aw wl.length cw ∧ e 7 = .slice ao K.length co ∧ RchI w u bm es ck aw ao cw co wl K ∧ Box (Rdf s rs K wl) ∧ Box (∀ n ∈ wl, n ≤ 9223372036854775807) ∧ wl.length ≤ rs.length + 2 * K.length ∧ 3 * (s.all.length - K.length) + wl.length = m) (3 * s.all.length + rs.length) ?_ ?_
  · exact ⟨[], 0, aw, none, cw, 0, rs, [], eA rfl, eA rfl, hR.up ext_, ⟨.init⟩, ⟨hn⟩, by simp, by simp⟩
  clear hR hn
  rintro m e u hf ⟨es, ck, aw, ao, cw, co, wl, K, h6, h7, hR, ⟨hD⟩, ⟨hn⟩, hwl, hm⟩
  have hKl := hD.len W
  rcases List.eq_nil_or_concat wl with rfl | ⟨ws, n, rfl⟩
  · -- all was met
    have hp : K.Perm (s.reach rs) := by
      rw [List.perm_ext_iff_of_nodup hD.nodup (List.Pairwise.imp (fun h => by omega) Md.reach_up)]
      intro x
      rw [hD.done, W.mem_reach]
    obtain ⟨hm0, kn, sw, so, nw, no, nm, dis, hE⟩ := hR
    simp only [List.length_nil] at h6
    cases ao with
    | none =>
      have hK0 : K.length = 0 ∧ co = 0 := by
        rcases so.l.row with ⟨_, h1, h2⟩ | ⟨g, cur, e, _⟩
        · exact ⟨by simpa using h1, h2⟩
        · cases e
      obtain ⟨h1, rfl⟩ := hK0
      have hK : K = [] := List.length_eq_zero_iff.1 h1
      subst hK
      have sn := sort_nil
      clear hD hn hm0 kn sw nw dis
      refine w_ fun d => ?_
      refine qq (sn.quiet (w := u)) fun u2 hE2 hs2 => ?_
      refine w_ fun d => ?_
      exact ⟨none, 0, [], rfl, SlC.nil _ _, (fun g h => by cases h), ext_, hp⟩
    | some ad =>
      have had : ∃ g, ad = ⟨g, 0, none⟩ := by
        rcases so.l.row with ⟨e, _⟩ | ⟨g, cur, e, _⟩
        · cases e
        · cases e; exact ⟨g, rfl⟩
      obtain ⟨g, rfl⟩ := had
      have sc := sort_calls so (by omega)
      have hg := no g rfl
      clear hD hn hm0 kn sw nw dis so
      refine w_ fun d => ?_
      refine sc.mono ?_
      rintro _ u2 ⟨rfl, l2, hP⟩
      have hE2 : Ext w u2 := hP.ch.toExt hE fun k hk hf => by omega
      have hl2 := hP.len
      rw [← hl2] at h7
      refine w_ fun d => ?_
      exact ⟨_, _, l2, (by rw [hl2]), hP.sl.ext ext_, fun g' hg' => by have := blk_g hg'; omega, ext_, hP.perm.trans hp⟩
  rw [List.concat_eq_append] at *
  have hl1 : (ws ++ [n]).length = ws.length + 1 := by simp
  rw [hl1] at h6 hwl hm
  have hnb := hn n (by simp)
  obtain ⟨gw, cur, rfl, hgw, hcw, hlt, hat⟩ := hR.sw.at (i := ws.length) (v := .int .i64 n) (by unfold ints; rw [List.getElem?_map]; simp)
  rw [List.length_map, hl1] at hcw
  have lg := lt_of_heap hgw
  have e1 : (ws.length : Int) + 1 - 1 = ws.length := by omega
  have hR' := hR.pop
  have hm0 := hR.hm
  have lm := lt_of_heap hm0
  have hws : ∀ x ∈ ws, x ≤ 9223372036854775807 := fun x hx => hn x (by simp [hx])
  have n1 := stNode_calls (h.ext hR.ext) W n hnb
  have gk := hR.kn.get n
  have hEu := hR.ext
  clear hR hn
  by_cases hsk : s.has n = false ∨ n ∈ K
  · have hD' : Rdf s rs K ws := hD.skip hsk (fun x hx => by rcases List.mem_append.1 hx with h | h; exact .inr h; exact .inl (List.mem_singleton.1 h)) (fun x hx => by simp [hx])
    cases hh : s.has n with
    | false =>
      rw [nod_no hh] at n1
      simp only [ndV] at n1
      clear hsk hD gk hh
      refine w_ fun d => ?_
      refine qq n1 fun u2 hE2 hs2 => ?_
      refine w_ fun d => ?_
      exact ⟨_, (by omega), es, ck, _, ao, cw, co, ws, K, eA rfl, eA rfl, (hR'.up hE2).up ext_, ⟨hD'⟩, ⟨hws⟩, by omega, rfl⟩
    | true =>
      have hK : n ∈ K := by rcases hsk with h | h; rw [hh] at h; cases h; exact h
      rw [if_pos hK] at gk
      have g1 : (mget es n).getD (.int .i64 0) = .int .i64 1 := by rw [gk]; rfl
      rw [nod_has hh] at n1
      obtain ⟨⟨v, lo, hi⟩, hz⟩ : ∃ z, s.nd n = z := ⟨_, rfl⟩
      rw [hz] at n1
      simp only [ndV] at n1
      clear hsk hD gk hh hz hK
      refine w_ fun d => ?_
      refine qq n1 fun u2 hE2 hs2 => ?_
      have hm2 := hE2.at hm0
      have lm2 := lt_of_heap hm2
      refine w_ fun d => ?_
      exact ⟨_, (by omega), es, ck, _, ao, cw, co, ws, K, eA rfl, eA rfl, (hR'.up hE2).up ext_, ⟨hD'⟩, ⟨hws⟩, by omega, rfl⟩
  · have hh : s.has n = true := by
      cases hh : s.has n with
      | true => rfl
      | false => exact absurd (.inl hh) hsk
    have hK : n ∉ K := fun h => hsk (.inr h)
    rw [if_neg hK] at gk
    have g1 : (mget es n).getD (.int .i64 0) = .int .i64 0 := by rw [gk]; rfl
    have hKl2 := hD.len' W hh hK
    have ok := G.node n hh (by simp)
    have blo := (Md.below_lt W ok.lo).1
    have bhi := (Md.below_lt W ok.hi).1
    have hD' : Rdf s rs (K ++ [n]) (ws ++ [(s.nd n).2.1, (s.nd n).2.2]) := hD.go hh hK (by simp) (fun x hx => by rcases List.mem_append.1 hx with h | h; exact .inr (by simp [h]); exact .inl (List.mem_singleton.1 h)) (fun x hx => by simp at hx ⊢; rcases hx with h | h | h <;> simp [h]) (by simp) (by simp)
    rw [nod_has hh] at n1
    obtain ⟨⟨v, lo, hi⟩, hz⟩ : ∃ z, s.nd n = z := ⟨_, rfl⟩
    rw [hz] at n1 hD' blo bhi
    simp only [ndV] at n1
    dsimp only at hD' blo bhi
    have hws2 : ∀ x ∈ ws ++ [lo, hi], x ≤ 9223372036854775807 := fun x hx => by
      simp only [List.mem_append, List.mem_cons, List.not_mem_nil, or_false] at hx
      rcases hx with h | h | h
      · exact hws x h
      · omega
      · omega
    clear hsk hD gk hh hz hK ok hws
    refine w_ fun d => ?_
    refine qq n1 fun u2 hE2 hs2 => ?_
    have hR2 := hR'.up hE2
    clear hm0 lm
    refine w_ fun d => ?_
    refine at_o fun u3 hu3 => ?_
    have hE3 : Ext u2 u3 := by rw [hu3]; exact ext_
    have hx3 : u3.heap[u2.heap.size]? = some (.cells #[.int .i64 v, .int .i64 lo, .int .i64 hi] 39) := by rw [hu3]; exact hA rfl
    have hR3 := hR2.up hE3
    clear hu3 hR2 hR' hE2 hE3 hs2
    have hxl := lt_of_heap hx3
    obtain ⟨hm3, kn3, sw3, so3, nw3, no3, nm3, dis3, ext3⟩ := hR3
    have lm3 := lt_of_heap hm3
    obtain ⟨aw, haw⟩ : ∃ z : Option Addr, some ⟨gw, 0, none⟩ = z := ⟨_, rfl⟩
    rw [haw] at h6 sw3 nw3 dis3
    have hxm : u2.heap.size ≠ bm := fun e => by rw [e, hm3] at hx3; cases hx3
    have nwm : ∀ g, blk aw = some g → g ≠ bm := fun g hg e => by
      obtain ⟨c, hc⟩ := sw3.tag hg; rw [e, hm3] at hc; cases hc
    have nom : ∀ g, blk ao = some g → g ≠ bm := fun g hg e => by
      obtain ⟨c, hc⟩ := so3.tag hg; rw [e, hm3] at hc; cases hc
    obtain ⟨o, ho⟩ : ∃ o, mObj (Value.int .i64) (mput es n (.int .i64 1) ck) (mclock es n ck) = o := ⟨_, rfl⟩
    have sw4 := sw3.upd (b := bm) (o := o) nwm
    have so4 := so3.upd (b := bm) (o := o) nom
    have hm4 : (upd u3 bm o).heap[bm]? = some o := upd_same lm3
    have hx4 : (upd u3 bm o).heap[u2.heap.size]? = some (.cells #[.int .i64 v, .int .i64 lo, .int .i64 hi] 39) := by rw [upd_other (Ne.symm hxm)]; exact hx3
    have ext4 : Ext w (upd u3 bm o) := ext3.upd nm3 _
    obtain ⟨a5, c5, w5, hr5, so5, hC5, hs5, hB5⟩ := pushI so4 (by omega) n
    have sw5 := sw4.chg hC5 fun g hg h2 => dis3 g hg h2
    have hm5 : w5.heap[bm]? = some o := by rw [hC5.heap _ (lt_of_heap hm4) fun h => nom bm h rfl]; exact hm4
    have hx5 : w5.heap[u2.heap.size]? = some (.cells #[.int .i64 v, .int .i64 lo, .int .i64 hi] 39) := by
      rw [hC5.heap _ (lt_of_heap hx4) fun h => by
        obtain ⟨c, hc⟩ := so3.tag h; rw [hx3] at hc; cases hc]; exact hx4
    have ext5 : Ext w w5 := hC5.toExt ext4 fun g hg hb => by have := no3 g hb; omega
    have no5 : ∀ g, blk a5 = some g → w.heap.size ≤ g := fun g hg => by
      rcases hB5 g hg with h | ⟨h, _⟩
      · exact no3 g h
      · have := ext4.size; omega
    have dis5 : ∀ g, blk aw = some g → ¬ blk a5 = some g := fun g hg h => by
      rcases hB5 g h with h | ⟨h, _⟩
      · exact dis3 g hg h
      · have := sw4.lt hg; omega
    obtain ⟨a6, c6, w6, hr6, sw6, hC6, hs6, hB6⟩ := pushI2 sw5 (by omega) lo hi
    have so6 := so5.chg hC6 fun g hg h2 => dis5 g h2 hg
    have hm6 : w6.heap[bm]? = some o := by rw [hC6.heap _ (lt_of_heap hm5) fun h => nwm bm h rfl]; exact hm5
    have ext6 : Ext w w6 := hC6.toExt ext5 fun g hg hb => by have := nw3 g hb; omega
    have nw6 : ∀ g, blk a6 = some g → w.heap.size ≤ g := fun g hg => by
      rcases hB6 g hg with h | ⟨h, _⟩
      · exact nw3 g h
      · have := ext5.size; omega
    have dis6 : ∀ g, blk a6 = some g → ¬ blk a5 = some g := fun g hg h => by
      rcases hB6 g hg with h2 | ⟨h2, _⟩
      · exact dis5 g h2 h
      · have := so5.lt h; omega
    simp only [upd_size] at hr5
    subst ho haw
    have hR6 : RchI w w6 bm _ _ a6 a5 c6 c5 (ws ++ [lo, hi]) (K ++ [n]) := ⟨hm6, kn3.put, sw6, so6, nw6, no5, nm3, dis6, ext6⟩
    have hx5l := lt_of_heap hx5
    have e1 : (ws ++ [lo, hi]).length = ws.length + 2 := by simp
    have e2 : (K ++ [n]).length = K.length + 1 := by simp
    clear hC5 hC6 hB5 hB6 so5 sw5 so4 sw4 so3 sw3 hm4 hm5 hm6 hx4 nw6 no5 dis5 dis6 nwm nom dis3 no3 nw3 nm3 so6 sw6 ext4 ext5 ext6 kn3
    refine w_ fun d => ?_
    exact ⟨_, (by rw [e1, e2]; omega), _, _, a6, a5, c6, c5, ws ++ [lo, hi], K ++ [n], by rw [e1]; exact eA rfl, by rw [e2]; exact eA rfl, hR6.up ext_, ⟨hD'⟩, ⟨hws2⟩, by rw [e1, e2]; omega, rfl⟩
end
end Go.Proofs.Ytpeindhocndmnaa

namespace Go.Bx
open Go
set_option linter.unusedSimpArgs false
set_option linter.unusedVariables false
structure SwL (s : Md) (rs : List Int) (j : Nat) (s' : Md) : Prop where
  swp : Swp s rs s'
  low : ∀ n, s'.has n = true → lvl s.ord (s.nd n).1 < j → s.Rc rs n
noncomputable def Md.swJ (s : Md) (rs : List Int) (j : Nat) : Md := s.dropO (s.keep rs) s.all (s.ord.take j)
noncomputable def Md.swI (s : Md) (rs : List Int) (j : Nat) (v : Int) (i : Nat) : Md := (s.swJ rs j).dropV (s.keep rs) v (s.all.take i)
section
variable {s t : Md} {rs l : List Int} {j i : Nat} {v n : Int}
theorem SwL.start (G : s.Good []) : SwL s rs 0 s := ⟨Swp.start G, fun n hn hl => by
  have hv := (G.node n hn (by simp)).var
  have := G.wf.ord.lt hv
  omega⟩
theorem SwL.ahd (h : SwL s rs j t) (G : s.Good []) (hv : s.ord[j]? = some v) : Ahd s rs t v := fun n hn hl => h.low n hn (by rw [h.swp.nd, G.wf.ord.lvl hv] at hl; exact hl)
theorem SwL.in (h : SwL s rs j t) (G : s.Good []) (hv : s.ord[j]? = some v) (l : List Int) : Swp s rs (t.dropV (s.keep rs) v l) ∧ Ahd s rs (t.dropV (s.keep rs) v l) v :=
  ⟨(Swp.lev G l h.swp (h.ahd G hv)).1, (Swp.lev G l h.swp (h.ahd G hv)).2.1⟩
theorem SwL.next (h : SwL s rs j t) (G : s.Good []) (hv : s.ord[j]? = some v) : SwL s rs (j + 1) (t.dropV (s.keep rs) v s.all) := by
  obtain ⟨a, b, c⟩ := Swp.lev G s.all h.swp (h.ahd G hv)
  refine ⟨a, fun n hn hl => ?_⟩
  rw [c, Bool.and_eq_true] at hn
  by_cases hlk : lvl s.ord (s.nd n).1 < j
  · exact h.low n hn.1 hlk
  · have hvn := (G.node n (h.swp.has n hn.1) (by simp)).var
    have hvr := G.wf.ord.rng j v hv
    have e : (s.nd n).1 = v := G.wf.ord.inj hvn hvr (by rw [G.wf.ord.lvl hv]; omega)
    have h2 := hn.2
    rw [e] at h2
    have hm : n ∈ s.all := G.wf.mem_all.2 (h.swp.has n hn.1)
    simp [hm] at h2
    exact Md.keep_iff.1 h2
theorem swJ_zero : s.swJ rs 0 = s := rfl
theorem swJ_succ (hv : s.ord[j]? = some v) : s.swJ rs (j + 1) = (s.swJ rs j).dropV (s.keep rs) v s.all := by
  unfold Md.swJ Md.dropO
  rw [List.take_add_one, hv, List.foldl_append]; rfl
theorem swJ_all (W : s.WF) : s.swJ rs 8 = s.sweep rs := by
  unfold Md.swJ Md.sweep
  rw [List.take_of_length_le (by rw [W.ord.len]; exact Nat.le_refl _)]
theorem SwL.at (G : s.Good []) : ∀ j, j ≤ 8 → SwL s rs j (s.swJ rs j)
  | 0, _ => SwL.start G
  | j + 1, h => by
    obtain ⟨v, hv⟩ : ∃ v, s.ord[j]? = some v := ⟨_, List.getElem?_eq_getElem (by rw [G.wf.ord.len]; omega)⟩
    rw [swJ_succ hv]
    exact (SwL.at G j (by omega)).next G hv
theorem dropV_take (h : l[i]? = some n) (kp : Int → Bool) : t.dropV kp v (l.take (i + 1)) = (t.dropV kp v (l.take i)).drop1 kp v n := by
  unfold Md.dropV
  rw [List.take_add_one, h, List.foldl_append]; rfl
theorem drop1_no {kp : Int → Bool} (h : (t.of n v && !kp n) = false) : t.drop1 kp v n = t := by unfold Md.drop1; rw [h]; rfl
theorem drop1_yes {kp : Int → Bool} (h1 : t.of n v = true) (h2 : kp n = false) : t.drop1 kp v n = t.drop n := by unfold Md.drop1; rw [h1, h2]; rfl
theorem Swp.freed (h : Swp s rs t) (G : s.Good []) (ha : Ahd s rs t v) (h1 : t.of n v = true) (h2 : s.keep rs n = false) : t.free n = (0, t.drop n) ∧ (t.drop n).a.many = t.a.many - 1 := by
  obtain ⟨h3, h4⟩ := h.free G ha h1 h2
  refine ⟨?_, (h.drop G ha h1 h2).2.2.1⟩
  unfold Md.free
  rw [h3, h4]; rfl
theorem Swp.all (h : Swp s rs t) : t.all = s.all.filter fun n => t.has n := by
  show (((List.range t.N.length).map fun j : Nat => (j : Int) + 2).filter fun n => t.has n) = (((List.range s.N.length).map fun j : Nat => (j : Int) + 2).filter fun n => s.has n).filter fun n => t.has n
  rw [List.filter_filter, h.N]
  refine List.filter_congr fun n _ => ?_
  cases e : t.has n with
  | false => rfl
  | true => rw [h.has n e]; rfl
end
end Go.Bx

namespace Go.Proofs.Ytpeindhocndmnaa
open Go Go.Bx
set_option linter.unusedSimpArgs false
set_option linter.unusedVariables false
set_option maxRecDepth 100000
set_option maxHeartbeats 4000000
attribute [local irreducible] X XO XE XF XD XW thenX inX retX kN CallsR
section
variable {own own1 : Nat → Nat} {w w1 w2 : World} {p : Nat} {s t : Md} {rs : List Int}
theorem TrI.toSw {but : List Int} (h : TrI own w p s but w1) : ∃ own1, StI own1 w1 p s but ∧ Sw own w own1 w1 := by
  obtain ⟨o, h1, h2, h3⟩ := h
  exact ⟨o, h1, h2, h3⟩
theorem Sw.toTr {but : List Int} (h : Sw own w own1 w1) (hI : StI own1 w1 p s but) : TrI own w p s but w1 := ⟨own1, hI, h.ho, h.ch⟩
theorem swSweep_calls {a : Option Addr} {c : Nat} (h : StI own w p s []) (G : s.Good []) (hI : InI w a rs) (hl : rs.length ≤ 1000000) (hn : ∀ n ∈ rs, n ≤ 9223372036854775807) :
    CallsR Try.prog 68 #[.pointer (some ⟨p, 0, none⟩), .slice a rs.length c] w fun r w' => r = .int .i64 (s.a.many - (s.sweep rs).a.many) ∧ TrI own w p (s.sweep rs) [] w' := by
  have W := G.wf
  have hN := wf_N W
  have own0 : ∀ k, w.heap.size ≤ k → own k = 0 := fun k hk => by
    cases ho : own k with
    | zero => rfl
    | succ q => have := h.lt k (by omega); omega
  have hal : s.all.length ≤ 20000 := by have := allTo_len (s := s) (k := s.N.length); rw [allTo_all] at this; omega
  have c1 := fun u (hE : Ext w u) => rdReach_calls (c := c) (h.ext hE) G (Inp.ext hI hE) hl hn
  clear hI hl hn
  refine en2 Try.func68 Try.results68 mixed [] ?_
  intro e0 h0 h1
  refine w_ fun d => ?_
  refine (c1 _ ext_).mono ?_
  rintro _ u1 ⟨ar, cr, l, rfl, hSr, hnr, hE1, hP⟩
  have hEu1 : Ext w u1 := Ext.trans (by exact ext_) hE1
  have hm1 : u1.heap[w.heap.size]? = some (mObj (Value.int .i64) [] 0) := hE1.at (hA rfl)
  obtain ⟨bm, hbm⟩ : ∃ b, w.heap.size = b := ⟨_, rfl⟩
  rw [hbm] at hm1 ⊢
  have hbm' : w.heap.size ≤ bm := by omega
  clear hbm hnr
  have hll : l.length ≤ 20000 := by
    rw [hP.length_eq]
    exact Nat.le_trans (List.length_filter_le _ _) hal
  have hmem : ∀ m, m ∈ l ↔ s.keep rs m = true := fun m => by rw [hP.mem_iff, W.mem_reach, Md.keep_iff]
  have hnd : l.Nodup := hP.nodup_iff.2 (List.Pairwise.imp (fun h => by omega) Md.reach_up)
  clear c1 hP hE1
  refine w_ fun d => ?_
  refine lo_ (fun W e u => ∃ (k : Nat) (es : List (Ent Int)) (ck : Nat), k ≤ l.length ∧ e 21 = .int .i64 k ∧ u.heap[bm]? = some (mObj (Value.int .i64) es ck) ∧ KnS es ck (l.take k) ∧ SlC u 3 ar cr (ints l) ∧ Ext w u) (fun e _ => l.length - nat (e 21)) ?_ ?_
  · exact ⟨0, [], 0, by omega, eA rfl, hA rfl, KnS.nil, hSr.ext ext_, ext_⟩
  clear hSr hm1 hEu1
  rintro e u hf ⟨k, es, ck, hk, h21, hm, hK, hS, hE⟩
  have lm := lt_of_heap hm
  by_cases hkl : k < l.length
  · obtain ⟨n, hn⟩ : ∃ n, l[k]? = some n := ⟨_, List.getElem?_eq_getElem hkl⟩
    obtain ⟨g, cur, rfl, hg, hc, hlt3, hat⟩ := hS.at (i := k) (v := .int .i64 n) (by unfold ints; rw [List.getElem?_map, hn]; rfl)
    rw [List.length_map] at hc
    have lg := lt_of_heap hg
    have hgm : g ≠ bm := fun e => by rw [e, hm] at hg; cases hg
    have hnk : n ∉ l.take k := fun hm => by
      have h3 := hnd
      rw [← List.take_append_drop k l, List.nodup_append] at h3
      exact h3.2.2 n hm n (List.mem_of_getElem? (i := 0) (by rw [List.getElem?_drop]; simpa using hn)) rfl
    have gk := hK.get n
    rw [if_neg hnk] at gk
    have g1 : (mget es n).getD (.int .i64 0) = .int .i64 0 := by rw [gk]; rfl
    have hK' := hK.put (n := n)
    rw [show l.take k ++ [n] = l.take (k + 1) by rw [List.take_add_one, hn]; rfl] at hK'
    have hS' := hS.upd (b := bm) (o := mObj (Value.int .i64) (mput es n (.int .i64 1) ck) (mclock es n ck)) (fun g' hg' => by rw [← blk_g hg']; exact hgm)
    have hE' : Ext w (upd u bm (mObj (Value.int .i64) (mput es n (.int .i64 1) ck) (mclock es n ck))) := hE.upd hbm' _
    clear hnk gk hnd hmem hK hS hE
    refine w_ fun d => ?_
    exact ⟨⟨k + 1, _, _, by omega, eA rfl, hA rfl, hK', hS'.ext ext_, hE'.trans ext_⟩, mA⟩
  obtain rfl : k = l.length := by omega
  rw [List.take_length] at hK
  clear hS hnd
  have hmk : ∀ n, (mget es n).getD (.int .i64 0) = .int .i64 (if s.keep rs n then 1 else 0) := fun n => by
    rw [hK.get n]
    by_cases e : n ∈ l
    · rw [if_pos e, (hmem n).1 e]; rfl
    · rw [if_neg e, show s.keep rs n = false by
        cases h : s.keep rs n with
        | false => rfl
        | true => exact absurd ((hmem n).2 h) e]; rfl
  have cA := fun v (hE' : Ext u v) => stAll_calls ((h.ext hE).ext hE') W
  obtain ⟨oc, hoc⟩ : ∃ oc, OrdC s.ord oc := ordC W.ord.len
  have od := fun v (hE' : Ext u v) => (stOrder_calls (h.ext hE)).at hE'
  rw [hoc.agg] at od
  clear hmem hK
  refine w_ fun d => ?_
  refine (cA _ ext_).mono ?_
  rintro _ v1 ⟨aA, cA', rfl, hSA, hnA, hEA⟩
  have hE1 : Ext u v1 := Ext.trans (by exact ext_) hEA
  have od1 := od v1 hE1
  clear cA od
  refine w_ fun d => ?_
  refine qq od1 fun v2 hE2 hs2 => ?_
  refine w_ fun d => ?_
  have hEw := (hE.trans hE1).trans hE2
  have hI2 := h.ext hEw
  have hm2 := (hE1.trans hE2).at hm
  have hS2 := hSA.ext hE2
  have hoA : ∀ g, blk aA = some g → g < v2.heap.size ∧ own g = 0 := fun g hg => by
    refine ⟨hS2.lt hg, own0 g ?_⟩
    have := hnA g hg
    have := hE.size
    omega
  have hom := own0 bm hbm'
  have lm2 := lt_of_heap hm2
  have hst : ∀ own1 x, Sw own v2 own1 x → x.heap[bm]? = some (mObj (Value.int .i64) es ck) ∧ SlC x 3 aA cA' (ints s.all) := fun own1 x hS => ⟨(hS.out lm2 hom).2.trans hm2, hS2.keep fun g hg => (hS.out (hoA g hg).1 (hoA g hg).2).2⟩
  clear hSA hnA hEA hE1 hE2 hS2 hm2 hoA hom lm2 hs2 hm lm
  refine lo_ (fun W e u => ∃ (j : Nat) (own1 : Nat → Nat), j ≤ 8 ∧ e 34 = .int .i64 j ∧ e 8 = .int .i64 (s.a.many - (s.swJ rs j).a.many) ∧ StI own1 u p (s.swJ rs j) [] ∧ Sw own v2 own1 u) (fun e _ => 8 - nat (e 34)) ?_ ?_
  · exact ⟨0, own, by omega, eA rfl, (by rw [swJ_zero, Int.sub_self]; exact eA rfl), hI2.ext ext_, Sw.of_ext ext_⟩
  clear hI2
  rintro e2 x hf2 ⟨j, own1, hj, h34, h8, hIj, hSj⟩
  by_cases hj8 : j < 8
  · obtain ⟨v, hv⟩ : ∃ v, s.ord[j]? = some v := ⟨_, List.getElem?_eq_getElem (by rw [W.ord.len]; omega)⟩
    have hat := hoc.at_ j v hv
    have hL := SwL.at (rs := rs) G j hj
    have hJ := swJ_succ (rs := rs) hv
    obtain ⟨T, hT⟩ : ∃ T, s.swJ rs j = T := ⟨_, rfl⟩
    rw [hT] at hL hJ h8 hIj
    refine w_ fun d => ?_
    refine lo_ (fun W e u => ∃ (i : Nat) (own1 : Nat → Nat), i ≤ s.all.length ∧ e 39 = .int .i64 i ∧ e 8 = .int .i64 (s.a.many - (T.dropV (s.keep rs) v (s.all.take i)).a.many) ∧ StI own1 u p (T.dropV (s.keep rs) v (s.all.take i)) [] ∧ Sw own v2 own1 u) (fun e _ => s.all.length - nat (e 39)) ?_ ?_
    · exact ⟨0, own1, by omega, eA rfl, eA h8, hIj.ext ext_, hSj.ext ext_⟩
    clear h8 hIj hSj
    rintro e3 y hf3 ⟨i, own2, hi, h39, h8, hI, hS⟩
    obtain ⟨hSw, hAh⟩ := hL.in G hv (s.all.take i)
    by_cases hil : i < s.all.length
    · obtain ⟨n, hn⟩ : ∃ n, s.all[i]? = some n := ⟨_, List.getElem?_eq_getElem hil⟩
      have hD := dropV_take (t := T) (v := v) hn (s.keep rs)
      obtain ⟨U, hU⟩ : ∃ U, T.dropV (s.keep rs) v (s.all.take i) = U := ⟨_, rfl⟩
      rw [hU] at hD hSw hAh h8 hI
      obtain ⟨hmy, hSy⟩ := hst _ _ hS
      have gk := hmk n
      have lmy := lt_of_heap hmy
      have hnb : n ≤ 9223372036854775807 := by
        have := W.lt (W.mem_all.1 (List.mem_of_getElem? hn)); omega
      have hnb0 : 0 ≤ n := by
        have := W.lt (W.mem_all.1 (List.mem_of_getElem? hn)); omega
      have WU := hSw.good.wf
      have n1 := stNode_calls hI WU n hnb
      obtain ⟨g, cur, rfl, hg, hc, hlt3, hat3⟩ := hSy.at (i := i) (v := .int .i64 n) (by unfold ints; rw [List.getElem?_map, hn]; rfl)
      rw [List.length_map] at hc
      have lg := lt_of_heap hg
      have hmU := WU.ar.many_le
      have hms := W.ar.many_le
      have hmoU := WU.ar.most
      have hmo := W.ar.most
      have hfr := fun z own3 (hIz : StI own3 z p U []) => stFree_calls hIz hSw.good hnb
      clear hst hL hJ hmk
      cases hh : U.has n with
      | false =>
        rw [drop1_no (show (U.of n v && !s.keep rs n) = false by unfold Md.of; rw [hh]; rfl)] at hD
        rw [nod_no hh] at n1
        simp only [ndV] at n1
        rw [← hD] at h8 hI
        clear hfr gk hSw hAh hh hD WU
        refine w_ fun d => ?_
        refine qq n1 fun y1 hE1 hs1 => ?_
        refine w_ fun d => ?_
        exact ⟨⟨i + 1, own2, by omega, eA rfl, eA h8, hI.ext ext_, hS.ext ext_⟩, mA⟩
      | true =>
        rw [nod_has hh] at n1
        obtain ⟨⟨v', lo, hi'⟩, hz⟩ : ∃ z, U.nd n = z := ⟨_, rfl⟩
        rw [hz] at n1
        simp only [ndV] at n1
        by_cases hvv : v' = v
        · subst hvv
          have hof : U.of n v' = true := by unfold Md.of; rw [hh, hz]; simp
          cases hk : s.keep rs n with
          | true =>
            rw [hk] at gk
            rw [drop1_no (show (U.of n v' && !s.keep rs n) = false by rw [hk]; simp)] at hD
            rw [← hD] at h8 hI
            simp only [if_true] at gk
            clear hfr hSw hAh hh hz hD WU hof hk
            refine w_ fun d => ?_
            refine qq n1 fun y1 hE1 hs1 => ?_
            have hm1 := hE1.at hmy
            have lm1 := lt_of_heap hm1
            refine w_ fun d => ?_
            exact ⟨⟨i + 1, own2, by omega, eA rfl, eA h8, hI.ext ext_, hS.ext ext_⟩, mA⟩
          | false =>
            rw [hk] at gk
            obtain ⟨hF, hM⟩ := hSw.freed G hAh hof hk
            rw [drop1_yes hof hk] at hD
            rw [hF] at hfr
            simp only [errV0] at hfr
            simp only [Bool.false_eq_true, if_false] at gk
            clear hSw hAh hh hz WU hof hk hF
            refine w_ fun d => ?_
            refine qq n1 fun y1 hE1 hs1 => ?_
            have hm1 := hE1.at hmy
            have lm1 := lt_of_heap hm1
            refine w_ fun d => ?_
            refine (hfr _ own2 (hI.ext ext_)).mono ?_
            rintro _ y2 ⟨rfl, hTr⟩
            obtain ⟨own3, hI3, hS3⟩ := hTr.toSw
            have hS4 := (hS.ext (by exact ext_)).trans hS3
            refine w_ fun d => ?_
            rw [← hD] at hI3
            exact ⟨⟨i + 1, own3, by omega, eA rfl, (by rw [hD, hM, show s.a.many - (U.a.many - 1) = s.a.many - U.a.many + 1 by omega]; exact eA rfl), hI3.ext ext_, hS4.ext ext_⟩, mA⟩
        · rw [drop1_no (show (U.of n v && !s.keep rs n) = false by unfold Md.of; rw [hz, decide_eq_false hvv, Bool.and_false]; rfl)] at hD
          rw [← hD] at h8 hI
          have hvb : (v' == v) = false := by simpa using hvv
          clear hfr gk hSw hAh hh hz hD WU
          refine w_ fun d => ?_
          refine qq n1 fun y1 hE1 hs1 => ?_
          refine w_ fun d => ?_
          exact ⟨⟨i + 1, own2, by omega, eA rfl, eA h8, hI.ext ext_, hS.ext ext_⟩, mA⟩
    · obtain rfl : i = s.all.length := by omega
      rw [List.take_length, ← hJ] at h8 hI
      clear hst hL hSw hAh hmk
      refine w_ fun d => ?_
      exact ⟨⟨j + 1, own2, by omega, eA rfl, eA h8, hI.ext ext_, hS.ext ext_⟩, mA⟩
  · obtain rfl : j = 8 := by omega
    rw [swJ_all W] at h8 hIj
    clear hst hmk
    refine w_ fun d => ?_
    exact ⟨rfl, ((Sw.of_ext hEw).trans (hSj.ext ext_)).toTr (hIj.ext ext_)⟩
end
end Go.Proofs.Ytpeindhocndmnaa

namespace Go.Bx
open Go
set_option linter.unusedSimpArgs false
set_option linter.unusedVariables false
section
variable {s t : Md} {rs : List Int} {L : List Fun8} {n v : Int} {f : Fun8}
theorem top_nd (G : s.Good []) (d : Den s n f) (hn : s.has n = true) : 0 ≤ topF s.ord f ∧ topF s.ord f = (s.nd n).1 := by
  have h1 := G.top hn d
  obtain ⟨h2, h3⟩ := top_first G.wf.ord h1
  have h4 := (G.dep d (topF_dep h2)).2
  have hr := top_rng h2
  exact ⟨h2, G.wf.ord.inj hr (G.node n hn (by simp)).var (by omega)⟩
theorem rc_rch (G : s.Good []) (hr : ∀ r ∈ rs, ∃ f ∈ L, Den s r f) (h : s.Rc rs n) : ∃ f, Den s n f ∧ Rch s.ord L f := by
  induction h with
  | root hm hh => obtain ⟨f, hf, d⟩ := hr _ hm; exact ⟨f, d, .base hf⟩
  | @lo m h hh ih =>
    obtain ⟨f, d, r⟩ := ih
    obtain ⟨h2, h3⟩ := top_nd G d h.has
    exact ⟨_, (G.sides d h.has).1, .step r (by unfold kids; rw [if_pos h2, h3]; simp)⟩
  | @hi m h hh ih =>
    obtain ⟨f, d, r⟩ := ih
    obtain ⟨h2, h3⟩ := top_nd G d h.has
    exact ⟨_, (G.sides d h.has).2, .step r (by unfold kids; rw [if_pos h2, h3]; simp)⟩
theorem Swept.den (h : Swept s rs t) (d : Den s n f) : (s.has n = true → s.Rc rs n) → Den t n f := by
  induction d with
  | c0 => intro _; exact .c0
  | c1 => intro _; exact .c1
  | @node n u lo hi f0 f1 hn hx h0 h1 ih0 ih1 =>
    intro hc
    have hr := hc hn
    refine .node ((h.only n).2 hr) (by rw [h.swp.nd]; exact hx) (ih0 fun hl => ?_) (ih1 fun hl => ?_)
    · have := Md.Rc.lo hr (by rw [hx]; exact hl)
      rwa [hx] at this
    · have := Md.Rc.hi hr (by rw [hx]; exact hl)
      rwa [hx] at this
theorem Swept.back (h : Swept s rs t) (d : Den t n f) : Den s n f := d.keep h.swp.has fun _ _ => h.swp.nd.symm
theorem Swept.root (h : Swept s rs t) (d : Den s n f) (hn : n ∈ rs) : Den t n f := h.den d fun hh => .root hn hh
theorem Swept.full (h : Swept s rs t) (G : s.Good []) (hr : ∀ r ∈ rs, ∃ f ∈ L, Den s r f) : t.Full L := fun n f hn d => by
  obtain ⟨g, d', r⟩ := rc_rch G hr ((h.only n).1 hn)
  rw [(h.back d).fn d', h.swp.ord]; exact r
theorem Swept.size (h : Swept s rs t) (G : s.Good []) (hr : ∀ r ∈ rs, ∃ f ∈ L, Den s r f) (hl : ∀ f ∈ L, ∃ r ∈ rs, Den s r f) : t.a.many = sizeF s.ord L := by
  rw [← h.swp.ord]
  refine (h.full G hr).size h.swp.good fun f hf => ?_
  obtain ⟨r, hm, d⟩ := hl f hf
  exact ⟨r, h.root d hm⟩
theorem Swept.all (h : Swept s rs t) : t.all = s.reach rs := by
  rw [h.swp.all]
  unfold Md.reach
  refine List.filter_congr fun n _ => ?_
  rw [Bool.eq_iff_iff, h.only, Md.keep_iff]
theorem Swept.len (h : Swept s rs t) : ((s.reach rs).length : Int) = t.a.many := by rw [← h.all]; exact h.swp.good.wf.len_all
theorem Swept.again (h : Swept s rs t) : t.sweep rs = t := by
  have hk : ∀ n, t.has n = true → t.keep rs n = true := fun n hn => by
    have hr := (h.only n).1 hn
    clear hn
    rw [Md.keep_iff]
    induction hr with
    | root hm hh => exact .root hm (h.swp.kept _ (.root hm hh))
    | @lo m h2 hh ih =>
      have := Md.Rc.lo ih (by rw [h.swp.nd]; exact h.swp.kept _ (.lo h2 hh))
      rwa [h.swp.nd] at this
    | @hi m h2 hh ih =>
      have := Md.Rc.hi ih (by rw [h.swp.nd]; exact h.swp.kept _ (.hi h2 hh))
      rwa [h.swp.nd] at this
  have one : ∀ v l, t.dropV (t.keep rs) v l = t := fun v l => by
    induction l with
    | nil => rfl
    | cons n l ih =>
      show (t.drop1 (t.keep rs) v n).dropV (t.keep rs) v l = t
      rw [drop1_no (by
        unfold Md.of
        cases hh : t.has n with
        | true => rw [hk n hh]; simp
        | false => rfl)]
      exact ih
  unfold Md.sweep
  generalize t.ord = o
  induction o with
  | nil => rfl
  | cons v o ih =>
    show (t.dropV (t.keep rs) v t.all).dropO (t.keep rs) t.all o = t
    rw [one]; exact ih
theorem Swept.none (h : Swept s [] t) : t.a.many = 0 := by
  have : ∀ n, ¬ s.Rc [] n := fun n hn => by
    induction hn with
    | root hm _ => cases hm
    | lo _ _ ih => exact ih
    | hi _ _ ih => exact ih
  have hl := h.len
  have : s.reach [] = [] := by
    rw [List.eq_nil_iff_forall_not_mem]
    intro n hn
    unfold Md.reach at hn
    exact this n (Md.keep_iff.1 (List.mem_filter.1 hn).2)
  rw [this] at hl
  simp at hl
  omega
end
end Go.Bx

namespace Go.Proofs.Ytpeindhocndmnaa
open Go Go.Bx
set_option linter.unusedSimpArgs false
set_option linter.unusedVariables false
set_option maxRecDepth 100000
set_option maxHeartbeats 4000000
attribute [local irreducible] X XO XE XF XD XW thenX inX retX kN CallsR
section
variable {W w w' w1 w2 : World} {ps : Nat} {own own' : Nat → Nat} {s s' : Md} {a b : Option Addr} {cap : Nat} {l rs : List Int} {x : Int}
structure LiI (W w : World) (own : Nat → Nat) (a : Option Addr) (cap : Nat) (l : List Int) : Prop where
  sl : SlC w 3 a cap (ints l)
  ow : ∀ g, blk a = some g → own g = 0 ∧ W.heap.size ≤ g
theorem LiI.nil (W w : World) (own : Nat → Nat) : LiI W w own none 0 [] := ⟨SlC.nil _ _, fun g h => by cases h⟩
theorem LiI.up (h : LiI W w own a cap l) (hE : Ext w w') : LiI W w' own a cap l := ⟨h.sl.ext hE, h.ow⟩
theorem LiI.sw (h : LiI W w own a cap l) (hS : Sw own w own' w') : LiI W w' own' a cap l := ⟨hS.slc h.sl fun g hg => (h.ow g hg).1, fun g hg => ⟨hS.own0 (h.sl.lt hg) (h.ow g hg).1, (h.ow g hg).2⟩⟩
theorem LiI.chg {F : Nat → Prop} (h : LiI W w own a cap l) (hC : Chg F w w') (hF : ∀ g, blk a = some g → ¬ F g) : LiI W w' own a cap l := ⟨h.sl.chg hC hF, h.ow⟩
theorem LiI.push (h : LiI W w own a cap l) (hO : OnR W w ps s own) (hm : l.length ≤ 1000000000) (x : Int) :
    ∃ a' cap' w', apR Try.prog 34 (.slice a l.length cap) (.slice (some ⟨w.heap.size, 0, none⟩) 1 1) (w.alloc (.cells #[.int .i64 x] 3)) = .ok (.slice a' (l.length + 1) cap') w' ∧
      LiI W w' own a' cap' (l ++ [x]) ∧ OnR W w' ps s own ∧ Chg (fun k => blk a = some k) w w' ∧ (∀ g, blk a' = some g → blk a = some g ∨ w.heap.size ≤ g) := by
  obtain ⟨a', c', w', hr, hS, hC, hs, hB⟩ := pushI h.sl hm x
  refine ⟨a', c', w', hr, ⟨hS, fun g hg => ?_⟩, hO.chg hC h.ow, hC, fun g hg => (hB g hg).imp id fun h => h.1⟩
  rcases hB g hg with hb | ⟨hb, _⟩
  · exact h.ow g hb
  · exact ⟨hO.fresh hb, Nat.le_trans hO.ext.size hb⟩
theorem onSweep {c : Nat} (h : OnR W w ps s own) (G : s.Good []) (hI : InI w a rs) (hl : rs.length ≤ 1000000) (hn : ∀ n ∈ rs, n ≤ 9223372036854775807) :
    CallsR Try.prog 68 #[.pointer (some ⟨ps, 0, none⟩), .slice a rs.length c] w fun r w' => r = .int .i64 (s.a.many - (s.sweep rs).a.many) ∧ ∃ own', OnR W w' ps (s.sweep rs) own' ∧ Sw own w own' w' :=
  h.call (R := fun r => r = .int .i64 (s.a.many - (s.sweep rs).a.many)) (swSweep_calls h.sti G hI hl hn)
theorem up12_calls (w : World) : CallsR Try.prog 67 #[] w fun r w' => r = .bool true ∧ Ext w w' := by
  have G0 : (Md.new 3).Good [] := Md.Good.start (by decide) (by decide)
  have r1 : ((Md.new 3).mk' [] 0 0 1).1 = (2, 0) := by decide +kernel
  have r5 : ((Md.new 3).mk' [] 0 0 1).2.a.many = 1 := by decide +kernel
  have r6 : ((Md.new 3).mk' [] 0 0 1).2.has 2 = true := by decide +kernel
  have G1 := (G0.mks 0 0 1).1
  have c0 := fun u (hE : Ext w u) => oneNew (M := 3) (by decide) (by decide) hE
  have c1 := fun u p own (h : OnR w u p (Md.new 3) own) => h.call (R := fun r => r = .tuple #[.int .i64 2, errV 0]) (s' := ((Md.new 3).mk' [] 0 0 1).2) (by
    have := stMk_calls (v := 0) (lo := 0) (hi := 1) h.sti G0 (by decide) (by decide)
    rw [r1] at this
    exact this)
  generalize ((Md.new 3).mk' [] 0 0 1).2 = s1 at *
  rw [errV0] at c1
  have S1 := G1.swept (rs := [2])
  have m2 : (s1.sweep [2]).a.many = 1 := by
    rw [← S1.len]
    have h1 := G1.wf.len_all
    have h2 : (s1.reach [2]).length ≤ s1.all.length := List.length_filter_le _ _
    have h3 : (2 : Int) ∈ s1.reach [2] := G1.wf.mem_reach.2 (.root (by simp) r6)
    have h4 := List.length_pos_of_mem h3
    omega
  have G2 := S1.swp.good
  have c2 := fun u p own a (h : OnR w u p s1 own) (hI : InI u a [2]) => onSweep (c := 1) h G1 hI (by simp) (fun n hn => by rw [List.mem_singleton.1 hn]; decide)
  rw [r5, m2] at c2
  generalize s1.sweep [2] = s2 at *
  have S2 := G2.swept (rs := [])
  have m3 := S2.none
  have G3 := S2.swp.good
  have c3 := fun u p own (h : OnR w u p s2 own) => onSweep (a := none) (c := 0) (rs := []) h G2 (.inl rfl) (by simp) (fun n hn => by cases hn)
  rw [m2, m3] at c3
  generalize s2.sweep [] = s3 at *
  clear r1 r5 r6 G0 S1 S2
  refine en0 Try.func67 Try.results67 mixed [] ?_
  intro e0
  refine w_ fun d => ?_
  refine (c0 _ ext_).mono ?_
  rintro _ w1 ⟨p, rfl, h1⟩
  obtain ⟨o1, k1⟩ := h1.to
  clear h1 c0
  refine w_ fun d => ?_
  refine (c1 _ _ _ (k1.up ext_)).mono ?_
  rintro _ w2 ⟨rfl, o2, k2, _⟩
  clear c1 k1
  refine w_ fun d => ?_
  refine at_c fun v hv => ?_
  have hE : Ext w2 v := by rw [hv]; exact ext_
  have hI : InI v (some ⟨w2.heap.size, 0, none⟩) [2] := (SlC.made (l := ints [2]) (by rw [hv]; exact hA rfl) (by simp)).inp
  clear hv
  refine (c2 _ _ _ _ (k2.up hE) hI).mono ?_
  rintro _ w3 ⟨rfl, o3, k3, _⟩
  have lv := stLive_calls k3.sti G2.wf
  rw [m2] at lv
  clear c2 k2 hI hE
  refine w_ fun d => ?_
  refine qq lv fun w4 hE4 hs4 => ?_
  refine w_ fun d => ?_
  refine (c3 _ _ _ ((k3.up hE4).up ext_)).mono ?_
  rintro _ w5 ⟨rfl, o5, k5, _⟩
  have lv5 := stLive_calls k5.sti G3.wf
  rw [m3] at lv5
  have hW := k5.ext
  clear c3 k3 k5 lv
  refine w_ fun d => ?_
  refine qq lv5 fun w6 hE6 hs6 => ?_
  refine w_ fun d => ?_
  exact ⟨rfl, ext_⟩
end
end Go.Proofs.Ytpeindhocndmnaa

namespace Go.Bx
open Go
set_option linter.unusedSimpArgs false
set_option linter.unusedVariables false
end Go.Bx

namespace Go.Proofs.Ytpeindhocndmnaa
open Go Go.Bx
set_option linter.unusedSimpArgs false
set_option linter.unusedVariables false
set_option maxRecDepth 100000
set_option maxHeartbeats 4000000
attribute [local irreducible] X XO XE XF XD XW thenX inX retX kN CallsR
def k3 (x : Int × Int × Int) : Value := .agg #[.int .i64 x.1, .int .i64 x.2.1, .int .i64 x.2.2]
end Go.Proofs.Ytpeindhocndmnaa

namespace Go.Proofs.Ytpeindhocndmnaa
open Go Go.Bx
set_option linter.unusedSimpArgs false
set_option linter.unusedVariables false
set_option maxRecDepth 100000
set_option maxHeartbeats 4000000
attribute [local irreducible] X XO XE XF XD XW thenX inX retX kN CallsR
end Go.Proofs.Ytpeindhocndmnaa

namespace Go.Proofs.Ytpeindhocndmnaa
open Go Go.Bx
set_option linter.unusedSimpArgs false
set_option linter.unusedVariables false
set_option maxRecDepth 100000
set_option maxHeartbeats 4000000
attribute [local irreducible] X XO XE XF XD XW thenX inX retX kN CallsR
end Go.Proofs.Ytpeindhocndmnaa

namespace Go.Proofs.Ytpeindhocndmnaa
open Go Go.Bx
set_option linter.unusedSimpArgs false
set_option linter.unusedVariables false
set_option maxRecDepth 100000
set_option maxHeartbeats 4000000
attribute [local irreducible] X XO XE XF XD XW thenX inX retX kN CallsR
def KnI (s : Md) (es : List (Ent (Int × Int × Int))) : Prop := ∀ x ∈ es, ∃ (n : Int) (f g h : Fun8), x.2.1 = .int .i64 n ∧ Den s x.1.1 f ∧ Den s x.1.2.1 g ∧ Den s x.1.2.2 h ∧ Den s n (iteF f g h)
structure IcI (own : Nat → Nat) (w : World) (p : Nat) (s : Md) (pc bm : Nat) (es : List (Ent (Int × Int × Int))) (ck : Nat) : Prop where
  sti : StI own w p s []
  hb : w.heap[pc]? = some (.cells #[.map (some bm)] 134)
  hm : w.heap[bm]? = some (mObj k3 es ck)
  inv : MInv es ck
  kn : KnI s es
  ob : own pc = 0
  om : own bm = 0
section
variable {own own' own1 : Nat → Nat} {w w' w1 w2 : World} {p pc bm ck : Nat} {s s' s2 : Md} {es : List (Ent (Int × Int × Int))} {n a b c : Int} {f g k : Fun8}
def IcT (own : Nat → Nat) (w : World) (p : Nat) (s' : Md) (pc bm : Nat) (w' : World) : Prop := ∃ own' es' ck', IcI own' w' p s' pc bm es' ck' ∧ BtS own w bm own' w'
end
end Go.Proofs.Ytpeindhocndmnaa

namespace Go.Proofs.Ytpeindhocndmnaa
open Go Go.Bx
set_option linter.unusedSimpArgs false
set_option linter.unusedVariables false
set_option maxRecDepth 100000
set_option maxHeartbeats 4000000
attribute [local irreducible] X XO XE XF XD XW thenX inX retX kN CallsR
end Go.Proofs.Ytpeindhocndmnaa

namespace Go.Proofs.Ytpeindhocndmnaa
open Go Go.Bx
set_option linter.unusedSimpArgs false
set_option linter.unusedVariables false
set_option maxRecDepth 100000
set_option maxHeartbeats 4000000
attribute [local irreducible] X XO XE XF XD XW thenX inX retX kN CallsR
end Go.Proofs.Ytpeindhocndmnaa

namespace Go.Bx
open Go
set_option linter.unusedSimpArgs false
set_option linter.unusedVariables false
noncomputable def Md.restr (s : Md) (a v : Int) (b : Bool) : (Int × Int) × Md := if s.there a && (decide (0 ≤ v) && decide (v < 8)) then s.bld (cofF (s.tab a) v b) else ((0, 1), s)
noncomputable def Md.both (s : Md) (a v : Int) (k : Md → Int → Int → (Int × Int) × Md) : (Int × Int) × Md :=
  if (s.restr a v false).1.2 = 0 then
    if ((s.restr a v false).2.restr a v true).1.2 = 0 then k ((s.restr a v false).2.restr a v true).2 (s.restr a v false).1.1 ((s.restr a v false).2.restr a v true).1.1
    else (s.restr a v false).2.restr a v true
  else s.restr a v false
noncomputable def Md.compose (s : Md) (a v g : Int) : (Int × Int) × Md := if s.there g && (decide (0 ≤ v) && decide (v < 8)) then s.both a v fun s lo hi => s.ite g hi lo else ((0, 1), s)
noncomputable def Md.exist (s : Md) (a v : Int) : (Int × Int) × Md := s.both a v fun s lo hi => s.ite lo 1 hi
noncomputable def Md.forall_ (s : Md) (a v : Int) : (Int × Int) × Md := s.both a v fun s lo hi => s.ite lo hi 0
section
variable {s s' : Md} {n m a b c v g : Int} {f h : Fun8} {rs : List Int}
noncomputable def Md.step (s : Md) (rs : List Int) (v : Int) (down : Bool) : Bool × Md :=
  if (s.swap (if down then lvl s.ord v else lvl s.ord v - 1)).1 = 0 then (true, (s.swap (if down then lvl s.ord v else lvl s.ord v - 1)).2.sweep rs) else (false, s)
structure Lk where
  s : Md
  best : Int
  few : Int
noncomputable def Lk.go (rs : List Int) (v grow : Int) (down : Bool) : Nat → Lk → Lk
  | 0, x => x
  | k + 1, x =>
    if lvl x.s.ord v = (if down then 7 else 0) then x
    else if (x.s.step rs v down).1 = false then x
    else
      let s' := (x.s.step rs v down).2
      let y : Lk := if s'.a.many < x.few then ⟨s', lvl s'.ord v, s'.a.many⟩ else ⟨s', x.best, x.few⟩
      if grow < s'.a.many then y else Lk.go rs v grow down k y
noncomputable def Md.back (rs : List Int) (v best : Int) : Nat → Md → Md
  | 0, s => s
  | k + 1, s => if lvl s.ord v = best then s else if (s.step rs v (decide (lvl s.ord v < best))).1 = false then s else Md.back rs v best k (s.step rs v (decide (lvl s.ord v < best))).2
noncomputable def Md.sift (s : Md) (rs : List Int) (v grow : Int) : Md :=
  let s1 := s.sweep rs
  let x := Lk.go rs v grow false 8 (Lk.go rs v grow true 8 ⟨s1, lvl s1.ord v, s1.a.many⟩)
  Md.back rs v x.best 8 x.s
noncomputable def Md.siftAll (rs : List Int) (grow : Int) (l : List Int) (s : Md) : Md := l.foldl (fun s v => s.sift rs v grow) s
end
end Go.Bx

namespace Go.Proofs.Ytpeindhocndmnaa
open Go Go.Bx
set_option linter.unusedSimpArgs false
set_option linter.unusedVariables false
set_option maxRecDepth 100000
set_option maxHeartbeats 4000000
attribute [local irreducible] X XO XE XF XD XW thenX inX retX kN CallsR
end Go.Proofs.Ytpeindhocndmnaa

namespace Go.Proofs.Ytpeindhocndmnaa
open Go Go.Bx
set_option linter.unusedSimpArgs false
set_option linter.unusedVariables false
set_option maxRecDepth 100000
set_option maxHeartbeats 4000000
attribute [local irreducible] X XO XE XF XD XW thenX inX retX kN CallsR
def CaI (W w : World) (ps pc : Nat) (s : Md) : Prop := ∃ own bm es ck, IcI own w ps s pc bm es ck ∧ (∀ k, own k ≠ 0 → W.heap.size ≤ k) ∧ W.heap.size ≤ bm ∧ Ext W w
end Go.Proofs.Ytpeindhocndmnaa

namespace Go.Proofs.Ytpeindhocndmnaa
open Go Go.Bx
set_option linter.unusedSimpArgs false
set_option linter.unusedVariables false
set_option maxRecDepth 100000
set_option maxHeartbeats 4000000
attribute [local irreducible] X XO XE XF XD XW thenX inX retX kN CallsR
section
variable {P : Program} {w : World} {t ty kt et b clock sz by_ : Nat} {z : Value} {e : Env} {x : Operand} {κ : Type} {kf : κ → Value} {es : List (Ent κ)}
def clR (P : Program) (t : TypeId) (a : Value) (w : World) : Result Value := (Builtin.clear_ #[t] 0 #[a]).run P w
def clO (P : Program) (t : TypeId) (b : Nat) (w : World) (ob : Option Obj) (_ : w.heap[b]? = ob) : Result Value := clR P t (.map (some b)) w
theorem rG_clear : rG P (.call { callee := .builtin .clear, args := #[x], argTypes := #[t] }) ty e w = vR (clR P t (ev e x) w) := by
  show (do let d ← resolve (ev e) { callee := .builtin .clear, args := #[x], argTypes := #[t] } ty; invoke d.target d.args : Sem Next).run P w = _
  simp only [Sem.run_bind, resolve, pure, Sem.run, Result.andThen_ok, invoke, builtin]
  simp only [List.map_toArray, List.map_cons, List.map_nil]
  rfl
theorem clR_map : clR P t (.map (some b)) w = clO P t b w (w.heap[b]?) rfl := rfl
attribute [push_cast] rG_clear clR_map
end
section
variable {own own1 : Nat → Nat} {W w w' w1 w2 : World} {p pc ps pm bm ck : Nat} {s s' sM s2 : Md} {es : List (Ent (Int × Int × Int))} {a b c n v g : Int} {f : Fun8}
def PcK (W w : World) (ps pc pm : Nat) (s sM : Md) (kp : List (Nat × Obj)) : Prop :=
  ∃ own bm es ck ownM, IcI own w ps s pc bm es ck ∧ RsI ownM w pm sM ∧ (∀ k, own k ≠ 0 → ownM k = 0) ∧ ownM pc = 0 ∧ ownM bm = 0 ∧ (∀ k, own k ≠ 0 → W.heap.size ≤ k) ∧ (∀ k, ownM k ≠ 0 → W.heap.size ≤ k) ∧ W.heap.size ≤ bm ∧ Ext W w ∧ (∀ x ∈ kp, w.heap[x.1]? = some x.2 ∧ own x.1 = 0 ∧ ownM x.1 = 0 ∧ x.1 ≠ bm)
abbrev PcI (W w : World) (ps pc pm : Nat) (s sM : Md) : Prop := PcK W w ps pc pm s sM []
variable {kp : List (Nat × Obj)}
end
end Go.Proofs.Ytpeindhocndmnaa

namespace Go.Proofs.Ytpeindhocndmnaa
open Go Go.Bx
set_option linter.unusedSimpArgs false
set_option linter.unusedVariables false
set_option maxRecDepth 100000
set_option maxHeartbeats 4000000
attribute [local irreducible] X XO XE XF XD XW thenX inX retX kN CallsR
def okL (l : List Int) : Prop := ∀ n ∈ l, okI n
section
variable {W w w' w1 w2 : World} {p ps pm pc : Nat} {s s' sM : Md} {n v x y lo hi : Int}
theorem funAt {a : Option Addr} {l : List Fun8} (h : Inp w 4 a (l.map rowF)) {i : Nat} {f : Fun8} (hf : l[i]? = some f) :
    ∃ g o cs E fz, a = some ⟨g, o, none⟩ ∧ w.heap[g]? = some (.cells cs E fz) ∧ o + i * 4 + 4 ≤ cs.size ∧ Value.agg (cs.extract (o + i * 4) (o + i * 4 + 4)) = fv f := by
  rcases h with h | ⟨g, o, cs, E, fz, rfl, h2, h3⟩
  · rw [List.map_eq_nil_iff.1 h] at hf; simp at hf
  · have hr := h3 i (rowF f) (by rw [List.getElem?_map, hf]; rfl)
    obtain ⟨k1, k2⟩ := rowF_at (i := o + i * 4) hr
    exact ⟨g, o, cs, E, fz, rfl, h2, k1, k2⟩
end
end Go.Proofs.Ytpeindhocndmnaa

namespace Go.Proofs.Ytpeindhocndmnaa
open Go Go.Bx
set_option linter.unusedSimpArgs false
set_option linter.unusedVariables false
set_option maxRecDepth 100000
set_option maxHeartbeats 4000000
attribute [local irreducible] X XO XE XF XD XW thenX inX retX kN CallsR
section
variable {W w w' w1 w2 : World} {ps : Nat} {own own' : Nat → Nat} {s s' : Md} {a b : Option Addr} {cap : Nat} {l : List Fun8} {x : Int}
structure LiF (W w : World) (own : Nat → Nat) (a : Option Addr) (cap : Nat) (l : List Fun8) : Prop where
  sl : SlF w a cap l
  ow : ∀ g, blk a = some g → own g = 0 ∧ W.heap.size ≤ g
theorem LiF.nil (W w : World) (own : Nat → Nat) : LiF W w own none 0 [] := ⟨Sl.nil _ _ _, fun g h => by cases h⟩
theorem LiF.up (h : LiF W w own a cap l) (hE : Ext w w') : LiF W w' own a cap l := ⟨h.sl.ext hE, h.ow⟩
theorem LiF.sw (h : LiF W w own a cap l) (hS : Sw own w own' w') : LiF W w' own' a cap l := ⟨Sl.keep h.sl fun g hg => (hS.out (Sl.lt h.sl hg) (h.ow g hg).1).2, fun g hg => ⟨hS.own0 (Sl.lt h.sl hg) (h.ow g hg).1, (h.ow g hg).2⟩⟩
theorem LiF.chg {F : Nat → Prop} (h : LiF W w own a cap l) (hC : Chg F w w') (hF : ∀ g, blk a = some g → ¬ F g) : LiF W w' own a cap l := ⟨Sl.chg h.sl hC hF, h.ow⟩
theorem LiF.push (h : LiF W w own a cap l) (hO : OnR W w ps s own) (hm : l.length ≤ 1000000000) (f : Fun8) :
    ∃ a' cap' w', apR Try.prog 65 (.slice a l.length cap) (.slice (some ⟨w.heap.size, 0, none⟩) 1 1) (w.alloc (.cells (rowsF [f]) 54)) = .ok (.slice a' (l.length + 1) cap') w' ∧
      LiF W w' own a' cap' (l ++ [f]) ∧ OnR W w' ps s own ∧ Chg (fun k => blk a = some k) w w' ∧ (∀ g, blk a' = some g → blk a = some g ∨ w.heap.size ≤ g) := by
  obtain ⟨a', c', w', hr, hS, hC, hs, hB⟩ := pushF (news := [f]) h.sl (by simp; omega) (k := 1) rfl
  rw [List.length_append, List.length_singleton] at hr
  refine ⟨a', c', w', hr, ⟨hS, fun g hg => ?_⟩, hO.chg hC h.ow, hC, fun g hg => (hB g hg).imp id fun h => h.1⟩
  rcases hB g hg with hb | ⟨hb, _⟩
  · exact h.ow g hb
  · exact ⟨hO.fresh hb, Nat.le_trans hO.ext.size hb⟩
theorem LiF.ne {c : Option Addr} {cap' : Nat} {k : List Int} {o2 : Nat → Nat} (h : LiF W w own a cap l) (h2 : LiI W w o2 c cap' k) {g : Nat} (hg : blk a = some g) : ¬ blk c = some g := fun hc => by
  obtain ⟨x, hx⟩ := h.sl.l.tag hg
  obtain ⟨y, hy⟩ := h2.sl.tag hc
  rw [hx] at hy; cases hy
abbrev InB (w : World) (a : Option Addr) (l : List Bool) : Prop := Inp w 1 a (l.map fun y => [.bool y])
theorem InB.at {w : World} {a : Option Addr} {l : List Bool} (h : InB w a l) {i : Nat} {x : Bool} (hx : l[i]? = some x) : ∃ b o c E fz, a = some ⟨b, o, none⟩ ∧ w.heap[b]? = some (.cells c E fz) ∧ c[o + i]? = some (.bool x) := by
  obtain ⟨b, o, c, E, fz, h1, h2, h3⟩ := Inp.at h (i := i) (x := [.bool x]) (by rw [List.getElem?_map, hx]; rfl)
  exact ⟨b, o, c, E, fz, h1, h2, by have := h3 0 _ rfl; rw [← this]; congr 1; omega⟩
def Pairs (s : Md) (rl : List Int) (kl : List Fun8) : Prop := rl.length = kl.length ∧ ∀ (j : Nat) (r : Int) (f : Fun8), rl[j]? = some r → kl[j]? = some f → Den s r f
theorem Pairs.nil (s : Md) : Pairs s [] [] := ⟨rfl, fun j r f h => by simp at h⟩
theorem Pairs.mono {rl : List Int} {kl : List Fun8} (h : Pairs s rl kl) (hd : ∀ n f, Den s n f → Den s' n f) : Pairs s' rl kl := ⟨h.1, fun j r f h1 h2 => hd _ _ (h.2 j r f h1 h2)⟩
theorem Pairs.snoc {rl : List Int} {kl : List Fun8} {n : Int} {f : Fun8} (h : Pairs s rl kl) (d : Den s n f) : Pairs s (rl ++ [n]) (kl ++ [f]) := by
  refine ⟨by rw [List.length_append, List.length_append, h.1]; rfl, fun j r g h1 h2 => ?_⟩
  by_cases hj : j < rl.length
  · rw [List.getElem?_append_left hj] at h1
    rw [List.getElem?_append_left (by rw [← h.1]; exact hj)] at h2
    exact h.2 j r g h1 h2
  · rw [List.getElem?_append_right (by omega)] at h1
    rw [List.getElem?_append_right (by rw [← h.1]; omega)] at h2
    have hz : j - rl.length = 0 := by
      have := (List.getElem?_eq_some_iff.1 h1).1
      simpa using this
    rw [hz] at h1
    rw [← h.1, hz] at h2
    simp at h1 h2
    subst h1 h2
    exact d
theorem Pairs.left {rl : List Int} {kl : List Fun8} (h : Pairs s rl kl) : ∀ r ∈ rl, ∃ f ∈ kl, Den s r f := fun r hr => by
  obtain ⟨j, hj, e⟩ := List.getElem_of_mem hr
  have hj' : j < kl.length := by rw [← h.1]; exact hj
  exact ⟨kl[j], List.getElem_mem hj', h.2 j r _ (by rw [List.getElem?_eq_getElem hj, e]) (List.getElem?_eq_getElem hj')⟩
theorem Pairs.right {rl : List Int} {kl : List Fun8} (h : Pairs s rl kl) : ∀ f ∈ kl, ∃ r ∈ rl, Den s r f := fun f hf => by
  obtain ⟨j, hj, e⟩ := List.getElem_of_mem hf
  have hj' : j < rl.length := by rw [h.1]; exact hj
  exact ⟨rl[j], List.getElem_mem hj', h.2 j _ f (List.getElem?_eq_getElem hj') (by rw [List.getElem?_eq_getElem hj, e])⟩
theorem swap_code8 {l : Int} (h0 : 0 ≤ l) (h6 : l ≤ 6) : (s.swap l).1 = 0 ∨ (s.swap l).1 = 2 := by
  unfold Md.swap
  rw [if_neg (by omega)]
  split
  · exact .inr rfl
  · exact .inl rfl
theorem sweepKeeps_calls {l : List Fun8} {kb : List Bool} {sl : List Int} {a b c : Option Addr} {ca cb cc : Nat} (hI : Inp w 4 a (l.map rowF)) (hB : InB w b kb) (hK : InI w c sl) (hl : l.length ≤ 140737488351232) (hb : kb.length ≤ 140737488351232) (hk : sl.length ≤ 140737488351232) :
    CallsR Try.prog 13 #[.slice a l.length ca, .slice b kb.length cb, .slice c sl.length cc] w fun r w' => r = .bool true ∧ Ext w w' := by
  have c0 := fun W u (hE : Ext W u) => oneNew (M := 2000) (by decide) (by decide) hE
  have up := up12_calls
  by_cases hno : l.length ≤ 8 ∧ sl.length ≤ 20
  rotate_left
  · have hno2 : (8 : Int) < l.length ∨ ¬ (8 : Int) < l.length ∧ (20 : Int) < sl.length := by omega
    clear hI hB hK hno
    rcases hno2 with hn1 | ⟨hn1, hn2⟩
    · refine en3 Try.func13 Try.results13 mixed [] ?_
      intro e0 h0 h1 h2
      refine w_ fun d => ?_
      refine (up _).mono ?_
      rintro _ u1 ⟨rfl, hE1⟩
      refine w_ fun d => ?_
      refine (c0 _ _ (Ext.refl _)).mono ?_
      rintro _ w1 ⟨ps, rfl, h1⟩
      have hE2 := h1.world
      clear up c0 h1
      refine w_ fun d => ?_
      exact ⟨rfl, ext_⟩
    · refine en3 Try.func13 Try.results13 mixed [] ?_
      intro e0 h0 h1 h2
      refine w_ fun d => ?_
      refine (up _).mono ?_
      rintro _ u1 ⟨rfl, hE1⟩
      refine w_ fun d => ?_
      refine (c0 _ _ (Ext.refl _)).mono ?_
      rintro _ w1 ⟨ps, rfl, h1⟩
      have hE2 := h1.world
      clear up c0 h1
      refine w_ fun d => ?_
      exact ⟨rfl, ext_⟩
  obtain ⟨hl8, hk20⟩ := hno
  have hl8' : ¬ (8 : Int) < l.length := by omega
  have hk20' : ¬ (20 : Int) < sl.length := by omega
  refine en3 Try.func13 Try.results13 mixed [] ?_
  intro e0 h0 h1 h2
  refine w_ fun d => ?_
  refine (up _).mono ?_
  rintro _ u1 ⟨rfl, hE1⟩
  have hEu1 : Ext w u1 := Ext.trans (by exact ext_) hE1
  refine w_ fun d => ?_
  refine (c0 u1 _ ext_).mono ?_
  rintro _ w1 ⟨ps, rfl, h1⟩
  obtain ⟨o1, k1⟩ := h1.to
  have R0 : Ro (Md.new 2000) [] 2000 := Ro.new (by decide) (by decide)
  clear c0 up hE1 h1
  refine w_ fun d => ?_
  refine lo_ (fun _ e u => ∃ (i : Nat) (s : Md) (own : Nat → Nat) (aa ar ak : Option Addr) (ca cr ck : Nat) (al rl : List Int) (kl : List Fun8), i ≤ l.length ∧ e 12 = .int .i64 i ∧ e 9 = .slice aa al.length ca ∧ e 10 = .slice ar rl.length cr ∧ e 11 = .slice ak kl.length ck ∧
    OnR u1 u ps s own ∧ Ro s (l.take i) 2000 ∧ LiI u1 u own aa ca al ∧ LiI u1 u own ar cr rl ∧ LiF u1 u own ak ck kl ∧ (∀ g, blk aa = some g → ¬ blk ar = some g) ∧ Box (al.length = i) ∧ rl.length ≤ i ∧ Box (Pairs s rl kl)) (fun e _ => l.length - nat (e 12)) ?_ ?_
  · exact ⟨0, _, o1, none, none, none, 0, 0, 0, [], [], [], by omega, eA rfl, eA rfl, eA rfl, eA rfl, k1.up ext_, R0, LiI.nil _ _ _, LiI.nil _ _ _, LiF.nil _ _ _, (fun g h => by cases h), ⟨rfl⟩, by simp, ⟨Pairs.nil _⟩⟩
  clear k1 R0
  rintro e u hf ⟨i, s, own, aa, ar, ak, ca', cr, ck, al, rl, kl, hi, h12, h9, h10, h11, hO, R, hA, hR, hKl, hdis, ⟨hal⟩, hrl, ⟨hP⟩⟩
  have hEu := hEu1.trans hO.ext
  by_cases hlt : i < l.length
  · obtain ⟨f, hfi⟩ : ∃ f, l[i]? = some f := ⟨l[i], List.getElem?_eq_getElem hlt⟩
    obtain ⟨g, o, ct, E, fz, rfl, hg, hsz, hex⟩ := funAt (Inp.ext hI hEu) hfi
    have hltl : (i : Int) < l.length := by omega
    have gl := lt_of_heap hg
    have hm : (sizeF s.ord (l.take i ++ [f]) : Int) ≤ 2000 := R.size (by rw [List.length_take]; omega)
    refine w_ fun d => ?_
    refine (onBuild (hO.up (by exact ext_)) R f hm).mono ?_
    rintro _ u2 ⟨n, s2, own2, rfl, hO2, hS2, R2, l2, d2⟩
    have hSw : Sw own u own2 u2 := (Sw.of_ext (by exact ext_)).trans hS2
    have hA2 := hA.sw hSw
    have hR2 := hR.sw hSw
    have hK2 := hKl.sw hSw
    replace hP := hP.mono fun _ _ d => d.mono l2
    rw [show l.take i ++ [f] = l.take (i + 1) by rw [List.take_add_one, hfi]; rfl] at R2
    obtain ⟨aa3, ca3, w3, hr3, hA3, hO3, hC3, hB3⟩ := hA2.push hO2 (by omega) n
    have hR3 := hR2.chg hC3 fun g hg h2 => hdis g h2 hg
    have hK3 := hK2.chg hC3 fun g hg h2 => hK2.ne hA2 hg h2
    have hdis3 : ∀ g, blk aa3 = some g → ¬ blk ar = some g := fun g hg h2 => by
      rcases hB3 g hg with h | h
      · exact hdis g h h2
      · have := hR2.sl.lt h2; omega
    have hal3 : (al ++ [n]).length = al.length + 1 := by simp
    have hal4 : Box ((al ++ [n]).length = i + 1) := ⟨by rw [hal3, hal]⟩
    clear hal
    clear hO hS2 hSw hA hR hKl hA2 hdis hg gl hex hsz R hm hEu
    have hEw3 := hEu1.trans hO3.ext
    have skip : ∀ v, Ext w3 v → OnR u1 v ps s2 own2 ∧ Ro s2 (l.take (i + 1)) 2000 ∧ LiI u1 v own2 aa3 ca3 (al ++ [n]) ∧ LiI u1 v own2 ar cr rl ∧ LiF u1 v own2 ak ck kl := fun v hE => ⟨hO3.up hE, R2, hA3.up hE, hR3.up hE, hK3.up hE⟩
    by_cases hkb : i < kb.length
    · obtain ⟨y, hy⟩ : ∃ y, kb[i]? = some y := ⟨kb[i], List.getElem?_eq_getElem hkb⟩
      obtain ⟨bb, ob, cb', Eb, fb, rfl, hbb, hby⟩ := InB.at (Inp.ext hB hEw3) hy
      have hkbl : (i : Int) < kb.length := by omega
      have lbb := lt_of_heap hbb
      cases y with
      | false =>
        clear hy hB hI hK hfi hO3 R2 hA3 hR3 hK3 hB3
        refine w_ fun d => ?_
        obtain ⟨q1, q2, q3, q4, q5⟩ := skip _ ext_
        exact ⟨⟨i + 1, s2, own2, aa3, ar, ak, ca3, cr, ck, al ++ [n], rl, kl, by omega, eA rfl, by rw [hal3]; exact eA rfl, eA rfl, eA rfl, q1, q2, q3, q4, q5, hdis3, hal4, by omega, ⟨hP⟩⟩, mA⟩
      | true =>
        obtain ⟨ar4, cr4, w4, hr4, hR4, hO4, hC4, hB4⟩ := hR3.push hO3 (by omega) n
        have hA4 := hA3.chg hC4 fun g hg h2 => hdis3 g hg h2
        have hK4 := hK3.chg hC4 fun g hg h2 => hK3.ne hR3 hg h2
        have hdis4 : ∀ g, blk aa3 = some g → ¬ blk ar4 = some g := fun g hg h2 => by
          rcases hB4 g h2 with h | h
          · exact hdis3 g hg h
          · have := hA3.sl.lt hg; omega
        have hkl0 := hP.1
        obtain ⟨ak5, ck5, w5, hr5, hK5, hO5, hC5, hB5⟩ := hK4.push hO4 (by omega) f
        have hA5 := hA4.chg hC5 fun g hg h2 => hK4.ne hA4 h2 hg
        have hR5 := hR4.chg hC5 fun g hg h2 => hK4.ne hR4 h2 hg
        obtain ⟨g', o', ct', E', fz', he, hg2, hsz2, hex2⟩ := funAt (Inp.ext hI (hEu1.trans hO4.ext)) hfi
        cases he
        have gl2 := lt_of_heap hg2
        have hP5 := hP.snoc d2
        have hrl3 : (rl ++ [n]).length = rl.length + 1 := by simp
        have hkl3 : (kl ++ [f]).length = kl.length + 1 := by simp
        clear hy hB hI hK hfi hO3 hA3 hR3 hK3 hB3 skip hP hA4 hK4 hR4 hO4 hC4 hC5 hB4 hB5 hdis3 hkl0
        refine w_ fun d => ?_
        exact ⟨⟨i + 1, s2, own2, aa3, ar4, ak5, ca3, cr4, ck5, al ++ [n], rl ++ [n], kl ++ [f], by omega, eA rfl, by rw [hal3]; exact eA rfl, by rw [hrl3]; exact eA rfl, by rw [hkl3]; exact eA rfl, hO5.up ext_, R2, hA5.up ext_, hR5.up ext_, hK5.up ext_, hdis4, hal4, by omega, ⟨hP5⟩⟩, mA⟩
    · have hkbl : ¬ (i : Int) < kb.length := by omega
      clear hB hI hK hfi hO3 R2 hA3 hR3 hK3 hB3
      refine w_ fun d => ?_
      obtain ⟨q1, q2, q3, q4, q5⟩ := skip _ ext_
      exact ⟨⟨i + 1, s2, own2, aa3, ar, ak, ca3, cr, ck, al ++ [n], rl, kl, by omega, eA rfl, by rw [hal3]; exact eA rfl, eA rfl, eA rfl, q1, q2, q3, q4, q5, hdis3, hal4, by omega, ⟨hP⟩⟩, mA⟩
  obtain rfl : i = l.length := by omega
  have G := R.good
  have hrl8 : rl.length ≤ 8 := by omega
  clear hI hB hlt R hrl
  refine w_ fun d => ?_
  refine lo_ (fun _ e u => ∃ (i : Nat) (s : Md) (own : Nat → Nat), i ≤ sl.length ∧ e 15 = .int .i64 i ∧ OnR u1 u ps s own ∧ s.Good [] ∧ LiI u1 u own ar cr rl ∧ LiF u1 u own ak ck kl ∧ Box (Pairs s rl kl)) (fun e _ => sl.length - nat (e 15)) ?_ ?_
  · exact ⟨0, s, own, by omega, eA rfl, hO.up ext_, G, hR.up ext_, hKl.up ext_, ⟨hP⟩⟩
  clear hO G hR hKl hP hA hdis hEu
  rintro e2 u2 hf2 ⟨i, s, own, hi, h15, hO, G, hR, hKl, ⟨hP⟩⟩
  have hEu := hEu1.trans hO.ext
  by_cases hlt : i < sl.length
  · obtain ⟨x, hx⟩ : ∃ x, sl[i]? = some x := ⟨sl[i], List.getElem?_eq_getElem hlt⟩
    rcases InI.at (Inp.ext hK hEu) with rfl | ⟨b1, o1, cs1, E1, fz1, rfl, hb1, hat1⟩
    · simp at hlt
    have hat1 := hat1 i x hx
    have pk := pick_sure x 7 (by decide) (by decide)
    have y0 : 0 ≤ x % 7 := Int.emod_nonneg _ (by decide)
    have y6 : x % 7 ≤ 6 := by have := Int.emod_lt_of_pos x (show (0 : Int) < 7 by decide); omega
    have hltk : (i : Int) < sl.length := by omega
    generalize x % 7 = y at pk y0 y6
    have bI := fun u (h : OnR u1 u ps s own) => h.call (stSwap_calls h.sti G y)
    have gb := (G.swap y).1.good
    have dn := (G.swap y).1.den
    have cc := swap_code8 (s := s) y0 y6
    replace hP := hP.mono dn
    obtain ⟨⟨ec, sN⟩, hR'⟩ : ∃ R, s.swap y = R := ⟨_, rfl⟩
    rw [hR'] at bI gb cc hP
    dsimp only at bI gb cc hP
    have cr0 := code_sure ec (by omega) (by omega)
    clear G hK hx hR' hEu dn
    refine w_ fun d => ?_
    refine qq (pk.quiet (w := u2)) fun v1 hE1 hs1 => ?_
    refine w_ fun d => ?_
    refine (bI _ ((hO.up hE1).up ext_)).mono ?_
    rintro _ u3 ⟨rfl, own3, hO3, hS3⟩
    have hSw : Sw own u2 own3 u3 := (Sw.of_ext (hE1.trans ext_)).trans hS3
    have hR3 := hR.sw hSw
    have hK3 := hKl.sw hSw
    clear bI hO hR hKl hS3 hSw hE1
    refine w_ fun d => ?_
    refine qq (cr0.quiet (w := u3)) fun u4 hE4 hs4 => ?_
    rcases cc with rfl | rfl
    · refine w_ fun d => ?_
      exact ⟨⟨i + 1, sN, own3, by omega, eA rfl, (hO3.up hE4).up ext_, gb, (hR3.up hE4).up ext_, (hK3.up hE4).up ext_, ⟨hP⟩⟩, mA⟩
    · refine w_ fun d => ?_
      refine qq (cr0.quiet (w := u4)) fun u5 hE5 hs5 => ?_
      have hE45 := hE4.trans hE5
      refine w_ fun d => ?_
      exact ⟨⟨i + 1, sN, own3, by omega, eA rfl, (hO3.up hE45).up ext_, gb, (hR3.up hE45).up ext_, (hK3.up hE45).up ext_, ⟨hP⟩⟩, mA⟩
  obtain rfl : i = sl.length := by omega
  clear hK hlt
  have S3 := G.swept (rs := rl)
  have hsz := S3.size G hP.left hP.right
  have hag := S3.again
  have G3 := S3.swp.good
  have S4 := G3.swept (rs := [])
  have m4 := S4.none
  have G4 := S4.swp.good
  have ol : s.ord.length = 8 := G.wf.ord.len
  have or3 : (s.sweep rl).ord = s.ord := S3.swp.ord
  have hnb : ∀ n ∈ rl, n ≤ 9223372036854775807 := fun n hn => by
    obtain ⟨f, _, d⟩ := hP.left n hn
    exact bt_rng G.wf d
  have hD3 : ∀ (j : Nat) (r : Int) (f : Fun8), rl[j]? = some r → kl[j]? = some f → Den (s.sweep rl) r f := fun j r f h1 h2 => S3.root (hP.2 j r f h1 h2) (List.mem_of_getElem? h1)
  have hlk : Box (rl.length = kl.length) := ⟨hP.1⟩
  have hkl8 : kl.length ≤ 8 := by have := hP.1; omega
  have lv := stLive_calls hO.sti G.wf
  have cS := fun u (h : OnR u1 u ps s own) hI => onSweep (a := ar) (c := cr) h G hI (by omega) hnb
  have mb := G.wf.ar.many_le
  have mo := G.wf.ar.most
  have mb3 := G3.wf.ar.many_le
  have mo3 := G3.wf.ar.most
  obtain ⟨s3, hs3⟩ : ∃ z, s.sweep rl = z := ⟨_, rfl⟩
  rw [hs3] at hsz hag G3 S4 m4 G4 or3 hD3 cS mb3 mo3
  clear hs3 S3 hP
  refine w_ fun d => ?_
  refine qq lv fun v1 hE1 hs1 => ?_
  have hO1 := hO.up hE1
  have hR1 := hR.up hE1
  have hK1 := hKl.up hE1
  clear lv hO hR hKl
  refine w_ fun d => ?_
  refine (cS _ (hO1.up ext_) (hR1.up (by exact ext_)).sl.inp).mono ?_
  rintro _ v2 ⟨rfl, own2, hO2, hS2⟩
  have hSw : Sw own v1 own2 v2 := (Sw.of_ext (by exact ext_)).trans hS2
  have hR2 := hR1.sw hSw
  have hK2 := hK1.sw hSw
  have lv2 := stLive_calls hO2.sti G3.wf
  have od2 := stOrder_calls hO2.sti
  have sq : Quiet Try.prog 48 #[.slice ak kl.length ck, aI s.ord] v2 (.int .i64 (sizeF s.ord kl : Nat)) := fun u hu => refSize_calls kl s.ord ol (by omega) _ _ u (Inp.ext (Sl.inp hK2.sl) hu)
  rw [or3] at od2
  rw [hsz] at lv2
  clear hS2 hSw hO1 hR1 hK1 cS hE1
  have e1 : s.a.many - (s.a.many - (sizeF s.ord kl : Int)) = sizeF s.ord kl := by omega
  have cS2 := fun u (h : OnR u1 u ps s3 own2) hI => onSweep (a := ar) (c := cr) h G3 hI (by omega) hnb
  rw [hag, Int.sub_self] at cS2
  rw [hsz] at mb3
  have hms : (s3.a.many : Int) = sizeF s.ord kl := hsz
  obtain ⟨Z, hZ⟩ : ∃ z : Int, (sizeF s.ord kl : Int) = z := ⟨_, rfl⟩
  rw [hZ] at lv2 sq e1 mb3 hms
  rw [hms]
  clear hsz hZ hag
  replace hms : Box (s3.a.many = Z) := ⟨hms⟩
  refine w_ fun d => ?_
  refine qq lv2 fun v3 hE3 hs3 => ?_
  have lv3 := lv2.at hE3
  refine w_ fun d => ?_
  refine qq lv3 fun v4 hE4 hs4 => ?_
  have hE24 := hE3.trans hE4
  have od4 := od2.at hE24
  refine w_ fun d => ?_
  refine qq od4 fun v5 hE5 hs5 => ?_
  have hE25 := hE24.trans hE5
  have sq5 := sq.at hE25
  refine w_ fun d => ?_
  refine qq sq5 fun v6 hE6 hs6 => ?_
  have hE26 := hE25.trans hE6
  clear lv3 od4 sq5 lv2 od2 sq hE3 hE4 hE5 hE6 hE24 hE25 hs3 hs4 hs5 hs6
  refine w_ fun d => ?_
  refine (cS2 _ ((hO2.up hE26).up ext_) ((hR2.up hE26).up (by exact ext_)).sl.inp).mono ?_
  rintro _ v7 ⟨rfl, own3, hO3, hS3⟩
  have hSw : Sw own2 v2 own3 v7 := (Sw.of_ext (hE26.trans ext_)).trans hS3
  have hR3 := hR2.sw hSw
  have hK3 := hK2.sw hSw
  clear hO2 hR2 hK2 hS3 hSw hE26 cS2
  refine w_ fun d => ?_
  refine lo_ (fun _ e u => ∃ i : Nat, i ≤ rl.length ∧ e 19 = .int .i64 i ∧ OnR u1 u ps s3 own3 ∧ LiI u1 u own3 ar cr rl ∧ LiF u1 u own3 ak ck kl) (fun e _ => rl.length - nat (e 19)) ?_ ?_
  · exact ⟨0, by omega, eA rfl, hO3.up ext_, hR3.up ext_, hK3.up ext_⟩
  clear hO3 hR3 hK3
  rintro e3 x hf3 ⟨i, hi, h19, hO, hR, hK⟩
  have hEx := hEu1.trans hO.ext
  by_cases hlt : i < rl.length
  · obtain ⟨r, hr⟩ : ∃ r, rl[i]? = some r := ⟨rl[i], List.getElem?_eq_getElem hlt⟩
    obtain ⟨hlk⟩ := hlk
    obtain ⟨f, hfi⟩ : ∃ f, kl[i]? = some f := ⟨kl[i]'(by omega), List.getElem?_eq_getElem (by omega)⟩
    clear hlk
    have d := hD3 i r f hr hfi
    obtain ⟨g, cur, rfl, hg, hc, hlt3, hat⟩ := hR.sl.at (i := i) (v := .int .i64 r) (by unfold ints; rw [List.getElem?_map, hr]; rfl)
    obtain ⟨g2, cur2, rfl, hg2, hc2, hlt2, hs2, hx2⟩ := atF_ hK.sl hfi
    rw [List.length_map] at hc
    have lg := lt_of_heap hg
    have lg2 := lt_of_heap hg2
    have t1 := rdTop_calls G3 hO.sti d
    have hir : (i : Int) < rl.length := by omega
    have hik : (i : Int) < kl.length := by omega
    have fin : ∀ v, Ext x v → OnR u1 v ps s3 own3 ∧ LiI u1 v own3 (some ⟨g, 0, none⟩) cr rl ∧ LiF u1 v own3 (some ⟨g2, 0, none⟩) ck kl := fun v hE => ⟨hO.up hE, hR.up hE, hK.up hE⟩
    clear hO hR hK hr hfi hD3 d hlt3 G3 S4 G4 m4 or3 ol
    refine w_ fun d => ?_
    intro x2 hEx2 hsx2
    refine w_ fun d => ?_
    exact ⟨⟨i + 1, by omega, eA rfl, fin _ (hEx2.trans ext_)⟩, mA⟩
  obtain rfl : i = rl.length := by omega
  clear hlt hR hK hD3
  obtain ⟨hms⟩ := hms
  have lvz := stLive_calls hO.sti G3.wf
  rw [hms] at lvz
  have cS3 := fun u (h : OnR u1 u ps s3 own3) => onSweep (a := none) (c := 0) (rs := []) h G3 (.inl rfl) (by simp) (fun n hn => by cases hn)
  rw [m4, hms, Int.sub_zero] at cS3
  clear hms
  refine w_ fun d => ?_
  refine qq lvz fun y1 hE1 hs1 => ?_
  refine w_ fun d => ?_
  refine (cS3 _ ((hO.up hE1).up ext_)).mono ?_
  rintro _ y2 ⟨rfl, own4, hO4, _⟩
  have lv5 := stLive_calls hO4.sti G4.wf
  rw [m4] at lv5
  have hEy := hEu1.trans hO4.ext
  clear cS3 hO hO4 lvz hE1 hs1
  refine w_ fun d => ?_
  refine qq lv5 fun y3 hE3 hs3 => ?_
  refine w_ fun d => ?_
  exact ⟨rfl, ext_⟩
end
end Go.Proofs.Ytpeindhocndmnaa

