/- Layer 5: open tables, in plain words: what is found, put, moved and taken out. No code is walked here. -/
import Derived.Test.YtjdomnpfgdbckaaBxOps
namespace Go.Bx
open Go
set_option linter.unusedSimpArgs false
set_option linter.unusedVariables false

abbrev Ky := Int × Int
/-- A table's places. -/
abbrev Tb := List (Option (Ky × Int))
def occ (T : Tb) (p : Nat) : Option (Ky × Int) := (T[p]?).getD none
/-- b steps behind a, around. -/
def cyc (n a b : Nat) : Nat := if a + b < n then a + b else a + b - n

theorem occ_set {T : Tb} {p q : Nat} {y : Option (Ky × Int)} (hp : p < T.length) : occ (T.set p y) q = if q = p then y else occ T q := by
  unfold occ
  by_cases h : q = p
  · subst h; rw [List.getElem?_set_self hp, if_pos rfl]; rfl
  · rw [List.getElem?_set_ne (fun e => h e.symm), if_neg h]
theorem occ_lt {T : Tb} {p : Nat} {x : Ky × Int} (h : occ T p = some x) : p < T.length := by
  by_cases hp : p < T.length
  · exact hp
  · unfold occ at h; rw [List.getElem?_eq_none (by omega)] at h; cases h
theorem occ_get {T : Tb} {p : Nat} (h : p < T.length) : T[p]? = some (occ T p) := by
  unfold occ; rw [List.getElem?_eq_getElem h]; rfl

section
variable {n a b c d : Nat}
theorem cyc_lt (ha : a < n) (hb : b ≤ n) : cyc n a b < n := by unfold cyc; split <;> omega
theorem cyc_zero (ha : a < n) : cyc n a 0 = a := by unfold cyc; split <;> omega
theorem cyc_succ (ha : a < n) (hd : d < n) : cyc n (cyc n a d) 1 = cyc n a (d + 1) := by unfold cyc; split <;> split <;> split <;> omega
theorem cyc_inj (ha : a < n) (hc : c < n) (hd : d < n) (h : cyc n a c = cyc n a d) : c = d := by unfold cyc at h; split at h <;> split at h <;> omega
theorem cyc_sur {p : Nat} (ha : a < n) (hp : p < n) : ∃ d, d < n ∧ p = cyc n a d := by
  by_cases h : a ≤ p
  · exact ⟨p - a, by omega, by unfold cyc; split <;> omega⟩
  · exact ⟨p + n - a, by omega, by unfold cyc; split <;> omega⟩
theorem cyc_add (ha : a < n) (h : b + c < n) : cyc n (cyc n a b) c = cyc n a (b + c) := by unfold cyc; split <;> split <;> split <;> omega
end
def crd (n b h : Nat) : Nat := if b ≤ h then h - b else h + n - b
theorem crd_lt {n b h : Nat} (hb : b < n) (hh : h < n) : crd n b h < n := by unfold crd; split <;> omega
theorem cyc_crd {n b h : Nat} (hb : b < n) (hh : h < n) : cyc n b (crd n b h) = h := by unfold crd cyc; split <;> split <;> omega
theorem least {p : Nat → Prop} : ∀ (n : Nat), p n → ∃ m, m ≤ n ∧ p m ∧ ∀ j, j < m → ¬ p j := by
  intro n
  induction n using Nat.strongRecOn with
  | _ n ih =>
    intro h
    by_cases hex : ∃ j, j < n ∧ p j
    · obtain ⟨j, hj, hp⟩ := hex
      obtain ⟨m, h1, h2, h3⟩ := ih j hj hp
      exact ⟨m, by omega, h2, h3⟩
    · exact ⟨n, Nat.le_refl _, h, fun j hj hp => hex ⟨j, hj, hp⟩⟩

section
variable (H : Ky → Nat → Nat)
/-- i is the place where k stands, or would. -/
def Finds (T : Tb) (k : Ky) (i : Nat) : Prop := ∃ d, d < T.length ∧ i = cyc T.length (H k T.length) d ∧ (∀ j, j < d → ∃ x, occ T (cyc T.length (H k T.length) j) = some x ∧ x.1 ≠ k) ∧ (occ T i = none ∨ ∃ v, occ T i = some (k, v))
structure TbInv (T : Tb) : Prop where
  pos : 0 < T.length
  reach : ∀ p k v, occ T p = some (k, v) → ∃ d, d < T.length ∧ p = cyc T.length (H k T.length) d ∧ ∀ j, j < d → occ T (cyc T.length (H k T.length) j) ≠ none
  nodup : ∀ p p' k v v', occ T p = some (k, v) → occ T p' = some (k, v') → p = p'
def MemT (T : Tb) (k : Ky) (v : Int) : Prop := ∃ p, occ T p = some (k, v)
end

section
variable {H : Ky → Nat → Nat} (hH : ∀ k n, 0 < n → H k n < n) {T : Tb}
theorem Finds.uniq {k : Ky} {i i' : Nat} (h : Finds H T k i) (h' : Finds H T k i') : i = i' := by
  obtain ⟨d, hd, rfl, hp, ho⟩ := h
  obtain ⟨d', hd', rfl, hp', ho'⟩ := h'
  have key : ∀ {d d' : Nat}, (occ T (cyc T.length (H k T.length) d) = none ∨ ∃ v, occ T (cyc T.length (H k T.length) d) = some (k, v)) → (∀ j, j < d' → ∃ x, occ T (cyc T.length (H k T.length) j) = some x ∧ x.1 ≠ k) → ¬ d < d' := by
    intro d d' ho hp hlt
    obtain ⟨x, hx, hne⟩ := hp d hlt
    rcases ho with h | ⟨v, h⟩
    · rw [h] at hx; cases hx
    · rw [h] at hx; cases hx; exact hne rfl
  have h1 := key ho hp'
  have h2 := key ho' hp
  have : d = d' := by omega
  rw [this]
include hH
theorem TbInv.home (I : TbInv H T) (k : Ky) : H k T.length < T.length := hH k _ I.pos
theorem TbInv.finds_mem (I : TbInv H T) {p : Nat} {k : Ky} {v : Int} (h : occ T p = some (k, v)) : Finds H T k p := by
  have hh := I.home hH k
  obtain ⟨d, hd, he, hpath⟩ := I.reach p k v h
  refine ⟨d, hd, he, fun j hj => ?_, .inr ⟨v, h⟩⟩
  cases ho : occ T (cyc T.length (H k T.length) j) with
  | none => exact absurd ho (hpath j hj)
  | some x =>
    refine ⟨x, rfl, fun hk => ?_⟩
    obtain ⟨k', v'⟩ := x
    obtain rfl : k' = k := hk
    have := I.nodup _ _ _ _ _ ho h
    rw [he] at this
    have := cyc_inj hh (by omega) hd this
    omega
theorem TbInv.finds_none (I : TbInv H T) {i : Nat} {k : Ky} (hf : Finds H T k i) (hn : occ T i = none) : ∀ p v, occ T p ≠ some (k, v) := by
  intro p v h
  have := (I.finds_mem hH h).uniq hf
  rw [this, hn] at h; cases h
theorem TbInv.put (I : TbInv H T) {i : Nat} {k : Ky} (v : Int) (hf : Finds H T k i) (hn : occ T i = none) :
    TbInv H (T.set i (some (k, v))) ∧ ∀ k' v', MemT (T.set i (some (k, v))) k' v' ↔ MemT T k' v' ∨ (k' = k ∧ v' = v) := by
  have hh := I.home hH k
  have hno := I.finds_none hH hf hn
  obtain ⟨d, hd, rfl, hpath, _⟩ := hf
  have hi := cyc_lt hh (Nat.le_of_lt hd)
  generalize hie : cyc T.length (H k T.length) d = i at *
  have hset : ∀ q, occ (T.set i (some (k, v))) q = if q = i then some (k, v) else occ T q := fun q => occ_set hi
  have hkeep : ∀ q, occ T q ≠ none → occ (T.set i (some (k, v))) q ≠ none := by
    intro q hq
    rw [hset]; split
    · simp
    · exact hq
  refine ⟨⟨by rw [List.length_set]; exact I.pos, fun p k' v' hp => ?_, fun p p' k' v' v'' hp hp' => ?_⟩, fun k' v' => ?_⟩
  · rw [List.length_set]
    rw [hset] at hp
    split at hp
    · rename_i h
      cases hp
      subst h
      refine ⟨d, hd, hie.symm, fun j hj => hkeep _ ?_⟩
      obtain ⟨x, hx, _⟩ := hpath j hj
      rw [hx]; simp
    · obtain ⟨d', h1, h2, h3⟩ := I.reach p k' v' hp
      exact ⟨d', h1, h2, fun j hj => hkeep _ (h3 j hj)⟩
  · rw [hset] at hp hp'
    split at hp
    · cases hp
      split at hp'
      · omega
      · exact absurd hp' (hno _ _)
    · split at hp'
      · cases hp'; exact absurd hp (hno _ _)
      · exact I.nodup _ _ _ _ _ hp hp'
  · constructor
    · rintro ⟨p, hp⟩
      rw [hset] at hp
      split at hp
      · cases hp; exact .inr ⟨rfl, rfl⟩
      · exact .inl ⟨p, hp⟩
    · rintro (⟨p, hp⟩ | ⟨rfl, rfl⟩)
      · refine ⟨p, ?_⟩
        rw [hset, if_neg]
        · exact hp
        · rintro rfl; rw [hn] at hp; cases hp
      · exact ⟨i, by rw [hset, if_pos rfl]⟩

/-- With an empty place behind all: each stands behind its first place, with none empty between. -/
theorem TbInv.line (I : TbInv H T) {b : Nat} (hb : b < T.length) (hz : occ T (cyc T.length b (T.length - 1)) = none) {q : Nat} {k : Ky} {v : Int} (hq : q < T.length) (h : occ T (cyc T.length b q) = some (k, v)) :
    crd T.length b (H k T.length) ≤ q ∧ ∀ r, crd T.length b (H k T.length) ≤ r → r ≤ q → occ T (cyc T.length b r) ≠ none := by
  have hh := I.home hH k
  have hc := crd_lt hb hh
  have hcc := cyc_crd hb hh
  obtain ⟨d, hd, he, hpath⟩ := I.reach _ k v h
  generalize crd T.length b (H k T.length) = c at *
  have step : ∀ j, c + j < T.length → cyc T.length (H k T.length) j = cyc T.length b (c + j) := by
    intro j hj; rw [← hcc]; exact cyc_add hb hj
  have hcq : c ≤ q := by
    by_cases hlt : c + d < T.length
    · rw [step d hlt] at he
      have := cyc_inj hb hq hlt he
      omega
    · exfalso
      have := hpath (T.length - 1 - c) (by omega)
      rw [step _ (by omega), show c + (T.length - 1 - c) = T.length - 1 by omega] at this
      exact this hz
  have hdq : d = q - c := by
    have e2 : cyc T.length (H k T.length) (q - c) = cyc T.length b q := by rw [step _ (by omega), show c + (q - c) = q by omega]
    rw [← e2] at he
    exact (cyc_inj hh (by omega) hd he).symm
  refine ⟨hcq, fun r h1 h2 => ?_⟩
  by_cases hrq : r = q
  · subst hrq; rw [h]; simp
  · have := hpath (r - c) (by omega)
    rwa [step _ (by omega), show c + (r - c) = r by omega] at this
end

/-- What is so while those behind one that was taken out are moved. -/
structure DropInv (H : Ky → Nat → Nat) (T : Tb) (b c : Nat) : Prop where
  hb : b < T.length
  hc : c < T.length
  last : occ T (cyc T.length b (T.length - 1)) = none
  run : ∀ q, c ≤ q → q < T.length - 1 → ∃ x, occ T (cyc T.length b q) = some x ∧ crd T.length b (H x.1 T.length) ≤ q
  old : ∀ q, q < c → ∀ k v, occ T (cyc T.length b q) = some (k, v) → crd T.length b (H k T.length) ≤ q ∧ ∀ r, crd T.length b (H k T.length) ≤ r → r ≤ q → occ T (cyc T.length b r) ≠ none
  nodup : ∀ p p' k v v', occ T p = some (k, v) → occ T p' = some (k, v') → p = p'

section
variable {H : Ky → Nat → Nat} (hH : ∀ k n, 0 < n → H k n < n) {T : Tb}
include hH
theorem DropInv.start (I : TbInv H T) {i z : Nat} {x : Ky × Int} (hi : occ T i = some x) (hz : z < T.length) (hze : occ T z = none) :
    ∃ b c, DropInv H (T.set i none) b c ∧ cyc T.length i 1 = cyc T.length b c ∧ ∀ k v, MemT (T.set i none) k v ↔ (MemT T k v ∧ k ≠ x.1) := by
  have hil := occ_lt hi
  obtain ⟨t0, ht0, he0⟩ := cyc_sur hil hz
  obtain ⟨t, htle, ht, hmin⟩ := least (p := fun t => occ T (cyc T.length i t) = none) t0 (by rw [← he0]; exact hze)
  have ht1 : 1 ≤ t := by
    rcases Nat.eq_zero_or_pos t with h | h
    · subst h; rw [cyc_zero hil, hi] at ht; cases ht
    · exact h
  generalize hn : T.length = n at *
  have hbl : cyc n i (t + 1) < n := cyc_lt hil (by omega)
  have hpos : ∀ j, j ≤ t → cyc n (cyc n i (t + 1)) (n - 1 - t + j) = cyc n i j := by
    intro j hj; unfold cyc; split <;> split <;> split <;> omega
  generalize hbe : cyc n i (t + 1) = b at *
  have hset : ∀ q, occ (T.set i none) q = if q = i then none else occ T q := fun q => occ_set (by omega)
  have hpi : cyc n b (n - 1 - t) = i := by have := hpos 0 (by omega); rwa [Nat.add_zero, cyc_zero hil] at this
  have hplast : cyc n b (n - 1) = cyc n i t := by have := hpos t (Nat.le_refl _); rwa [show n - 1 - t + t = n - 1 by omega] at this
  have hline : ∀ {q : Nat} {k : Ky} {v : Int}, q < n → occ T (cyc n b q) = some (k, v) → crd n b (H k n) ≤ q ∧ ∀ r, crd n b (H k n) ≤ r → r ≤ q → occ T (cyc n b r) ≠ none := by
    intro q k v hq h
    have := I.line hH (b := b) (by omega) (by rw [hn, hplast]; exact ht) (q := q) (k := k) (v := v) (by omega) (by rw [hn]; exact h)
    rwa [hn] at this
  have hl : (T.set i none).length = n := by rw [List.length_set, hn]
  refine ⟨b, n - 1 - t + 1, ⟨by rw [hl]; exact hbl, by rw [hl]; omega, ?_, fun q h1 h2 => ?_, fun q hq k v h => ?_, fun p p' k v v' h h' => ?_⟩, ?_, fun k v => ?_⟩
  · rw [hl, hset, hplast]; split
    · rfl
    · exact ht
  · rw [hl] at h2 ⊢
    obtain ⟨j, rfl⟩ : ∃ j, q = n - 1 - t + j := ⟨q - (n - 1 - t), by omega⟩
    have hj : j < t := by omega
    have hne := hmin j hj
    cases ho : occ T (cyc n i j) with
    | none => exact absurd ho hne
    | some y =>
      have hij : cyc n i j ≠ i := by
        intro h
        have := cyc_inj (c := j) (d := 0) hil (by omega) (by omega) (by rw [h, cyc_zero hil])
        omega
      refine ⟨y, by rw [hset, hpos j (by omega), if_neg hij]; exact ho, ?_⟩
      obtain ⟨ky, vy⟩ := y
      exact (hline (q := n - 1 - t + j) (by omega) (by rw [hpos j (by omega)]; exact ho)).1
  · rw [hl] at h ⊢
    rw [hset] at h
    split at h
    · cases h
    · rename_i hne
      have hqa : q ≠ n - 1 - t := fun e => hne (by rw [e, hpi])
      obtain ⟨l1, l2⟩ := hline (by omega) h
      refine ⟨l1, fun r r1 r2 => ?_⟩
      rw [hset, if_neg]
      · exact l2 r r1 r2
      · intro e
        have := cyc_inj (c := r) (d := n - 1 - t) hbl (by omega) (by omega) (by rw [e, hpi])
        omega
  · rw [hset] at h h'
    split at h
    · cases h
    · split at h'
      · cases h'
      · exact I.nodup _ _ _ _ _ h h'
  · have := hpos 1 ht1
    exact this.symm
  · obtain ⟨kx, vx⟩ := x
    constructor
    · rintro ⟨p, hp⟩
      rw [hset] at hp
      split at hp
      · cases hp
      · rename_i hne
        refine ⟨⟨p, hp⟩, ?_⟩
        rintro rfl
        exact hne (I.nodup _ _ _ _ _ hp hi)
    · rintro ⟨⟨p, hp⟩, hk⟩
      refine ⟨p, ?_⟩
      rw [hset, if_neg]
      · exact hp
      · rintro rfl; rw [hi] at hp; cases hp; exact hk rfl

theorem DropInv.stop {b c : Nat} (J : DropInv H T b c) (h : occ T (cyc T.length b c) = none) : TbInv H T := by
  have hc : c = T.length - 1 := by
    have := J.hc
    by_cases h2 : c < T.length - 1
    · obtain ⟨x, hx, _⟩ := J.run c (Nat.le_refl _) h2
      rw [h] at hx; cases hx
    · omega
  have hp : 0 < T.length := by have := J.hb; omega
  refine ⟨hp, fun p k v hpk => ?_, J.nodup⟩
  have hh := hH k _ hp
  obtain ⟨q, hq, rfl⟩ := cyc_sur J.hb (occ_lt hpk)
  have hqn : q ≠ T.length - 1 := by rintro rfl; rw [J.last] at hpk; cases hpk
  obtain ⟨l1, l2⟩ := J.old q (by omega) k v hpk
  have hcc := cyc_crd J.hb hh
  have step : ∀ j, crd T.length b (H k T.length) + j < T.length → cyc T.length (H k T.length) j = cyc T.length b (crd T.length b (H k T.length) + j) := by
    intro j hj
    have := cyc_add (a := b) (b := crd T.length b (H k T.length)) (c := j) J.hb hj
    rwa [hcc] at this
  refine ⟨q - crd T.length b (H k T.length), by omega, ?_, fun j hj => ?_⟩
  · rw [step _ (by omega)]; congr 1; omega
  · rw [step _ (by omega)]; exact l2 _ (by omega) (by omega)

/-- The next of them is moved to where it is found. -/
theorem DropInv.step {b c : Nat} {k : Ky} {v : Int} (J : DropInv H T b c) (h : occ T (cyc T.length b c) = some (k, v)) {i' : Nat} (hf : Finds H (T.set (cyc T.length b c) none) k i') :
    i' < T.length ∧ occ (T.set (cyc T.length b c) none) i' = none ∧ c + 1 < T.length ∧ DropInv H ((T.set (cyc T.length b c) none).set i' (some (k, v))) b (c + 1) ∧ ∀ k' v', MemT ((T.set (cyc T.length b c) none).set i' (some (k, v))) k' v' ↔ MemT T k' v' := by
  have hb := J.hb
  have hcl := J.hc
  have hlast := J.last
  have hc1 : c < T.length - 1 := by
    by_cases h2 : c < T.length - 1
    · exact h2
    · have : c = T.length - 1 := by omega
      rw [this, hlast] at h; cases h
  have hp : 0 < T.length := by omega
  have hh := hH k _ hp
  have hpc := cyc_lt hb (Nat.le_of_lt hcl)
  have hset1 : ∀ q, occ (T.set (cyc T.length b c) none) q = if q = cyc T.length b c then none else occ T q := fun q => occ_set hpc
  have hl1 : (T.set (cyc T.length b c) none).length = T.length := List.length_set ..
  have hhc : crd T.length b (H k T.length) ≤ c := by
    obtain ⟨x, hx, hxc⟩ := J.run c (Nat.le_refl _) hc1
    rw [h] at hx; cases hx; exact hxc
  have hcc := cyc_crd hb hh
  have stp : ∀ j, crd T.length b (H k T.length) + j < T.length → cyc T.length (H k T.length) j = cyc T.length b (crd T.length b (H k T.length) + j) := by
    intro j hj
    have := cyc_add (a := b) (b := crd T.length b (H k T.length)) (c := j) hb hj
    rwa [hcc] at this
  obtain ⟨d, hd, he, hpath, ho⟩ := hf
  rw [hl1] at hd he hpath
  have hdle : d ≤ c - crd T.length b (H k T.length) := by
    by_cases hlt : c - crd T.length b (H k T.length) < d
    · obtain ⟨x, hx, _⟩ := hpath _ hlt
      rw [stp _ (by omega), show crd T.length b (H k T.length) + (c - crd T.length b (H k T.length)) = c by omega, hset1, if_pos rfl] at hx
      cases hx
    · omega
  generalize hc' : crd T.length b (H k T.length) + d = c' at *
  have hie : i' = cyc T.length b c' := by rw [he, stp d (by omega), hc']
  have hc'c : c' ≤ c := by omega
  have hil : i' < T.length := by rw [hie]; exact cyc_lt hb (by omega)
  have hnone : occ (T.set (cyc T.length b c) none) i' = none := by
    rcases ho with h1 | ⟨v', h1⟩
    · exact h1
    · rw [hset1] at h1
      split at h1
      · cases h1
      · rename_i hne
        exact absurd (J.nodup _ _ _ _ _ h1 h) hne
  have hset2 : ∀ q, occ ((T.set (cyc T.length b c) none).set i' (some (k, v))) q = if q = i' then some (k, v) else if q = cyc T.length b c then none else occ T q := by
    intro q
    rw [occ_set (by rw [hl1]; exact hil), hset1]
  have hl2 : ((T.set (cyc T.length b c) none).set i' (some (k, v))).length = T.length := by rw [List.length_set, hl1]
  have inj : ∀ {q q' : Nat}, q < T.length → q' < T.length → cyc T.length b q = cyc T.length b q' → q = q' := fun h1 h2 h3 => cyc_inj hb h1 h2 h3
  refine ⟨hil, hnone, by omega, ⟨by rw [hl2]; exact hb, by rw [hl2]; omega, ?_, fun q h1 h2 => ?_, fun q hq k2 v2 h2 => ?_, fun p p' k2 v2 v3 h2 h3 => ?_⟩, fun k' v' => ?_⟩
  · rw [hl2, hset2, if_neg, if_neg]
    · exact hlast
    · intro e; have := inj (by omega) hcl e; omega
    · rw [hie]; intro e; have := inj (by omega) (by omega) e; omega
  · rw [hl2] at h2 ⊢
    obtain ⟨x, hx, hxc⟩ := J.run q (by omega) h2
    refine ⟨x, ?_, hxc⟩
    rw [hset2, if_neg, if_neg]
    · exact hx
    · intro e; have := inj (by omega) hcl e; omega
    · rw [hie]; intro e; have := inj (by omega) (by omega) e; omega
  · rw [hl2] at h2 ⊢
    rw [hset2] at h2
    split at h2
    · rename_i hqi
      cases h2
      rw [hie] at hqi
      have hqc := inj (by omega) (by omega) hqi
      subst hqc
      refine ⟨by omega, fun r r1 r2 => ?_⟩
      rw [hset2]
      split
      · simp
      · rename_i hr
        have hrq : r ≠ q := fun e => hr (by rw [e, hie])
        obtain ⟨x, hx, _⟩ := hpath (r - crd T.length b (H k T.length)) (by omega)
        rw [stp _ (by omega), show crd T.length b (H k T.length) + (r - crd T.length b (H k T.length)) = r by omega, hset1] at hx
        rw [hx]; simp
    · rename_i hqi
      split at h2
      · cases h2
      · rename_i hqc
        have hqc' : q ≠ c := fun e => hqc (by rw [e])
        obtain ⟨l1, l2⟩ := J.old q (by omega) k2 v2 h2
        refine ⟨l1, fun r r1 r2 => ?_⟩
        rw [hset2]
        split
        · simp
        · rw [if_neg]
          · exact l2 r r1 r2
          · intro e; have := inj (by omega) hcl e; omega
  · have nk : ∀ q w, q ≠ i' → q ≠ cyc T.length b c → occ T q ≠ some (k, w) := fun q w _ hq hw => hq (J.nodup _ _ _ _ _ hw h)
    rw [hset2] at h2 h3
    split at h2
    · cases h2
      split at h3
      · omega
      · rename_i hn1
        split at h3
        · cases h3
        · rename_i hn2; exact absurd h3 (nk _ _ hn1 hn2)
    · rename_i hn1
      split at h2
      · cases h2
      · rename_i hn2
        split at h3
        · cases h3; exact absurd h2 (nk _ _ hn1 hn2)
        · split at h3
          · cases h3
          · exact J.nodup _ _ _ _ _ h2 h3
  · constructor
    · rintro ⟨p, hp⟩
      rw [hset2] at hp
      split at hp
      · cases hp; exact ⟨_, h⟩
      · split at hp
        · cases hp
        · exact ⟨p, hp⟩
    · rintro ⟨p, hp⟩
      by_cases hpc2 : p = cyc T.length b c
      · rw [hpc2, h] at hp; cases hp
        exact ⟨i', by rw [hset2, if_pos rfl]⟩
      · refine ⟨p, ?_⟩
        rw [hset2, if_neg, if_neg hpc2]
        · exact hp
        · rintro rfl
          rw [hset1, if_neg hpc2] at hnone
          rw [hnone] at hp; cases hp
end
end Go.Bx
