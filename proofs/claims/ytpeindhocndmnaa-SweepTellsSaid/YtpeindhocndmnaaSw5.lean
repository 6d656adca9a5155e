/- StP2, StO, StW, StW2, StW3, StA, ArR, StM, RcuA, StQ, BxFn, StF, StG, StS, ArR2, RsO: texts of this work, one behind the other. -/
import Derived.Test.YtpeindhocndmnaaSw4
namespace Go.Bx
open Go
set_option linter.unusedSimpArgs false
set_option linter.unusedVariables false
def Md.side (s : Md) (n y : Int) (b : Bool) : Int := if s.of n y then (if b then (s.nd n).2.2 else (s.nd n).2.1) else n
def Md.all (s : Md) : List Int := ((List.range s.N.length).map fun k : Nat => (k : Int) + 2).filter fun n => s.has n
def Md.change (s : Md) (x y : Int) : List Int := s.all.filter fun n => decide ((s.nd n).1 = x) && (s.of (s.nd n).2.1 y || s.of (s.nd n).2.2 y)
def Md.step1 (s : Md) (but : List Int) (x y n : Int) : (Int × Int) × Md := s.mk' but x (s.side (s.nd n).2.1 y false) (s.side (s.nd n).2.2 y false)
def Md.step2 (s : Md) (but : List Int) (x y n : Int) : (Int × Int) × Md := (s.step1 but x y n).2.mk' but x ((s.step1 but x y n).2.side (s.nd n).2.1 y true) ((s.step1 but x y n).2.side (s.nd n).2.2 y true)
def Md.swapStep (s : Md) (but : List Int) (x y n : Int) : Md := (s.step2 but x y n).2.lay n (y, (s.step1 but x y n).1.1, (s.step2 but x y n).1.1)
def Md.swapGo (x y : Int) : Md → List Int → Md
  | s, [] => s
  | s, n :: r => Md.swapGo x y (s.swapStep (n :: r) x y n) r
def Md.room (s : Md) : Int := s.a.most - s.a.many
def Md.ordS (s : Md) (l : Int) : Md := ⟨s.a, s.N, swp s.ord l⟩
def Md.swap (s : Md) (l : Int) : Int × Md :=
  if l < 0 ∨ 6 < l then (1, s)
  else if s.room < 2 * ((s.change (s.ord.getD l.toNat 0) (s.ord.getD (l.toNat + 1) 0)).length : Int) then (2, s)
  else (0, Md.swapGo (s.ord.getD l.toNat 0) (s.ord.getD (l.toNat + 1) 0) (s.ordS l) (s.change (s.ord.getD l.toNat 0) (s.ord.getD (l.toNat + 1) 0)))
section
variable {s s' s0 : Md} {n m v lo hi x y : Int} {f g : Fun8} {but r : List Int} {l : Nat}
theorem Md.of_iff : s.of n v = true ↔ s.has n = true ∧ (s.nd n).1 = v := by unfold Md.of; simp
theorem Md.WF.mem_all (W : s.WF) : n ∈ s.all ↔ s.has n = true := by
  unfold Md.all
  rw [List.mem_filter, List.mem_map]
  constructor
  · exact fun h => h.2
  · intro h
    have := W.lt h
    exact ⟨⟨(n - 2).toNat, List.mem_range.2 (by omega), by omega⟩, h⟩
theorem Md.nodup_all : s.all.Nodup := by
  unfold Md.all
  refine List.Pairwise.filter _ ?_
  rw [List.pairwise_map]
  exact List.Pairwise.imp (fun h => by omega) List.pairwise_lt_range
theorem Md.WF.len_all (W : s.WF) : (s.all.length : Int) = s.a.many := by
  have := W.ar.count (l := s.all.map fun n => n - 2) ?_ ?_
  · rw [List.length_map] at this; exact this
  · rw [List.nodup_iff_pairwise_ne, List.pairwise_map]
    exact List.Pairwise.imp (fun h e => h (by omega)) (List.nodup_iff_pairwise_ne.1 Md.nodup_all)
  · intro n
    rw [List.mem_map]
    constructor
    · rintro ⟨k, hk, rfl⟩
      exact Md.has_ar ((W.mem_all).1 hk)
    · intro h
      have := Ar.has_lt h
      exact ⟨n + 2, (W.mem_all).2 (Md.has_of this.1 h), by omega⟩
theorem Md.WF.mem_change (W : s.WF) : n ∈ s.change x y ↔ s.has n = true ∧ (s.nd n).1 = x ∧ (s.of (s.nd n).2.1 y = true ∨ s.of (s.nd n).2.2 y = true) := by
  unfold Md.change
  rw [List.mem_filter, W.mem_all, Bool.and_eq_true, Bool.or_eq_true, decide_eq_true_eq]
theorem Md.WF.nd_lay (W : s.WF) (hn : s.has n = true) {z : Nd} (hm : 2 ≤ m) : (s.lay n z).nd m = if m = n then z else s.nd m := by
  have := W.lt hn
  unfold Md.nd Md.lay
  simp only
  split
  · rename_i e; subst e; rw [List.getD, List.getElem?_set_self (by omega)]; rfl
  · rw [List.getD, List.getElem?_set_ne (by omega)]; rfl
theorem Md.WF.lay (W : s.WF) {z : Nd} : (s.lay n z).WF := ⟨W.ar, by simp only [Md.lay, List.length_set]; exact W.len, W.ord⟩
structure SwI (s0 : Md) (l : Nat) (x y : Int) (s : Md) (r : List Int) : Prop where
  good : s.Good r
  ord : s.ord = swp s0.ord l
  most : s.a.most = s0.a.most
  nodup : r.Nodup
  rem : ∀ n ∈ r, s0.has n = true ∧ (s0.nd n).1 = x ∧ (s0.of (s0.nd n).2.1 y = true ∨ s0.of (s0.nd n).2.2 y = true) ∧ s.nd n = s0.nd n
  old : ∀ n, s0.has n = true → s.has n = true ∧ ((s0.nd n).1 ≠ x → s.nd n = s0.nd n)
  new : ∀ n, s.has n = true → s0.has n = false → (s.nd n).1 = x
  yno : ∀ n, s.has n = true → n ∉ r → (s.nd n).1 = y → (s.nd n).2.1 ∉ r ∧ (s.nd n).2.2 ∉ r
  den : ∀ n f, Den s0 n f → Den s n f
  room : s.a.many + 2 * (r.length : Int) ≤ s.a.most
structure LvXY (s0 : Md) (l : Nat) (x y : Int) : Prop where
  hl : l < 7
  hx : s0.ord[l]? = some x
  hy : s0.ord[l + 1]? = some y
section
variable (G0 : s0.Good []) (L : LvXY s0 l x y)
include G0 L
theorem LvXY.rng : (0 ≤ x ∧ x < 8) ∧ (0 ≤ y ∧ y < 8) ∧ x ≠ y := by
  have W := G0.wf.ord
  refine ⟨W.rng _ _ L.hx, W.rng _ _ L.hy, fun e => ?_⟩
  subst e
  have := W.one _ _ _ L.hx L.hy; omega
theorem LvXY.old : lvl s0.ord x = l ∧ lvl s0.ord y = (l : Int) + 1 := by
  have W := G0.wf.ord
  have := W.lvl L.hy
  exact ⟨W.lvl L.hx, by rw [this]; omega⟩
theorem LvXY.new (h : s.ord = swp s0.ord l) : lvl s.ord y = l ∧ lvl s.ord x = (l : Int) + 1 ∧ ∀ v, v ≠ x → v ≠ y → 0 ≤ v ∧ v < 8 → lvl s.ord v = lvl s0.ord v := by
  rw [h]; exact G0.wf.ord.swp_lvl L.hl L.hx L.hy
theorem SwI.start (hr : 2 * ((s0.change x y).length : Int) ≤ s0.room) : SwI s0 l x y (s0.ordS l) (s0.change x y) := by
  have W := G0.wf
  obtain ⟨rx, ry, nxy⟩ := L.rng G0
  obtain ⟨ox, oy⟩ := L.old G0
  obtain ⟨ny, nx, nv⟩ := L.new G0 (s := s0.ordS l) rfl
  -- below, in the new order
  have bel : ∀ (v c : Int), 0 ≤ v ∧ v < 8 → s0.below c v = true → (v = x → s0.of c y = false) → (s0.ordS l).below c v = true := by
    intro v c hv hb hc
    rcases Md.below_iff.1 hb with e | e | ⟨e1, e2⟩
    · exact Md.below_iff.2 (.inl e)
    · exact Md.below_iff.2 (.inr (.inl e))
    · refine Md.below_iff.2 (.inr (.inr ⟨e1, ?_⟩))
      show lvl (s0.ordS l).ord v < lvl (s0.ordS l).ord (s0.nd c).1
      have hu := (G0.node c e1 (by simp)).var
      have hny : v = x → (s0.nd c).1 ≠ y := fun e hy' => by
        have := hc e
        rw [Md.of_iff.2 ⟨e1, hy'⟩] at this; cases this
      generalize (s0.nd c).1 = u at e2 hu hny ⊢
      by_cases vx : v = x
      · subst vx
        have uy := hny rfl
        have ux : u ≠ v := fun e => by subst e; omega
        rw [nx, nv u ux uy hu]
        have : lvl s0.ord u ≠ lvl s0.ord y := fun e => uy (W.ord.inj hu ry e)
        omega
      · by_cases vy : v = y
        · subst vy
          have ux : u ≠ x := fun e => by subst e; omega
          have uy : u ≠ v := fun e => by subst e; omega
          rw [ny, nv u ux uy hu]; omega
        · rw [nv v vx vy hv]
          have d1 : lvl s0.ord v ≠ lvl s0.ord x := fun e => vx (W.ord.inj hv rx e)
          by_cases ux : u = x
          · subst ux; rw [nx]; omega
          · by_cases uy : u = y
            · subst uy; rw [ny]; omega
            · rw [nv u ux uy hu]; exact e2
  refine ⟨⟨⟨W.ar, W.len, W.ord.swp _⟩, fun n hn => (W.mem_change.1 hn).1, fun n hn hb => ?_, fun m n hm _ hn _ he => G0.one m n hm (by simp) hn (by simp) he⟩, rfl, rfl, List.Pairwise.filter _ Md.nodup_all, fun n hn => ⟨(W.mem_change.1 hn).1, (W.mem_change.1 hn).2.1, (W.mem_change.1 hn).2.2, rfl⟩, fun n hn => ⟨hn, fun _ => rfl⟩, fun n hn hno => ?_, fun n hn hb hv => ?_, fun n f d => Den.keep (s := s0) (s' := s0.ordS l) (fun _ h => h) (fun _ _ => rfl) d, ?_⟩
  · have hn' : s0.has n = true := hn
    have ok := G0.node n hn' (by simp)
    have hnc : (s0.nd n).1 = x → s0.of (s0.nd n).2.1 y = false ∧ s0.of (s0.nd n).2.2 y = false := fun e => by
      have h := fun hh => hb (W.mem_change.2 ⟨hn', e, hh⟩)
      constructor
      · cases hc : s0.of (s0.nd n).2.1 y
        · rfl
        · exact absurd (.inl hc) h
      · cases hc : s0.of (s0.nd n).2.2 y
        · rfl
        · exact absurd (.inr hc) h
    exact ⟨ok.var, ok.ne, bel _ _ ok.var ok.lo fun e => (hnc e).1, bel _ _ ok.var ok.hi fun e => (hnc e).2⟩
  · have hn' : s0.has n = true := hn
    rw [hn'] at hno; cases hno
  · have hn' : s0.has n = true := hn
    have hv' : (s0.nd n).1 = y := hv
    have ok := G0.node n hn' (by simp)
    have key : ∀ c, s0.below c (s0.nd n).1 = true → c ∉ s0.change x y := fun c hc hm => by
      have := W.mem_change.1 hm
      rcases Md.below_iff.1 hc with e | e | e
      · have := Md.has_ge this.1; omega
      · have := Md.has_ge this.1; omega
      · rw [this.2.1, hv'] at e; omega
    exact ⟨key _ ok.lo, key _ ok.hi⟩
  · show s0.a.many + _ ≤ s0.a.most
    unfold Md.room at hr; omega
theorem SwI.side (I : SwI s0 l x y s r) {c : Int} (hb : s0.below c x = true) (b : Bool) :
    s.below (s.side c y b) x = true ∧ (∀ f, Den s0 c f → Den s (s.side c y b) (cofF f y b)) ∧ (c = 0 ∨ c = 1 ∨ s.has c = true) ∧ (s.of c y = s0.of c y) := by
  have W := G0.wf
  obtain ⟨rx, ry, nxy⟩ := L.rng G0
  obtain ⟨ox, oy⟩ := L.old G0
  obtain ⟨ny, nx, nv⟩ := L.new G0 I.ord
  by_cases hc : s0.has c = true
  · have ok := G0.node c hc (by simp)
    have hlv : lvl s0.ord x < lvl s0.ord (s0.nd c).1 := by
      have := Md.has_ge hc
      rcases Md.below_iff.1 hb with e | e | e
      · omega
      · omega
      · exact e.2
    have hcx : (s0.nd c).1 ≠ x := fun e => by rw [e] at hlv; omega
    obtain ⟨hs, hnd⟩ := I.old c hc
    have hnd := hnd hcx
    have hof : s.of c y = s0.of c y := by unfold Md.of; rw [hs, hc, hnd]
    refine ⟨?_, ?_, .inr (.inr hs), hof⟩
    · unfold Md.side
      rw [hof]
      cases ho : s0.of c y
      · simp only [Bool.false_eq_true, ↓reduceIte]
        have hcy : (s0.nd c).1 ≠ y := fun e => by rw [Md.of_iff.2 ⟨hc, e⟩] at ho; cases ho
        refine Md.below_iff.2 (.inr (.inr ⟨hs, ?_⟩))
        rw [hnd, nx, nv _ hcx hcy ok.var]
        have : lvl s0.ord (s0.nd c).1 ≠ lvl s0.ord y := fun e => hcy (W.ord.inj ok.var ry e)
        omega
      · simp only [↓reduceIte]
        have hcy := (Md.of_iff.1 ho).2
        rw [hnd]
        have key : ∀ d, s0.below d y = true → s.below d x = true := fun d hd => by
          rcases Md.below_iff.1 hd with e | e | ⟨e1, e2⟩
          · exact Md.below_iff.2 (.inl e)
          · exact Md.below_iff.2 (.inr (.inl e))
          · have dx : (s0.nd d).1 ≠ x := fun e => by rw [e] at e2; omega
            have dy : (s0.nd d).1 ≠ y := fun e => by rw [e] at e2; omega
            obtain ⟨k1, k2⟩ := I.old d e1
            refine Md.below_iff.2 (.inr (.inr ⟨k1, ?_⟩))
            rw [k2 dx, nx, nv _ dx dy (G0.node d e1 (by simp)).var]; omega
        have h0 := ok.lo
        have h1 := ok.hi
        rw [hcy] at h0 h1
        cases b
        · exact key _ h0
        · exact key _ h1
    · intro f d
      unfold Md.side
      rw [hof]
      cases ho : s0.of c y
      · simp only [Bool.false_eq_true, ↓reduceIte]
        have hcy : (s0.nd c).1 ≠ y := fun e => by rw [Md.of_iff.2 ⟨hc, e⟩] at ho; cases ho
        have hd : depF f y = false := by
          cases hd : depF f y
          · rfl
          · have := (G0.dep d hd).2
            have : lvl s0.ord (s0.nd c).1 ≠ lvl s0.ord y := fun e => hcy (W.ord.inj ok.var ry e)
            omega
        rw [cof_nodep hd]
        exact I.den _ _ d
      · simp only [↓reduceIte]
        have hcy := (Md.of_iff.1 ho).2
        have ⟨d0, d1⟩ := G0.sides d hc
        rw [hcy] at d0 d1
        rw [hnd]
        cases b
        · exact I.den _ _ d0
        · exact I.den _ _ d1
  · have hcc : c = 0 ∨ c = 1 := by
      rcases Md.below_iff.1 hb with e | e | e
      · exact .inl e
      · exact .inr e
      · exact absurd e.1 hc
    have hno : s.has c = false := Md.has_no (by omega)
    have hno0 : s0.has c = false := Md.has_no (by omega)
    have hof : s.of c y = s0.of c y := by unfold Md.of; rw [hno, hno0]; simp
    have hof0 : s0.of c y = false := by unfold Md.of; rw [hno0]; simp
    refine ⟨?_, ?_, by rcases hcc with e | e; exact .inl e; exact .inr (.inl e), hof⟩
    · unfold Md.side
      rw [hof, hof0]
      simp only [Bool.false_eq_true, ↓reduceIte]
      rcases hcc with e | e
      · exact Md.below_iff.2 (.inl e)
      · exact Md.below_iff.2 (.inr (.inl e))
    · intro f d
      unfold Md.side
      rw [hof, hof0]
      simp only [Bool.false_eq_true, ↓reduceIte]
      rcases hcc with e | e
      · subst e; rw [d.zero, cof_const]; exact .c0
      · subst e; rw [d.one, cof_const]; exact .c1
omit G0 L in
theorem Md.side_le (hl : s.Le s') {c : Int} (hc : c = 0 ∨ c = 1 ∨ s.has c = true) (b : Bool) : s'.side c y b = s.side c y b ∧ s'.of c y = s.of c y := by
  rcases hc with e | e | e
  · have h1 : s.has c = false := Md.has_no (by omega)
    have h2 : s'.has c = false := Md.has_no (by omega)
    unfold Md.side Md.of; rw [h1, h2]; simp
  · have h1 : s.has c = false := Md.has_no (by omega)
    have h2 : s'.has c = false := Md.has_no (by omega)
    unfold Md.side Md.of; rw [h1, h2]; simp
  · have h2 := hl.has c e
    have h3 := hl.nd c e
    unfold Md.side Md.of; rw [h2, h3, e]; simp
structure SwR (s0 : Md) (l : Nat) (x y : Int) (s : Md) (n : Int) (r : List Int) : Prop where
  e1 : (s.step1 (n :: r) x y n).1.2 = 0
  e2 : (s.step2 (n :: r) x y n).1.2 = 0
  g1 : (s.step1 (n :: r) x y n).2.Good (n :: r)
  g2 : (s.step2 (n :: r) x y n).2.Good (n :: r)
  l1 : s.Le (s.step1 (n :: r) x y n).2
  l2 : (s.step1 (n :: r) x y n).2.Le (s.step2 (n :: r) x y n).2
  fresh : ∀ m, (s.step2 (n :: r) x y n).2.has m = true → m ∉ n :: r → (s.step2 (n :: r) x y n).2.nd m ≠ (y, (s.step1 (n :: r) x y n).1.1, (s.step2 (n :: r) x y n).1.1)
  lo : (s.step1 (n :: r) x y n).1.1 = 0 ∨ (s.step1 (n :: r) x y n).1.1 = 1 ∨ (s.step2 (n :: r) x y n).2.has (s.step1 (n :: r) x y n).1.1 = true
  hi : (s.step2 (n :: r) x y n).1.1 = 0 ∨ (s.step2 (n :: r) x y n).1.1 = 1 ∨ (s.step2 (n :: r) x y n).2.has (s.step2 (n :: r) x y n).1.1 = true
  next : SwI s0 l x y (s.swapStep (n :: r) x y n) r
theorem SwI.step {n : Int} (I : SwI s0 l x y s (n :: r)) : SwR s0 l x y s n r := by
  have W := G0.wf
  obtain ⟨rx, ry, nxy⟩ := L.rng G0
  obtain ⟨ox, oy⟩ := L.old G0
  obtain ⟨hn0, hvx, hof, hnd⟩ := I.rem n (by simp)
  have ok := G0.node n hn0 (by simp)
  have bL := ok.lo
  have bH := ok.hi
  rw [hvx] at bL bH
  have sL := fun b => I.side G0 L bL b
  have sH := fun b => I.side G0 L bH b
  have hroom := I.room
  simp only [List.length_cons] at hroom
  have q1 : s.step1 (n :: r) x y n = s.mk' (n :: r) x (s.side (s0.nd n).2.1 y false) (s.side (s0.nd n).2.2 y false) := by unfold Md.step1; rw [hnd]
  have e1 : (s.step1 (n :: r) x y n).1.2 = 0 := by
    rw [q1]
    rcases I.good.mk_err rx (sL false).1 (sH false).1 with h | ⟨_, _, h⟩
    · exact h
    · omega
  obtain ⟨g1, l1, m1⟩ := I.good.mks x (s.side (s0.nd n).2.1 y false) (s.side (s0.nd n).2.2 y false)
  have d1 := I.good.made rx (sL false).1 (sH false).1 q1.symm e1
  rw [← q1] at g1 l1 m1
  have q2 : s.step2 (n :: r) x y n = (s.step1 (n :: r) x y n).2.mk' (n :: r) x (s.side (s0.nd n).2.1 y true) (s.side (s0.nd n).2.2 y true) := by
    unfold Md.step2; rw [hnd, (Md.side_le l1 (sL true).2.2.1 true).1, (Md.side_le l1 (sH true).2.2.1 true).1]
  have hm1 := l1.most
  have e2 : (s.step2 (n :: r) x y n).1.2 = 0 := by
    rw [q2]
    rcases g1.mk_err rx (l1.below (sL true).1) (l1.below (sH true).1) with h | ⟨_, _, h⟩
    · exact h
    · omega
  obtain ⟨g2, l2, m2⟩ := g1.mks x (s.side (s0.nd n).2.1 y true) (s.side (s0.nd n).2.2 y true)
  have d2 := g1.made rx (l1.below (sL true).1) (l1.below (sH true).1) q2.symm e2
  rw [← q2] at g2 l2 m2
  have hstep : s.swapStep (n :: r) x y n = (s.step2 (n :: r) x y n).2.lay n (y, (s.step1 (n :: r) x y n).1.1, (s.step2 (n :: r) x y n).1.1) := rfl
  obtain ⟨r1, hr1⟩ : ∃ z, s.step1 (n :: r) x y n = z := ⟨_, rfl⟩
  obtain ⟨r2, hr2⟩ : ∃ z, s.step2 (n :: r) x y n = z := ⟨_, rfl⟩
  rw [hr1] at e1 g1 l1 m1 d1 l2 d2 q2 hm1 m2
  rw [hr2] at e2 g2 l2 m2 d2
  obtain ⟨⟨o1, z1⟩, t1⟩ := r1
  obtain ⟨⟨o2, z2⟩, t⟩ := r2
  simp only at e1 g1 l1 m1 d1 l2 d2 q2 hm1 e2 g2 l2 m2
  subst e1 e2
  have le := l1.trans l2
  have hord : t.ord = swp s0.ord l := le.ord.trans I.ord
  obtain ⟨ny, nx, nv⟩ := L.new G0 hord
  have hmost : t.a.most = s0.a.most := le.most.trans I.most
  -- those that wait
  have wait : ∀ k ∈ n :: r, t.has k = true ∧ t.nd k = s0.nd k ∧ (s0.nd k).1 = x := fun k hk => by
    have h1 := I.good.sub k hk
    have h2 := I.rem k hk
    exact ⟨le.has k h1, (le.nd k h1).trans h2.2.2.2, h2.2.1⟩
  have notIn : ∀ c v, t.below c v = true → (l : Int) + 1 ≤ lvl t.ord v → c ∉ n :: r := fun c v hb hv hm => by
    obtain ⟨h1, h2, h3⟩ := wait c hm
    rcases Md.below_iff.1 hb with e | e | e
    · have := Md.has_ge h1; omega
    · have := Md.has_ge h1; omega
    · rw [h2, h3, nx] at e; omega
  obtain ⟨hnt, hndt, _⟩ := wait n (by simp)
  -- the two new sides
  have sideOK : ∀ (o c d : Int), t.below c x = true → ((c = d ∧ o = c) ∨ (c ≠ d ∧ t.has o = true ∧ o ∉ n :: r ∧ t.nd o = (x, c, d))) → o ∉ n :: r ∧ (o = 0 ∨ o = 1 ∨ (t.has o = true ∧ (l : Int) < lvl t.ord (t.nd o).1)) := by
    intro o c d hb h
    rcases h with ⟨_, rfl⟩ | ⟨_, h1, h2, h3⟩
    · refine ⟨notIn _ x hb (by omega), ?_⟩
      rcases Md.below_iff.1 hb with e | e | e
      · exact .inl e
      · exact .inr (.inl e)
      · exact .inr (.inr ⟨e.1, by omega⟩)
    · exact ⟨h2, .inr (.inr ⟨h1, by rw [h3, nx]; omega⟩)⟩
  have p1 : o1 ∉ n :: r ∧ (o1 = 0 ∨ o1 = 1 ∨ (t.has o1 = true ∧ (l : Int) < lvl t.ord (t.nd o1).1)) := by
    refine sideOK o1 _ (s.side (s0.nd n).2.2 y false) (le.below (sL false).1) ?_
    rcases d1.1 with ⟨h1, h2, _⟩ | ⟨h1, h2, h3, h4⟩
    · exact .inl ⟨h1, h2⟩
    · exact .inr ⟨h1, l2.has _ h2, h3, (l2.nd _ h2).trans h4⟩
  have p2 : o2 ∉ n :: r ∧ (o2 = 0 ∨ o2 = 1 ∨ (t.has o2 = true ∧ (l : Int) < lvl t.ord (t.nd o2).1)) := by
    refine sideOK o2 _ (s.side (s0.nd n).2.2 y true) (le.below (sL true).1) ?_
    rcases d2.1 with ⟨h1, h2, _⟩ | ⟨h1, h2, h3, h4⟩
    · exact .inl ⟨h1, h2⟩
    · exact .inr ⟨h1, h2, h3, h4⟩
  -- what they denote
  obtain ⟨f, df⟩ := G0.has_den (.inr (.inr hn0))
  have ⟨dL, dH⟩ := G0.sides df hn0
  rw [hvx] at dL dH
  obtain ⟨fL, hfL⟩ : ∃ z, cofF f x false = z := ⟨_, rfl⟩
  obtain ⟨fH, hfH⟩ : ∃ z, cofF f x true = z := ⟨_, rfl⟩
  have hf : f = iteF (varF x) fH fL := by rw [← hfL, ← hfH, ite_cof]
  rw [hfL] at dL
  rw [hfH] at dH
  have D1 : Den t o1 (iteF (varF x) (cofF fH y false) (cofF fL y false)) := (d1.2.2 _ _ ((sL false).2.1 _ dL) ((sH false).2.1 _ dH)).mono l2
  have D2 : Den t o2 (iteF (varF x) (cofF fH y true) (cofF fL y true)) := d2.2.2 _ _ (((sL true).2.1 _ dL).mono l1) (((sH true).2.1 _ dH).mono l1)
  rw [← cof_other (Ne.symm nxy), ← hf] at D1 D2
  -- what is laid
  obtain ⟨u, hu⟩ : ∃ u, t.lay n (y, o1, o2) = u := ⟨_, rfl⟩
  have hasu : ∀ m, u.has m = t.has m := fun m => by rw [← hu]; rfl
  have ndu : ∀ m, 2 ≤ m → u.nd m = if m = n then (y, o1, o2) else t.nd m := fun m hm => by rw [← hu]; exact g2.wf.nd_lay hnt hm
  have ordu : u.ord = t.ord := by rw [← hu]; rfl
  have ndn : u.nd n = (y, o1, o2) := by rw [ndu n (Md.has_ge hnt), if_pos rfl]
  have ndo : ∀ m, t.has m = true → m ≠ n → u.nd m = t.nd m := fun m hm hne => by rw [ndu m (Md.has_ge hm), if_neg hne]
  have lemA : ∀ m g, Den t m g → m ∉ n :: r → (t.has m = true → (l : Int) < lvl t.ord (t.nd m).1) → Den u m g := by
    intro m g d
    induction d with
    | c0 => intro _ _; exact .c0
    | c1 => intro _ _; exact .c1
    | @node m v lo hi f0 f1 h hx _ _ ih0 ih1 =>
      intro hm hl
      have hl : (l : Int) < lvl t.ord v := by have := hl h; rw [hx] at this; exact this
      have okm := g2.node m h hm
      have hb0 := okm.lo
      have hb1 := okm.hi
      rw [hx] at hb0 hb1
      have key : ∀ c, t.below c v = true → t.has c = true → (l : Int) < lvl t.ord (t.nd c).1 := fun c hb hc => by
        have := Md.has_ge hc
        rcases Md.below_iff.1 hb with e | e | e
        · omega
        · omega
        · omega
      exact .node (by rw [hasu]; exact h) ((ndo m h fun e => hm (by rw [e]; simp)).trans hx) (ih0 (notIn _ v hb0 (by omega)) (key _ hb0)) (ih1 (notIn _ v hb1 (by omega)) (key _ hb1))
  have U1 : Den u o1 (cofF f y false) := lemA _ _ D1 p1.1 fun h => by have := Md.has_ge h; rcases p1.2 with e | e | e; omega; omega; exact e.2
  have U2 : Den u o2 (cofF f y true) := lemA _ _ D2 p2.1 fun h => by have := Md.has_ge h; rcases p2.2 with e | e | e; omega; omega; exact e.2
  have Un : Den u n f := by
    have := Den.node (by rw [hasu]; exact hnt) ndn U1 U2
    rwa [ite_cof] at this
  have dent : ∀ m g, Den s0 m g → Den t m g := fun m g d => (I.den m g d).mono le
  have lemB : ∀ m g, Den t m g → Den u m g := by
    intro m g d
    induction d with
    | c0 => exact .c0
    | c1 => exact .c1
    | @node m v lo hi f0 f1 h hx h0 h1 ih0 ih1 =>
      by_cases e : m = n
      · subst e
        have := (dent _ _ df).fn (.node h hx h0 h1)
        rw [← this]; exact Un
      · exact .node (by rw [hasu]; exact h) ((ndo m h e).trans hx) ih0 ih1
  have denu : ∀ m g, Den s0 m g → Den u m g := fun m g d => lemB _ _ (dent m g d)
  have newt : ∀ m, t.has m = true → s0.has m = false → (t.nd m).1 = x := by
    intro m hm h0
    rcases d2.2.1 m hm with h | ⟨_, h⟩
    · rcases d1.2.1 m h with h' | ⟨_, h'⟩
      · rw [le.nd m h']; exact I.new m h' h0
      · rw [l2.nd m h, h']
    · rw [h]
  -- a node of y that is as the new one
  have fresh : ∀ m, t.has m = true → m ∉ n :: r → t.nd m ≠ (y, o1, o2) := by
    intro m hm hmr he
    have hmn : m ≠ n := fun e => hmr (by rw [e]; simp)
    have dm : Den u m f := by
      have := Den.node (by rw [hasu]; exact hm) ((ndo m hm hmn).trans he) U1 U2
      rwa [ite_cof] at this
    cases h0 : s0.has m
    · have := newt m hm h0
      rw [he] at this; exact nxy this.symm
    · obtain ⟨g, dg⟩ := G0.has_den (.inr (.inr h0))
      have := (denu _ _ dg).fn dm
      subst this
      exact hmn (G0.canon dg df)
  have hne : o1 ≠ o2 := by
    intro e
    rw [e] at U1
    have e2 := U1.fn U2
    have hnd := nodep_of e2
    have hnL : depF fL y = false := by
      cases h : depF fL y
      · rfl
      · rw [← hfL] at h; have := dep_of_cof2 h; rw [hnd] at this; cases this
    have hnH : depF fH y = false := by
      cases h : depF fH y
      · rfl
      · rw [← hfH] at h; have := dep_of_cof2 h; rw [hnd] at this; cases this
    rcases hof with h | h
    · obtain ⟨h1, h2⟩ := Md.of_iff.1 h
      have := G0.top h1 dL; rw [h2, hnL] at this; cases this
    · obtain ⟨h1, h2⟩ := Md.of_iff.1 h
      have := G0.top h1 dH; rw [h2, hnH] at this; cases this
  have hnr : n ∉ r := (List.nodup_cons.1 I.nodup).1
  have there : ∀ o, (o = 0 ∨ o = 1 ∨ (t.has o = true ∧ (l : Int) < lvl t.ord (t.nd o).1)) → o = 0 ∨ o = 1 ∨ t.has o = true := fun o h => by
    rcases h with h | h | h
    · exact .inl h
    · exact .inr (.inl h)
    · exact .inr (.inr h.1)
  have bely : ∀ o, o ∉ n :: r → (o = 0 ∨ o = 1 ∨ (t.has o = true ∧ (l : Int) < lvl t.ord (t.nd o).1)) → u.below o y = true := fun o ho h => by
    rcases h with e | e | ⟨e1, e2⟩
    · exact Md.below_iff.2 (.inl e)
    · exact Md.below_iff.2 (.inr (.inl e))
    · refine Md.below_iff.2 (.inr (.inr ⟨by rw [hasu]; exact e1, ?_⟩))
      rw [ordu, ndo o e1 fun e => ho (by rw [e]; simp), ny]; exact e2
  have ynot : ∀ m, t.has m = true → m ∉ n :: r → (t.nd m).1 = y → (t.nd m).2.1 ∉ n :: r ∧ (t.nd m).2.2 ∉ n :: r := by
    intro m hm hmr hv
    have hs : s.has m = true := by
      rcases d2.2.1 m hm with h | ⟨_, h⟩
      · rcases d1.2.1 m h with h' | ⟨_, h'⟩
        · exact h'
        · rw [l2.nd m h, h'] at hv; exact absurd hv nxy
      · rw [h] at hv; exact absurd hv nxy
    have e := le.nd m hs
    rw [e] at hv ⊢
    exact I.yno m hs hmr hv
  have goodu : u.Good r := by
    refine ⟨hu ▸ g2.wf.lay, fun k hk => by rw [hasu]; exact (wait k (by simp [hk])).1, fun m hm hmr => ?_, fun a b ha har hb hbr he => ?_⟩
    · rw [hasu] at hm
      by_cases e : m = n
      · subst e
        exact ⟨by rw [ndn]; exact ry, by rw [ndn]; exact hne, by rw [ndn]; exact bely _ p1.1 p1.2, by rw [ndn]; exact bely _ p2.1 p2.2⟩
      · have hmr' : m ∉ n :: r := by simp [e, hmr]
        have okm := g2.node m hm hmr'
        have em := ndo m hm e
        have key : ∀ c, t.below c (t.nd m).1 = true → ((t.nd m).1 = y → c ∉ n :: r) → u.below c (t.nd m).1 = true := fun c hb hy => by
          rcases Md.below_iff.1 hb with e | e | ⟨e1, e2⟩
          · exact Md.below_iff.2 (.inl e)
          · exact Md.below_iff.2 (.inr (.inl e))
          · refine Md.below_iff.2 (.inr (.inr ⟨by rw [hasu]; exact e1, ?_⟩))
            rw [ordu]
            by_cases ec : c = n
            · have hvy : (t.nd m).1 ≠ y := fun h => hy h (by rw [ec]; simp)
              rw [ec] at e2
              rw [ec, ndn]
              rw [hndt, hvx, nx] at e2
              have hne : lvl t.ord (t.nd m).1 ≠ lvl t.ord y := fun h => hvy (g2.wf.ord.inj okm.var ry h)
              simp only; omega
            · rw [ndo c e1 ec]; exact e2
        exact ⟨by rw [em]; exact okm.var, by rw [em]; exact okm.ne, by rw [em]; exact key _ okm.lo fun h => (ynot m hm hmr' h).1, by rw [em]; exact key _ okm.hi fun h => (ynot m hm hmr' h).2⟩
    · rw [hasu] at ha hb
      by_cases ea : a = n
      · by_cases eb : b = n
        · rw [ea, eb]
        · rw [ea, ndn, ndo b hb eb] at he
          exact absurd he.symm (fresh b hb (by simp [eb, hbr]))
      · by_cases eb : b = n
        · rw [eb, ndn, ndo a ha ea] at he
          exact absurd he (fresh a ha (by simp [ea, har]))
        · rw [ndo a ha ea, ndo b hb eb] at he
          exact g2.one a b ha (by simp [ea, har]) hb (by simp [eb, hbr]) he
  have amu : u.a = t.a := by rw [← hu]; rfl
  refine ⟨by rw [hr1], by rw [hr2], by rw [hr1]; exact g1, by rw [hr2]; exact g2, by rw [hr1]; exact l1, by rw [hr1, hr2]; exact l2, by rw [hr1, hr2]; exact fresh, by rw [hr1, hr2]; exact there o1 p1.2, by rw [hr2]; exact there o2 p2.2, ?_⟩
  rw [hstep, hr1, hr2]
  simp only
  rw [hu]
  refine ⟨goodu, by rw [ordu]; exact hord, by rw [amu]; exact hmost, (List.nodup_cons.1 I.nodup).2, fun k hk => ?_, fun k hk => ?_, fun k hk h0 => ?_, fun m hm hmr hv => ?_, denu, ?_⟩
  · obtain ⟨h1, h2, h3, _⟩ := I.rem k (by simp [hk])
    refine ⟨h1, h2, h3, ?_⟩
    obtain ⟨w1, w2, _⟩ := wait k (by simp [hk])
    rw [ndo k w1 fun e => hnr (by rw [← e]; exact hk)]; exact w2
  · obtain ⟨h1, h2⟩ := I.old k hk
    refine ⟨by rw [hasu]; exact le.has k h1, fun hne => ?_⟩
    rw [ndo k (le.has k h1) fun e => hne (by rw [e]; exact hvx), le.nd k h1]
    exact h2 hne
  · rw [hasu] at hk
    rw [ndo k hk fun e => by rw [e, hn0] at h0; cases h0]
    exact newt k hk h0
  · rw [hasu] at hm
    by_cases e : m = n
    · rw [e, ndn]
      exact ⟨fun h => p1.1 (by simp [h]), fun h => p2.1 (by simp [h])⟩
    · rw [ndo m hm e] at hv ⊢
      have := ynot m hm (by simp [e, hmr]) hv
      exact ⟨fun h => this.1 (by simp [h]), fun h => this.2 (by simp [h])⟩
  · rw [amu]
    have h1 := l2.most
    have h2 := l1.most
    omega
theorem SwI.go : ∀ (r : List Int) (s : Md), SwI s0 l x y s r → SwI s0 l x y (Md.swapGo x y s r) []
  | [], s, I => I
  | n :: r, s, I => SwI.go r _ (I.step G0 L).next
end
structure Md.Swapped (s s' : Md) : Prop where
  good : s'.Good []
  den : ∀ n f, Den s n f → Den s' n f
  most : s'.a.most = s.a.most
  has : ∀ n, s.has n = true → s'.has n = true
theorem LvXY.of {l : Int} (G : s0.Good []) (h0 : 0 ≤ l) (h1 : l ≤ 6) : LvXY s0 l.toNat (s0.ord.getD l.toNat 0) (s0.ord.getD (l.toNat + 1) 0) := by
  have hl := G.wf.ord.len
  refine ⟨by omega, ?_, ?_⟩
  · rw [List.getD, List.getElem?_eq_getElem (by omega)]; rfl
  · rw [List.getD, List.getElem?_eq_getElem (by omega)]; rfl
theorem Md.Good.swap (G : s0.Good []) (l : Int) : s0.Swapped (s0.swap l).2 ∧ ((s0.swap l).1 = 0 → (s0.swap l).2.ord = swp s0.ord l) ∧ ((s0.swap l).1 ≠ 0 → (s0.swap l).2 = s0) := by
  have bad : ∀ k : Int, k ≠ 0 → s0.Swapped ((k, s0) : Int × Md).2 ∧ (((k, s0) : Int × Md).1 = 0 → ((k, s0) : Int × Md).2.ord = swp s0.ord l) ∧ (((k, s0) : Int × Md).1 ≠ 0 → ((k, s0) : Int × Md).2 = s0) := fun k hk => ⟨⟨G, fun _ _ d => d, rfl, fun _ h => h⟩, fun h => absurd h hk, fun _ => rfl⟩
  unfold Md.swap
  split
  · exact bad 1 (by decide)
  · rename_i h
    have L := LvXY.of G (l := l) (by omega) (by omega)
    split
    · exact bad 2 (by decide)
    · rename_i hr
      have I := SwI.go G L _ _ (SwI.start G L (by omega))
      have e : ((l.toNat : Nat) : Int) = l := by omega
      rw [e] at I
      refine ⟨⟨I.good, I.den, I.most, fun n hn => (I.old n hn).1⟩, fun _ => ?_, fun h => absurd rfl h⟩
      have := I.ord
      rw [e] at this; exact this
def Md.pointed (s : Md) (n : Int) : Bool := s.all.any fun m => decide ((s.nd m).2.1 = n) || decide ((s.nd m).2.2 = n)
def Md.drop (s : Md) (n : Int) : Md := ⟨s.a.give (n - 2), s.N, s.ord⟩
def Md.free (s : Md) (n : Int) : Int × Md := if s.has n = false ∨ s.pointed n = true then (1, s) else (0, s.drop n)
theorem Md.has_drop (hn : s.has n = true) : (s.drop n).has m = (s.has m && !decide (m = n)) := by
  unfold Md.has Md.drop
  simp only
  rw [Ar.has_give (Md.has_ar hn), ← Bool.and_assoc]
  congr 2
  have : (m - 2 = n - 2) ↔ m = n := by omega
  simp [this]
theorem Md.WF.drop (W : s.WF) (hn : s.has n = true) : (s.drop n).WF ∧ (s.drop n).a.many = s.a.many - 1 :=
  ⟨⟨(W.ar.given (Md.has_ar hn)).1, by simp only [Md.drop, Ar.give, List.length_set]; exact W.len, W.ord⟩, (W.ar.given (Md.has_ar hn)).2⟩
theorem Md.WF.pointed_no (W : s.WF) (h : s.pointed n = false) (hm : s.has m = true) : (s.nd m).2.1 ≠ n ∧ (s.nd m).2.2 ≠ n := by
  unfold Md.pointed at h
  rw [List.any_eq_false] at h
  have := h m (W.mem_all.2 hm)
  simpa using this
theorem Md.Good.drop (G : s.Good []) (hn : s.has n = true) (hp : s.pointed n = false) : (s.drop n).Good [] := by
  have hc : ∀ m, (s.drop n).has m = true → s.has m = true ∧ m ≠ n := fun m hm => by
    rw [Md.has_drop hn, Bool.and_eq_true] at hm
    exact ⟨hm.1, by simpa using hm.2⟩
  refine ⟨(G.wf.drop hn).1, fun k hk => (by cases hk), fun m hm _ => ?_, fun a b ha _ hb _ he => G.one a b (hc a ha).1 (by simp) (hc b hb).1 (by simp) he⟩
  have ok := G.node m (hc m hm).1 (by simp)
  have hpn := G.wf.pointed_no hp (hc m hm).1
  have key : ∀ c v, c ≠ n → s.below c v = true → (s.drop n).below c v = true := fun c v hcn hb => by
    rcases Md.below_iff.1 hb with e | e | ⟨e1, e2⟩
    · exact Md.below_iff.2 (.inl e)
    · exact Md.below_iff.2 (.inr (.inl e))
    · exact Md.below_iff.2 (.inr (.inr ⟨by rw [Md.has_drop hn, e1]; simp [hcn], e2⟩))
  exact ⟨ok.var, ok.ne, key _ _ hpn.1 ok.lo, key _ _ hpn.2 ok.hi⟩
theorem Md.Good.free (G : s.Good []) (n : Int) : (s.free n).2.Good [] ∧ (s.free n).2.ord = s.ord ∧ (s.free n).2.a.most = s.a.most := by
  unfold Md.free
  split
  · exact ⟨G, rfl, rfl⟩
  · rename_i h
    have h1 : s.has n = true := by cases hh : s.has n; exact absurd (.inl hh) h; rfl
    have h2 : s.pointed n = false := by cases hh : s.pointed n; rfl; exact absurd (.inr hh) h
    exact ⟨G.drop h1 h2, rfl, rfl⟩
def Md.new (most : Int) : Md := ⟨⟨most, [], []⟩, [], plain⟩
theorem Md.Good.start {most : Int} (h0 : 0 ≤ most) (h1 : most ≤ 20000) : (Md.new most).Good [] := by
  have hno : ∀ n, (Md.new most).has n = false := fun n => by unfold Md.has Md.new Ar.has; simp
  exact ⟨⟨Ar.OK.start h0 h1, rfl, OrdOK.plain⟩, fun n h => (by cases h), fun n hn => (by rw [hno] at hn; cases hn), fun m n hm => (by rw [hno] at hm; cases hm)⟩
end
end Go.Bx

namespace Go.Proofs.Ytpeindhocndmnaa
open Go Go.Bx
set_option linter.unusedSimpArgs false
set_option linter.unusedVariables false
set_option maxRecDepth 100000
set_option maxHeartbeats 4000000
attribute [local irreducible] X XO XE XF XD XW thenX inX retX kN CallsR
def rowN (x : Nd) : List Value := [.int .i64 x.1, .int .i64 x.2.1, .int .i64 x.2.2]
def ndV (x : Nd) : Value := .agg #[.int .i64 x.1, .int .i64 x.2.1, .int .i64 x.2.2]
abbrev SlN (w : World) (a : Option Addr) (cap : Nat) (N : List Nd) : Prop := Sl w 39 3 a cap (N.map rowN)
section
variable {w w' : World} {a : Option Addr} {cap : Nat} {N : List Nd}
theorem SlN.ne (h : SlN w a cap N) {g b : Nat} {c : Array Value} {E' : Nat} {fz : Nat × Nat} (hg : blk a = some g) (hb : w.heap[b]? = some (.cells c E' fz)) (hE : 39 ≠ E') : g ≠ b := by
  rintro rfl
  obtain ⟨c2, h2⟩ := h.l.tag hg
  rw [h2] at hb
  simp only [Option.some.injEq, Obj.cells.injEq] at hb
  exact hE hb.2.1
theorem SlN.at (h : SlN w a cap N) {k : Nat} {v lo hi : Int} (hx : N[k]? = some (v, lo, hi)) :
    ∃ g cur, a = some ⟨g, 0, none⟩ ∧ w.heap[g]? = some (.cells cur 39 (0, 0)) ∧ N.length ≤ cap ∧ k < N.length ∧ cur[k * 3]? = some (.int .i64 v) ∧ cur[k * 3 + 1]? = some (.int .i64 lo) ∧ cur[k * 3 + 2]? = some (.int .i64 hi) ∧ k * 3 + 3 ≤ cur.size ∧ cur.extract (k * 3) (k * 3 + 3) = #[.int .i64 v, .int .i64 lo, .int .i64 hi] := by
  obtain ⟨g, cur, h1, h2, h3, h4, h5⟩ := Sl.at h (i := k) (x := rowN (v, lo, hi)) (by rw [List.getElem?_map, hx]; rfl)
  rw [List.length_map] at h3 h4
  have c0 := h5 0 _ rfl
  have c1 := h5 1 _ rfl
  have c2 := h5 2 _ rfl
  rw [Nat.add_zero] at c0
  have hs := (Array.getElem?_eq_some_iff.1 c2).1
  refine ⟨g, cur, h1, h2, h3, h4, c0, c1, c2, by omega, ?_⟩
  apply Array.ext_getElem?
  intro j
  rw [Array.getElem?_extract]
  match j with
  | 0 => rw [if_pos (by omega), Nat.add_zero]; exact c0
  | 1 => rw [if_pos (by omega)]; exact c1
  | 2 => rw [if_pos (by omega)]; exact c2
  | j + 3 => rw [if_neg (by omega)]; simp
theorem SlN.set {g : Nat} {cur : Array Value} (h : SlN w (some ⟨g, 0, none⟩) cap N) (hg : w.heap[g]? = some (.cells cur 39 (0, 0))) {k : Nat} (hk : k < N.length) (x : Nd) :
    SlN (upd w g (.cells (((cur.setIfInBounds (k * 3) (.int .i64 x.1)).setIfInBounds (k * 3 + 1) (.int .i64 x.2.1)).setIfInBounds (k * 3 + 2) (.int .i64 x.2.2)) 39 (0, 0))) (some ⟨g, 0, none⟩) cap (N.set k x) := by
  have hlt := lt_of_heap hg
  have h0 := Sl.set h hg (i := k) (j := 0) (x := rowN N[k]) (by rw [List.getElem?_map, List.getElem?_eq_getElem hk]; rfl) (by decide) (.int .i64 x.1)
  rw [Nat.add_zero] at h0
  have h1 := Sl.set h0 (upd_same hlt) (i := k) (j := 1) (x := (rowN N[k]).set 0 (.int .i64 x.1)) (by rw [List.getElem?_set_self (by simpa using hk)]) (by decide) (.int .i64 x.2.1)
  rw [upd_upd] at h1
  have h2 := Sl.set h1 (upd_same hlt) (i := k) (j := 2) (x := ((rowN N[k]).set 0 (.int .i64 x.1)).set 1 (.int .i64 x.2.1)) (by rw [List.getElem?_set_self (by simpa using hk)]) (by decide) (.int .i64 x.2.2)
  rw [upd_upd] at h2
  have e : (N.set k x).map rowN = ((((N.map rowN).set k ((rowN N[k]).set 0 (.int .i64 x.1))).set k (((rowN N[k]).set 0 (.int .i64 x.1)).set 1 (.int .i64 x.2.1))).set k ((((rowN N[k]).set 0 (.int .i64 x.1)).set 1 (.int .i64 x.2.1)).set 2 (.int .i64 x.2.2))) := by
    rw [List.set_set, List.set_set, List.map_set]; rfl
  unfold SlN; rw [e]; exact h2
theorem SlN.push (h : SlN w a cap N) (hm : N.length ≤ 1000000) (x : Nd) :
    ∃ a' cap' w', apR Try.prog 116 (.slice a N.length cap) (.slice (some ⟨w.heap.size, 0, none⟩) 1 1) (w.alloc (.cells #[.int .i64 x.1, .int .i64 x.2.1, .int .i64 x.2.2] 39)) = .ok (.slice a' (N.length + 1) cap') w' ∧
      SlN w' a' cap' (N ++ [x]) ∧ Chg (fun k => blk a = some k) w w' ∧ w.heap.size < w'.heap.size ∧ (∀ g, blk a' = some g → blk a = some g ∨ (w.heap.size ≤ g ∧ g < w'.heap.size)) := by
  obtain ⟨a2, c2, w2, hr, hS2, hC2, hs2, hB2⟩ := Sl.push (news := [rowN x]) h T116 (TI.mk' (sz := 3) (by_ := 24) (z := Value.agg #[Value.int IntKind.i64 0, Value.int IntKind.i64 0, Value.int IntKind.i64 0]) Try.underlying39 (by kernel_rfl)) rfl (by decide) (b0 := w.heap.size) (m := 1) (c := 1) (us := #[.int .i64 x.1, .int .i64 x.2.1, .int .i64 x.2.2]) rfl rfl rfl (fun r hr => by rw [List.mem_singleton] at hr; subst hr; rfl) rfl (by rw [List.length_map]; simp; omega) (by decide)
  rw [List.length_map, show ((N.map rowN) ++ [rowN x]).length = N.length + 1 by simp] at hr
  exact ⟨a2, c2, w2, hr, by unfold SlN; rw [List.map_append]; exact hS2, hC2, hs2, hB2⟩
end
structure Raw where
  a : Ar
  N : List Nd
  R : List Int
  ord : List Int
  M : Nat → Ky → Option Int
  c : Nat → Int
structure StC (cs : Array Value) (most : Int) (pa : Nat) (na : Option Addr) (nl nc : Nat) (ra : Option Addr) (rl rc : Nat) (pu : Nat → Nat) (oc : Array Value) : Prop where
  size : cs.size = 20
  c0 : cs[0]? = some (.int .i64 most)
  c1 : cs[1]? = some (.pointer (some ⟨pa, 0, none⟩))
  c2 : cs[2]? = some (.slice na nl nc)
  c3 : cs[3]? = some (.slice ra rl rc)
  cu : ∀ v : Nat, v < 8 → cs[4 + v]? = some (.pointer (some ⟨pu v, 0, none⟩))
  co : cs.extract 12 20 = oc
theorem StC.setN {cs : Array Value} {most : Int} {pa : Nat} {na ra : Option Addr} {nl nc rl rc : Nat} {pu : Nat → Nat} {oc : Array Value} (h : StC cs most pa na nl nc ra rl rc pu oc) (na' : Option Addr) (nl' nc' : Nat) :
    StC (cs.setIfInBounds 2 (.slice na' nl' nc')) most pa na' nl' nc' ra rl rc pu oc := by
  have hs := h.size
  refine ⟨by rw [Array.size_setIfInBounds]; exact hs, ?_, ?_, ?_, ?_, fun v hv => ?_, ?_⟩
  · rw [Array.getElem?_setIfInBounds_ne (by omega)]; exact h.c0
  · rw [Array.getElem?_setIfInBounds_ne (by omega)]; exact h.c1
  · rw [Array.getElem?_setIfInBounds_self_of_lt (by omega)]
  · rw [Array.getElem?_setIfInBounds_ne (by omega)]; exact h.c3
  · rw [Array.getElem?_setIfInBounds_ne (by omega)]; exact h.cu v hv
  · rw [← h.co]
    apply Array.ext_getElem?
    intro j
    rw [Array.getElem?_extract, Array.getElem?_extract, Array.size_setIfInBounds, Array.getElem?_setIfInBounds_ne (by omega)]
theorem StC.setR {cs : Array Value} {most : Int} {pa : Nat} {na ra : Option Addr} {nl nc rl rc : Nat} {pu : Nat → Nat} {oc : Array Value} (h : StC cs most pa na nl nc ra rl rc pu oc) (ra' : Option Addr) (rl' rc' : Nat) :
    StC (cs.setIfInBounds 3 (.slice ra' rl' rc')) most pa na nl nc ra' rl' rc' pu oc := by
  have hs := h.size
  refine ⟨by rw [Array.size_setIfInBounds]; exact hs, ?_, ?_, ?_, ?_, fun v hv => ?_, ?_⟩
  · rw [Array.getElem?_setIfInBounds_ne (by omega)]; exact h.c0
  · rw [Array.getElem?_setIfInBounds_ne (by omega)]; exact h.c1
  · rw [Array.getElem?_setIfInBounds_ne (by omega)]; exact h.c2
  · rw [Array.getElem?_setIfInBounds_self_of_lt (by omega)]
  · rw [Array.getElem?_setIfInBounds_ne (by omega)]; exact h.cu v hv
  · rw [← h.co]
    apply Array.ext_getElem?
    intro j
    rw [Array.getElem?_extract, Array.getElem?_extract, Array.size_setIfInBounds, Array.getElem?_setIfInBounds_ne (by omega)]
theorem wrN_size : ∀ (vs : List Value) (c : Array Value) (o : Nat), (wrN c o vs).size = c.size
  | [], _, _ => rfl
  | v :: r, c, o => by rw [wrN_cons, wrN_size r, Array.size_setIfInBounds]
theorem wrN_get : ∀ (vs : List Value) (c : Array Value) (o j : Nat), o + vs.length ≤ c.size → (wrN c o vs)[j]? = if o ≤ j ∧ j < o + vs.length then vs[j - o]? else c[j]?
  | [], c, o, j, _ => by
    rw [wrN_nil]
    split
    · rename_i h; simp at h; omega
    · rfl
  | v :: r, c, o, j, h => by
    rw [List.length_cons] at h
    rw [wrN_cons, wrN_get r _ _ _ (by rw [Array.size_setIfInBounds]; omega), List.length_cons]
    by_cases h1 : j = o
    · subst h1
      rw [if_neg (by omega), if_pos (by omega), Nat.sub_self, Array.getElem?_setIfInBounds_self_of_lt (by omega)]; rfl
    · by_cases h2 : o + 1 ≤ j ∧ j < o + 1 + r.length
      · rw [if_pos h2, if_pos (by omega), show j - o = (j - (o + 1)) + 1 by omega]; rfl
      · rw [if_neg h2, if_neg (by omega), Array.getElem?_setIfInBounds_ne (by omega)]
theorem StC.setO {cs : Array Value} {most : Int} {pa : Nat} {na ra : Option Addr} {nl nc rl rc : Nat} {pu : Nat → Nat} {oc oc' : Array Value} (h : StC cs most pa na nl nc ra rl rc pu oc) (ho : oc'.size = 8) :
    StC (wrN cs 12 oc'.toList) most pa na nl nc ra rl rc pu oc' := by
  have hs := h.size
  have hl : oc'.toList.length = 8 := by rw [Array.length_toList]; exact ho
  have hg := fun j => wrN_get oc'.toList cs 12 j (by omega)
  have lo : ∀ j, j < 12 → (wrN cs 12 oc'.toList)[j]? = cs[j]? := fun j hj => by rw [hg, if_neg (by omega)]
  refine ⟨by rw [wrN_size]; exact hs, by rw [lo 0 (by omega)]; exact h.c0, by rw [lo 1 (by omega)]; exact h.c1, by rw [lo 2 (by omega)]; exact h.c2, by rw [lo 3 (by omega)]; exact h.c3, fun v hv => by rw [lo _ (by omega)]; exact h.cu v hv, ?_⟩
  apply Array.ext_getElem?
  intro j
  rw [Array.getElem?_extract, wrN_size, hs]
  by_cases hj : j < 8
  · rw [if_pos (by omega), hg, if_pos (by omega), show 12 + j - 12 = j by omega, Array.getElem?_toList]
  · rw [if_neg (by omega), Array.getElem?_eq_none (by omega)]
def owns (own : Nat → Nat) (c : Nat) : Nat → Prop := fun k => own k = c
structure StX (own : Nat → Nat) (w : World) (p : Nat) (s : Raw) (pa : Nat) (na : Option Addr) (nc : Nat) (ra : Option Addr) (rc : Nat) (pu : Nat → Nat) (cs oc : Array Value) : Prop where
  at_ : w.heap[p]? = some (.cells cs 120)
  cs : StC cs s.a.most pa na s.N.length nc ra s.R.length rc pu oc
  oc : OrdC s.ord oc
  op : own p = 1
  ar : ArI (owns own 2) w pa s.a
  no : SlN w na nc s.N
  on : ∀ g, blk na = some g → own g = 3
  re : SlC w 3 ra rc (s.R.map (.int .i64))
  or : ∀ g, blk ra = some g → own g = 4
  un : ∀ v, v < 8 → UqM (owns own (10 + v)) w (pu v) (s.M v) (s.c v)
  lt : ∀ k, own k ≠ 0 → k < w.heap.size
def StR (own : Nat → Nat) (w : World) (p : Nat) (s : Raw) : Prop := ∃ pa na nc ra rc pu cs oc, StX own w p s pa na nc ra rc pu cs oc
def ownUp (own : Nat → Nat) (w w' : World) (c : Nat) : Nat → Nat := fun k => if w.heap.size ≤ k ∧ k < w'.heap.size then c else own k
section
variable {own : Nat → Nat} {w w' : World} {p : Nat} {s : Raw} {c d : Nat}
theorem owns_up_self : owns (ownUp own w w' c) c = Grow (owns own c) w w' := funext fun k => propext (by
  unfold owns ownUp Grow
  split
  · rename_i h; simp [h]
  · rename_i h; constructor
    · exact .inl
    · rintro (h' | h')
      · exact h'
      · exact absurd h' h)
theorem owns_up_other (hlt : ∀ k, own k ≠ 0 → k < w.heap.size) (h0 : d ≠ 0) (hd : d ≠ c) : owns (ownUp own w w' c) d = owns own d := funext fun k => propext (by
  unfold owns ownUp
  split
  · rename_i h
    constructor
    · intro e; omega
    · intro e; have := hlt k (by omega); omega
  · exact Iff.rfl)
theorem ownUp_old {k : Nat} (hk : k < w.heap.size) : ownUp own w w' c k = own k := if_neg (by omega)
theorem ownUp_ne0 {k : Nat} (hc : c ≠ 0) : ownUp own w w' c k ≠ 0 ↔ Grow (fun k => own k ≠ 0) w w' k := by
  unfold ownUp Grow
  split
  · rename_i h; simp [h, hc]
  · rename_i h; constructor
    · exact .inl
    · rintro (h' | h')
      · exact h'
      · exact absurd h' h
theorem ownUp_lt (hlt : ∀ k, own k ≠ 0 → k < w.heap.size) (hs : w.heap.size ≤ w'.heap.size) (hc : c ≠ 0) : ∀ k, ownUp own w w' c k ≠ 0 → k < w'.heap.size := fun k hk => by
  rcases (ownUp_ne0 hc).1 hk with h | h
  · exact Nat.lt_of_lt_of_le (hlt k h) hs
  · exact h.2
theorem StX.turn {pa : Nat} {na : Option Addr} {nc : Nat} {ra : Option Addr} {rc : Nat} {pu : Nat → Nat} {cs oc : Array Value} (h : StX own w p s pa na nc ra rc pu cs oc) (hC : Chg (owns own c) w w') (hc : c ≠ 0) :
    (c ≠ 1 → w'.heap[p]? = some (.cells cs 120)) ∧ ownUp own w w' c p = 1 ∧ (c ≠ 2 → ArI (owns (ownUp own w w' c) 2) w' pa s.a) ∧ (c ≠ 3 → SlN w' na nc s.N) ∧ (∀ g, blk na = some g → ownUp own w w' c g = 3) ∧
    (c ≠ 4 → SlC w' 3 ra rc (s.R.map (.int .i64))) ∧ (∀ g, blk ra = some g → ownUp own w w' c g = 4) ∧ (∀ v, v < 8 → c ≠ 10 + v → UqM (owns (ownUp own w w' c) (10 + v)) w' (pu v) (s.M v) (s.c v)) ∧ (∀ k, ownUp own w w' c k ≠ 0 → k < w'.heap.size) := by
  have kp : ∀ d, d ≠ c → ∀ k, owns own d k → k < w.heap.size → w'.heap[k]? = w.heap[k]? := fun d hd k hk hl => hC.heap k hl fun hf => hd (hk.symm.trans hf)
  refine ⟨fun h1 => ?_, ?_, fun h2 => ?_, fun h3 => ?_, fun g hg => ?_, fun h4 => ?_, fun g hg => ?_, fun v hv h5 => ?_, ownUp_lt h.lt hC.size hc⟩
  · rw [kp 1 (Ne.symm h1) p h.op (lt_of_heap h.at_)]; exact h.at_
  · rw [ownUp_old (lt_of_heap h.at_)]; exact h.op
  · rw [owns_up_other h.lt (by decide) (Ne.symm h2)]
    exact h.ar.keep (fun k hk => kp 2 (Ne.symm h2) k hk (h.ar.lt k hk)) hC.size
  · exact Sl.keep h.no fun g hg => kp 3 (Ne.symm h3) g (h.on g hg) (Sl.lt h.no hg)
  · rw [ownUp_old (Sl.lt h.no hg)]; exact h.on g hg
  · exact h.re.keep fun g hg => kp 4 (Ne.symm h4) g (h.or g hg) (h.re.lt hg)
  · rw [ownUp_old (h.re.lt hg)]; exact h.or g hg
  · rw [owns_up_other h.lt (by omega) (Ne.symm h5)]
    have hu := h.un v hv
    exact hu.keep (fun k hk => kp (10 + v) (Ne.symm h5) k hk (hu.lt k hk)) hC.size
theorem StR.lt (h : StR own w p s) : ∀ k, own k ≠ 0 → k < w.heap.size := by obtain ⟨_, _, _, _, _, _, _, _, h⟩ := h; exact h.lt
theorem StR.op (h : StR own w p s) : own p = 1 := by obtain ⟨_, _, _, _, _, _, _, _, h⟩ := h; exact h.op
theorem StX.ext {pa : Nat} {na : Option Addr} {nc : Nat} {ra : Option Addr} {rc : Nat} {pu : Nat → Nat} {cs oc : Array Value} (h : StX own w p s pa na nc ra rc pu cs oc) (hE : Ext w w') : StX own w' p s pa na nc ra rc pu cs oc :=
  ⟨hE.at h.at_, h.cs, h.oc, h.op, h.ar.ext hE, h.no.ext hE, h.on, h.re.ext hE, h.or, fun v hv => (h.un v hv).ext hE, fun k hk => Nat.lt_of_lt_of_le (h.lt k hk) hE.size⟩
theorem StR.ext (h : StR own w p s) (hE : Ext w w') : StR own w' p s := by
  obtain ⟨pa, na, nc, ra, rc, pu, cs, oc, h⟩ := h
  exact ⟨pa, na, nc, ra, rc, pu, cs, oc, h.ext hE⟩
def foot (own : Nat → Nat) : Nat → Prop := fun k => own k ≠ 0
theorem Chg.foot (h : Chg (owns own c) w w') (hc : c ≠ 0) : Chg (foot own) w w' := h.mono fun k _ hk => by unfold owns at hk; unfold Go.Proofs.Ytpeindhocndmnaa.foot; omega
end
end Go.Proofs.Ytpeindhocndmnaa

namespace Go.Proofs.Ytpeindhocndmnaa
open Go Go.Bx
set_option linter.unusedSimpArgs false
set_option linter.unusedVariables false
set_option maxRecDepth 100000
set_option maxHeartbeats 4000000
attribute [local irreducible] X XO XE XF XD XW thenX inX retX kN CallsR
def Raw.md (s : Raw) : Md := ⟨s.a, s.N, s.ord⟩
theorem OrdC.len {ord : List Int} {cs : Array Value} (h : OrdC ord cs) : ord.length = 8 := by
  have := h.len8
  rw [h.vc, List.length_map] at this; exact this
theorem level_oc {ord : List Int} {oc : Array Value} (h : OrdC ord oc) (v : Int) : Sure Try.prog 122 #[.agg oc, .int .i64 v] (.int .i64 (lvl ord v)) := by
  have := level_calls ord h.len v
  rw [h.agg] at this; exact this
section
variable {own : Nat → Nat} {w w' : World} {p : Nat} {s : Raw} {n v : Int}
theorem stHas_calls (h : StR own w p s) (n : Int) (hn : n ≤ 9223372036854775807) : Quiet Try.prog 93 #[.pointer (some ⟨p, 0, none⟩), .int .i64 n] w (.bool (s.md.has n)) := by
  intro u hu
  have h := h.ext hu
  clear hu
  obtain ⟨pa, na, nc, ra, rc, pu, sc, oc, h⟩ := h
  have hp := h.at_
  have c1 := h.cs.c1
  have hsz := h.cs.size
  have c2 := arHas_calls h.ar (n - 2)
  have hm : (decide (2 ≤ n) && s.a.has (n - 2)) = s.md.has n := rfl
  by_cases h2 : 2 ≤ n
  · have hm : s.a.has (n - 2) = s.md.has n := by rw [← hm]; simp [h2]
    rw [hm] at c2
    clear h hm
    refine en2 Try.func93 Try.results93 mixed [] ?_
    intro e0 h0 h1
    refine w_ fun d => ?_
    refine callQ c2.call fun w1 hE1 hs1 => ?_
    refine w_ fun d => ?_
    exact ⟨rfl, ext_⟩
  · have hm : s.md.has n = false := by rw [← hm]; simp [h2]
    rw [hm]
    clear h hm
    refine en2 Try.func93 Try.results93 mixed [] ?_
    intro e0 h0 h1
    refine w_ fun d => ?_
    exact ⟨rfl, ext_⟩
theorem Raw.nd (hn : s.md.has n = true) (hl : s.N.length = s.a.T.length) : ∃ v lo hi, s.md.nd n = (v, lo, hi) ∧ s.N[(n - 2).toNat]? = some (v, lo, hi) ∧ 2 ≤ n ∧ n - 2 < s.N.length := by
  have h1 := Md.has_ge hn
  have h2 : s.a.has (n - 2) = true := Md.has_ar hn
  have h3 := Ar.has_lt h2
  obtain ⟨x, hx⟩ : ∃ x, s.md.nd n = x := ⟨_, rfl⟩
  obtain ⟨v, lo, hi⟩ := x
  rw [hx]
  refine ⟨v, lo, hi, rfl, ?_, h1, by omega⟩
  rw [← hx]
  unfold Md.nd
  rw [List.getElem?_eq_getElem (show (n - 2).toNat < s.N.length by omega), List.getD]
  show _ = some ((s.N[(n - 2).toNat]?).getD _)
  rw [List.getElem?_eq_getElem (show (n - 2).toNat < s.N.length by omega)]; rfl
theorem stLevel_calls (h : StR own w p s) {lo hi : Int} (hx : s.N[(n - 2).toNat]? = some (v, lo, hi)) (h2 : 2 ≤ n) (hn : n ≤ 9223372036854775807) : Quiet Try.prog 154 #[.pointer (some ⟨p, 0, none⟩), .int .i64 n] w (.int .i64 (lvl s.ord v)) := by
  intro u hu
  have h := h.ext hu
  clear hu
  obtain ⟨pa, na, nc, ra, rc, pu, sc, oc, h⟩ := h
  obtain ⟨g, cur, rfl, hg, hc, hlt, x0, x1, x2, hsz3, hex⟩ := h.no.at hx
  have hp := h.at_
  have c2 := h.cs.c2
  have co := h.cs.co
  have hsz := h.cs.size
  have hl := level_oc h.oc v
  have hpl := lt_of_heap hp
  have hgl := lt_of_heap hg
  have h2' : 0 ≤ n - 2 := by omega
  have h3' : n - 2 < s.N.length := by omega
  clear h hx
  refine en2 Try.func154 Try.results154 mixed [] ?_
  intro e0 h0 h1
  refine w_ fun d => ?_
  intro w1 hE1 hs1
  refine w_ fun d => ?_
  exact ⟨rfl, ext_⟩
theorem stBelow_calls (h : StR own w p s) (hl : s.N.length = s.a.T.length) (n v : Int) (hn : n ≤ 9223372036854775807) : Quiet Try.prog 129 #[.pointer (some ⟨p, 0, none⟩), .int .i64 n, .int .i64 v] w (.bool (s.md.below n v)) := by
  intro u hu
  have h := h.ext hu
  clear hu
  have c1 := stHas_calls h n hn
  have hbd : s.md.below n v = (decide (n = 0) || (decide (n = 1) || (s.md.has n && decide (lvl s.ord v < lvl s.ord (s.md.nd n).1)))) := rfl
  by_cases e0 : n = 0
  · subst e0
    have : s.md.below 0 v = true := by rw [hbd]; simp
    rw [this]
    clear h c1 hbd
    refine en3 Try.func129 Try.results129 mixed [] ?_
    intro e0 h0 h1 h2
    refine w_ fun d => ?_
    exact ⟨rfl, ext_⟩
  by_cases e1 : n = 1
  · subst e1
    have : s.md.below 1 v = true := by rw [hbd]; simp
    rw [this]
    clear h c1 hbd
    refine en3 Try.func129 Try.results129 mixed [] ?_
    intro e0 h0 h1 h2
    refine w_ fun d => ?_
    exact ⟨rfl, ext_⟩
  have b0 : (n == 0) = false := by simpa using e0
  have b1 : (n == 1) = false := by simpa using e1
  cases hh : s.md.has n
  · have : s.md.below n v = false := by rw [hbd, hh]; simp [e0, e1]
    rw [this]
    rw [hh] at c1
    clear h hbd e0 e1
    refine en3 Try.func129 Try.results129 mixed [] ?_
    intro e0 h0 h1 h2
    refine w_ fun d => ?_
    intro w1 hE1 hs1
    refine w_ fun d => ?_
    exact ⟨rfl, ext_⟩
  · obtain ⟨x, lo, hi, hnd, hx, h2', _⟩ := Raw.nd hh hl
    have : s.md.below n v = decide (lvl s.ord v < lvl s.ord x) := by rw [hbd, hh, hnd]; simp [e0, e1]
    rw [this]
    rw [hh] at c1
    have c2 := stLevel_calls h hx h2' hn
    obtain ⟨pa, na, nc, ra, rc, pu, sc, oc, h⟩ := h
    have hp := h.at_
    have co := h.cs.co
    have hsz := h.cs.size
    have hpl := lt_of_heap hp
    have c3 := level_oc h.oc v
    clear h hbd e0 e1 hx hh hnd this
    refine en3 Try.func129 Try.results129 mixed [] ?_
    intro e0 h0 h1 h2
    refine w_ fun d => ?_
    intro w1 hE1 hs1
    refine w_ fun d => ?_
    exact ⟨rfl, ext_⟩
end
end Go.Proofs.Ytpeindhocndmnaa

namespace Go.Proofs.Ytpeindhocndmnaa
open Go Go.Bx
set_option linter.unusedSimpArgs false
set_option linter.unusedVariables false
set_option maxRecDepth 100000
set_option maxHeartbeats 4000000
attribute [local irreducible] X XO XE XF XD XW thenX inX retX kN CallsR
section
variable {own own1 own2 : Nat → Nat} {w w' w1 w2 : World} {p : Nat} {s s' s1 s2 : Raw} {c : Nat}
theorem ownUp_same (h : w'.heap.size = w.heap.size) : ownUp own w w' c = own := funext fun k => if_neg (by omega)
def TrO (own : Nat → Nat) (w : World) (p : Nat) (s' : Raw) (w' : World) : Prop := ∃ own', StR own' w' p s' ∧ (∀ k, k < w.heap.size → own' k = own k) ∧ Chg (foot own) w w'
theorem StX.setNode {pa : Nat} {nc : Nat} {ra : Option Addr} {rc g : Nat} {pu : Nat → Nat} {sc oc cur : Array Value} (h : StX own w p s pa (some ⟨g, 0, none⟩) nc ra rc pu sc oc) (hg : w.heap[g]? = some (.cells cur 39 (0, 0))) {k : Nat} (hk : k < s.N.length) (x : Nd) :
    StX own (upd w g (.cells (((cur.setIfInBounds (k * 3) (.int .i64 x.1)).setIfInBounds (k * 3 + 1) (.int .i64 x.2.1)).setIfInBounds (k * 3 + 2) (.int .i64 x.2.2)) 39 (0, 0))) p { s with N := s.N.set k x } pa (some ⟨g, 0, none⟩) nc ra rc pu sc oc ∧
    Chg (owns own 3) w (upd w g (.cells (((cur.setIfInBounds (k * 3) (.int .i64 x.1)).setIfInBounds (k * 3 + 1) (.int .i64 x.2.1)).setIfInBounds (k * 3 + 2) (.int .i64 x.2.2)) 39 (0, 0))) := by
  have hC := (Chg.refl (owns own 3) w).upd (b := g) (fun _ => h.on g rfl) (.cells (((cur.setIfInBounds (k * 3) (.int .i64 x.1)).setIfInBounds (k * 3 + 1) (.int .i64 x.2.1)).setIfInBounds (k * 3 + 2) (.int .i64 x.2.2)) 39 (0, 0))
  have hn := h.no.set hg hk x
  refine ⟨?_, hC⟩
  obtain ⟨h1, h2, h3, h4, h5, h6, h7, h8, h9⟩ := h.turn hC (by decide)
  rw [ownUp_same (by simp only [upd_size])] at h2 h3 h5 h7 h8 h9
  exact ⟨h1 (by decide), by rw [List.length_set]; exact h.cs, h.oc, h2, h3 (by decide), hn, h5, h6 (by decide), h7, fun v hv => h8 v hv (by omega), h9⟩
theorem StX.setRef {pa : Nat} {na : Option Addr} {nc : Nat} {rc g : Nat} {pu : Nat → Nat} {sc oc cur : Array Value} (h : StX own w p s pa na nc (some ⟨g, 0, none⟩) rc pu sc oc) (hg : w.heap[g]? = some (.cells cur 3 (0, 0))) {k : Nat} (hk : k < s.R.length) (x : Int) :
    StX own (upd w g (.cells (cur.setIfInBounds k (.int .i64 x)) 3 (0, 0))) p { s with R := s.R.set k x } pa na nc (some ⟨g, 0, none⟩) rc pu sc oc ∧ Chg (owns own 4) w (upd w g (.cells (cur.setIfInBounds k (.int .i64 x)) 3 (0, 0))) := by
  have hC := (Chg.refl (owns own 4) w).upd (b := g) (fun _ => h.or g rfl) (.cells (cur.setIfInBounds k (.int .i64 x)) 3 (0, 0))
  have hn := h.re.set hg (i := k) (by rw [List.length_map]; exact hk) (.int .i64 x)
  rw [← List.map_set] at hn
  refine ⟨?_, hC⟩
  obtain ⟨h1, h2, h3, h4, h5, h6, h7, h8, h9⟩ := h.turn hC (by decide)
  rw [ownUp_same (by simp only [upd_size])] at h2 h3 h5 h7 h8 h9
  exact ⟨h1 (by decide), by rw [List.length_set]; exact h.cs, h.oc, h2, h3 (by decide), h4 (by decide), h5, hn, h7, fun v hv => h8 v hv (by omega), h9⟩
def Raw.setU (s : Raw) (v : Nat) (M : Ky → Option Int) (c : Int) : Raw := { s with M := fun u => if u = v then M else s.M u, c := fun u => if u = v then c else s.c u }
theorem StX.setUniq {pa : Nat} {na : Option Addr} {nc : Nat} {ra : Option Addr} {rc : Nat} {pu : Nat → Nat} {sc oc : Array Value} (h : StX own w p s pa na nc ra rc pu sc oc) {v : Nat} (hv : v < 8) {M : Ky → Option Int} {c : Int}
    (hU : UqM (Grow (owns own (10 + v)) w w') w' (pu v) M c) (hC : Chg (owns own (10 + v)) w w') : StX (ownUp own w w' (10 + v)) w' p (s.setU v M c) pa na nc ra rc pu sc oc := by
  obtain ⟨h1, h2, h3, h4, h5, h6, h7, h8, h9⟩ := h.turn hC (by omega)
  refine ⟨h1 (by omega), h.cs, h.oc, h2, h3 (by omega), h4 (by omega), h5, h6 (by omega), h7, fun u hu => ?_, h9⟩
  show UqM _ _ _ (if u = v then M else s.M u) (if u = v then c else s.c u)
  by_cases e : u = v
  · subst e
    rw [if_pos rfl, if_pos rfl, owns_up_self]; exact hU
  · rw [if_neg e, if_neg e]; exact h8 u hu (by omega)
theorem StX.setAr {pa : Nat} {na : Option Addr} {nc : Nat} {ra : Option Addr} {rc : Nat} {pu : Nat → Nat} {sc oc : Array Value} (h : StX own w p s pa na nc ra rc pu sc oc) {a : Ar} (hm : a.most = s.a.most)
    (hA : ArI (Grow (owns own 2) w w') w' pa a) (hC : Chg (owns own 2) w w') : StX (ownUp own w w' 2) w' p { s with a := a } pa na nc ra rc pu sc oc := by
  obtain ⟨h1, h2, h3, h4, h5, h6, h7, h8, h9⟩ := h.turn hC (by omega)
  exact ⟨h1 (by decide), by show StC sc a.most _ _ _ _ _ _ _ _ _; rw [hm]; exact h.cs, h.oc, h2, by rw [owns_up_self]; exact hA, h4 (by decide), h5, h6 (by decide), h7, fun u hu => h8 u hu (by omega), h9⟩
def bump (R : List Int) (n t : Int) : List Int := if 2 ≤ n then R.set (n - 2).toNat (R.getD (n - 2).toNat 0 + t) else R
theorem bump_len {R : List Int} {n t : Int} : (bump R n t).length = R.length := by unfold bump; split <;> simp
def Small (R : List Int) : Prop := ∀ k : Nat, -100000 ≤ R.getD k 0 ∧ R.getD k 0 ≤ 100000
theorem stPoint_calls (h : StR own w p s) (n t : Int) (hn : n ≤ 1000000) (hl : 2 ≤ n → n - 2 < s.R.length) (hr : 2 ≤ n → -1000000 ≤ s.R.getD (n - 2).toNat 0 ∧ s.R.getD (n - 2).toNat 0 ≤ 1000000) (ht : -1000 ≤ t ∧ t ≤ 1000) :
    CallsR Try.prog 137 #[.pointer (some ⟨p, 0, none⟩), .int .i64 n, .int .i64 t] w fun r w' => StR own w' p { s with R := bump s.R n t } ∧ Chg (owns own 4) w w' ∧ w'.heap.size = w.heap.size := by
  obtain ⟨pa, na, nc, ra, rc, pu, sc, oc, h⟩ := h
  by_cases h2 : 2 ≤ n
  · have hl := hl h2
    have hr := hr h2
    obtain ⟨r, hR⟩ : ∃ r, s.R[(n - 2).toNat]? = some r := ⟨s.R[(n - 2).toNat]'(by omega), List.getElem?_eq_getElem (by omega)⟩
    have hrd : s.R.getD (n - 2).toNat 0 = r := by rw [List.getD, hR]; rfl
    rw [hrd] at hr
    have hb : bump s.R n t = s.R.set (n - 2).toNat (r + t) := by unfold bump; rw [if_pos h2, hrd]
    obtain ⟨g, cur, rfl, hg, hc, hlt, hat⟩ := h.re.at (i := (n - 2).toNat) (v := .int .i64 r) (by rw [List.getElem?_map, hR]; rfl)
    have hp := h.at_
    have c3 := h.cs.c3
    have hsz := h.cs.size
    have hpl := lt_of_heap hp
    have hgl := lt_of_heap hg
    have hk : (n - 2).toNat < s.R.length := by omega
    obtain ⟨hX, hC⟩ := h.setRef hg hk (r + t)
    have hsz3 := (Array.getElem?_eq_some_iff.1 hat).1
    have n0 : 0 ≤ n - 2 := by omega
    rw [hb]
    clear h hR hrd hb
    refine en3 Try.func137 Try.results137 mixed [] ?_
    intro e0 h0 h1 h2
    refine w_ fun d => ?_
    exact ⟨⟨pa, na, nc, _, rc, pu, sc, oc, hX⟩, hC, by simp only [upd_size]⟩
  · have hb : bump s.R n t = s.R := by unfold bump; rw [if_neg h2]
    rw [hb]
    refine en3 Try.func137 Try.results137 mixed [] ?_
    intro e0 h0 h1 h2
    refine w_ fun d => ?_
    exact ⟨⟨pa, na, nc, ra, rc, pu, sc, oc, h⟩, Chg.refl _ _, rfl⟩
end
end Go.Proofs.Ytpeindhocndmnaa

namespace Go.Proofs.Ytpeindhocndmnaa
open Go Go.Bx
set_option linter.unusedSimpArgs false
set_option linter.unusedVariables false
set_option maxRecDepth 100000
set_option maxHeartbeats 4000000
attribute [local irreducible] X XO XE XF XD XW thenX inX retX kN CallsR
section
variable {own own1 own2 : Nat → Nat} {w w' w1 w2 : World} {p : Nat} {s s' s1 s2 : Raw} {c : Nat}
theorem bump_get {R : List Int} {n t : Int} (k : Nat) : (bump R n t).getD k 0 = R.getD k 0 + (if 2 ≤ n ∧ k = (n - 2).toNat ∧ k < R.length then t else 0) := by
  unfold bump
  by_cases h2 : 2 ≤ n
  · rw [if_pos h2]
    by_cases e : k = (n - 2).toNat
    · by_cases hk : k < R.length
      · rw [if_pos ⟨h2, e, hk⟩, ← e, List.getD, List.getElem?_set_self (by omega)]; rfl
      · have e1 : (R.set (n - 2).toNat (R.getD (n - 2).toNat 0 + t))[k]? = none := List.getElem?_eq_none (by rw [List.length_set]; omega)
        have e2 : R[k]? = none := List.getElem?_eq_none (by omega)
        rw [if_neg (fun h => hk h.2.2)]; unfold List.getD at e1 ⊢; rw [e1, e2]; rfl
    · have e1 : (R.set (n - 2).toNat (R.getD (n - 2).toNat 0 + t))[k]? = R[k]? := List.getElem?_set_ne (fun h => e h.symm)
      rw [if_neg (fun h => e h.2.1)]; unfold List.getD at e1 ⊢; rw [e1, Int.add_zero]
  · rw [if_neg h2, if_neg (fun h => h2 h.1)]; omega
theorem bump_small {R : List Int} {n t : Int} (h : Small R) (ht : -1000 ≤ t ∧ t ≤ 1000) (k : Nat) : -1000000 ≤ (bump R n t).getD k 0 ∧ (bump R n t).getD k 0 ≤ 1000000 := by
  have := h k
  rw [bump_get]
  split <;> omega
def Raw.lay (s : Raw) (n : Int) (x : Nd) : Raw :=
  { ({ s with N := s.N.set (n - 2).toNat x } : Raw).setU x.1.toNat (fun k => if k = (x.2.1, x.2.2) then some n else s.M x.1.toNat k) (s.c x.1.toNat + 1) with R := bump (bump s.R x.2.1 1) x.2.2 1 }
def Raw.lift (s : Raw) (x : Nd) : Raw :=
  { s.setU x.1.toNat (fun k => if k = (x.2.1, x.2.2) then none else s.M x.1.toNat k) (s.c x.1.toNat - 1) with R := bump (bump s.R x.2.1 (-1)) x.2.2 (-1) }
theorem StR.keepJ (h : StR own w p s) {b : Nat} (hb : own b = 0) (o : Obj) : StR own (upd w b o) p s := by
  obtain ⟨pa, na, nc, ra, rc, pu, sc, oc, h⟩ := h
  have hne : ∀ k, own k ≠ 0 → (upd w b o).heap[k]? = w.heap[k]? := fun k hk => upd_other fun e => hk (by rw [← e]; exact hb)
  have h1 := h.op
  refine ⟨pa, na, nc, ra, rc, pu, sc, oc, by rw [hne p (by omega)]; exact h.at_, h.cs, h.oc, h.op, h.ar.keep (fun k hk => hne k (by unfold owns at hk; omega)) (by rw [upd_size]; exact Nat.le_refl _), Sl.keep h.no fun g hg => hne g (by have := h.on g hg; omega), h.on, h.re.keep fun g hg => hne g (by have := h.or g hg; omega), h.or, fun v hv => (h.un v hv).keep (fun k hk => hne k (by unfold owns at hk; omega)) (by rw [upd_size]; exact Nat.le_refl _), fun k hk => by rw [upd_size]; exact h.lt k hk⟩
theorem stLay_calls (h : StR own w p s) {n v lo hi : Int} (h2 : 2 ≤ n) (hn : n - 2 < s.N.length) (hN : s.N.length ≤ 20000) (hv : 0 ≤ v ∧ v < 8) (hf : s.M v.toNat (lo, hi) = none) (hc : s.c v.toNat ≤ 19999) (hR : s.R.length = s.N.length) (hlo : lo - 2 < s.N.length) (hhi : hi - 2 < s.N.length) (hb : Small s.R) :
    CallsR Try.prog 98 #[.pointer (some ⟨p, 0, none⟩), .int .i64 n, .agg #[.int .i64 v, .int .i64 lo, .int .i64 hi]] w fun r w' => TrO own w p (s.lay n (v, lo, hi)) w' := by
  obtain ⟨k, hk⟩ : ∃ k : Nat, (n - 2).toNat = k := ⟨_, rfl⟩
  have hkl : k < s.N.length := by omega
  obtain ⟨y, hy⟩ : ∃ y, s.N[k]? = some y := ⟨s.N[k], List.getElem?_eq_getElem hkl⟩
  obtain ⟨pa, na, nc, ra, rc, pu, sc, oc, h⟩ := h
  obtain ⟨yv, yl, yh⟩ := y
  obtain ⟨g, cur, rfl, hg, hnc, _, _, _, _, hsz3, _⟩ := h.no.at hy
  have hp := h.at_
  have c2 := h.cs.c2
  have hsz := h.cs.size
  have hpl := lt_of_heap hp
  have hgl := lt_of_heap hg
  have hgp : g ≠ p := h.no.ne rfl hp (by decide)
  have hpg := hgp.symm
  obtain ⟨vn, rfl⟩ := Int.eq_ofNat_of_zero_le hv.1
  have hvn : vn < 8 := by omega
  rw [Int.toNat_natCast] at hf hc
  have n0 : 0 ≤ n - 2 := by omega
  clear hy
  refine en3 Try.func98 Try.results98 mixed [(2, [12])] ?_
  intro e0 h0 h1 h2
  refine w_ fun d => ?_
  refine at_w fun u hu => ?_
  obtain ⟨hX0, hC0⟩ := h.setNode hg hkl ((vn : Int), lo, hi)
  have hX1 : StX own u p { s with N := s.N.set k ((vn : Int), lo, hi) } pa (some ⟨g, 0, none⟩) nc ra rc pu sc oc := by rw [hu]; exact hX0.ext ext_
  have hC1 : Chg (foot own) w u := by
    have := Chg.foot hC0 (by decide)
    rw [hu]; exact chg_
  have hus : u.heap.size = w.heap.size + 1 := by rw [hu]; simp only [dr_heap, alloc_size, upd_size]
  have hbx : u.heap[w.heap.size]? = some (.cells #[.int .i64 vn, .int .i64 lo, .int .i64 hi] 39) := by rw [hu]; exact hA rfl
  have hob : own w.heap.size = 0 := by
    cases ho : own w.heap.size with
    | zero => rfl
    | succ m => have := h.lt w.heap.size (by omega); omega
  have hpu := hX1.at_
  have cu := hX1.cs.cu vn hvn
  have hplu := lt_of_heap hpu
  have hblu := lt_of_heap hbx
  clear hu hX0 hC0 h hp hg c2 hpl hgl
  refine s_draw (XD_ext ?_)
  refine de_ ?_
  refine xe2w fun u2 hE2 => ?_
  refine krA ?_
  refine ke ?_
  have hX2 := hX1.ext hE2
  have hM : ({ s with N := s.N.set k ((vn : Int), lo, hi) } : Raw).M vn = s.M vn := rfl
  refine (uqPut_calls (hX2.un vn hvn) hc n hf).mono ?_
  rintro _ u3 ⟨rfl, hU3, hC3⟩
  refine xn_ fun u4 hE4 hs4 => ?_
  obtain ⟨own3, ho3⟩ : ∃ o, ownUp own u2 u3 (10 + vn) = o := ⟨_, rfl⟩
  have hX3 := (hX2.setUniq hvn hU3 hC3).ext hE4
  rw [ho3] at hX3
  have hs2 := hE2.size
  have hs3 := hC3.size
  have ho : ∀ k, k < u2.heap.size → own3 k = own k := fun k hk => by rw [← ho3]; exact ownUp_old hk
  have hob3 : own3 w.heap.size = 0 := by rw [ho _ (by omega)]; exact hob
  have hbx4 : u4.heap[w.heap.size]? = some (.cells #[.int .i64 vn, .int .i64 lo, .int .i64 hi] 39) := by
    rw [hE4.heap _ (by omega), hC3.heap _ (by omega) (by unfold owns; omega)]; exact hE2.at hbx
  have hC4 : Chg (foot own) w u4 := by
    have h1 := Chg.foot hC3 (by omega)
    exact (hC1.transE hE2).trans h1 (fun _ _ h => h) |>.transE hE4
  have hblu4 := lt_of_heap hbx4
  have hR3 : StR own3 u4 p _ := ⟨_, _, _, _, _, _, _, _, hX3⟩
  clear hX3 hX2 hX1 hU3 hE2 hE4 hpu cu hplu hblu hs4 hM hbx
  refine w_ fun d => ?_
  refine (stPoint_calls hR3 lo 1 (by omega) (fun _ => by show lo - 2 < (s.R.length : Int); omega) (fun _ => by have := hb (lo - 2).toNat; show _ ∧ _; constructor <;> (show _ ≤ _; simp only [Raw.setU]; omega)) (by omega)).mono ?_
  rintro _ u5 ⟨hR5, hC5, hs5⟩
  have hbx5 : u5.heap[w.heap.size]? = some (.cells #[.int .i64 vn, .int .i64 lo, .int .i64 hi] 39) := by
    rw [hC5.heap _ (by omega) (by unfold owns; omega)]; exact hbx4
  have hblu5 := lt_of_heap hbx5
  refine w_ fun d => ?_
  refine (stPoint_calls hR5 hi 1 (by omega) (fun _ => by show hi - 2 < ((bump s.R lo 1).length : Int); rw [bump_len]; omega) (fun _ => bump_small hb (by omega) _) (by omega)).mono ?_
  rintro _ u6 ⟨hR6, hC6, hs6⟩
  refine w_ fun d => ?_
  refine ⟨own3, ?_, fun k hk => ho k (by omega), ?_⟩
  · unfold Raw.lay
    rw [hk]
    exact hR6
  · have h5 := Chg.foot hC5 (by decide)
    have h6 := Chg.foot hC6 (by decide)
    exact (hC4.trans h5 fun b hb' hf => by unfold foot at hf ⊢; rw [← ho b (by omega)]; exact hf).trans h6 fun b hb' hf => by unfold foot at hf ⊢; rw [← ho b (by omega)]; exact hf
theorem stLift_calls (h : StR own w p s) {n v lo hi m : Int} (h2 : 2 ≤ n) (hn : n ≤ 1000000) (hx : s.N[(n - 2).toNat]? = some (v, lo, hi)) (hN : s.N.length ≤ 20000) (hv : 0 ≤ v ∧ v < 8) (hf : s.M v.toNat (lo, hi) = some m) (hR : s.R.length = s.N.length) (hlo : lo - 2 < s.N.length) (hhi : hi - 2 < s.N.length) (hb : Small s.R) :
    CallsR Try.prog 95 #[.pointer (some ⟨p, 0, none⟩), .int .i64 n] w fun r w' => r = .agg #[.int .i64 v, .int .i64 lo, .int .i64 hi] ∧ TrO own w p (s.lift (v, lo, hi)) w' := by
  obtain ⟨pa, na, nc, ra, rc, pu, sc, oc, h⟩ := h
  obtain ⟨g, cur, rfl, hg, hnc, hkl, x0, x1, x2, hsz3, hex⟩ := h.no.at hx
  have hp := h.at_
  have c2 := h.cs.c2
  have hsz := h.cs.size
  have hpl := lt_of_heap hp
  have hgl := lt_of_heap hg
  have hgp : g ≠ p := h.no.ne rfl hp (by decide)
  have hpg := hgp.symm
  obtain ⟨vn, rfl⟩ := Int.eq_ofNat_of_zero_le hv.1
  have hvn : vn < 8 := by omega
  rw [Int.toNat_natCast] at hf
  have n0 : 0 ≤ n - 2 := by omega
  have n1 : n - 2 < s.N.length := by omega
  clear hx
  refine en2 Try.func95 Try.results95 mixed [(2, [11])] ?_
  intro e0 h0 h1
  refine w_ fun d => ?_
  refine at_w fun u hu => ?_
  have hX1 : StX own u p s pa (some ⟨g, 0, none⟩) nc ra rc pu sc oc := by rw [hu]; exact h.ext ext_
  have hC1 : Chg (foot own) w u := by rw [hu]; exact chg_
  have hus : u.heap.size = w.heap.size + 2 := by rw [hu]; simp only [dr_heap, alloc_size, upd_size]
  have hbx : u.heap[w.heap.size + 1]? = some (.cells #[.int .i64 vn, .int .i64 lo, .int .i64 hi] 39) := by rw [hu]; exact hA rfl
  have hby : u.heap[w.heap.size]? = some (.cells #[.int .i64 0, .int .i64 0, .int .i64 0] 39) := by rw [hu]; exact hA rfl
  have hob : ∀ k, w.heap.size ≤ k → own k = 0 := fun k hk => by
    cases ho : own k with
    | zero => rfl
    | succ m => have := h.lt k (by omega); omega
  have hpu := hX1.at_
  have cu := hX1.cs.cu vn hvn
  have hplu := lt_of_heap hpu
  have hblu := lt_of_heap hbx
  clear hu h hp hg c2 hpl hgl
  refine s_draw (XD_ext ?_)
  refine de_ ?_
  refine xe2w fun u2 hE2 => ?_
  refine krA ?_
  refine ke ?_
  have hX2 := hX1.ext hE2
  refine (uqDrop_calls (hX2.un vn hvn) hf).mono ?_
  rintro _ u3 ⟨rfl, hU3, hC3⟩
  refine xn_ fun u4 hE4 hs4 => ?_
  obtain ⟨own3, ho3⟩ : ∃ o, ownUp own u2 u3 (10 + vn) = o := ⟨_, rfl⟩
  have hX3 := (hX2.setUniq hvn hU3 hC3).ext hE4
  rw [ho3] at hX3
  have hs2 := hE2.size
  have hs3 := hC3.size
  have ho : ∀ k, k < u2.heap.size → own3 k = own k := fun k hk => by rw [← ho3]; exact ownUp_old hk
  have o0 := hob w.heap.size (by omega)
  have o1 := hob (w.heap.size + 1) (by omega)
  have p0 := ho w.heap.size (by omega)
  have p1 := ho (w.heap.size + 1) (by omega)
  have hbx4 : u4.heap[w.heap.size + 1]? = some (.cells #[.int .i64 vn, .int .i64 lo, .int .i64 hi] 39) := by
    rw [hE4.heap _ (by omega), hC3.heap _ (by omega) (by unfold owns; omega)]; exact hE2.at hbx
  have hby4 : u4.heap[w.heap.size]? = some (.cells #[.int .i64 0, .int .i64 0, .int .i64 0] 39) := by
    rw [hE4.heap _ (by omega), hC3.heap _ (by omega) (by unfold owns; omega)]; exact hE2.at hby
  have hC4 : Chg (foot own) w u4 := by
    have h1 := Chg.foot hC3 (by omega)
    exact (hC1.transE hE2).trans h1 (fun _ _ h => h) |>.transE hE4
  have hblu4 := lt_of_heap hbx4
  have hR3 : StR own3 u4 p _ := ⟨_, _, _, _, _, _, _, _, hX3⟩
  clear hX3 hX2 hX1 hU3 hE2 hE4 hpu cu hplu hblu hs4 hbx hby
  refine w_ fun d => ?_
  refine (stPoint_calls hR3 lo (-1) (by omega) (fun _ => by show lo - 2 < (s.R.length : Int); omega) (fun _ => by have := hb (lo - 2).toNat; show _ ∧ _; constructor <;> (show _ ≤ _; simp only [Raw.setU]; omega)) (by omega)).mono ?_
  rintro _ u5 ⟨hR5, hC5, hs5⟩
  have hbx5 : u5.heap[w.heap.size + 1]? = some (.cells #[.int .i64 vn, .int .i64 lo, .int .i64 hi] 39) := by
    rw [hC5.heap _ (by omega) (by unfold owns; omega)]; exact hbx4
  have hblu5 := lt_of_heap hbx5
  refine w_ fun d => ?_
  refine (stPoint_calls hR5 hi (-1) (by omega) (fun _ => by show hi - 2 < ((bump s.R lo (-1)).length : Int); rw [bump_len]; omega) (fun _ => bump_small hb (by omega) _) (by omega)).mono ?_
  rintro _ u6 ⟨hR6, hC6, hs6⟩
  have hbx6 : u6.heap[w.heap.size + 1]? = some (.cells #[.int .i64 vn, .int .i64 lo, .int .i64 hi] 39) := by
    rw [hC6.heap _ (by omega) (by unfold owns; omega)]; exact hbx5
  have hby6 : u6.heap[w.heap.size]? = some (.cells #[.int .i64 0, .int .i64 0, .int .i64 0] 39) := by
    rw [hC6.heap _ (by omega) (by unfold owns; omega), hC5.heap _ (by omega) (by unfold owns; omega)]; exact hby4
  have hblu6 := lt_of_heap hbx6
  have hbly6 := lt_of_heap hby6
  have h5 := Chg.foot hC5 (by decide)
  have h6 := Chg.foot hC6 (by decide)
  have hCw := (hC4.trans h5 fun b hb' hf => by unfold foot at hf ⊢; rw [← ho b (by omega)]; exact hf).trans h6 fun b hb' hf => by unfold foot at hf ⊢; rw [← ho b (by omega)]; exact hf
  clear hbx5 hbx4 hby4 hblu5 hblu4 hC4 h5 h6 hR5 hR3 hC5 hC6 hC3
  refine w_ fun d => ?_
  refine ⟨rfl, own3, ?_, fun k hk => ho k (by omega), chg_⟩
  have := hR6.keepJ (b := w.heap.size) (by omega) (.cells #[.int .i64 vn, .int .i64 lo, .int .i64 hi] 39)
  exact this
end
end Go.Proofs.Ytpeindhocndmnaa

namespace Go.Proofs.Ytpeindhocndmnaa
open Go Go.Bx
set_option linter.unusedSimpArgs false
set_option linter.unusedVariables false
set_option maxRecDepth 100000
set_option maxHeartbeats 4000000
attribute [local irreducible] X XO XE XF XD XW thenX inX retX kN CallsR
def _root_.Go.Bx.Md.live (s : Md) (but : List Int) : List Int := s.all.filter fun n => !decide (n ∈ but)
theorem _root_.Go.Bx.Md.WF.mem_live {s : Md} (W : s.WF) {but : List Int} {n : Int} : n ∈ s.live but ↔ s.has n = true ∧ n ∉ but := by
  unfold Md.live; rw [List.mem_filter, W.mem_all]; simp
theorem _root_.Go.Bx.Md.nodup_live {s : Md} {but : List Int} : (s.live but).Nodup := List.Pairwise.filter _ Md.nodup_all
theorem sum_of_perm {l l' : List Int} (h : l.Perm l') : l.sum = l'.sum := by
  induction h with
  | nil => rfl
  | cons x _ ih => simp [ih]
  | swap x y l => simp; omega
  | trans _ _ ih1 ih2 => rw [ih1, ih2]
theorem sum_perm {f : Int → Int} {a : Int} {l l' : List Int} (hl : l.Nodup) (hl' : l'.Nodup) (hm : ∀ x, x ∈ l' ↔ x = a ∨ x ∈ l) (ha : a ∉ l) : sumF f l' = f a + sumF f l := by
  have hp : l'.Perm (a :: l) := by
    rw [List.perm_iff_count]
    intro x
    have h2 : (a :: l).Nodup := List.nodup_cons.2 ⟨ha, hl⟩
    rw [hl'.count, h2.count]
    have := hm x
    by_cases h : x ∈ l'
    · rw [if_pos h, if_pos (by rw [List.mem_cons]; exact this.1 h)]
    · rw [if_neg h, if_neg (fun h3 => h (this.2 (by rwa [List.mem_cons] at h3)))]
  have : (l'.map f).Perm ((a :: l).map f) := hp.map f
  unfold sumF
  rw [sum_of_perm this]
  simp
theorem sum_congr {f g : Int → Int} : ∀ {l : List Int}, (∀ x ∈ l, f x = g x) → sumF f l = sumF g l
  | [], _ => rfl
  | a :: l, h => by rw [sumF_cons, sumF_cons, h a (by simp), sum_congr fun x hx => h x (by simp [hx])]
def ptr (s : Md) (m n : Int) : Int := b2 (decide ((s.nd n).2.1 = m)) + b2 (decide ((s.nd n).2.2 = m))
def ofv (s : Md) (v n : Int) : Int := b2 (decide ((s.nd n).1 = v))
structure Agr (s : Md) (but : List Int) (R : List Int) (M : Nat → Ky → Option Int) (c : Nat → Int) : Prop where
  len : R.length = s.N.length
  ref : ∀ k : Nat, k < s.N.length → R.getD k 0 = sumF (ptr s ((k : Int) + 2)) (s.live but)
  map : ∀ v : Nat, v < 8 → ∀ k n, M v k = some n ↔ s.has n = true ∧ n ∉ but ∧ s.nd n = ((v : Int), k.1, k.2)
  cnt : ∀ v : Nat, v < 8 → c v = sumF (ofv s v) (s.live but)
section
variable {s s' : Md} {but : List Int} {R : List Int} {M : Nat → Ky → Option Int} {c : Nat → Int} {n v lo hi : Int}
theorem live_len (W : s.WF) : ((s.live but).length : Int) ≤ s.a.many := by
  rw [← W.len_all]
  have := List.length_filter_le (fun n => !decide (n ∈ but)) s.all
  unfold Md.live; omega
theorem live_lt (W : s.WF) (hn : s.has n = true) (hb : n ∈ but) : ((s.live but).length : Int) + 1 ≤ s.a.many := by
  rw [← W.len_all]
  have := sub_len' (l := n :: s.live but) (m := s.all) (List.nodup_cons.2 ⟨fun h => (W.mem_live.1 h).2 hb, Md.nodup_live⟩) fun x hx => by
    rcases List.mem_cons.1 hx with rfl | hx
    · exact W.mem_all.2 hn
    · exact W.mem_all.2 (W.mem_live.1 hx).1
  rw [List.length_cons] at this; omega
theorem Agr.small (A : Agr s but R M c) (W : s.WF) : Small R := by
  intro k
  by_cases hk : k < s.N.length
  · rw [A.ref k hk]
    have h1 := sumF_nonneg (ptr s ((k : Int) + 2)) (s.live but) fun x _ => by unfold ptr; have := b2_rng (decide ((s.nd x).2.1 = (k : Int) + 2)); have := b2_rng (decide ((s.nd x).2.2 = (k : Int) + 2)); omega
    have h2 := sumF_le (ptr s ((k : Int) + 2)) 2 (s.live but) fun x _ => by unfold ptr; have := b2_rng (decide ((s.nd x).2.1 = (k : Int) + 2)); have := b2_rng (decide ((s.nd x).2.2 = (k : Int) + 2)); omega
    have h3 := live_len W (but := but)
    have h4 := W.ar.many_le
    have h5 := W.ar.most
    omega
  · have := A.len
    rw [List.getD, List.getElem?_eq_none (by omega)]; simp
theorem Agr.cnt_le (A : Agr s but R M c) (W : s.WF) {v : Nat} (hv : v < 8) : c v ≤ (s.live but).length := by
  rw [A.cnt v hv]
  have h2 := sumF_le (ofv s v) 1 (s.live but) fun x _ => by unfold ofv; exact (b2_rng _).2
  omega
theorem Agr.lay (A : Agr s (n :: but) R M c) (W : s.WF) (hn : s.has n = true) (hb : n ∉ but) (hv : 0 ≤ v ∧ v < 8) (hlo : 2 ≤ lo → lo - 2 < s.N.length) (hhi : 2 ≤ hi → hi - 2 < s.N.length) (hf : ∀ m, s.has m = true → m ∉ n :: but → s.nd m ≠ (v, lo, hi)) :
    Agr (s.lay n (v, lo, hi)) but (bump (bump R lo 1) hi 1) (fun u => if u = v.toNat then fun k => if k = (lo, hi) then some n else M v.toNat k else M u) (fun u => if u = v.toNat then c v.toNat + 1 else c u) := by
  have W' : (s.lay n (v, lo, hi)).WF := W.lay
  have nd' : ∀ m, 2 ≤ m → (s.lay n (v, lo, hi)).nd m = if m = n then (v, lo, hi) else s.nd m := fun m hm => W.nd_lay hn hm
  have hself : (s.lay n (v, lo, hi)).nd n = (v, lo, hi) := by rw [nd' n (Md.has_ge hn), if_pos rfl]
  have hoth : ∀ m ∈ s.live (n :: but), (s.lay n (v, lo, hi)).nd m = s.nd m := fun m hm => by
    have := W.mem_live.1 hm
    rw [nd' m (Md.has_ge this.1), if_neg (fun e => this.2 (by rw [e]; simp))]
  have hlive : ∀ x, x ∈ (s.lay n (v, lo, hi)).live but ↔ x = n ∨ x ∈ s.live (n :: but) := fun x => by
    rw [W'.mem_live, W.mem_live]
    show s.has x = true ∧ x ∉ but ↔ _
    by_cases e : x = n
    · subst e; simp [hn, hb]
    · simp [e]
  have hnl : n ∉ s.live (n :: but) := fun h => (W.mem_live.1 h).2 (by simp)
  have hsum : ∀ f g : Int → Int, (∀ m ∈ s.live (n :: but), f m = g m) → sumF f ((s.lay n (v, lo, hi)).live but) = f n + sumF g (s.live (n :: but)) := fun f g h => by
    rw [sum_perm Md.nodup_live Md.nodup_live hlive hnl, sum_congr h]
  have hNl : (s.lay n (v, lo, hi)).N.length = s.N.length := by simp [Md.lay]
  have bm : ∀ (d : Int) (k : Nat), (2 ≤ d → d - 2 < s.N.length) → k < s.N.length → (if 2 ≤ d ∧ k = (d - 2).toNat ∧ k < R.length then (1 : Int) else 0) = b2 (decide (d = (k : Int) + 2)) := fun d k hd hk => by
    have := A.len
    by_cases e : d = (k : Int) + 2
    · rw [if_pos ⟨by omega, by omega, by omega⟩]; simp [e, b2]
    · rw [if_neg (fun h => e (by omega))]; simp [e, b2]
  refine ⟨by rw [bump_len, bump_len, A.len, hNl], fun k hk => ?_, fun u hu k m => ?_, fun u hu => ?_⟩
  · rw [hNl] at hk
    rw [hsum _ (ptr s ((k : Int) + 2)) fun m hm => by unfold ptr; rw [hoth m hm]]
    rw [bump_get, bump_get, bump_len, A.ref k hk, bm lo k hlo hk, bm hi k hhi hk]
    unfold ptr
    rw [hself]; simp only; omega
  · show (if u = v.toNat then fun k => if k = (lo, hi) then some n else M v.toNat k else M u) k = some m ↔ s.has m = true ∧ m ∉ but ∧ _
    have hmu := A.map u hu k m
    by_cases e : u = v.toNat
    · rw [if_pos e]
      show (if k = (lo, hi) then some n else M v.toNat k) = some m ↔ _
      rw [← e]
      have hvu : v = (u : Int) := by omega
      by_cases ek : k = (lo, hi)
      · rw [if_pos ek]
        subst ek
        constructor
        · intro h; cases h; exact ⟨hn, hb, by rw [hself, hvu]⟩
        · rintro ⟨h1, h2, h3⟩
          by_cases em : m = n
          · rw [em]
          · exfalso
            rw [nd' m (Md.has_ge h1), if_neg em] at h3
            exact hf m h1 (by simp [em, h2]) (by rw [h3, hvu])
      · rw [if_neg ek, hmu]
        constructor
        · rintro ⟨h1, h2, h3⟩
          refine ⟨h1, fun h => h2 (by simp [h]), ?_⟩
          rw [nd' m (Md.has_ge h1), if_neg (fun e => h2 (by rw [e]; simp))]; exact h3
        · rintro ⟨h1, h2, h3⟩
          by_cases em : m = n
          · exfalso
            rw [em, hself] at h3
            simp only [Prod.mk.injEq] at h3
            exact ek (Prod.ext h3.2.1.symm h3.2.2.symm)
          · rw [nd' m (Md.has_ge h1), if_neg em] at h3
            exact ⟨h1, by simp [em, h2], h3⟩
    · rw [if_neg e, hmu]
      constructor
      · rintro ⟨h1, h2, h3⟩
        refine ⟨h1, fun h => h2 (by simp [h]), ?_⟩
        rw [nd' m (Md.has_ge h1), if_neg (fun e => h2 (by rw [e]; simp))]; exact h3
      · rintro ⟨h1, h2, h3⟩
        by_cases em : m = n
        · exfalso
          rw [em, hself] at h3
          simp only [Prod.mk.injEq] at h3
          exact e (by omega)
        · rw [nd' m (Md.has_ge h1), if_neg em] at h3
          exact ⟨h1, by simp [em, h2], h3⟩
  · rw [hsum _ (ofv s u) fun m hm => by unfold ofv; rw [hoth m hm]]
    have : ofv (s.lay n (v, lo, hi)) u n = b2 (decide (v = (u : Int))) := by unfold ofv; rw [hself]
    rw [this]
    show (if u = v.toNat then c v.toNat + 1 else c u) = _
    by_cases e : u = v.toNat
    · rw [if_pos e, ← e, A.cnt u hu, show v = (u : Int) by omega]; simp [b2]; omega
    · rw [if_neg e, A.cnt u hu]
      have : ¬ (v = (u : Int)) := by omega
      simp [this, b2]
theorem Agr.lift (A : Agr s but R M c) (W : s.WF) (hn : s.has n = true) (hb : n ∉ but) (hx : s.nd n = (v, lo, hi)) (hv : 0 ≤ v ∧ v < 8) (hlo : 2 ≤ lo → lo - 2 < s.N.length) (hhi : 2 ≤ hi → hi - 2 < s.N.length) (one : ∀ m, s.has m = true → m ∉ but → s.nd m = (v, lo, hi) → m = n) :
    Agr s (n :: but) (bump (bump R lo (-1)) hi (-1)) (fun u => if u = v.toNat then fun k => if k = (lo, hi) then none else M v.toNat k else M u) (fun u => if u = v.toNat then c v.toNat - 1 else c u) := by
  have hlive : ∀ x, x ∈ s.live but ↔ x = n ∨ x ∈ s.live (n :: but) := fun x => by
    rw [W.mem_live, W.mem_live]
    by_cases e : x = n
    · subst e; simp [hn, hb]
    · simp [e]
  have hnl : n ∉ s.live (n :: but) := fun h => (W.mem_live.1 h).2 (by simp)
  have hsum : ∀ f : Int → Int, sumF f (s.live but) = f n + sumF f (s.live (n :: but)) := fun f => sum_perm Md.nodup_live Md.nodup_live hlive hnl
  have bm : ∀ (d : Int) (k : Nat), (2 ≤ d → d - 2 < s.N.length) → k < s.N.length → (if 2 ≤ d ∧ k = (d - 2).toNat ∧ k < R.length then (-1 : Int) else 0) = - b2 (decide (d = (k : Int) + 2)) := fun d k hd hk => by
    have := A.len
    by_cases e : d = (k : Int) + 2
    · rw [if_pos ⟨by omega, by omega, by omega⟩]; simp [e, b2]
    · rw [if_neg (fun h => e (by omega))]; simp [e, b2]
  refine ⟨by rw [bump_len, bump_len, A.len], fun k hk => ?_, fun u hu k m => ?_, fun u hu => ?_⟩
  · have h := A.ref k hk
    rw [hsum] at h
    rw [bump_get, bump_get, bump_len, h, bm lo k hlo hk, bm hi k hhi hk]
    unfold ptr
    rw [hx]; simp only; omega
  · show (if u = v.toNat then fun k => if k = (lo, hi) then none else M v.toNat k else M u) k = some m ↔ _
    have hmu := A.map u hu k m
    by_cases e : u = v.toNat
    · rw [if_pos e]
      show (if k = (lo, hi) then none else M v.toNat k) = some m ↔ _
      rw [← e]
      have hvu : v = (u : Int) := by omega
      by_cases ek : k = (lo, hi)
      · rw [if_pos ek]
        subst ek
        constructor
        · intro h; cases h
        · rintro ⟨h1, h2, h3⟩
          exact absurd (one m h1 (fun h => h2 (by simp [h])) (by rw [h3, hvu])) (fun e => h2 (by simp [e]))
      · rw [if_neg ek, hmu]
        constructor
        · rintro ⟨h1, h2, h3⟩
          refine ⟨h1, fun h => ?_, h3⟩
          rcases List.mem_cons.1 h with e2 | e2
          · rw [e2, hx] at h3
            simp only [Prod.mk.injEq] at h3
            exact ek (Prod.ext h3.2.1.symm h3.2.2.symm)
          · exact h2 e2
        · rintro ⟨h1, h2, h3⟩
          exact ⟨h1, fun h => h2 (by simp [h]), h3⟩
    · rw [if_neg e, hmu]
      constructor
      · rintro ⟨h1, h2, h3⟩
        refine ⟨h1, fun h => ?_, h3⟩
        rcases List.mem_cons.1 h with e2 | e2
        · rw [e2, hx] at h3
          simp only [Prod.mk.injEq] at h3
          exact e (by omega)
        · exact h2 e2
      · rintro ⟨h1, h2, h3⟩
        exact ⟨h1, fun h => h2 (by simp [h]), h3⟩
  · have h := A.cnt u hu
    rw [hsum] at h
    have e1 : ofv s u n = b2 (decide (v = (u : Int))) := by unfold ofv; rw [hx]
    rw [e1] at h
    show (if u = v.toNat then c v.toNat - 1 else c u) = _
    by_cases e : u = v.toNat
    · rw [if_pos e, ← e, h, show v = (u : Int) by omega]; simp [b2]; omega
    · rw [if_neg e, h]
      have : ¬ (v = (u : Int)) := by omega
      simp [this, b2]
theorem Agr.same (A : Agr s but R M c) (W : s.WF) (W' : s'.WF) {but' : List Int} {R' : List Int} (hl : R'.length = s'.N.length) (hm : ∀ n, (s'.has n = true ∧ n ∉ but') ↔ (s.has n = true ∧ n ∉ but)) (hnd : ∀ n, s.has n = true → n ∉ but → s'.nd n = s.nd n)
    (hR : ∀ k : Nat, k < s'.N.length → (k < s.N.length ∧ R'.getD k 0 = R.getD k 0) ∨ (R'.getD k 0 = 0 ∧ ∀ n, s.has n = true → n ∉ but → (s.nd n).2.1 ≠ (k : Int) + 2 ∧ (s.nd n).2.2 ≠ (k : Int) + 2)) : Agr s' but' R' M c := by
  have hsum : ∀ f g : Int → Int, (∀ m ∈ s.live but, f m = g m) → sumF f (s'.live but') = sumF g (s.live but) := fun f g h => by
    have hp : (s'.live but').Perm (s.live but) := by
      rw [List.perm_iff_count]
      intro x
      rw [Md.nodup_live.count, Md.nodup_live.count]
      have : x ∈ s'.live but' ↔ x ∈ s.live but := by rw [W'.mem_live, W.mem_live, hm]
      by_cases hx : x ∈ s.live but
      · rw [if_pos hx, if_pos (this.2 hx)]
      · rw [if_neg hx, if_neg (fun h => hx (this.1 h))]
    unfold sumF
    rw [sum_of_perm (hp.map f)]
    exact sum_congr h
  have hlv : ∀ m ∈ s.live but, s'.nd m = s.nd m := fun m hx => hnd m (W.mem_live.1 hx).1 (W.mem_live.1 hx).2
  refine ⟨hl, fun k hk => ?_, fun v hv k n => ?_, fun v hv => ?_⟩
  · rw [hsum _ (ptr s ((k : Int) + 2)) fun m hx => by unfold ptr; rw [hlv m hx]]
    rcases hR k hk with ⟨h1, h2⟩ | ⟨h1, h2⟩
    · rw [h2, A.ref k h1]
    · rw [h1]
      have : sumF (ptr s ((k : Int) + 2)) (s.live but) = sumF (fun _ => 0) (s.live but) := sum_congr fun m hx => by
        have hh := h2 m (W.mem_live.1 hx).1 (W.mem_live.1 hx).2
        unfold ptr; simp [hh.1, hh.2, b2]
      rw [this]
      generalize s.live but = l
      induction l with
      | nil => rfl
      | cons a l ih => rw [sumF_cons, ← ih]; rfl
  · rw [A.map v hv]
    constructor
    · rintro ⟨h1, h2, h3⟩
      have := (hm n).2 ⟨h1, h2⟩
      exact ⟨this.1, this.2, by rw [hnd n h1 h2]; exact h3⟩
    · rintro ⟨h1, h2, h3⟩
      have := (hm n).1 ⟨h1, h2⟩
      exact ⟨this.1, this.2, by rw [← hnd n this.1 this.2]; exact h3⟩
  · rw [A.cnt v hv, hsum _ (ofv s v) fun m hx => by unfold ofv; rw [hlv m hx]]
end
end Go.Proofs.Ytpeindhocndmnaa

namespace Go.Proofs.Ytpeindhocndmnaa
open Go Go.Bx
set_option linter.unusedSimpArgs false
set_option linter.unusedVariables false
set_option maxRecDepth 100000
set_option maxHeartbeats 4000000
attribute [local irreducible] X XO XE XF XD XW thenX inX retX kN CallsR
abbrev ints (l : List Int) : List Value := l.map (Value.int .i64)
abbrev InI (w : World) (a : Option Addr) (l : List Int) : Prop := Inp w 1 a (one1 (ints l))
theorem InI.at {w : World} {a : Option Addr} {l : List Int} (h : InI w a l) : l = [] ∨ ∃ b o c E fz, a = some ⟨b, o, none⟩ ∧ w.heap[b]? = some (.cells c E fz) ∧ ∀ (i : Nat) (x : Int), l[i]? = some x → c[o + i]? = some (Value.int .i64 x) := by
  rcases h with h | ⟨b, o, c, E, fz, rfl, h2, h3⟩
  · exact .inl (List.map_eq_nil_iff.1 (List.map_eq_nil_iff.1 h))
  · refine .inr ⟨b, o, c, E, fz, rfl, h2, fun i x hx => ?_⟩
    have := h3 i [Value.int .i64 x] (by rw [List.getElem?_map, List.getElem?_map, hx]; rfl) 0 _ rfl
    rw [← this]; congr 1; omega
theorem pushI {w : World} {a : Option Addr} {cap : Nat} {l : List Int} (h : SlC w 3 a cap (ints l)) (hm : l.length ≤ 1000000000) (x : Int) :
    ∃ a' cap' w', apR Try.prog 34 (.slice a l.length cap) (.slice (some ⟨w.heap.size, 0, none⟩) 1 1) (w.alloc (.cells #[.int .i64 x] 3)) = .ok (.slice a' (l.length + 1) cap') w' ∧
      SlC w' 3 a' cap' (ints (l ++ [x])) ∧ Chg (fun k => blk a = some k) w w' ∧ w.heap.size < w'.heap.size ∧ (∀ g, blk a' = some g → blk a = some g ∨ (w.heap.size ≤ g ∧ g < w'.heap.size)) := by
  obtain ⟨a2, c2, w2, hr, hS2, hC2, hs2, hB2⟩ := h.push (P := Try.prog) (news := [.int .i64 x]) T34 T3 rfl rfl (by rw [List.length_map]; simp; omega) (by decide) (k := 1) rfl rfl
  have hl1 : (ints l ++ [Value.int .i64 x]).length = l.length + 1 := by simp
  rw [List.length_map, hl1] at hr
  exact ⟨a2, c2, w2, hr, by rw [ints, List.map_append]; exact hS2, hC2, hs2, hB2⟩
theorem mem_not {l : List Int} {n : Int} {k : Nat} (hl : k = l.length) (h : ∀ j, j < k → l[j]? ≠ some n) : decide (n ∈ l) = false := by
  refine decide_eq_false fun hm => ?_
  obtain ⟨j, hj, he⟩ := List.getElem_of_mem hm
  exact h j (by omega) (by rw [List.getElem?_eq_getElem hj, he])
theorem rin4_calls {w : World} {a : Option Addr} {c : Nat} {l : List Int} (hI : InI w a l) (hl : l.length ≤ 1099511627776) (n : Int) : Quiet Try.prog 157 #[.slice a l.length c, .int .i64 n] w (.bool (decide (n ∈ l))) := by
  intro u hu
  have hI := Inp.ext hI hu
  clear hu
  refine en2 Try.func157 Try.results157 mixed [] ?_
  intro e0 h0 h1
  refine w_ fun d => ?_
  refine lo_ (fun W e w' => ∃ k : Nat, k ≤ l.length ∧ e 5 = .int .i64 k ∧ Box (∀ j, j < k → l[j]? ≠ some n) ∧ Ext W w') (fun e _ => l.length - nat (e 5)) ?_ ?_
  · exact ⟨0, by omega, eA rfl, ⟨fun j hj => by omega⟩, ext_⟩
  rintro e w1 hf ⟨k, hk, h5, ⟨hi⟩, hE⟩
  have hs1 := sz_ hE
  have hI1 := Inp.ext hI hE
  clear hI
  by_cases hlt : k < l.length
  · obtain ⟨x, hx⟩ : ∃ x, l[k]? = some x := ⟨l[k], List.getElem?_eq_getElem (by omega)⟩
    rcases InI.at hI1 with rfl | ⟨b, o, cs, E, fz, rfl, hb, hat⟩
    · simp at hlt
    have hat := hat k x hx
    clear hI1
    by_cases e : x = n
    · subst e
      have hm : decide (x ∈ l) = true := decide_eq_true (List.mem_of_getElem? hx)
      clear hx hi
      refine w_ fun d => ?_
      exact ⟨by rw [hm], ext_⟩
    · have hi' : Box (∀ j, j < k + 1 → l[j]? ≠ some n) := ⟨fun j h => by
        by_cases e2 : j = k
        · subst e2; rw [hx]; simpa using e
        · exact hi j (by omega)⟩
      have e' : (x == n) = false := by simpa using e
      clear hx hi
      refine w_ fun d => ?_
      exact ⟨⟨k + 1, by omega, eA rfl, hi', ext_⟩, mA⟩
  · have hm := mem_not (by omega) hi
    obtain rfl : k = l.length := by omega
    clear hi hI1
    refine w_ fun d => ?_
    exact ⟨by rw [hm], ext_⟩
def wo (l : List Int) (n : Int) : List Int := l.filter fun x => decide (x ≠ n)
theorem wo_take {l : List Int} {n x : Int} {k : Nat} (hx : l[k]? = some x) : wo (l.take (k + 1)) n = if x = n then wo (l.take k) n else wo (l.take k) n ++ [x] := by
  rw [List.take_add_one, hx]
  unfold wo
  rw [List.filter_append]
  by_cases e : x = n <;> simp [e]
theorem rwo_calls {w : World} {a : Option Addr} {c : Nat} {l : List Int} (hI : InI w a l) (hl : l.length ≤ 1000000) (n : Int) :
    CallsR Try.prog 158 #[.slice a l.length c, .int .i64 n] w fun r w' => ∃ a' cap', r = .slice a' (wo l n).length cap' ∧ SlC w' 3 a' cap' (ints (wo l n)) ∧ (∀ g, blk a' = some g → w.heap.size ≤ g) ∧ Ext w w' := by
  refine en2 Try.func158 Try.results158 mixed [] ?_
  intro e0 h0 h1
  refine w_ fun d => ?_
  refine lo_ (fun W e w' => ∃ (k : Nat) (a' : Option Addr) (cap' : Nat) (m : List Int), k ≤ l.length ∧ e 6 = .int .i64 k ∧ e 5 = .slice a' m.length cap' ∧ SlC w' 3 a' cap' (ints m) ∧ (∀ g, blk a' = some g → w.heap.size ≤ g) ∧ Box (m = wo (l.take k) n) ∧ Ext w w') (fun e _ => l.length - nat (e 6)) ?_ ?_
  · exact ⟨0, none, 0, [], by omega, eA rfl, eA rfl, SlC.nil _ _, (fun g h => by cases h), ⟨by simp [wo]⟩, ext_⟩
  rintro e w1 hf ⟨k, a', cap', m, hk, h6, h5, hS, hn, ⟨hi⟩, hE⟩
  have hs1 := sz_ hE
  have hml : m.length ≤ k := by rw [hi]; exact Nat.le_trans (List.length_filter_le _ _) (by rw [List.length_take]; omega)
  have hI1 := Inp.ext hI hE
  by_cases hlt : k < l.length
  · obtain ⟨x, hx⟩ : ∃ x, l[k]? = some x := ⟨l[k], List.getElem?_eq_getElem (by omega)⟩
    rcases InI.at hI1 with rfl | ⟨b, o, cs, E, fz, rfl, hb, hat⟩
    · simp at hlt
    have hat := hat k x hx
    have ht := wo_take (n := n) hx
    clear hI1
    by_cases e : x = n
    · have hi' : Box (m = wo (l.take (k + 1)) n) := ⟨by rw [ht, if_pos e]; exact hi⟩
      have e' : (x == n) = true := by simpa using e
      clear hx hi ht hI
      refine w_ fun d => ?_
      exact ⟨⟨k + 1, a', cap', m, by omega, eA rfl, eA rfl, hS, hn, hi', ext_⟩, mA⟩
    · have hi' : Box (m ++ [x] = wo (l.take (k + 1)) n) := ⟨by rw [ht, if_neg e, ← hi]⟩
      have e' : (x == n) = false := by simpa using e
      obtain ⟨a2, c2, w2, hr, hS2', hC2, hs2, hB2⟩ := pushI hS (by omega) x
      have hE2 : Ext w w2 := hC2.toExt hE fun g hg hb => by have := hn g hb; omega
      have hn2 : ∀ g, blk a2 = some g → w.heap.size ≤ g := fun g hg => by
        rcases hB2 g hg with h | ⟨h, _⟩
        · exact hn g h
        · omega
      clear hx hi ht hI hS hn hC2 hB2
      refine w_ fun d => ?_
      exact ⟨⟨k + 1, a2, c2, m ++ [x], by omega, eA rfl, by rw [List.length_append]; exact eA rfl, hS2', hn2, hi', hE2⟩, mA⟩
  · obtain rfl : k = l.length := by omega
    rw [List.take_length] at hi
    subst hi
    clear hI1 hI
    refine w_ fun d => ?_
    exact ⟨a', cap', rfl, hS, hn, ext_⟩
structure RaO (F : Nat → Prop) (w : World) (p : Nat) (a : Ar) (K : List Int) (ta : Option Addr) (tc : Nat) (fa : Option Addr) (fc : Nat) : Prop where
  at_ : w.heap[p]? = some (.cells #[.int .i64 a.most, .slice ta K.length tc, .slice fa a.Fr.length fc, .int .i64 a.T.length] 169)
  T : SlC w 3 ta tc (ints K)
  Fr : SlC w 3 fa fc (ints a.Fr)
  fp : F p
  ft : ∀ g, blk ta = some g → F g
  ff : ∀ g, blk fa = some g → F g
  dj : ∀ g, blk ta = some g → blk fa ≠ some g
  lt : ∀ k, F k → k < w.heap.size
  nd : K.Nodup
  mem : ∀ n, n ∈ K ↔ a.has n = true
def RaI (F : Nat → Prop) (w : World) (p : Nat) (a : Ar) : Prop := ∃ K ta tc fa fc, RaO F w p a K ta tc fa fc
section
variable {F : Nat → Prop} {w w' : World} {p : Nat} {a : Ar}
theorem RaI.keep (h : RaI F w p a) (hk : ∀ k, F k → w'.heap[k]? = w.heap[k]?) (hs : w.heap.size ≤ w'.heap.size) : RaI F w' p a := by
  obtain ⟨K, ta, tc, fa, fc, h⟩ := h
  exact ⟨K, ta, tc, fa, fc, by rw [hk p h.fp]; exact h.at_, h.T.keep fun g hg => hk g (h.ft g hg), h.Fr.keep fun g hg => hk g (h.ff g hg), h.fp, h.ft, h.ff, h.dj, fun k hk' => Nat.lt_of_lt_of_le (h.lt k hk') hs, h.nd, h.mem⟩
theorem RaI.wider {G : Nat → Prop} (h : RaI F w p a) (hFG : ∀ k, F k → G k) (hG : ∀ k, G k → k < w.heap.size) : RaI G w p a := by
  obtain ⟨K, ta, tc, fa, fc, h⟩ := h
  exact ⟨K, ta, tc, fa, fc, h.at_, h.T, h.Fr, hFG _ h.fp, fun g hg => hFG _ (h.ft g hg), fun g hg => hFG _ (h.ff g hg), h.dj, hG, h.nd, h.mem⟩
theorem RaI.lt (h : RaI F w p a) : ∀ k, F k → k < w.heap.size := by obtain ⟨_, _, _, _, _, h⟩ := h; exact h.lt
theorem RaI.ext (h : RaI F w p a) (hE : Ext w w') : RaI F w' p a := h.keep (fun k hk => hE.heap k (h.lt k hk)) hE.size
theorem RaI.grown (h : RaI F w p a) (hE : Ext w w') : RaI (Grow F w w') w' p a := (h.ext hE).wider (fun k hk => .inl hk) fun k hk => hk.elim (fun h1 => Nat.lt_of_lt_of_le (h.lt k h1) hE.size) fun h1 => h1.2
theorem RaO.len {K : List Int} {ta fa : Option Addr} {tc fc : Nat} (h : RaO F w p a K ta tc fa fc) (ho : a.OK) : (K.length : Int) = a.many := ho.count h.nd h.mem
end
theorem raHas_calls {F : Nat → Prop} {w : World} {p : Nat} {a : Ar} (h : RaI F w p a) (ho : a.OK) (n : Int) : Quiet Try.prog 156 #[.pointer (some ⟨p, 0, none⟩), .int .i64 n] w (.bool (a.has n)) := by
  intro u hu
  have h := h.ext hu
  clear hu
  obtain ⟨K, ta, tc, fa, fc, h⟩ := h
  have hl := h.len ho
  have hm := ho.many_le
  have hmost := ho.most
  have hp := h.at_
  have c1 := rin4_calls (c := tc) (a := ta) (l := K) h.T.inp (by omega) n
  have e : decide (n ∈ K) = a.has n := by
    have := h.mem n
    cases hh : a.has n <;> rw [hh] at this <;> simpa using this
  rw [e] at c1
  clear h hl hm hmost e ho
  refine en2 Try.func156 Try.results156 mixed [] ?_
  intro e0 h0 h1
  refine w_ fun d => ?_
  refine callQ c1.call fun w1 hE1 hs1 => ?_
  refine w_ fun d => ?_
  exact ⟨rfl, ext_⟩
end Go.Proofs.Ytpeindhocndmnaa

namespace Go.Proofs.Ytpeindhocndmnaa
open Go Go.Bx
set_option linter.unusedSimpArgs false
set_option linter.unusedVariables false
set_option maxRecDepth 100000
set_option maxHeartbeats 4000000
attribute [local irreducible] X XO XE XF XD XW thenX inX retX kN CallsR
def StI (own : Nat → Nat) (w : World) (p : Nat) (s : Md) (but : List Int) : Prop := ∃ R M c, StR own w p ⟨s.a, s.N, R, s.ord, M, c⟩ ∧ Agr s but R M c
def TrI (own : Nat → Nat) (w : World) (p : Nat) (s' : Md) (but' : List Int) (w' : World) : Prop := ∃ own', StI own' w' p s' but' ∧ (∀ k, k < w.heap.size → own' k = own k) ∧ Chg (foot own) w w'
section
variable {own own1 : Nat → Nat} {w w' w1 w2 : World} {p : Nat} {s s' s1 s2 : Md} {but but' : List Int} {n v lo hi : Int}
theorem StI.ext (h : StI own w p s but) (hE : Ext w w') : StI own w' p s but := by
  obtain ⟨R, M, c, h, A⟩ := h
  exact ⟨R, M, c, h.ext hE, A⟩
theorem StI.lt (h : StI own w p s but) : ∀ k, own k ≠ 0 → k < w.heap.size := by obtain ⟨R, M, c, h, A⟩ := h; exact h.lt
theorem StI.op (h : StI own w p s but) : own p = 1 := by obtain ⟨R, M, c, h, A⟩ := h; exact h.op
theorem TrI.of_ext (h : StI own w p s but) (hE : Ext w w') : TrI own w p s but w' := ⟨own, h.ext hE, fun _ _ => rfl, hE.chg _⟩
theorem TrI.trans (ho : ∀ k, k < w.heap.size → own1 k = own k) (hC : Chg (foot own) w w1) (k : TrI own1 w1 p s2 but w2) : TrI own w p s2 but w2 := by
  obtain ⟨own2, h2, ho2, hC2⟩ := k
  have hs := hC.size
  exact ⟨own2, h2, fun k hk => (ho2 k (by omega)).trans (ho k hk), hC.trans hC2 fun b hb hf => by unfold foot at hf ⊢; rw [← ho b hb]; exact hf⟩
theorem Agr.get {R : List Int} {M : Nat → Ky → Option Int} {c : Nat → Int} (A : Agr s but R M c) (G : s.Good but) (hv : 0 ≤ v ∧ v < 8) : M v.toNat (lo, hi) = s.find but (v, lo, hi) := by
  have hvn : ((v.toNat : Nat) : Int) = v := by omega
  have hm := A.map v.toNat (by omega) (lo, hi)
  rw [hvn] at hm
  cases hf : s.find but (v, lo, hi) with
  | some n => obtain ⟨a, b, c⟩ := Md.find_some hf; exact (hm n).2 ⟨a, b, c⟩
  | none =>
    cases hM : M v.toNat (lo, hi) with
    | none => rfl
    | some n =>
      obtain ⟨a, b, c⟩ := (hm n).1 hM
      exact absurd c (G.wf.find_none hf a b)
theorem Md.below_lt (W : s.WF) (h : s.below n v = true) : n ≤ 1000000 ∧ (2 ≤ n → n - 2 < s.N.length) := by
  have h1 := W.len
  have h2 := W.ar.lim
  have h3 := W.ar.most
  rcases Md.below_iff.1 h with e | e | e
  · omega
  · omega
  · have := W.lt e.1; omega
end
section
variable {own : Nat → Nat} {w w' w1 : World} {p : Nat} {s : Raw} {pa : Nat} {na : Option Addr} {nc : Nat} {ra : Option Addr} {rc : Nat} {pu : Nat → Nat} {sc oc : Array Value}
theorem StX.pushN (h : StX own w p s pa na nc ra rc pu sc oc) {x : Nd} {a' : Option Addr} {c' : Nat} (hS : SlN w1 a' c' (s.N ++ [x])) (hC : Chg (fun k => blk na = some k) w w1) (hB : ∀ g, blk a' = some g → blk na = some g ∨ (w.heap.size ≤ g ∧ g < w1.heap.size)) :
    w1.heap[p]? = some (.cells sc 120) ∧ StX (ownUp own w w1 3) (upd w1 p (.cells (sc.setIfInBounds 2 (.slice a' (s.N.length + 1) c')) 120)) p { s with N := s.N ++ [x] } pa a' c' ra rc pu (sc.setIfInBounds 2 (.slice a' (s.N.length + 1) c')) oc ∧
    Chg (foot own) w (upd w1 p (.cells (sc.setIfInBounds 2 (.slice a' (s.N.length + 1) c')) 120)) := by
  have hC3 : Chg (owns own 3) w w1 := hC.mono fun k _ hk => h.on k hk
  obtain ⟨h1, h2, h3, h4, h5, h6, h7, h8, h9⟩ := h.turn hC3 (by decide)
  have hp1 := h1 (by decide)
  have hpl := lt_of_heap hp1
  have hpo : ∀ k, ownUp own w w1 3 k ≠ 1 → (upd w1 p (.cells (sc.setIfInBounds 2 (.slice a' (s.N.length + 1) c')) 120)).heap[k]? = w1.heap[k]? := fun k hk => upd_other fun e => hk (by rw [← e]; exact h2)
  have on' : ∀ g, blk a' = some g → ownUp own w w1 3 g = 3 := fun g hg => by
    rcases hB g hg with h' | h'
    · exact h5 g h'
    · unfold ownUp; rw [if_pos h']
  have ar := h3 (by decide)
  refine ⟨hp1, ⟨upd_same hpl, ?_, h.oc, h2, ar.keep (fun k hk => hpo k (by unfold owns at hk; omega)) (by rw [upd_size]; exact Nat.le_refl _), Sl.keep hS fun g hg => hpo g (by rw [on' g hg]; decide), on', (h6 (by decide)).keep fun g hg => hpo g (by rw [h7 g hg]; decide), h7, fun v hv => ?_, fun k hk => by rw [upd_size]; exact h9 k hk⟩, ?_⟩
  · have := h.cs.setN a' (s.N.length + 1) c'
    rw [show (s.N ++ [x]).length = s.N.length + 1 by simp]
    exact this
  · exact (h8 v hv (by omega)).keep (fun k hk => hpo k (by unfold owns at hk; omega)) (by rw [upd_size]; exact Nat.le_refl _)
  · exact (Chg.foot hC3 (by decide)).upd (fun _ => by unfold foot; rw [h.op]; decide) _
theorem StX.pushR (h : StX own w p s pa na nc ra rc pu sc oc) {x : Int} {a' : Option Addr} {c' : Nat} (hS : SlC w1 3 a' c' ((s.R ++ [x]).map (.int .i64))) (hC : Chg (fun k => blk ra = some k) w w1) (hB : ∀ g, blk a' = some g → blk ra = some g ∨ (w.heap.size ≤ g ∧ g < w1.heap.size)) :
    w1.heap[p]? = some (.cells sc 120) ∧ StX (ownUp own w w1 4) (upd w1 p (.cells (sc.setIfInBounds 3 (.slice a' (s.R.length + 1) c')) 120)) p { s with R := s.R ++ [x] } pa na nc a' c' pu (sc.setIfInBounds 3 (.slice a' (s.R.length + 1) c')) oc ∧
    Chg (foot own) w (upd w1 p (.cells (sc.setIfInBounds 3 (.slice a' (s.R.length + 1) c')) 120)) := by
  have hC3 : Chg (owns own 4) w w1 := hC.mono fun k _ hk => h.or k hk
  obtain ⟨h1, h2, h3, h4, h5, h6, h7, h8, h9⟩ := h.turn hC3 (by decide)
  have hp1 := h1 (by decide)
  have hpl := lt_of_heap hp1
  have hpo : ∀ k, ownUp own w w1 4 k ≠ 1 → (upd w1 p (.cells (sc.setIfInBounds 3 (.slice a' (s.R.length + 1) c')) 120)).heap[k]? = w1.heap[k]? := fun k hk => upd_other fun e => hk (by rw [← e]; exact h2)
  have or' : ∀ g, blk a' = some g → ownUp own w w1 4 g = 4 := fun g hg => by
    rcases hB g hg with h' | h'
    · exact h7 g h'
    · unfold ownUp; rw [if_pos h']
  have ar := h3 (by decide)
  refine ⟨hp1, ⟨upd_same hpl, ?_, h.oc, h2, ar.keep (fun k hk => hpo k (by unfold owns at hk; omega)) (by rw [upd_size]; exact Nat.le_refl _), Sl.keep (h4 (by decide)) fun g hg => hpo g (by rw [h5 g hg]; decide), h5, hS.keep fun g hg => hpo g (by rw [or' g hg]; decide), or', fun v hv => ?_, fun k hk => by rw [upd_size]; exact h9 k hk⟩, ?_⟩
  · have := h.cs.setR a' (s.R.length + 1) c'
    rw [show (s.R ++ [x]).length = s.R.length + 1 by simp]
    exact this
  · exact (h8 v hv (by omega)).keep (fun k hk => hpo k (by unfold owns at hk; omega)) (by rw [upd_size]; exact Nat.le_refl _)
  · exact (Chg.foot hC3 (by decide)).upd (fun _ => by unfold foot; rw [h.op]; decide) _
end
def _root_.Go.Bx.Md.add0 (s : Md) (k : Int) (b : Ar) : Md := ⟨b, if k = s.N.length then s.N ++ [(0, 0, 0)] else s.N, s.ord⟩
def addR (s : Md) (k : Int) (R : List Int) : List Int := if k = s.N.length then R ++ [0] else R
structure Add0 (s : Md) (but : List Int) (k : Int) (b : Ar) (R : List Int) (M : Nat → Ky → Option Int) (c : Nat → Int) : Prop where
  wf : (s.add0 k b).WF
  agr : Agr (s.add0 k b) ((k + 2) :: but) (addR s k R) M c
  has : (s.add0 k b).has (k + 2) = true
  nb : k + 2 ∉ but
  le : ∀ n, s.has n = true → (s.add0 k b).has n = true ∧ (s.add0 k b).nd n = s.nd n
  lt : 0 ≤ k ∧ k < (s.add0 k b).N.length
  lay : ∀ x, (s.add0 k b).lay (k + 2) x = s.add k b x
  grow : s.N.length ≤ (s.add0 k b).N.length
  hm : ∀ n, ((s.add0 k b).has n = true ∧ n ∉ (k + 2) :: but) ↔ (s.has n = true ∧ n ∉ but)
theorem Agr.add0 {s : Md} {but : List Int} {k : Int} {b : Ar} {R : List Int} {M : Nat → Ky → Option Int} {c : Nat → Int} (A : Agr s but R M c) (G : s.Good but) (ht : s.a.take = some (k, b)) : Add0 s but k b R M c := by
  have W := G.wf
  obtain ⟨b1, b2, b3, b4, b5, b6, b7, b8⟩ := W.ar.taken ht
  have hlen := W.len
  have hh : ∀ m, (s.add0 k b).has m = (s.has m || decide (m = k + 2)) := by
    intro m
    unfold Md.has Md.add0
    rw [b7]
    by_cases e : m = k + 2
    · subst e; simp; omega
    · have : ¬ (m - 2 = k) := by omega
      simp [e, this]
  have hno : s.has (k + 2) = false := by
    unfold Md.has; rw [show k + 2 - 2 = k by omega, b4]; simp
  have hnb : k + 2 ∉ but := fun h => by have := G.sub _ h; rw [hno] at this; cases this
  have W' : (s.add0 k b).WF := by
    refine ⟨b1, ?_, W.ord⟩
    simp only [Md.add0]
    rw [b8, hlen]
    split
    · rw [List.length_append, hlen]; rfl
    · exact hlen
  have hle : ∀ n, s.has n = true → (s.add0 k b).has n = true ∧ (s.add0 k b).nd n = s.nd n := fun n hn => by
    refine ⟨by rw [hh, hn]; rfl, ?_⟩
    have hm2 := W.lt hn
    unfold Md.nd Md.add0
    simp only
    split
    · rw [List.getD, List.getElem?_append_left (by omega)]; rfl
    · rfl
  have hm : ∀ n, ((s.add0 k b).has n = true ∧ n ∉ (k + 2) :: but) ↔ (s.has n = true ∧ n ∉ but) := fun n => by
    rw [hh]
    by_cases e : n = k + 2
    · subst e; simp [hno]
    · simp [e]
  have hgr : s.N.length ≤ (s.add0 k b).N.length := by simp only [Md.add0]; split <;> simp
  refine ⟨W', A.same W W' ?_ hm (fun n hn _ => (hle n hn).2) fun j hj => ?_, by rw [hh]; simp, hnb, hle, ⟨b5, ?_⟩, fun x => ?_, hgr, hm⟩
  · simp only [addR, Md.add0]
    split
    · rw [List.length_append, List.length_append, A.len]; rfl
    · exact A.len
  · by_cases hjl : j < s.N.length
    · refine .inl ⟨hjl, ?_⟩
      unfold addR
      split
      · rw [List.getD, List.getElem?_append_left (by rw [A.len]; exact hjl)]; rfl
      · rfl
    · right
      have hk : k = s.N.length := by
        simp only [Md.add0] at hj
        split at hj
        · assumption
        · omega
      refine ⟨?_, fun n hn hb => ?_⟩
      · unfold addR
        rw [if_pos hk]
        simp only [Md.add0] at hj
        rw [if_pos hk, List.length_append, List.length_singleton] at hj
        have : j = R.length := by rw [A.len]; omega
        rw [List.getD, this, List.getElem?_append_right (Nat.le_refl _), Nat.sub_self]; rfl
      · have ok := G.node n hn hb
        have key : ∀ c v, s.below c v = true → c ≠ (j : Int) + 2 := fun c v hc e => by
          rcases Md.below_iff.1 hc with e' | e' | e'
          · omega
          · omega
          · have := W.lt e'.1; omega
        exact ⟨key _ _ ok.lo, key _ _ ok.hi⟩
  · simp only [Md.add0]
    split
    · rename_i e; rw [List.length_append, List.length_singleton]; omega
    · omega
  · unfold Md.add Md.lay Md.add0
    simp only [Md.mk.injEq, true_and, and_true]
    rw [show k + 2 - 2 = k by omega]
    split
    · rename_i e
      rw [e, show ((s.N.length : Int)).toNat = s.N.length by omega, List.set_append_right _ _ (Nat.le_refl _), Nat.sub_self]; rfl
    · rfl
section
variable {own : Nat → Nat} {w w' w1 : World} {p : Nat} {s : Md} {but : List Int} {v lo hi : Int}
theorem stMk_calls (h : StI own w p s but) (G : s.Good but) (hlo : lo ≤ 9223372036854775807) (hhi : hi ≤ 9223372036854775807) :
    CallsR Try.prog 82 #[.pointer (some ⟨p, 0, none⟩), .int .i64 v, .int .i64 lo, .int .i64 hi] w fun r w' => r = .tuple #[.int .i64 (s.mk' but v lo hi).1.1, errV (s.mk' but v lo hi).1.2] ∧ TrI own w p (s.mk' but v lo hi).2 but w' := by
  obtain ⟨R, M, c, hR, A⟩ := id h
  have W := G.wf
  have b0 := stBelow_calls hR W.len lo v hlo
  have b1 := stBelow_calls hR W.len hi v hhi
  have hmd : (⟨s.a, s.N, R, s.ord, M, c⟩ : Raw).md = s := rfl
  rw [hmd] at b0 b1
  have hk := W.mks but v lo hi
  generalize s.mk' but v lo hi = res at hk
  cases hk with
  | bad hbad =>
    by_cases hv0 : 0 ≤ v
    · by_cases hv1 : v < 8
      · cases e0 : s.below lo v
        · rw [e0] at b0
          clear hbad hmd A W G hR e0
          refine en4 Try.func82 Try.results82 mixed [] ?_
          intro e0 h0 h1 h2 h3
          refine w_ fun d => ?_
          refine callQ b0.call fun w1 hE1 hs1 => ?_
          refine w_ fun d => ?_
          exact ⟨rfl, TrI.of_ext h ext_⟩
        · cases e1 : s.below hi v
          · rw [e0] at b0
            rw [e1] at b1
            clear hbad hmd A W G hR e0 e1
            refine en4 Try.func82 Try.results82 mixed [] ?_
            intro e0 h0 h1 h2 h3
            refine w_ fun d => ?_
            refine callQ b0.call fun w1 hE1 hs1 => ?_
            refine w_ fun d => ?_
            refine callQ (b1.at (by assumption)).call fun w2 hE2 hs2 => ?_
            refine w_ fun d => ?_
            exact ⟨rfl, TrI.of_ext h ext_⟩
          · exact absurd ⟨⟨hv0, hv1⟩, e0, e1⟩ hbad
      · clear hbad hmd A W G hR b0 b1
        refine en4 Try.func82 Try.results82 mixed [] ?_
        intro e0 h0 h1 h2 h3
        refine w_ fun d => ?_
        exact ⟨rfl, TrI.of_ext h ext_⟩
    · clear hbad hmd A W G hR b0 b1
      refine en4 Try.func82 Try.results82 mixed [] ?_
      intro e0 h0 h1 h2 h3
      refine w_ fun d => ?_
      exact ⟨rfl, TrI.of_ext h ext_⟩
  | same hv e0 e1 e =>
    subst e
    rw [e0] at b0 b1
    clear hmd A W G hR e0
    obtain ⟨hv0, hv1⟩ := hv
    refine en4 Try.func82 Try.results82 mixed [] ?_
    intro e0 h0 h1 h2 h3
    refine w_ fun d => ?_
    refine callQ b0.call fun w1 hE1 hs1 => ?_
    refine w_ fun d => ?_
    refine callQ (b1.at (by assumption)).call fun w2 hE2 hs2 => ?_
    refine w_ fun d => ?_
    exact ⟨rfl, TrI.of_ext h ext_⟩
  | found n hv e0 e1 e hf hn hb hx =>
    rw [e0] at b0
    rw [e1] at b1
    have hg := A.get G (lo := lo) (hi := hi) hv
    rw [hf] at hg
    obtain ⟨hv0, hv1⟩ := hv
    obtain ⟨vn, rfl⟩ := Int.eq_ofNat_of_zero_le hv0
    rw [Int.toNat_natCast] at hg
    have hvn : vn < 8 := by omega
    obtain ⟨pa, na, nc, ra, rc, pu, sc, oc, hX⟩ := hR
    have g0 := uqGet_calls (hX.un vn hvn) lo hi
    rw [show (⟨s.a, s.N, R, s.ord, M, c⟩ : Raw).M vn (lo, hi) = some n from hg] at g0
    simp only [Option.getD_some, Option.isSome_some] at g0
    have hp := hX.at_
    have hpl := lt_of_heap hp
    have hsz := hX.cs.size
    have cu := hX.cs.cu vn hvn
    have e' : (lo == hi) = false := by simpa using e
    clear hmd A W G hX e hf hn hb hx hg e0 e1
    refine en4 Try.func82 Try.results82 mixed [] ?_
    intro e0 h0 h1 h2 h3
    refine w_ fun d => ?_
    refine callQ b0.call fun w1 hE1 hs1 => ?_
    refine w_ fun d => ?_
    refine callQ (b1.at (by assumption)).call fun w2 hE2 hs2 => ?_
    have hE2w := hE1.trans hE2
    refine w_ fun d => ?_
    refine callQ (g0.at (by assumption)).call fun w3 hE3 hs3 => ?_
    refine w_ fun d => ?_
    exact ⟨rfl, TrI.of_ext h ext_⟩
  | full hv e0 e1 e hf ht hm =>
    rw [e0] at b0
    rw [e1] at b1
    have hg := A.get G (lo := lo) (hi := hi) hv
    rw [hf] at hg
    obtain ⟨hv0, hv1⟩ := hv
    obtain ⟨vn, rfl⟩ := Int.eq_ofNat_of_zero_le hv0
    rw [Int.toNat_natCast] at hg
    have hvn : vn < 8 := by omega
    obtain ⟨pa, na, nc, ra, rc, pu, sc, oc, hX⟩ := hR
    have g0 := uqGet_calls (hX.un vn hvn) lo hi
    rw [show (⟨s.a, s.N, R, s.ord, M, c⟩ : Raw).M vn (lo, hi) = none from hg] at g0
    simp only [Option.getD_none, Option.isSome_none] at g0
    have hp := hX.at_
    have hpl := lt_of_heap hp
    have hsz := hX.cs.size
    have cu := hX.cs.cu vn hvn
    have ca := hX.cs.c1
    have e' : (lo == hi) = false := by simpa using e
    have tk := fun u (hu : Ext w u) => arTake_calls ((hX.ext hu).ar) W.ar
    rw [show (⟨s.a, s.N, R, s.ord, M, c⟩ : Raw).a = s.a from rfl, ht] at tk
    clear hmd b0 b1
    have b0 := stBelow_calls (w := w) ⟨pa, na, nc, ra, rc, pu, sc, oc, hX⟩ W.len lo vn hlo
    have b1 := stBelow_calls (w := w) ⟨pa, na, nc, ra, rc, pu, sc, oc, hX⟩ W.len hi vn hhi
    rw [show (⟨s.a, s.N, R, s.ord, M, c⟩ : Raw).md = s from rfl, e0] at b0
    rw [show (⟨s.a, s.N, R, s.ord, M, c⟩ : Raw).md = s from rfl, e1] at b1
    clear e hf hm hg e0 e1
    refine en4 Try.func82 Try.results82 mixed [] ?_
    intro e0 h0 h1 h2 h3
    refine w_ fun d => ?_
    refine callQ b0.call fun w1 hE1 hs1 => ?_
    refine w_ fun d => ?_
    refine callQ (b1.at (by assumption)).call fun w2 hE2 hs2 => ?_
    have hE2w := hE1.trans hE2
    refine w_ fun d => ?_
    refine callQ (g0.at (by assumption)).call fun w3 hE3 hs3 => ?_
    have hE3w := hE2w.trans hE3
    refine w_ fun d => ?_
    refine (tk _ hE3w).mono ?_
    rintro _ w4 ⟨b, (⟨n, hh, _⟩ | ⟨_, rfl, rfl⟩), hA, hC⟩
    · cases hh
    refine w_ fun d => ?_
    have hX3 := hX.ext hE3w
    have hX4 := hX3.setAr rfl hA hC
    refine ⟨rfl, _, ⟨R, M, c, ⟨_, _, _, _, _, _, _, _, hX4⟩, A⟩, fun k hk => ownUp_old (by have := hE3w.size; omega), (hE3w.chg _).trans (Chg.foot hC (by decide)) fun _ _ h => h⟩
  | new k b hv e0 e1 e hf ht =>
    have D := A.add0 G ht
    have hg := A.get G (lo := lo) (hi := hi) hv
    rw [hf] at hg
    obtain ⟨hv0, hv1⟩ := hv
    obtain ⟨vn, rfl⟩ := Int.eq_ofNat_of_zero_le hv0
    rw [Int.toNat_natCast] at hg
    have hvn : vn < 8 := by omega
    obtain ⟨pa, na, nc, ra, rc, pu, sc, oc, hX⟩ := hR
    have g0 := uqGet_calls (hX.un vn hvn) lo hi
    rw [show (⟨s.a, s.N, R, s.ord, M, c⟩ : Raw).M vn (lo, hi) = none from hg] at g0
    simp only [Option.getD_none, Option.isSome_none] at g0
    have hp := hX.at_
    have hpl := lt_of_heap hp
    have hsz := hX.cs.size
    have cu := hX.cs.cu vn hvn
    have ca := hX.cs.c1
    have cn := hX.cs.c2
    have e' : (lo == hi) = false := by simpa using e
    have tk := fun u (hu : Ext w u) => arTake_calls ((hX.ext hu).ar) W.ar
    rw [show (⟨s.a, s.N, R, s.ord, M, c⟩ : Raw).a = s.a from rfl, ht] at tk
    clear hmd b0 b1
    have b0 := stBelow_calls (w := w) ⟨pa, na, nc, ra, rc, pu, sc, oc, hX⟩ W.len lo vn hlo
    have b1 := stBelow_calls (w := w) ⟨pa, na, nc, ra, rc, pu, sc, oc, hX⟩ W.len hi vn hhi
    rw [show (⟨s.a, s.N, R, s.ord, M, c⟩ : Raw).md = s from rfl, e0] at b0
    rw [show (⟨s.a, s.N, R, s.ord, M, c⟩ : Raw).md = s from rfl, e1] at b1
    -- the counts
    have W1 := D.wf
    have hN1 : (s.add0 k b).N.length ≤ 20000 := by
      have h1 := W1.len
      have h2 := W1.ar.lim
      have h3 := W1.ar.most
      omega
    have hc1 : c vn ≤ 19999 := by
      have h1 := D.agr.cnt_le W1 hvn
      have h2 := live_lt (but := (k + 2) :: but) W1 D.has (by simp)
      have h3 := W1.ar.many_le
      have h4 := W1.ar.most
      omega
    have hlo1 : lo - 2 < ((s.add0 k b).N.length : Int) := by
      have h1 := Md.below_lt W e0
      have h2 := D.grow
      by_cases h3 : 2 ≤ lo
      · have := h1.2 h3; omega
      · omega
    have hhi1 : hi - 2 < ((s.add0 k b).N.length : Int) := by
      have h1 := Md.below_lt W e1
      have h2 := D.grow
      by_cases h3 : 2 ≤ hi
      · have := h1.2 h3; omega
      · omega
    have hsm := D.agr.small W1
    have hfin := D.agr.lay W1 D.has D.nb (v := vn) (lo := lo) (hi := hi) ⟨hv0, hv1⟩ (fun _ => hlo1) (fun _ => hhi1) (fun m hm hmb => by
      obtain ⟨h1, h2⟩ := (D.hm m).1 ⟨hm, hmb⟩
      rw [(D.le m h1).2]
      exact W.find_none hf h1 h2)
    rw [D.lay] at hfin
    have hlay := D.lay ((vn : Int), lo, hi)
    have hk0 := D.lt
    have hlenR := D.agr.len
    have hmostb := (W.ar.taken ht).2.1
    have hN0 : s.N.length ≤ 20000 := by have := D.grow; omega
    have hRl := A.len
    -- the last step
    have last : ∀ {own' : Nat → Nat} {u : World}, StR own' u p ⟨b, (s.add0 k b).N, addR s k R, s.ord, M, c⟩ → (∀ j, j < w.heap.size → own' j = own j) → Chg (foot own) w u →
        CallsR Try.prog 98 #[.pointer (some ⟨p, 0, none⟩), .int .i64 (k + 2), .agg #[.int .i64 vn, .int .i64 lo, .int .i64 hi]] u fun r w' => TrI own w p (s.add k b ((vn : Int), lo, hi)) but w' := by
      intro own' u hR' ho hC
      refine (stLay_calls hR' (n := k + 2) (v := vn) (lo := lo) (hi := hi) (by omega) (by show k + 2 - 2 < ((s.add0 k b).N.length : Int); omega) hN1 ⟨hv0, hv1⟩ (by rw [Int.toNat_natCast]; exact hg) (by rw [Int.toNat_natCast]; exact hc1) hlenR hlo1 hhi1 hsm).mono ?_
      rintro r w' ⟨own2, h2, ho2, hC2⟩
      refine TrI.trans ho hC ⟨own2, ⟨_, _, _, ?_, hfin⟩, ho2, hC2⟩
      rw [← hlay]
      exact h2
    have hk3 : k ≤ 1000000 := by omega
    clear e hf hg e0 e1 hfin hlay hsm hc1 hN1 hlo1 hhi1
    refine en4 Try.func82 Try.results82 mixed [] ?_
    intro e0 h0 h1 h2 h3
    refine w_ fun d => ?_
    refine callQ b0.call fun w1 hE1 hs1 => ?_
    refine w_ fun d => ?_
    refine callQ (b1.at (by assumption)).call fun w2 hE2 hs2 => ?_
    have hE2w := hE1.trans hE2
    refine w_ fun d => ?_
    refine callQ (g0.at (by assumption)).call fun w3 hE3 hs3 => ?_
    have hE3w := hE2w.trans hE3
    refine w_ fun d => ?_
    refine (tk _ hE3w).mono ?_
    rintro _ w4 ⟨b', (⟨n, hh, rfl⟩ | ⟨hh, _⟩), hA, hC⟩
    rotate_left
    · cases hh
    obtain ⟨rfl, rfl⟩ : k = n ∧ b = b' := by cases hh; exact ⟨rfl, rfl⟩
    have hX4 := (hX.ext hE3w).setAr hmostb hA hC
    dsimp only at hX4
    have ho4 : ∀ j, j < w.heap.size → ownUp own w3 w4 2 j = own j := fun j hj => ownUp_old (by have := hE3w.size; omega)
    have hC4 : Chg (foot own) w w4 := (hE3w.chg _).trans (Chg.foot hC (by decide)) fun _ _ h => h
    have hp4 := hX4.at_
    have hpl4 := lt_of_heap hp4
    by_cases hkn : k = s.N.length
    · have e1 : (s.add0 k b).N = s.N ++ [(0, 0, 0)] := if_pos hkn
      have e2 : addR s k R = R ++ [0] := if_pos hkn
      rw [e1, e2] at last
      subst hkn
      have cn4 := hX4.cs.c2
      obtain ⟨a5, c5, w5, hr5, hS5, hC5, hs5, hB5⟩ := hX4.no.push (by show s.N.length ≤ 1000000; omega) (0, 0, 0)
      obtain ⟨hp5, hX5, hCX5⟩ := hX4.pushN hS5 hC5 hB5
      dsimp only at hr5 hX5 hCX5
      have hpl5 := lt_of_heap hp5
      have hp6 := hX5.at_
      have cr6 := hX5.cs.c3
      have hsz6 := hX5.cs.size
      have hpl6 := lt_of_heap hp6
      obtain ⟨a7, c7, w7, hr7, hS7, hC7, hs7, hB7⟩ := pushI hX5.re (by show R.length ≤ 1000000000; omega) 0
      obtain ⟨hp7, hX7, hCX7⟩ := hX5.pushR hS7 hC7 hB7
      dsimp only at hr7 hX7 hCX7
      have hpl7 := lt_of_heap hp7
      have ho5 : ∀ j, j < w4.heap.size → ownUp (ownUp own w3 w4 2) w4 w5 3 j = ownUp own w3 w4 2 j := fun j hj => ownUp_old hj
      have s34 := hC.size
      have s03 := hE3w.size
      have hl := last ⟨_, _, _, _, _, _, _, _, hX7⟩ (fun j hj => by rw [ownUp_old (by simp only [upd_size]; omega), ho5 _ (by omega), ho4 _ hj]) (by
        refine (hC4.trans hCX5 fun b hb hf => ?_).trans hCX7 fun b hb hf => ?_
        · unfold foot at hf ⊢; rw [ho4 b hb] at hf; exact hf
        · unfold foot at hf ⊢; rw [ho5 b (by omega), ho4 b hb] at hf; exact hf)
      simp only [upd_size] at hr7 hs7
      clear hRl hlenR tk b0 b1 g0 hp hpl h last e1 e2 hA hC hX D W1 hmostb hX4 hX5 hX7 hh hS5 hC5 hB5 hS7 hC7 hB7 hCX5 hCX7
      refine w_ fun d => ?_
      refine hl.mono ?_
      rintro r w5 hT
      refine w_ fun d => ?_
      exact ⟨rfl, hT⟩
    · have e1 : (s.add0 k b).N = s.N := if_neg hkn
      have e2 : addR s k R = R := if_neg hkn
      rw [e1, e2] at last
      have hkb : (k == (s.N.length : Int)) = false := by simpa using hkn
      have hl := last ⟨_, _, _, _, _, _, _, _, hX4⟩ ho4 hC4
      have hk4 := hk0.1
      clear tk b0 b1 g0 hp hpl h last e1 e2 hA hC hX D W1 hmostb hX4 hh
      refine w_ fun d => ?_
      refine hl.mono ?_
      rintro r w5 hT
      refine w_ fun d => ?_
      exact ⟨rfl, hT⟩
end
end Go.Proofs.Ytpeindhocndmnaa

namespace Go.Proofs.Ytpeindhocndmnaa
open Go Go.Bx
set_option linter.unusedSimpArgs false
set_option linter.unusedVariables false
set_option maxRecDepth 100000
set_option maxHeartbeats 4000000
attribute [local irreducible] X XO XE XF XD XW thenX inX retX kN CallsR
section
variable {P : Program} {R : Value → World → Prop} {e : Env} {w : World} {t u : Nat} {v v2 : Value} {ex : Exit}
theorem resM_cu {a t u b o : Nat} (h : e a = .pointer (some ⟨b, o, none⟩)) (h2 : ldR P t (.pointer (some ⟨b, o, none⟩)) w = .ok v w) : (resM #[.cell a t, .tmp u] e).run P w = .ok (.tuple #[v, e u]) w := by
  have e1 : (resM #[.cell a t] e).run P w = .ok v w := by rw [resM_cell (b := b) (o := o) h]; exact h2
  simp [resM, h, asAddr] at e1 ⊢
  rw [e1]; rfl
theorem rcuA {bk t' : Nat} (h : R (.tuple #[v, v2]) w) (hx : isEnd ex = true := by rfl) (h1 : e t = .pointer (some ⟨bk, 0, none⟩) := by (first | (simp (disch := first | assumption | ((try simp only [upd_size, alloc_size, dr_heap, List.size_toArray, List.length_cons, List.length_nil, Nat.reduceAdd]) <;> omega) | (with_unfolding_all (refine Eq.trans rfl ?_; exact rfl)) | fail) only [push_cast, *, Nat.reduceEqDiff, ↓reduceIte] <;> rfl) | rfl))
    (h2 : ldR P t' (.pointer (some ⟨bk, 0, none⟩)) w = .ok v w := by (simp (disch := first | assumption | ((try simp only [upd_size, alloc_size, dr_heap, List.size_toArray, List.length_cons, List.length_nil, Nat.reduceAdd]) <;> omega) | (with_unfolding_all (refine Eq.trans rfl ?_; exact rfl)) | exact Nat.le_of_ble_eq_true rfl | fail) only [push_cast, *, Nat.reduceEqDiff, Nat.reduceAdd, Nat.reduceMul, ↓reduceIte] <;> rfl))
    (h3 : e u = v2 := by (first | (simp (disch := first | assumption | ((try simp only [upd_size, alloc_size, dr_heap, List.size_toArray, List.length_cons, List.length_nil, Nat.reduceAdd]) <;> omega) | (with_unfolding_all (refine Eq.trans rfl ?_; exact rfl)) | fail) only [push_cast, *, Nat.reduceEqDiff, ↓reduceIte] <;> rfl) | rfl)) : retX P #[.cell t t', .tmp u] R ex e w := ret_of hx (h3 ▸ resM_cu (b := bk) (o := 0) h1 h2) h
end
end Go.Proofs.Ytpeindhocndmnaa

namespace Go.Proofs.Ytpeindhocndmnaa
open Go Go.Bx
set_option linter.unusedSimpArgs false
set_option linter.unusedVariables false
set_option maxRecDepth 100000
set_option maxHeartbeats 4000000
attribute [local irreducible] X XO XE XF XD XW thenX inX retX kN CallsR
def _root_.Go.Bx.Md.node (s : Md) (n : Int) : Nd × Bool := if s.has n then (s.nd n, true) else ((0, 0, 0), false)
def _root_.Go.Bx.Md.allTo (s : Md) (k : Nat) : List Int := ((List.range k).map fun j : Nat => (j : Int) + 2).filter fun n => s.has n
theorem allTo_succ {s : Md} {k : Nat} : s.allTo (k + 1) = if s.has ((k : Int) + 2) then s.allTo k ++ [(k : Int) + 2] else s.allTo k := by
  unfold Md.allTo
  rw [List.range_succ, List.map_append, List.filter_append]
  cases h : s.has ((k : Int) + 2) <;> simp [h]
theorem allTo_all {s : Md} : s.allTo s.N.length = s.all := rfl
theorem allTo_len {s : Md} {k : Nat} : (s.allTo k).length ≤ k := Nat.le_trans (List.length_filter_le _ _) (by simp)
section
variable {own : Nat → Nat} {w w' w1 : World} {p : Nat} {s : Md} {but : List Int} {n v lo hi : Int}
theorem Md.has_add (n : Nat) : s.has ((n : Int) + 2) = s.a.has n := by unfold Md.has; rw [show (n : Int) + 2 - 2 = n by omega]; simp; omega
theorem stNode_calls (h : StI own w p s but) (W : s.WF) (n : Int) (hn : n ≤ 9223372036854775807) : Quiet Try.prog 24 #[.pointer (some ⟨p, 0, none⟩), .int .i64 n] w (.tuple #[ndV (s.node n).1, .bool (s.node n).2]) := by
  intro u hu
  have h := h.ext hu
  clear hu
  obtain ⟨R, M, c, h, A⟩ := h
  have c1 := stHas_calls h n hn
  rw [show (⟨s.a, s.N, R, s.ord, M, c⟩ : Raw).md = s from rfl] at c1
  unfold Md.node
  cases hh : s.has n
  · rw [hh] at c1
    simp only [Bool.false_eq_true, ↓reduceIte]
    clear h A W hh
    refine en2 Try.func24 Try.results24 mixed [] ?_
    intro e0 h0 h1
    refine w_ fun d => ?_
    refine qq c1 fun w1 hE1 hs1 => ?_
    refine w_ fun d => ?_
    refine rcuA ?_
    exact ⟨rfl, ext_⟩
  · rw [hh] at c1
    simp only [↓reduceIte]
    have hx := W.get hh
    have hl := W.lt hh
    obtain ⟨x, hxx⟩ : ∃ x, s.nd n = x := ⟨_, rfl⟩
    rw [hxx] at hx ⊢
    obtain ⟨v, lo, hi⟩ := x
    obtain ⟨pa, na, nc, ra, rc, pu, sc, oc, h⟩ := h
    obtain ⟨g, cur, rfl, hg, hc, hlt, x0, x1, x2, hsz3, hex⟩ := h.no.at hx
    have hp := h.at_
    have c2 := h.cs.c2
    have hsz := h.cs.size
    have hpl := lt_of_heap hp
    have hgl := lt_of_heap hg
    have hl1 := hl.2
    have hl0 : 0 ≤ n - 2 := by omega
    dsimp only at c2 hc hlt
    clear h A W hh hxx hx hl
    refine en2 Try.func24 Try.results24 mixed [] ?_
    intro e0 h0 h1
    refine w_ fun d => ?_
    refine qq c1 fun w1 hE1 hs1 => ?_
    have hs2 := sz_ hE1
    refine w_ fun d => ?_
    refine rcuA ?_
    exact ⟨rfl, ext_⟩
theorem stLive_calls (h : StI own w p s but) (W : s.WF) : Quiet Try.prog 50 #[.pointer (some ⟨p, 0, none⟩)] w (.int .i64 s.a.many) := by
  intro u hu
  obtain ⟨R, M, c, h, A⟩ := h.ext hu
  clear hu
  obtain ⟨pa, na, nc, ra, rc, pu, sc, oc, h⟩ := h
  have c1 := arMany_calls h.ar W.ar
  have hp := h.at_
  have c2 := h.cs.c1
  have hsz := h.cs.size
  dsimp only at c1
  clear h A W
  refine en1 Try.func50 Try.results50 mixed [] ?_
  intro e0 h0
  refine w_ fun d => ?_
  refine qq c1 fun w1 hE1 hs1 => ?_
  refine w_ fun d => ?_
  exact ⟨rfl, ext_⟩
theorem stRoom_calls (h : StI own w p s but) (W : s.WF) : Quiet Try.prog 51 #[.pointer (some ⟨p, 0, none⟩)] w (.int .i64 s.room) := by
  intro u hu
  have h := h.ext hu
  clear hu
  have c1 := stLive_calls h W
  obtain ⟨R, M, c, h, A⟩ := h
  obtain ⟨pa, na, nc, ra, rc, pu, sc, oc, h⟩ := h
  have hp := h.at_
  have c2 := h.cs.c0
  have hsz := h.cs.size
  have hm := W.ar.many_le
  have hmo := W.ar.most
  have hr : s.a.most - s.a.many = s.room := rfl
  have hpl := lt_of_heap hp
  dsimp only at c2
  clear h A W
  refine en1 Try.func51 Try.results51 mixed [] ?_
  intro e0 h0
  refine w_ fun d => ?_
  intro w1 hE1 hs1
  refine w_ fun d => ?_
  exact ⟨rfl, ext_⟩
theorem stOrder_calls (h : StI own w p s but) : Quiet Try.prog 23 #[.pointer (some ⟨p, 0, none⟩)] w (aI s.ord) := by
  intro u hu
  obtain ⟨R, M, c, h, A⟩ := h.ext hu
  clear hu
  obtain ⟨pa, na, nc, ra, rc, pu, sc, oc, h⟩ := h
  have hp := h.at_
  have co := h.cs.co
  have hsz := h.cs.size
  have ho := h.oc.agg
  have ho2 := h.oc.len8
  have ho3 := h.oc.cell
  have ho4 := h.oc.all
  have ho5 := h.oc.size
  have hpl := lt_of_heap hp
  dsimp only at ho
  rw [ho]
  clear h A ho
  refine en1 Try.func23 Try.results23 mixed [] ?_
  intro e0 h0
  refine w_ fun d => ?_
  exact ⟨rfl, ext_⟩
theorem stAll_calls (h : StI own w p s but) (W : s.WF) : CallsR Try.prog 22 #[.pointer (some ⟨p, 0, none⟩)] w fun r w' => ∃ a' cap', r = .slice a' s.all.length cap' ∧ SlC w' 3 a' cap' (ints s.all) ∧ (∀ g, blk a' = some g → w.heap.size ≤ g) ∧ Ext w w' := by
  obtain ⟨R, M, c, h, A⟩ := h
  obtain ⟨pa, na, nc, ra, rc, pu, sc, oc, h⟩ := h
  have hp := h.at_
  have c1 := h.cs.c1
  have c2 := h.cs.c2
  have hsz := h.cs.size
  have hpl := lt_of_heap hp
  have hN : s.N.length ≤ 20000 := by
    have h1 := W.len
    have h2 := W.ar.lim
    have h3 := W.ar.most
    omega
  have hh := fun k : Nat => arHas_calls h.ar k
  dsimp only at c2 hh
  clear h A
  refine en1 Try.func22 Try.results22 mixed [] ?_
  intro e0 h0
  refine w_ fun d => ?_
  refine lo_ (fun W e w' => ∃ (k : Nat) (a' : Option Addr) (cap' : Nat) (m : List Int), k ≤ s.N.length ∧ e 10 = .int .i64 k ∧ e 3 = .slice a' m.length cap' ∧ SlC w' 3 a' cap' (ints m) ∧ (∀ g, blk a' = some g → w.heap.size ≤ g) ∧ Box (m = s.allTo k) ∧ Ext w w') (fun e _ => s.N.length - nat (e 10)) ?_ ?_
  · exact ⟨0, none, 0, [], by omega, eA rfl, eA rfl, SlC.nil _ _, (fun g h => by cases h), ⟨rfl⟩, ext_⟩
  rintro e w1 hf ⟨k, a', cap', m, hk, h10, h3, hS, hn, ⟨hi⟩, hE⟩
  have hs1 := sz_ hE
  have hml : m.length ≤ k := by rw [hi]; exact allTo_len
  by_cases hlt : k < s.N.length
  · have hsc := allTo_succ (s := s) (k := k)
    rw [Md.has_add] at hsc
    have hq := (hh k).at hE
    cases hb : s.a.has k
    · rw [hb] at hq hsc
      have hi' : Box (m = s.allTo (k + 1)) := ⟨by rw [hsc, hi]; rfl⟩
      clear hi hsc hh hb
      refine w_ fun d => ?_
      refine qq hq fun w2 hE2 hs2 => ?_
      have hEw2 := hE.trans hE2
      have hS2 := hS.ext hE2
      refine w_ fun d => ?_
      exact ⟨⟨k + 1, a', cap', m, by omega, eA rfl, eA rfl, hS2, hn, hi', hEw2⟩, mA⟩
    · rw [hb] at hq hsc
      have hi' : Box (m ++ [(k : Int) + 2] = s.allTo (k + 1)) := ⟨by rw [hsc, hi]; rfl⟩
      clear hi hsc hh hb
      refine w_ fun d => ?_
      refine qq hq fun w2 hE2 hs2 => ?_
      have hEw2 := hE.trans hE2
      have hS2 := hS.ext hE2
      obtain ⟨a3, c3, w3, hr, hS3, hC3, hs3, hB3⟩ := pushI hS2 (by omega) ((k : Int) + 2)
      have hE3 : Ext w w3 := hC3.toExt hEw2 fun g hg hb => by have := hn g hb; omega
      have hn3 : ∀ g, blk a3 = some g → w.heap.size ≤ g := fun g hg => by
        rcases hB3 g hg with h | ⟨h, _⟩
        · exact hn g h
        · omega
      clear hS hS2 hC3 hB3 hn
      refine w_ fun d => ?_
      exact ⟨⟨k + 1, a3, c3, m ++ [(k : Int) + 2], by omega, eA rfl, by rw [List.length_append]; exact eA rfl, hS3, hn3, hi', hE3⟩, mA⟩
  · obtain rfl : k = s.N.length := by omega
    rw [allTo_all] at hi
    subst hi
    clear hh
    refine w_ fun d => ?_
    exact ⟨a', cap', rfl, hS, hn, ext_⟩
end
end Go.Proofs.Ytpeindhocndmnaa

namespace Go.Bx
open Go
set_option linter.unusedSimpArgs false
section
variable {P : Program} {e : Env} {w : World} {ty : TypeId} {t : Tmp}
theorem rG_makeFunc {fn : Fn} {first cap : Array Operand} : rG P (.makeFunc fn first cap) ty e w = .ok (.value (.func fn (first.map (ev e)) (cap.map (ev e)))) w := rfl
def cvF (P : Program) (v : Value) (args : Array Value) (w : World) : Result Next := (do let d ← Deferred.ofValue v args; invoke d.target d.args : Sem Next).run P w
theorem rG_callV {args : Array Operand} {ts : Array TypeId} : rG P (.call { callee := .value (.tmp t), args := args, argTypes := ts }) ty e w = cvF P (e t) (args.map (ev e)) w := by
  show (do let d ← resolve (ev e) { callee := .value (.tmp t), args := args, argTypes := ts } ty; invoke d.target d.args : Sem Next).run P w = _
  rfl
theorem cvF_fn {f : FuncId} {fn : Func} {args cap ar2 : Array Value} (hf : P.funcs[f]? = some fn) (hn : (fn.name == "runtime.NumGoroutine") = false) (hb : fn.body.isNone = false) (ha : args ++ cap = ar2) :
    cvF P (.func (.func f) #[] cap) args w = .ok (.enter f ar2) w := by
  unfold cvF
  simp only [Sem.run_bind, Deferred.ofValue, pure, Sem.run, Result.andThen_ok, invoke, callFunc, program, Sem.bind, bind, hf, hn, hb]
  simp [pure, Sem.run, Sem.bind, bind, ha]
attribute [push_cast] rG_makeFunc rG_callV
end
end Go.Bx

namespace Go.Proofs.Ytpeindhocndmnaa
open Go Go.Bx
set_option linter.unusedSimpArgs false
set_option linter.unusedVariables false
set_option maxRecDepth 100000
set_option maxHeartbeats 4000000
attribute [local irreducible] X XO XE XF XD XW thenX inX retX kN CallsR
section
variable {own : Nat → Nat} {w w' w1 : World} {p : Nat} {s : Md} {but : List Int} {n v lo hi x y : Int}
theorem cvF_is {w : World} {a b c : Value} : cvF Try.prog (.func (.func 135) #[] #[b, c]) #[a] w = .ok (.enter 135 #[a, b, c]) w := cvF_fn Try.func135 (by kernel_rfl) (by kernel_rfl) rfl
attribute [push_cast] cvF_is
theorem stSides_calls (h : StI own w p s but) (W : s.WF) (n y : Int) (hn : n = 0 ∨ n = 1 ∨ s.has n = true) : Quiet Try.prog 97 #[.pointer (some ⟨p, 0, none⟩), .int .i64 n, .int .i64 y] w (.tuple #[.int .i64 (s.side n y false), .int .i64 (s.side n y true)]) := by
  intro u hu
  obtain ⟨R, M, c, h, A⟩ := h.ext hu
  clear hu
  by_cases h2 : 2 ≤ n
  · have hh : s.has n = true := by
      rcases hn with e | e | e
      · omega
      · omega
      · exact e
    have hx := W.get hh
    have hl := W.lt hh
    obtain ⟨x, hxx⟩ : ∃ x, s.nd n = x := ⟨_, rfl⟩
    rw [hxx] at hx
    obtain ⟨v, lo, hi⟩ := x
    have hs : ∀ b, s.side n y b = if v = y then (if b then hi else lo) else n := fun b => by
      unfold Md.side Md.of
      rw [hh, hxx]; simp
    rw [hs, hs]
    obtain ⟨pa, na, nc, ra, rc, pu, sc, oc, h⟩ := h
    obtain ⟨g, cur, rfl, hg, hc, hlt, x0, x1, x2, hsz3, hex⟩ := h.no.at hx
    have hp := h.at_
    have c2 := h.cs.c2
    have hsz := h.cs.size
    have hpl := lt_of_heap hp
    have hgl := lt_of_heap hg
    have hl1 := hl.2
    have hl0 : 0 ≤ n - 2 := by omega
    have hN : n ≤ 1000000 := by
      have h1 := W.len
      have h2 := W.ar.lim
      have h3 := W.ar.most
      omega
    dsimp only at c2 hc hlt
    clear h A W hh hxx hx hl hs hn
    by_cases e : v = y
    · subst e
      simp only [↓reduceIte, Bool.false_eq_true]
      refine en3 Try.func97 Try.results97 mixed [] ?_
      intro e0 h0 h1 h2
      refine w_ fun d => ?_
      exact ⟨rfl, ext_⟩
    · simp only [e, ↓reduceIte]
      have e' : (v == y) = false := by simpa using e
      refine en3 Try.func97 Try.results97 mixed [] ?_
      intro e0 h0 h1 h2
      refine w_ fun d => ?_
      exact ⟨rfl, ext_⟩
  · have hs : ∀ b, s.side n y b = n := fun b => by
      unfold Md.side Md.of
      rw [Md.has_no h2]; simp
    rw [hs, hs]
    clear h A W hn hs
    refine en3 Try.func97 Try.results97 mixed [] ?_
    intro e0 h0 h1 h2
    refine w_ fun d => ?_
    exact ⟨rfl, ext_⟩
theorem stIs_calls (h : StI own w p s but) (W : s.WF) (n y : Int) (hn : n = 0 ∨ n = 1 ∨ s.has n = true) {b1 b2 : Nat} (h1 : w.heap[b1]? = some (.cells #[.pointer (some ⟨p, 0, none⟩)] 24)) (h2 : w.heap[b2]? = some (.cells #[.int .i64 y] 3)) :
    Quiet Try.prog 135 #[.int .i64 n, .pointer (some ⟨b1, 0, none⟩), .pointer (some ⟨b2, 0, none⟩)] w (.bool (s.of n y)) := by
  intro u hu
  obtain ⟨R, M, c, h, A⟩ := h.ext hu
  have hb1 := hu.at h1
  have hb2 := hu.at h2
  clear hu h1 h2
  by_cases h2 : 2 ≤ n
  · have hh : s.has n = true := by
      rcases hn with e | e | e
      · omega
      · omega
      · exact e
    have hx := W.get hh
    have hl := W.lt hh
    obtain ⟨x, hxx⟩ : ∃ x, s.nd n = x := ⟨_, rfl⟩
    rw [hxx] at hx
    obtain ⟨v, lo, hi⟩ := x
    have hs : s.of n y = (v == y) := by
      unfold Md.of
      rw [hh, hxx]; simp; rfl
    rw [hs]
    obtain ⟨pa, na, nc, ra, rc, pu, sc, oc, h⟩ := h
    obtain ⟨g, cur, rfl, hg, hc, hlt, x0, x1, x2, hsz3, hex⟩ := h.no.at hx
    have hp := h.at_
    have c2 := h.cs.c2
    have hsz := h.cs.size
    have hpl := lt_of_heap hp
    have hgl := lt_of_heap hg
    have hl1 := hl.2
    have hl0 : 0 ≤ n - 2 := by omega
    have hN : n ≤ 1000000 := by
      have h1 := W.len
      have h2 := W.ar.lim
      have h3 := W.ar.most
      omega
    dsimp only at c2 hc hlt
    clear h A W hh hxx hx hl hs hn
    refine en3 Try.func135 Try.results135 mixed [] ?_
    intro e0 h0 h1 h2
    refine w_ fun d => ?_
    exact ⟨rfl, ext_⟩
  · have hs : s.of n y = false := by
      unfold Md.of
      rw [Md.has_no h2]; simp
    rw [hs]
    clear h A W hn hs
    refine en3 Try.func135 Try.results135 mixed [] ?_
    intro e0 h0 h1 h2
    refine w_ fun d => ?_
    exact ⟨rfl, ext_⟩
def chgB (s : Md) (x y n : Int) : Bool := decide ((s.nd n).1 = x) && (s.of (s.nd n).2.1 y || s.of (s.nd n).2.2 y)
theorem take_filter {f : Int → Bool} {l : List Int} {k : Nat} {n : Int} (h : l[k]? = some n) : (l.take (k + 1)).filter f = if f n then (l.take k).filter f ++ [n] else (l.take k).filter f := by
  rw [List.take_add_one, h, List.filter_append]
  cases hf : f n <;> simp [hf]
theorem stChanging_calls (h : StI own w p s []) (G : s.Good []) (x y : Int) : CallsR Try.prog 94 #[.pointer (some ⟨p, 0, none⟩), .int .i64 x, .int .i64 y] w fun r w' => ∃ a' cap', r = .slice a' (s.change x y).length cap' ∧ SlC w' 3 a' cap' (ints (s.change x y)) ∧ (∀ g, blk a' = some g → w.heap.size ≤ g) ∧ Ext w w' := by
  have W := G.wf
  have hN : s.N.length ≤ 20000 := by
    have h1 := W.len
    have h2 := W.ar.lim
    have h3 := W.ar.most
    omega
  have hal : s.all.length ≤ s.N.length := allTo_len (s := s) (k := s.N.length)
  refine en3 Try.func94 Try.results94 mixed [] ?_
  intro e0 h0 h1 h2
  refine w_ fun d => ?_
  refine (stAll_calls (h.ext ext_) W).mono ?_
  rintro _ w2 ⟨aA, cA, rfl, hSA, hnA, hEA⟩
  have hE : Ext w w2 := Ext.trans (by exact ext_) hEA
  have hb1 : w2.heap[w.heap.size]? = some (.cells #[.pointer (some ⟨p, 0, none⟩)] 24) := hEA.at (hA rfl)
  have hb2 : w2.heap[w.heap.size + 1]? = some (.cells #[.int .i64 y] 3) := hEA.at (hA rfl)
  have hI := h.ext hE
  have hsz := hE.size
  clear hEA hnA
  refine w_ fun d => ?_
  refine lo_ (fun W e w' => ∃ (k : Nat) (a' : Option Addr) (cap' : Nat) (m : List Int), k ≤ s.all.length ∧ e 16 = .int .i64 k ∧ e 7 = .slice a' m.length cap' ∧ SlC w' 3 a' cap' (ints m) ∧ (∀ g, blk a' = some g → w2.heap.size ≤ g) ∧ Box (m = (s.all.take k).filter (chgB s x y)) ∧ Ext w2 w') (fun e _ => s.all.length - nat (e 16)) ?_ ?_
  · exact ⟨0, none, 0, [], by omega, eA rfl, eA rfl, SlC.nil _ _, (fun g h => by cases h), ⟨rfl⟩, ext_⟩
  rintro e w1 hf ⟨k, a', cap', m, hk, h16, h7, hS, hn, ⟨hi⟩, hE2⟩
  have hs1 := sz_ hE2
  have hml : m.length ≤ k := by rw [hi]; exact Nat.le_trans (List.length_filter_le _ _) (by rw [List.length_take]; omega)
  by_cases hlt : k < s.all.length
  · obtain ⟨n, hn0⟩ : ∃ n, s.all[k]? = some n := ⟨s.all[k], List.getElem?_eq_getElem hlt⟩
    have hsc := take_filter (f := chgB s x y) hn0
    have hhas := W.mem_all.1 (List.mem_of_getElem? hn0)
    have hx := W.get hhas
    have hl := W.lt hhas
    have ok := G.node n hhas (by simp)
    obtain ⟨z, hz⟩ : ∃ z, s.nd n = z := ⟨_, rfl⟩
    have hcb : chgB s x y n = (decide (z.1 = x) && (s.of z.2.1 y || s.of z.2.2 y)) := by unfold chgB; rw [hz]
    have okl := ok.lo
    have okh := ok.hi
    rw [hz] at hx okl okh
    obtain ⟨v, lo, hi'⟩ := z
    dsimp only at hcb okl okh
    have th : ∀ c, s.below c v = true → c = 0 ∨ c = 1 ∨ s.has c = true := fun c hc => by
      rcases Md.below_iff.1 hc with e | e | e
      · exact .inl e
      · exact .inr (.inl e)
      · exact .inr (.inr e.1)
    have il := stIs_calls (hI.ext hE2) W lo y (th _ okl) (hE2.at hb1) (hE2.at hb2)
    have ih := stIs_calls (hI.ext hE2) W hi' y (th _ okh) (hE2.at hb1) (hE2.at hb2)
    obtain ⟨gA, curA, rfl, hgA, hcA, _, hatA⟩ := (hSA.ext hE2).at (i := k) (v := .int .i64 n) (by rw [List.getElem?_map, hn0]; rfl)
    rw [List.length_map] at hcA
    obtain ⟨R, M, c, hR, _⟩ := hI.ext hE2
    obtain ⟨pa, na, nc, ra, rc, pu, sc, oc, hX⟩ := hR
    obtain ⟨g, cur, rfl, hg, hc, hlt2, x0, x1, x2, hsz3, hex⟩ := hX.no.at hx
    have hp := hX.at_
    have c2 := hX.cs.c2
    have hscs := hX.cs.size
    have hpl := lt_of_heap hp
    have hgl := lt_of_heap hg
    have hb1' := hE2.at hb1
    have hb2' := hE2.at hb2
    have hbl1 := lt_of_heap hb1'
    have hl1 := hl.2
    have hl0 : 0 ≤ n - 2 := by omega
    have hN' : n ≤ 1000000 := by omega
    dsimp only at c2 hc hlt2
    have yes : chgB s x y n = true → ∃ a3 c3 w3, apR Try.prog 34 (.slice a' m.length cap') (.slice (some ⟨w1.heap.size, 0, none⟩) 1 1) (w1.alloc (.cells #[.int .i64 n] 3)) = .ok (.slice a3 (m.length + 1) c3) w3 → True := fun _ => ⟨none, 0, w1, fun _ => trivial⟩
    -- the list grows
    have grow : ∀ u, Ext w1 u → ∃ a3 c3 w3, apR Try.prog 34 (.slice a' m.length cap') (.slice (some ⟨u.heap.size, 0, none⟩) 1 1) (u.alloc (.cells #[.int .i64 n] 3)) = .ok (.slice a3 (m.length + 1) c3) w3 ∧ SlC w3 3 a3 c3 (ints (m ++ [n])) ∧ (∀ g, blk a3 = some g → w2.heap.size ≤ g) ∧ Ext w2 w3 := fun u hu => by
      obtain ⟨a3, c3, w3, hr, hS3, hC3, hs3, hB3⟩ := pushI (hS.ext hu) (by omega) n
      refine ⟨a3, c3, w3, hr, hS3, fun g hg => ?_, hC3.toExt (hE2.trans hu) fun g hg hb => by have := hn g hb; omega⟩
      have := (hE2.trans hu).size
      rcases hB3 g hg with h | ⟨h, _⟩
      · exact hn g h
      · omega
    clear yes hX hx hl ok okl okh th hz hn0 W G h hhas hSA hb1 hb2 hE
    by_cases hv : v = x
    · subst hv
      cases hl' : s.of lo y
      · rw [hl'] at il hcb
        cases hh' : s.of hi' y
        · rw [hh'] at ih hcb
          have hi2 : Box (m = (s.all.take (k + 1)).filter (chgB s v y)) := ⟨by rw [hsc, hcb, hi]; simp⟩
          clear hi hsc hcb hl' hh' grow
          refine w_ fun d => ?_
          refine qq il fun w5 hE5 hs5 => ?_
          refine w_ fun d => ?_
          refine qq ih fun w6 hE6 hs6 => ?_
          have hEz := Ext.trans hE2 (Ext.trans (by exact ext_) hE6 : Ext w1 w6)
          have hS6 := hS.ext (Ext.trans (by exact ext_) hE6 : Ext w1 w6)
          refine w_ fun d => ?_
          exact ⟨⟨k + 1, a', cap', m, by omega, eA rfl, eA rfl, hS6, hn, hi2, hEz⟩, mA⟩
        · rw [hh'] at ih hcb
          have hi2 : Box (m ++ [n] = (s.all.take (k + 1)).filter (chgB s v y)) := ⟨by rw [hsc, hcb, hi]; simp⟩
          clear hi hsc hcb hl' hh'
          refine w_ fun d => ?_
          refine qq il fun w5 hE5 hs5 => ?_
          refine w_ fun d => ?_
          refine qq ih fun w6 hE6 hs6 => ?_
          obtain ⟨a3, c3, w3, hr, hS3, hn3, hE3⟩ := grow w6 (Ext.trans (by exact ext_) hE6)
          clear grow
          refine w_ fun d => ?_
          exact ⟨⟨k + 1, a3, c3, m ++ [n], by omega, eA rfl, by rw [List.length_append]; exact eA rfl, hS3, hn3, hi2, hE3⟩, mA⟩
      · rw [hl'] at il hcb
        have hi2 : Box (m ++ [n] = (s.all.take (k + 1)).filter (chgB s v y)) := ⟨by rw [hsc, hcb, hi]; simp⟩
        clear hi hsc hcb hl' ih
        refine w_ fun d => ?_
        refine qq il fun w5 hE5 hs5 => ?_
        obtain ⟨a3, c3, w3, hr, hS3, hn3, hE3⟩ := grow w5 (Ext.trans (by exact ext_) hE5)
        clear grow
        refine w_ fun d => ?_
        exact ⟨⟨k + 1, a3, c3, m ++ [n], by omega, eA rfl, by rw [List.length_append]; exact eA rfl, hS3, hn3, hi2, hE3⟩, mA⟩
    · have hv' : (v == x) = false := by simpa using hv
      have hi2 : Box (m = (s.all.take (k + 1)).filter (chgB s x y)) := ⟨by rw [hsc, hcb, hi]; simp [hv]⟩
      have hSz := hS.ext ((Ext.refl w1).alloc (.cells #[.int .i64 v, .int .i64 lo, .int .i64 hi'] 39))
      clear hi hsc hcb grow il ih hv
      refine w_ fun d => ?_
      exact ⟨⟨k + 1, a', cap', m, by omega, eA rfl, eA rfl, hSz, hn, hi2, ext_⟩, mA⟩
  · obtain rfl : k = s.all.length := by omega
    rw [List.take_length] at hi
    subst hi
    refine w_ fun d => ?_
    exact ⟨a', cap', rfl, hS, fun g hg => by have := hn g hg; omega, ext_⟩
end
end Go.Proofs.Ytpeindhocndmnaa

namespace Go.Proofs.Ytpeindhocndmnaa
open Go Go.Bx
set_option linter.unusedSimpArgs false
set_option linter.unusedVariables false
set_option maxRecDepth 100000
set_option maxHeartbeats 4000000
attribute [local irreducible] X XO XE XF XD XW thenX inX retX kN CallsR
section
variable {own : Nat → Nat} {w w' w1 : World} {p : Nat} {s : Md} {but : List Int} {n v lo hi x y : Int} {R : List Int} {M : Nat → Ky → Option Int} {c : Nat → Int}
theorem ptr_rng (m n : Int) : 0 ≤ ptr s m n := by unfold ptr; have := b2_rng (decide ((s.nd n).2.1 = m)); have := b2_rng (decide ((s.nd n).2.2 = m)); omega
theorem ref_pointed (A : Agr s [] R M c) (W : s.WF) (hn : s.has n = true) : (0 < R.getD (n - 2).toNat 0) ↔ s.pointed n = true := by
  have hl := W.lt hn
  have e1 := A.ref (n - 2).toNat (by omega)
  have e2 : (((n - 2).toNat : Nat) : Int) + 2 = n := by omega
  rw [e2] at e1
  rw [e1]
  have hlive : s.live [] = s.all := by unfold Md.live; exact List.filter_eq_self.2 fun x _ => by simp
  rw [hlive]
  unfold Md.pointed
  constructor
  · intro h
    cases hp : s.all.any fun m => decide ((s.nd m).2.1 = n) || decide ((s.nd m).2.2 = n)
    · exfalso
      rw [List.any_eq_false] at hp
      have : sumF (ptr s n) s.all = sumF (fun _ => 0) s.all := sum_congr fun m hm => by
        have := hp m hm
        simp only [Bool.or_eq_true, decide_eq_true_eq, not_or] at this
        unfold ptr; simp [this.1, this.2, b2]
      rw [this] at h
      have h2 := sumF_le (fun _ : Int => (0 : Int)) 0 s.all fun _ _ => Int.le_refl _
      omega
    · rfl
  · intro h
    obtain ⟨m, hm, hh⟩ := List.any_eq_true.1 h
    have h1 := sumF_mem (ptr s n) s.all (fun x _ => ptr_rng n x) m hm
    have h2 : 1 ≤ ptr s n m := by
      unfold ptr
      have b1 := b2_rng (decide ((s.nd m).2.1 = n))
      have b3 := b2_rng (decide ((s.nd m).2.2 = n))
      rw [Bool.or_eq_true, decide_eq_true_eq, decide_eq_true_eq] at hh
      rcases hh with e | e
      · have : b2 (decide ((s.nd m).2.1 = n)) = 1 := by simp [e, b2]
        omega
      · have : b2 (decide ((s.nd m).2.2 = n)) = 1 := by simp [e, b2]
        omega
    omega
theorem below_idx (W : s.WF) (h : s.below n v = true) : (2 ≤ n → n - 2 < s.N.length) ∧ n - 2 < s.N.length := by
  have h1 := (Md.below_lt W h).2
  refine ⟨h1, ?_⟩
  by_cases h2 : 2 ≤ n
  · exact h1 h2
  · omega
theorem stFree_calls (h : StI own w p s []) (G : s.Good []) (hn : n ≤ 9223372036854775807) :
    CallsR Try.prog 86 #[.pointer (some ⟨p, 0, none⟩), .int .i64 n] w fun r w' => r = errV (s.free n).1 ∧ TrI own w p (s.free n).2 [] w' := by
  have W := G.wf
  obtain ⟨R, M, c, hR, A⟩ := id h
  have c1 := stHas_calls hR n hn
  rw [show (⟨s.a, s.N, R, s.ord, M, c⟩ : Raw).md = s from rfl] at c1
  unfold Md.free
  cases hh : s.has n
  · rw [hh] at c1
    rw [if_pos (.inl rfl)]
    clear hR A G W
    refine en2 Try.func86 Try.results86 mixed [] ?_
    intro e0 h0 h1
    refine w_ fun d => ?_
    refine qq c1 fun w1 hE1 hs1 => ?_
    refine w_ fun d => ?_
    exact ⟨rfl, TrI.of_ext h ext_⟩
  · rw [hh] at c1
    have hx := W.get hh
    have hl := W.lt hh
    have hpt := ref_pointed A W hh
    have hlen := A.len
    have hsm := A.small W (n - 2).toNat
    obtain ⟨r, hr⟩ : ∃ r, R[(n - 2).toNat]? = some r := ⟨R[(n - 2).toNat]'(by omega), List.getElem?_eq_getElem (by omega)⟩
    have hrd : R.getD (n - 2).toNat 0 = r := by rw [List.getD, hr]; rfl
    rw [hrd] at hpt hsm
    obtain ⟨pa, na, nc, ra, rc, pu, sc, oc, hX⟩ := id hR
    obtain ⟨g, cur, rfl, hg, hc, hlt, hat⟩ := hX.re.at (i := (n - 2).toNat) (v := .int .i64 r) (by rw [List.getElem?_map, hr]; rfl)
    have hp := hX.at_
    have c3 := hX.cs.c3
    have hsz := hX.cs.size
    have hpl := lt_of_heap hp
    have hgl := lt_of_heap hg
    have hl0 : 0 ≤ n - 2 := by omega
    have hl1 : n - 2 < R.length := by omega
    rw [List.length_map] at hc hlt
    dsimp only at c3 hc hlt
    have hN : s.N.length ≤ 20000 := by
      have h1 := W.len
      have h2 := W.ar.lim
      have h3 := W.ar.most
      omega
    have hn6 : n ≤ 1000000 := by omega
    cases hpd : s.pointed n
    · rw [hpd] at hpt
      have hr0 : ¬ 0 < r := fun h => by have := hpt.1 h; cases this
      rw [if_neg (by simp)]
      have hr0' : r ≤ 0 := by omega
      -- what is lifted
      obtain ⟨z, hz⟩ : ∃ z, s.nd n = z := ⟨_, rfl⟩
      have ok := G.node n hh (by simp)
      have okv := ok.var
      have okl := ok.lo
      have okh := ok.hi
      rw [hz] at hx okv okl okh
      obtain ⟨v, lo, hi⟩ := z
      dsimp only at okv okl okh
      have hvn : ((v.toNat : Nat) : Int) = v := by omega
      have hmap : M v.toNat (lo, hi) = some n := (A.map v.toNat (by omega) (lo, hi) n).2 ⟨hh, by simp, by rw [hz, hvn]⟩
      have il := below_idx W okl
      have ih := below_idx W okh
      have A1 := A.lift W hh (by simp) hz okv il.1 ih.1 (fun m hm _ hme => G.one m n hm (by simp) hh (by simp) (by rw [hme, hz]))
      have W2 := (W.drop hh).1
      have A2 := A1.same (s' := s.drop n) (but' := []) (R' := bump (bump R lo (-1)) hi (-1)) W W2 A1.len (fun m => by rw [Md.has_drop hh]; simp) (fun _ _ _ => rfl) (fun k hk => .inl ⟨hk, rfl⟩)
      have c4 := fun u (hu : Ext w u) => stLift_calls (hR.ext hu) (n := n) (v := v) (lo := lo) (hi := hi) (m := n) (by omega) hn6 hx hN okv hmap hlen il.2 ih.2 (A.small W)
      have hahas : s.a.has (n - 2) = true := Md.has_ar hh
      have hao := W.ar
      clear hpt hX hr hrd A A1 il ih okl okh hmap W2 ok G h hx hz
      refine en2 Try.func86 Try.results86 mixed [] ?_
      intro e0 h0 h1
      refine w_ fun d => ?_
      refine qq c1 fun w1 hE1 hs1 => ?_
      have hE1' : Ext w w1 := by assumption
      have hpe := hE1'.at hp
      refine w_ fun d => ?_
      refine (c4 _ hE1').mono ?_
      rintro _ w2 ⟨rfl, own2, hR2, ho2, hC2⟩
      obtain ⟨pa2, na2, nc2, ra2, rc2, pu2, sc2, oc2, hX2⟩ := hR2
      have hp2 := hX2.at_
      have c12 := hX2.cs.c1
      have hsz2 := hX2.cs.size
      have hg2 := arGive_calls hX2.ar hao (n - 2)
      rw [show ((⟨s.a, s.N, R, s.ord, M, c⟩ : Raw).lift (v, lo, hi)).a = s.a from rfl, hahas] at hg2
      simp only [↓reduceIte] at hg2
      clear c1 c4 hp c3 hpe hg hat
      refine w_ fun d => ?_
      refine hg2.mono ?_
      rintro _ w3 ⟨⟨rfl, hA3⟩, hC3⟩
      refine w_ fun d => ?_
      have hX3 := hX2.setAr (a := s.a.give (n - 2)) rfl hA3 hC3
      have hsz1 := hE1'.size
      have hsz3 := hC2.size
      refine ⟨rfl, ownUp own2 w2 w3 2, ⟨_, _, _, ⟨_, _, _, _, _, _, _, _, hX3⟩, A2⟩, fun k hk => ?_, ?_⟩
      · rw [ownUp_old (by omega), ho2 k (by omega)]
      · refine ((hE1'.chg (foot own)).trans hC2 fun _ _ h => h).trans (Chg.foot hC3 (by decide)) fun b hb hf => ?_
        unfold foot at hf ⊢
        rw [← ho2 b (by omega)]; exact hf
    · rw [hpd] at hpt
      have hr0 : 0 < r := hpt.2 rfl
      rw [if_pos (.inr rfl)]
      clear hpt hX hR hr hrd A G
      refine en2 Try.func86 Try.results86 mixed [] ?_
      intro e0 h0 h1
      refine w_ fun d => ?_
      refine qq c1 fun w1 hE1 hs1 => ?_
      refine w_ fun d => ?_
      exact ⟨rfl, TrI.of_ext h ext_⟩
end
end Go.Proofs.Ytpeindhocndmnaa

namespace Go.Proofs.Ytpeindhocndmnaa
open Go Go.Bx
set_option linter.unusedSimpArgs false
set_option linter.unusedVariables false
set_option maxRecDepth 100000
set_option maxHeartbeats 4000000
attribute [local irreducible] X XO XE XF XD XW thenX inX retX kN CallsR
section
variable {own own1 own2 : Nat → Nat} {w w' w1 w2 : World} {p : Nat} {s s0 s1 : Md} {but but' : List Int} {n v lo hi x y : Int} {R : List Int} {M : Nat → Ky → Option Int} {c : Nat → Int}
theorem StR.keep {s : Raw} (h : StR own w p s) (hne : ∀ k, own k ≠ 0 → w'.heap[k]? = w.heap[k]?) (hs : w.heap.size ≤ w'.heap.size) : StR own w' p s := by
  obtain ⟨pa, na, nc, ra, rc, pu, sc, oc, h⟩ := h
  have h1 := h.op
  exact ⟨pa, na, nc, ra, rc, pu, sc, oc, by rw [hne p (by omega)]; exact h.at_, h.cs, h.oc, h.op, h.ar.keep (fun k hk => hne k (by unfold owns at hk; omega)) hs, Sl.keep h.no fun g hg => hne g (by have := h.on g hg; omega), h.on, h.re.keep fun g hg => hne g (by have := h.or g hg; omega), h.or, fun v hv => (h.un v hv).keep (fun k hk => hne k (by unfold owns at hk; omega)) hs, fun k hk => Nat.lt_of_lt_of_le (h.lt k hk) hs⟩
theorem StI.chg0 {F : Nat → Prop} (h : StI own w p s but) (hC : Chg F w w') (hF : ∀ k, F k → own k = 0) : StI own w' p s but := by
  obtain ⟨R, M, c, h, A⟩ := h
  exact ⟨R, M, c, h.keep (fun k hk => hC.heap k (h.lt k hk) fun hf => hk (hF k hf)) hC.size, A⟩
theorem Agr.but_eq (A : Agr s but R M c) (W : s.WF) (hm : ∀ n, n ∈ but' ↔ n ∈ but) : Agr s but' R M c :=
  A.same W W A.len (fun n => by rw [hm]) (fun _ _ _ => rfl) fun k hk => .inl ⟨hk, rfl⟩
structure Sw (own : Nat → Nat) (w : World) (own' : Nat → Nat) (w' : World) : Prop where
  ho : ∀ k, k < w.heap.size → own' k = own k
  ch : Chg (foot own) w w'
theorem Sw.of_ext (hE : Ext w w') : Sw own w own w' := ⟨fun _ _ => rfl, hE.chg _⟩
theorem Sw.trans (h : Sw own w own1 w1) (k : Sw own1 w1 own2 w2) : Sw own w own2 w2 := by
  have hs := h.ch.size
  exact ⟨fun j hj => (k.ho j (by omega)).trans (h.ho j hj), h.ch.trans k.ch fun b hb hf => by unfold foot at hf ⊢; rw [← h.ho b hb]; exact hf⟩
theorem Sw.ext (h : Sw own w own1 w1) (hE : Ext w1 w2) : Sw own w own1 w2 := ⟨h.ho, h.ch.transE hE⟩
theorem Sw.out (h : Sw own w own1 w1) {k : Nat} (hk : k < w.heap.size) (h0 : own k = 0) : own1 k = 0 ∧ w1.heap[k]? = w.heap[k]? := ⟨(h.ho k hk).trans h0, h.ch.heap k hk fun hf => hf h0⟩
theorem Sw.chg0 {F : Nat → Prop} (h : Sw own w own1 w1) (hC : Chg F w1 w2) (hF : ∀ k, k < w.heap.size → ¬ F k) : Sw own w own1 w2 := ⟨h.ho, h.ch.trans hC fun b hb hf => (hF b hb hf).elim⟩
theorem StC.at_ord {sc oc : Array Value} {most : Int} {pa : Nat} {na ra : Option Addr} {nl nc rl rc : Nat} {pu : Nat → Nat} (h : StC sc most pa na nl nc ra rl rc pu oc) {ord : List Int} (ho : OrdC ord oc) {k : Nat} {x : Int} (hx : ord[k]? = some x) : sc[12 + k]? = some (.int .i64 x) := by
  have h1 := ho.at_ k x hx
  rw [← h.co] at h1
  rw [Array.getElem?_extract] at h1
  split at h1
  · exact h1
  · cases h1
theorem StX.setOrd {s : Raw} {pa : Nat} {na : Option Addr} {nc : Nat} {ra : Option Addr} {rc : Nat} {pu : Nat → Nat} {sc oc oc' : Array Value} (h : StX own w p s pa na nc ra rc pu sc oc) {ord' : List Int} (ho : OrdC ord' oc') :
    StX own (upd w p (.cells (wrN sc 12 oc'.toList) 120)) p { s with ord := ord' } pa na nc ra rc pu (wrN sc 12 oc'.toList) oc' := by
  have hpl := lt_of_heap h.at_
  have hne : ∀ k, own k ≠ 1 → (upd w p (.cells (wrN sc 12 oc'.toList) 120)).heap[k]? = w.heap[k]? := fun k hk => upd_other fun e => hk (by rw [← e]; exact h.op)
  have hs : w.heap.size ≤ (upd w p (.cells (wrN sc 12 oc'.toList) 120)).heap.size := by rw [upd_size]; exact Nat.le_refl _
  exact ⟨upd_same hpl, h.cs.setO ho.size, ho, h.op, h.ar.keep (fun k hk => hne k (by unfold owns at hk; omega)) hs, Sl.keep h.no fun g hg => hne g (by have := h.on g hg; omega), h.on, h.re.keep fun g hg => hne g (by have := h.or g hg; omega), h.or, fun v hv => (h.un v hv).keep (fun k hk => hne k (by unfold owns at hk; omega)) hs, fun k hk => by rw [upd_size]; exact h.lt k hk⟩
theorem stN_ord {p : Nat} {sc oc : Array Value} {E : TypeId} {w : World} (hs : sc.size = 20) (ho : oc.size = 8) : stN Try.prog p 12 (vcs (.agg oc)) w (some (.cells sc E (0, 0))) = .ok () (upd w p (.cells (wrN sc 12 oc.toList) E (0, 0))) :=
  stN_cells (by show 12 + oc.toList.length ≤ sc.size; rw [Array.length_toList]; omega)
theorem stSwap_calls (h : StI own w p s []) (G : s.Good []) (l : Int) :
    CallsR Try.prog 28 #[.pointer (some ⟨p, 0, none⟩), .int .i64 l] w fun r w' => r = errV (s.swap l).1 ∧ TrI own w p (s.swap l).2 [] w' := by
  have W := G.wf
  by_cases hl : 0 ≤ l ∧ l < 7
  rotate_left
  · have e : s.swap l = (1, s) := by unfold Md.swap; rw [if_pos (by omega)]
    rw [e]
    clear G W e
    by_cases h0' : 0 ≤ l
    · have h1' : ¬ l < 7 := fun h => hl ⟨h0', h⟩
      clear hl
      refine en2 Try.func28 Try.results28 mixed [] ?_
      intro e0 h0 h1
      refine w_ fun d => ?_
      exact ⟨rfl, TrI.of_ext h ext_⟩
    · clear hl
      refine en2 Try.func28 Try.results28 mixed [] ?_
      intro e0 h0 h1
      refine w_ fun d => ?_
      exact ⟨rfl, TrI.of_ext h ext_⟩
  obtain ⟨k, rfl⟩ := Int.eq_ofNat_of_zero_le hl.1
  have hk : k < 7 := by omega
  have hol := W.ord.len
  obtain ⟨x, hx⟩ : ∃ x, s.ord[k]? = some x := ⟨s.ord[k], List.getElem?_eq_getElem (by omega)⟩
  obtain ⟨y, hy⟩ : ∃ y, s.ord[k + 1]? = some y := ⟨s.ord[k + 1], List.getElem?_eq_getElem (by omega)⟩
  have gx : s.ord.getD k 0 = x := by rw [List.getD, hx]; rfl
  have gy : s.ord.getD (k + 1) 0 = y := by rw [List.getD, hy]; rfl
  have L : LvXY s k x y := ⟨hk, hx, hy⟩
  have hchl : (s.change x y).length ≤ 20000 := by
    have h1 := List.length_filter_le (fun n => decide ((s.nd n).1 = x) && (s.of (s.nd n).2.1 y || s.of (s.nd n).2.2 y)) s.all
    have h2 := W.len_all
    have h3 := W.ar.many_le
    have h4 := W.ar.most
    unfold Md.change; omega
  have hm0 := W.ar.many_le
  have hmo := W.ar.most
  have hroom : s.room = s.a.most - s.a.many := rfl
  have ch := fun u (hu : Ext w u) => stChanging_calls (h.ext hu) G x y
  have rm := fun u (hu : Ext w u) => stRoom_calls (h.ext hu) W
  have hI := h
  obtain ⟨R, M, c, hR, A⟩ := h
  obtain ⟨pa, na, nc, ra, rc, pu, sc, oc, hX⟩ := id hR
  have hp := hX.at_
  have hsz := hX.cs.size
  have ox := hX.cs.at_ord hX.oc hx
  have oy := hX.cs.at_ord hX.oc hy
  have hpl := lt_of_heap hp
  have hk1 : ((k : Int) + 1).toNat = k + 1 := by omega
  by_cases hfull : s.room < 2 * ((s.change x y).length : Int)
  · have e : s.swap k = (2, s) := by
      unfold Md.swap
      rw [if_neg (by omega), show ((k : Nat) : Int).toNat = k by omega, gx, gy, if_pos hfull]
    rw [e]
    clear e gx gy hx hy A hR G W L hX hl hm0 hmo
    refine en2 Try.func28 Try.results28 mixed [] ?_
    intro e0 h0 h1
    refine w_ fun d => ?_
    refine (ch _ ext_).mono ?_
    rintro _ w2 ⟨aC, cC, rfl, hSC, hnC, hEC⟩
    have hE2 : Ext w w2 := Ext.trans (by exact ext_) hEC
    have rm2 := rm _ hE2
    refine w_ fun d => ?_
    refine qq rm2 fun w3 hE3 hs3 => ?_
    have hE3w := hE2.trans hE3
    refine w_ fun d => ?_
    exact ⟨rfl, TrI.of_ext hI ext_⟩
  have e0 : s.swap k = (0, Md.swapGo x y (s.ordS k) (s.change x y)) := by
    unfold Md.swap
    rw [if_neg (by omega), show ((k : Nat) : Int).toNat = k by omega, gx, gy, if_neg hfull]
  have I0 := SwI.start G L (by omega)
  obtain ⟨CH, hCH⟩ : ∃ z, s.change x y = z := ⟨_, rfl⟩
  rw [hCH] at e0 ch I0 hfull hchl
  have hnd : CH.Nodup := by rw [← hCH]; exact List.Pairwise.filter _ Md.nodup_all
  have hmem : ∀ n ∈ CH, s.has n = true := fun n hn => by rw [← hCH] at hn; exact (W.mem_change.1 hn).1
  rw [e0]
  have hN : s.N.length ≤ 20000 := by
    have h1 := W.len
    have h2 := W.ar.lim
    omega
  obtain ⟨oc2, hoc2⟩ := ordC (ord := swp s.ord k) (by rw [swp_length]; exact hol)
  have hsw := swap_calls s.ord hol k
  rw [hoc2.agg] at hsw
  have hoz := hoc2.size
  have ho8 := hoc2.len8
  have hoce := hoc2.cell
  clear e0 gx gy hx hy hCH hX A hR hl
  refine en2 Try.func28 Try.results28 mixed [] ?_
  intro e0 h0 h1
  refine w_ fun d => ?_
  refine (ch _ ext_).mono ?_
  rintro _ w2 ⟨aC, cC, rfl, hSC, hnC, hEC⟩
  have hE2 : Ext w w2 := Ext.trans (by exact ext_) hEC
  have rm2 := rm _ hE2
  refine w_ fun d => ?_
  refine qq rm2 fun w3 hE3 hs3 => ?_
  have hE3w := hE2.trans hE3
  have hI3 := hI.ext hE3w
  have hSC3 := hSC.ext hE3
  have hnC3 : ∀ g, blk aC = some g → own g = 0 := fun g hg => by
    have h1 := hnC g hg
    simp only [dr_heap] at h1
    cases ho : own g with
    | zero => rfl
    | succ m => have := hI.lt g (by omega); omega
  clear ch rm rm2 hSC hnC hEC hE2 hE3 hp ox oy
  refine w_ fun d => ?_
  refine lo_ (fun W e u => ∃ (i : Nat) (own' : Nat → Nat) (aO : Option Addr) (cO : Nat) (m : List Nd), i ≤ CH.length ∧ e 53 = .int .i64 i ∧ e 8 = .slice aO m.length cO ∧ StI own' u p s ((CH.take i).reverse) ∧ Sw own w3 own' u ∧ SlN u aO cO m ∧ (∀ g, blk aO = some g → own' g = 0 ∧ w3.heap.size ≤ g) ∧ Box (m = (CH.take i).map s.nd)) (fun e _ => CH.length - nat (e 53)) ?_ ?_
  · exact ⟨0, own, none, 0, [], by omega, eA rfl, eA rfl, by simpa using hI3.ext ext_, Sw.of_ext ext_, Sl.nil _ _ _, (fun g h => by cases h), ⟨by simp⟩⟩
  rintro e u hf ⟨i, own', aO, cO, m, hi, h53, h8, hIu, hSw, hSO, hO, ⟨hm⟩⟩
  have hml : m.length = i := by rw [hm, List.length_map, List.length_take]; omega
  by_cases hlt : i < CH.length
  · obtain ⟨n, hn⟩ : ∃ n, CH[i]? = some n := ⟨CH[i], List.getElem?_eq_getElem hlt⟩
    have hSCu : SlC u 3 aC cC (ints CH) := hSC3.keep fun g hg => (hSw.out (hSC3.lt hg) (hnC3 g hg)).2
    obtain ⟨gC, curC, rfl, hgC, hcC, _, hatC⟩ := hSCu.at (i := i) (v := .int .i64 n) (by rw [List.getElem?_map, hn]; rfl)
    rw [List.length_map] at hcC
    have hhas := hmem n (List.mem_of_getElem? hn)
    have hnt : n ∉ (CH.take i).reverse := fun h => by
      rw [List.mem_reverse] at h
      obtain ⟨j, hj, he⟩ := List.getElem_of_mem h
      rw [List.getElem_take] at he
      rw [List.length_take] at hj
      have h2 : CH[i] = n := by rw [List.getElem?_eq_getElem hlt] at hn; exact Option.some.inj hn
      have := (List.getElem_inj (h₀ := by omega) (h₁ := hlt) hnd).1 (he.trans h2.symm)
      omega
    have hx := W.get hhas
    have hl := W.lt hhas
    have ok := G.node n hhas (by simp)
    obtain ⟨z, hz⟩ : ∃ z, s.nd n = z := ⟨_, rfl⟩
    have okv := ok.var
    have okl := ok.lo
    have okh := ok.hi
    rw [hz] at hx okv okl okh
    obtain ⟨v, lo, hi'⟩ := z
    dsimp only at okv okl okh
    have hvn : ((v.toNat : Nat) : Int) = v := by omega
    obtain ⟨R1, M1, c1, hR1, A1⟩ := hIu
    have hmap : M1 v.toNat (lo, hi') = some n := (A1.map v.toNat (by omega) (lo, hi') n).2 ⟨hhas, hnt, by rw [hz, hvn]⟩
    have il := below_idx W okl
    have ih := below_idx W okh
    have A2 := A1.lift W hhas hnt hz okv il.1 ih.1 (fun m hm _ hme => G.one m n hm (by simp) hhas (by simp) (by rw [hme, hz]))
    have lf := stLift_calls hR1 (n := n) (v := v) (lo := lo) (hi := hi') (m := n) (by omega) (by omega) hx hN okv hmap A1.len il.2 ih.2 (A1.small W)
    have htk : n :: (CH.take i).reverse = (CH.take (i + 1)).reverse := by rw [List.take_add_one, hn]; simp
    have hm2 : Box (m ++ [(v, lo, hi')] = (CH.take (i + 1)).map s.nd) := ⟨by rw [List.take_add_one, hn, List.map_append, hm]; simp [hz]⟩
    have hltC : (i : Int) < CH.length := by omega
    rw [htk] at A2
    have hmb : m.length ≤ 20000 := by omega
    clear hm hx hl ok okl okh il ih hmap hR1 A1 htk hz hn hnt hhas hml
    refine w_ fun d => ?_
    refine lf.mono ?_
    rintro _ u2 ⟨rfl, own2, hR2, ho2, hC2⟩
    have hSw1 : Sw own' u own2 u2 := ⟨ho2, hC2⟩
    have hI2 : StI own2 u2 p s ((CH.take (i + 1)).reverse) := ⟨_, _, _, hR2, A2⟩
    have hSO2 : SlN u2 aO cO m := Sl.keep hSO fun g hg => (hSw1.out (Sl.lt hSO hg) (hO g hg).1).2
    obtain ⟨a3, c3, u3, hr, hSO3, hC3, hs3', hB3⟩ := hSO2.push (by omega) (v, lo, hi')
    have hSw2 := hSw.trans hSw1
    have hO2 : ∀ g, blk aO = some g → own2 g = 0 ∧ w3.heap.size ≤ g := fun g hg => ⟨(hSw1.out (Sl.lt hSO hg) (hO g hg).1).1, (hO g hg).2⟩
    have hI3' := hI2.chg0 hC3 fun g hg => (hO2 g hg).1
    have hSw3 := hSw2.chg0 hC3 fun g hg hb => by have := (hO2 g hb).2; omega
    have hsw0 := hSw2.ch.size
    have hO3 : ∀ g, blk a3 = some g → own2 g = 0 ∧ w3.heap.size ≤ g := fun g hg => by
      rcases hB3 g hg with h | ⟨h, _⟩
      · exact hO2 g h
      · refine ⟨?_, by omega⟩
        cases ho : own2 g with
        | zero => rfl
        | succ m => have := hI2.lt g (by omega); omega
    dsimp only at hr
    clear hSO hSO2 hO hO2 hC3 hB3 hC2 hSw hSw1 hSw2 hI2 hR2 lf A2 ho2 hgC hatC hSCu
    refine w_ fun d => ?_
    exact ⟨⟨i + 1, own2, a3, c3, m ++ [(v, lo, hi')], by omega, eA rfl, by rw [List.length_append]; exact eA rfl, hI3', hSw3, hSO3, hO3, hm2⟩, mA⟩
  obtain rfl : i = CH.length := by omega
  rw [List.take_length] at hIu hm
  have hIu : StI own' u p s CH := by
    obtain ⟨R1, M1, c1, hR1, A1⟩ := hIu
    exact ⟨R1, M1, c1, hR1, A1.but_eq W fun n => by rw [List.mem_reverse]⟩
  obtain ⟨R1, M1, c1, hR1, A1⟩ := hIu
  obtain ⟨pa1, na1, nc1, ra1, rc1, pu1, sc1, oc1, hX1⟩ := hR1
  have hp1 := hX1.at_
  have hsz1 := hX1.cs.size
  have co1 := hX1.cs.co
  have hag := hX1.oc.agg
  dsimp only at hag
  rw [hag] at hsw
  have hX2 := fun u' (hE : Ext u u') => (hX1.ext hE).setOrd hoc2
  have stn := fun u' : World => stN_ord (p := p) (E := 120) (w := u') hsz1 hoz
  have hpl1 := lt_of_heap hp1
  clear hag
  refine w_ fun d => ?_
  refine qq hsw.quiet fun u2 hE2 hs2 => ?_
  have hp2 := hE2.at hp1
  refine w_ fun d => ?_
  refine at_w fun u4 hu4 => ?_
  have hX4 := hX2 u2 hE2
  rw [← hu4] at hX4
  dsimp only at hX4
  have hI4 : StI own' u4 p (s.ordS k) CH := ⟨R1, M1, c1, ⟨_, _, _, _, _, _, _, _, hX4⟩, ⟨A1.len, A1.ref, A1.map, A1.cnt⟩⟩
  have hop : own' p = 1 := hX1.op
  have hSw4 : Sw own w3 own' u4 := by
    have h1 := hSw.ext hE2
    refine ⟨h1.ho, ?_⟩
    rw [hu4]
    exact h1.ch.upd (fun _ => by unfold foot; rw [hI.op]; decide) _
  have hSC4 : SlC u4 3 aC cC (ints CH) := hSC3.keep fun g hg => (hSw4.out (hSC3.lt hg) (hnC3 g hg)).2
  have hC0 : ∀ g, blk aC = some g → own' g = 0 := fun g hg => (hSw4.out (hSC3.lt hg) (hnC3 g hg)).1
  have hO0 : ∀ g, blk aO = some g → own' g = 0 := fun g hg => (hO g hg).1
  have hSO4 : SlN u4 aO cO m := by
    rw [hu4]
    exact Sl.keep (Sl.ext hSO hE2) fun g hg => upd_other fun e => by have := hO0 g hg; rw [← e, hop] at this; cases this
  have hSww : Sw own w own' u4 := (Sw.of_ext hE3w).trans hSw4
  obtain ⟨fin, hfin⟩ : ∃ z, Md.swapGo x y (s.ordS k) CH = z := ⟨_, rfl⟩
  rw [hfin]
  have hmle : m.length = CH.length := by rw [hm, List.length_map]
  have hm' : ∀ i n, CH[i]? = some n → m[i]? = some (s.nd n) := fun i n hn => by rw [hm, List.getElem?_map, hn]; rfl
  obtain ⟨rx, ry, nxy⟩ := L.rng G
  clear hu4 hX4 hX2 hX1 hp2 hp1 hE2 hs2 hSw4 hSO hO hSw hSC3 hnC3 hI3 A1 stn hsz1 co1 hpl1 hsw hm hfull hs3 hE3w hIu hml
  clear u2
  refine lo_ (fun W e u => ∃ (i : Nat) (own2 : Nat → Nat) (si : Md), i ≤ CH.length ∧ e 75 = .int .i64 i ∧ StI own2 u p si (CH.drop i) ∧ Sw own' u4 own2 u ∧ Box (SwI s k x y si (CH.drop i) ∧ Md.swapGo x y si (CH.drop i) = fin)) (fun e _ => CH.length - nat (e 75)) ?_ ?_
  · exact ⟨0, own', s.ordS k, by omega, eA rfl, by rw [List.drop_zero]; exact hI4, Sw.of_ext ext_, ⟨by rw [List.drop_zero]; exact ⟨I0, hfin⟩⟩⟩
  rintro e u hf ⟨i, own2, si, hi, h75, hIu, hSw, ⟨I, hgo⟩⟩
  by_cases hlt : i < CH.length
  · obtain ⟨n, hn⟩ : ∃ n, CH[i]? = some n := ⟨CH[i], List.getElem?_eq_getElem hlt⟩
    have hdr : CH.drop i = n :: CH.drop (i + 1) := by
      rw [List.drop_eq_getElem_cons hlt]
      rw [List.getElem?_eq_getElem hlt] at hn
      rw [Option.some.inj hn]
    have hmi := hm' i n hn
    rw [hdr] at hIu I hgo
    have S := I.step G L
    obtain ⟨hn0, hvx, _, hnd'⟩ := I.rem n (by simp)
    have ok := G.node n hn0 (by simp)
    have okl := ok.lo
    have okh := ok.hi
    obtain ⟨z, hz⟩ : ∃ z, s.nd n = z := ⟨_, rfl⟩
    rw [hz] at hvx okl okh hmi hnd'
    obtain ⟨v, Lo, Hi⟩ := z
    dsimp only at hvx okl okh
    subst hvx
    have sL := fun b => I.side G L okl b
    have sH := fun b => I.side G L okh b
    have Wi := I.good.wf
    have a1 := (Md.below_lt Wi (sL false).1).1
    have a2 := (Md.below_lt Wi (sH false).1).1
    have a3 := (Md.below_lt Wi (sL true).1).1
    have a4 := (Md.below_lt Wi (sH true).1).1
    have q1 : si.mk' (n :: CH.drop (i + 1)) v (si.side Lo y false) (si.side Hi y false) = si.step1 (n :: CH.drop (i + 1)) v y n := by unfold Md.step1; rw [hnd']
    have q2 : (si.step1 (n :: CH.drop (i + 1)) v y n).2.mk' (n :: CH.drop (i + 1)) v (si.side Lo y true) (si.side Hi y true) = si.step2 (n :: CH.drop (i + 1)) v y n := by
      unfold Md.step2; rw [hnd', (Md.side_le S.l1 (sL true).2.2.1 true).1, (Md.side_le S.l1 (sH true).2.2.1 true).1]
    have sd1 := stSides_calls hIu Wi Lo y (sL true).2.2.1
    have sd2 := stSides_calls hIu Wi Hi y (sH true).2.2.1
    have mk1 := fun u' (hE : Ext u u') => stMk_calls (v := v) (hIu.ext hE) I.good (lo := si.side Lo y false) (hi := si.side Hi y false) (by omega) (by omega)
    have mk2 := fun u' o (hh : StI o u' p (si.step1 (n :: CH.drop (i + 1)) v y n).2 (n :: CH.drop (i + 1))) => stMk_calls (v := v) hh S.g1 (lo := si.side Lo y true) (hi := si.side Hi y true) (by omega) (by omega)
    rw [q1, S.e1, errV0] at mk1
    rw [q2, S.e2, errV0] at mk2
    have hgo' : Md.swapGo v y (si.swapStep (n :: CH.drop (i + 1)) v y n) (CH.drop (i + 1)) = fin := hgo
    have hbox : Box (SwI s k v y (si.swapStep (n :: CH.drop (i + 1)) v y n) (CH.drop (i + 1)) ∧ Md.swapGo v y (si.swapStep (n :: CH.drop (i + 1)) v y n) (CH.drop (i + 1)) = fin) := ⟨S.next, hgo'⟩
    have hst : si.swapStep (n :: CH.drop (i + 1)) v y n = (si.step2 (n :: CH.drop (i + 1)) v y n).2.lay n (y, (si.step1 (n :: CH.drop (i + 1)) v y n).1.1, (si.step2 (n :: CH.drop (i + 1)) v y n).1.1) := rfl
    have S2 := S.g2
    have Sf := S.fresh
    have Slo := S.lo
    have Shi := S.hi
    have hnr : n ∉ CH.drop (i + 1) := (List.nodup_cons.1 I.nodup).1
    obtain ⟨a, ha⟩ : ∃ a, si.side Lo y false = a := ⟨_, rfl⟩
    obtain ⟨b, hb⟩ : ∃ b, si.side Hi y false = b := ⟨_, rfl⟩
    obtain ⟨c', hc'⟩ : ∃ c', si.side Lo y true = c' := ⟨_, rfl⟩
    obtain ⟨d', hd'⟩ : ∃ d', si.side Hi y true = d' := ⟨_, rfl⟩
    rw [ha, hc'] at sd1
    rw [hb, hd'] at sd2
    rw [ha, hb] at mk1
    rw [hc', hd'] at mk2
    generalize si.swapStep (n :: CH.drop (i + 1)) v y n = sn at hst hbox hgo'
    generalize si.step2 (n :: CH.drop (i + 1)) v y n = r2 at mk2 hst S2 Sf Slo Shi
    generalize si.step1 (n :: CH.drop (i + 1)) v y n = r1 at mk1 mk2 hst Sf Slo
    obtain ⟨⟨o1, z1⟩, t1⟩ := r1
    obtain ⟨⟨o2, z2⟩, t2⟩ := r2
    dsimp only at mk1 mk2 hst S2 Sf Slo Shi
    have hhas2 : t2.has n = true := S2.sub n (by simp)
    have W2 := S2.wf
    have hl2 := W2.lt hhas2
    have hN2 : t2.N.length ≤ 20000 := by
      have h1 := W2.len
      have h2 := W2.ar.lim
      have h3 := W2.ar.most
      omega
    have idx : ∀ o, (o = 0 ∨ o = 1 ∨ t2.has o = true) → (2 ≤ o → o - 2 < (t2.N.length : Int)) ∧ o - 2 < (t2.N.length : Int) := fun o ho => by
      rcases ho with e | e | e
      · omega
      · omega
      · have := W2.lt e; omega
    have i1 := idx o1 Slo
    have i2 := idx o2 Shi
    have hvy : ((y.toNat : Nat) : Int) = y := by omega
    -- the last step
    have last : ∀ {o : Nat → Nat} {u' : World}, StI o u' p t2 (n :: CH.drop (i + 1)) → CallsR Try.prog 98 #[.pointer (some ⟨p, 0, none⟩), .int .i64 n, .agg #[.int .i64 y, .int .i64 o1, .int .i64 o2]] u' fun _ w' => TrI o u' p sn (CH.drop (i + 1)) w' := by
      rintro o u' ⟨R6, M6, c6, hR6, A6⟩
      have hcl := A6.cnt_le W2 (v := y.toNat) (by omega)
      have hll := live_lt (but := n :: CH.drop (i + 1)) W2 hhas2 (by simp)
      have hmm := W2.ar.many_le
      have hmo := W2.ar.most
      have hno : M6 y.toNat (o1, o2) = none := by
        cases hM : M6 y.toNat (o1, o2) with
        | none => rfl
        | some q =>
          obtain ⟨e1, e2, e3⟩ := (A6.map y.toNat (by omega) (o1, o2) q).1 hM
          rw [hvy] at e3
          exact absurd e3 (Sf q e1 e2)
      have A7 := A6.lay W2 hhas2 hnr ry i1.1 i2.1 Sf
      refine (stLay_calls hR6 (n := n) (v := y) (lo := o1) (hi := o2) (by omega) (by show n - 2 < (t2.N.length : Int); omega) hN2 ry hno (by show c6 y.toNat ≤ 19999; omega) A6.len i1.2 i2.2 (A6.small W2)).mono ?_
      rintro _ w' ⟨own7, h7, ho7, hC7⟩
      rw [hst]
      exact ⟨own7, ⟨_, _, _, h7, A7⟩, ho7, hC7⟩
    have hSCu : SlC u 3 aC cC (ints CH) := hSC4.keep fun g hg => (hSw.out (hSC4.lt hg) (hC0 g hg)).2
    have hSOu : SlN u aO cO m := Sl.keep hSO4 fun g hg => (hSw.out (Sl.lt hSO4 hg) (hO0 g hg)).2
    obtain ⟨gC, curC, rfl, hgC, hcC, _, hatC⟩ := hSCu.at (i := i) (v := .int .i64 n) (by rw [List.getElem?_map, hn]; rfl)
    rw [List.length_map] at hcC
    obtain ⟨gO, curO, rfl, hgO, hcO, hlO, xO0, xO1, xO2, hszO, _⟩ := hSOu.at hmi
    have hglC := lt_of_heap hgC
    have hglO := lt_of_heap hgO
    have hltC : (i : Int) < CH.length := by omega
    have hltO : (i : Int) < m.length := by omega
    clear hSCu hSOu hmi hdr S I sL sH Wi q1 q2 ok okl okh hz hnd' hn0 hn hst S2 Sf Slo Shi hnr hhas2 W2 hl2 hN2 idx i1 i2 hvy a1 a2 a3 a4 hgo hgo' ha hb hc' hd' hmle
    refine w_ fun d => ?_
    refine qq sd1 fun u5 hE5 hs5 => ?_
    have hg5 := hE5.at hgO
    have hgl5 := lt_of_heap hg5
    refine w_ fun d => ?_
    refine qq sd2 fun u6 hE6 hs6 => ?_
    have hE6u := hE5.trans hE6
    refine w_ fun d => ?_
    refine (mk1 _ hE6u).mono ?_
    rintro _ u7 ⟨rfl, own7, hI7, ho7, hC7⟩
    have hSw7 := (hSw.ext hE6u).trans ⟨ho7, hC7⟩
    refine w_ fun d => ?_
    refine (mk2 _ _ hI7).mono ?_
    rintro _ u8 ⟨rfl, own8, hI8, ho8, hC8⟩
    have hSw8 := hSw7.trans ⟨ho8, hC8⟩
    refine w_ fun d => ?_
    refine (last hI8).mono ?_
    rintro _ u9 ⟨own9, hI9, ho9, hC9⟩
    have hSw9 := hSw8.trans ⟨ho9, hC9⟩
    refine w_ fun d => ?_
    exact ⟨⟨i + 1, own9, sn, by omega, eA rfl, hI9, hSw9, hbox⟩, mA⟩
  · obtain rfl : i = CH.length := by omega
    rw [List.drop_length] at hIu hgo
    have hff : si = fin := hgo
    subst hff
    have hSwf := hSww.trans hSw
    clear I hgo
    refine w_ fun d => ?_
    exact ⟨rfl, own2, hIu, hSwf.ho, hSwf.ch⟩
end
end Go.Proofs.Ytpeindhocndmnaa

namespace Go.Proofs.Ytpeindhocndmnaa
open Go Go.Bx
set_option linter.unusedSimpArgs false
set_option linter.unusedVariables false
set_option maxRecDepth 100000
set_option maxHeartbeats 4000000
attribute [local irreducible] X XO XE XF XD XW thenX inX retX kN CallsR
theorem wo_last {R : List Int} {n : Int} (h : (R ++ [n]).Nodup) : wo (R ++ [n]) n = R := by
  rw [List.nodup_append] at h
  unfold wo
  rw [List.filter_append]
  have e1 : R.filter (fun x => decide (x ≠ n)) = R := List.filter_eq_self.2 fun x hx => by
    have := h.2.2 x hx n (by simp)
    simpa using this
  rw [e1]; simp
theorem mem_wo {l : List Int} {n m : Int} : m ∈ wo l n ↔ m ∈ l ∧ m ≠ n := by unfold wo; rw [List.mem_filter]; simp
theorem nodup_wo {l : List Int} {n : Int} (h : l.Nodup) : (wo l n).Nodup := List.Pairwise.filter _ h
theorem nodup_add {l : List Int} {n : Int} (h : l.Nodup) (hn : n ∉ l) : (l ++ [n]).Nodup := by
  rw [List.nodup_append]
  exact ⟨h, by simp, fun x hx y hy e => by rw [List.mem_singleton] at hy; subst hy; subst e; exact hn hx⟩
theorem raNew_box {most : Int} {w : World} : RaI (fun k => k = w.heap.size) (w.alloc (.cells #[.int .i64 most, .slice none 0 0, .slice none 0 0, .int .i64 0] 169)) w.heap.size ⟨most, [], []⟩ :=
  ⟨[], none, 0, none, 0, hA rfl, SlC.nil _ _, SlC.nil _ _, rfl, (fun g h => by cases h), (fun g h => by cases h), (fun g h => by cases h), fun k hk => by rw [hk, alloc_size]; omega, List.nodup_nil, fun n => by unfold Ar.has; simp⟩
theorem raTake_calls {F : Nat → Prop} {w : World} {p : Nat} {a : Ar} (h : RaI F w p a) (ho : a.OK) :
    CallsR Try.prog 147 #[.pointer (some ⟨p, 0, none⟩)] w fun r w' => ∃ b, ((∃ n, a.take = some (n, b) ∧ r = .tuple #[.int .i64 n, .int .i64 0]) ∨ (a.take = none ∧ b = a ∧ r = .tuple #[.int .i64 0, .int .i64 2])) ∧ RaI (Grow F w w') w' p b ∧ Chg F w w' := by
  obtain ⟨K, ta, tc, fa, fc, h⟩ := id h
  have hKl := h.len ho
  have hKm := ho.many_le
  have hrm := ho.room
  have htk := fun n b => ho.taken (n := n) (b := b)
  obtain ⟨hp, hT, hF, fp, ft, ff, dj, hlt, hnd, hmem⟩ := h
  have hlim := ho.lim
  have hmost := ho.most
  have hpl := lt_of_heap hp
  have hKb : K.length ≤ 20000 := by omega
  have hfl := ho.frlen
  have hFnd := ho.nodup
  have hk := ho.takes
  clear ho
  generalize a.take = o at hk hrm htk
  have hta : ∀ g, blk ta = some g → g ≠ p := fun g hg => hT.ne hg hp (by decide)
  have hfa : ∀ g, blk fa = some g → g ≠ p := fun g hg => hF.ne hg hp (by decide)
  cases hk with
  | full hFr hm =>
    have e1 : ((K.length : Int) == a.most) = true := by simpa using hKl.trans (hrm.1 rfl)
    clear hrm htk hFr hm hKl
    refine en1 Try.func147 Try.results147 mixed [] ?_
    intro e0 h0
    refine w_ fun d => ?_
    exact ⟨a, .inr (by simp), RaI.grown (w := w) ⟨K, ta, tc, fa, fc, hp, hT, hF, fp, ft, ff, dj, hlt, hnd, hmem⟩ ext_, chg_⟩
  | back R n hFr h0' h1' hf =>
    have e1 : ((K.length : Int) == a.most) = false := by
      have : ¬ (K.length : Int) = a.most := fun e => by have := hrm.2 (hKl.symm.trans e); cases this
      simpa using this
    obtain ⟨_, _, _, _, _, _, hb7, _⟩ := htk n _ rfl
    have hnK : n ∉ K := fun hm => by have := (hmem n).1 hm; rw [hf] at this; cases this
    have hK2 := nodup_add hnd hnK
    have e2 : a.Fr.length = R.length + 1 := by rw [hFr]; simp
    rw [hFr] at hF hFnd
    rw [e2] at hp
    obtain ⟨g, cur, rfl, hg, hc, _, hat⟩ := hF.at (i := R.length) (v := .int .i64 n) (by simp)
    have hgp : g ≠ p := hfa g rfl
    have hwo := wo_last hFnd
    have hin := hF.inp
    have c1 := fun u (hu : Ext w u) => rwo_calls (c := fc) (Inp.ext hin hu) (by simp; omega) n
    rw [hwo, List.length_append, List.length_singleton] at c1
    have e3 : (R.length : Int) + 1 - 1 = R.length := by omega
    rw [List.length_map, List.length_append, List.length_singleton] at hc
    clear hwo hin hFr hFnd hrm htk hKl
    refine en1 Try.func147 Try.results147 mixed [] ?_
    intro e0 h0
    refine w_ fun d => ?_
    refine (c1 _ ext_).mono ?_
    rintro _ w2 ⟨a2, c2, rfl, hS2, hn2, hE2⟩
    have hEw : Ext w w2 := Ext.trans (by exact ext_) hE2
    have hs2 := sz_ hEw
    have hp2 := hEw.at hp
    have hpl2 := lt_of_heap hp2
    have hS2p : ∀ x, blk a2 = some x → x ≠ p := fun x hx => by have := hn2 x hx; simp only [dr_heap] at this; omega
    obtain ⟨C, hC⟩ : ∃ C, (#[.int .i64 a.most, .slice ta K.length tc, .slice a2 R.length c2, .int .i64 a.T.length] : Array Value) = C := ⟨_, rfl⟩
    have hT2 := (hT.ext hEw).upd (b := p) (o := .cells C 169) hta
    have hS3 := hS2.upd (b := p) (o := .cells C 169) hS2p
    obtain ⟨a3, c3, w3, hr, hT3, hC3, hs3, hB3⟩ := pushI hT2 (by omega) n
    simp only [upd_size] at hr hs3 hB3
    subst hC
    have hp3 : w3.heap[p]? = some (.cells #[.int .i64 a.most, .slice ta K.length tc, .slice a2 R.length c2, .int .i64 a.T.length] 169) := by
      rw [hC3.heap _ (by simp only [upd_size]; exact hpl2) fun h => hta p h rfl]; exact upd_same hpl2
    have hpl3 := lt_of_heap hp3
    have hta2 : ∀ x, blk ta = some x → blk a2 ≠ some x := fun x hx h2 => by have := hn2 x h2; simp only [dr_heap] at this; have := hT.lt hx; omega
    have hS4 := hS3.chg hC3 fun x hx h2 => hta2 x h2 hx
    have hCw := ((hEw.chg F).upd (b := p) (fun _ => fp) (.cells #[.int .i64 a.most, .slice ta K.length tc, .slice a2 R.length c2, .int .i64 a.T.length] 169)).trans hC3 fun b _ hb => ft b hb
    have hn2' : ∀ x, blk a2 = some x → w.heap.size ≤ x := fun x hx => by have := hn2 x hx; simpa only [dr_heap] using this
    have hS2l : ∀ x, blk a2 = some x → x < w3.heap.size := fun x hx => hS4.lt hx
    clear hC3 hT2 hS3 hE2 c1 hn2
    refine w_ fun d => ?_
    have ha3 : ∀ g, blk a3 = some g → g ≠ p := fun g hg => hT3.ne hg hp3 (by decide)
    refine ⟨_, .inl ⟨_, rfl, rfl⟩, ⟨K ++ [n], a3, c3, a2, c2, ?_, hT3.upd ha3, hS4.upd hS2p, .inl fp, fun g hg => ?_, fun g hg => ?_, fun g hg h2 => ?_, fun k hk => ?_, hK2, fun m => ?_⟩, chg_⟩
    · rw [show (K ++ [n]).length = K.length + 1 by simp, show (a.takeB n R).T.length = a.T.length by simp [Ar.takeB]]
      exact hA rfl
    · rcases hB3 g hg with h | ⟨h, h'⟩
      · exact .inl (ft g h)
      · exact .inr ⟨by omega, by simp only [upd_size]; exact h'⟩
    · exact .inr ⟨hn2' g hg, by simp only [upd_size]; exact hS2l g hg⟩
    · rcases hB3 g hg with h | ⟨h, h'⟩
      · exact hta2 g h h2
      · have := hS2.lt h2; omega
    · rcases hk with hk | hk
      · have := hlt k hk; simp only [upd_size]; omega
      · exact hk.2
    · rw [hb7 m, List.mem_append, List.mem_singleton, hmem, Bool.or_eq_true, decide_eq_true_eq]
  | new hFr hm =>
    have e1 : ((K.length : Int) == a.most) = false := by
      have : ¬ (K.length : Int) = a.most := fun e => by have := hrm.2 (hKl.symm.trans e); cases this
      simpa using this
    obtain ⟨_, _, _, hno, _, _, hb7, _⟩ := htk _ _ rfl
    have hnK : (a.T.length : Int) ∉ K := fun hm => by have := (hmem _).1 hm; rw [hno] at this; cases this
    have hK2 := nodup_add hnd hnK
    have e2 : a.Fr.length = 0 := by rw [hFr]; rfl
    rw [hFr] at hF
    rw [e2] at hp
    clear hFr hFnd hrm htk hKl hno hnK
    refine en1 Try.func147 Try.results147 mixed [] ?_
    intro e0 h0
    refine w_ fun d => ?_
    have hEw : Ext w (dr w d) := ext_
    obtain ⟨C, hC⟩ : ∃ C, (#[.int .i64 a.most, .slice ta K.length tc, .slice fa 0 fc, .int .i64 (a.T.length + 1)] : Array Value) = C := ⟨_, rfl⟩
    have hT2 := (hT.ext hEw).upd (b := p) (o := .cells C 169) hta
    have hS3 := (hF.ext hEw).upd (b := p) (o := .cells C 169) hfa
    obtain ⟨a3, c3, w3, hr, hT3, hC3, hs3, hB3⟩ := pushI hT2 (by omega) a.T.length
    simp only [upd_size, dr_heap] at hr hs3 hB3
    subst hC
    have hp3 : w3.heap[p]? = some (.cells #[.int .i64 a.most, .slice ta K.length tc, .slice fa 0 fc, .int .i64 (a.T.length + 1)] 169) := by
      rw [hC3.heap _ (by simp only [upd_size, dr_heap]; exact hpl) fun h => hta p h rfl]; exact upd_same hpl
    have hpl3 := lt_of_heap hp3
    have hS4 := hS3.chg hC3 fun x hx h2 => dj x h2 hx
    have hCw := ((hEw.chg F).upd (b := p) (fun _ => fp) (.cells #[.int .i64 a.most, .slice ta K.length tc, .slice fa 0 fc, .int .i64 (a.T.length + 1)] 169)).trans hC3 fun b _ hb => ft b hb
    simp only [upd_dr, alloc_dr] at hr
    clear hC3 hT2 hS3 hEw
    refine w_ fun d => ?_
    have ha3 : ∀ g, blk a3 = some g → g ≠ p := fun g hg => hT3.ne hg hp3 (by decide)
    refine ⟨_, .inl ⟨_, rfl, rfl⟩, ⟨K ++ [(a.T.length : Int)], a3, c3, fa, fc, ?_, hT3.upd ha3, hS4.upd hfa, .inl fp, fun g hg => ?_, fun g hg => .inl (ff g hg), fun g hg h2 => ?_, fun k hk => ?_, hK2, fun m => ?_⟩, chg_⟩
    · rw [show (K ++ [(a.T.length : Int)]).length = K.length + 1 by simp, show ((a.takeN.T.length : Nat) : Int) = a.T.length + 1 by simp [Ar.takeN]]
      exact hA rfl
    · rcases hB3 g hg with h | ⟨h, h'⟩
      · exact .inl (ft g h)
      · exact .inr ⟨by omega, by simp only [upd_size]; exact h'⟩
    · rcases hB3 g hg with h | ⟨h, h'⟩
      · exact dj g h h2
      · have := hlt g (ff g h2); omega
    · rcases hk with hk | hk
      · have := hlt k hk; simp only [upd_size]; omega
      · exact hk.2
    · rw [hb7 m, List.mem_append, List.mem_singleton, hmem, Bool.or_eq_true, decide_eq_true_eq]
theorem raGive_calls {F : Nat → Prop} {w : World} {p : Nat} {a : Ar} (h : RaI F w p a) (ho : a.OK) (n : Int) :
    CallsR Try.prog 134 #[.pointer (some ⟨p, 0, none⟩), .int .i64 n] w fun r w' => (if a.has n then r = .int .i64 0 ∧ RaI (Grow F w w') w' p (a.give n) else r = .int .i64 1 ∧ RaI (Grow F w w') w' p a) ∧ Chg F w w' := by
  obtain ⟨K, ta, tc, fa, fc, h'⟩ := id h
  have hKl := h'.len ho
  have hKm := ho.many_le
  obtain ⟨hp, hT, hF, fp, ft, ff, dj, hlt, hnd, hmem⟩ := h'
  have hmost := ho.most
  have hlim := ho.lim
  have hfl := ho.frlen
  have hpl := lt_of_heap hp
  have hKb : K.length ≤ 20000 := by omega
  have hta : ∀ g, blk ta = some g → g ≠ p := fun g hg => hT.ne hg hp (by decide)
  have hfa : ∀ g, blk fa = some g → g ≠ p := fun g hg => hF.ne hg hp (by decide)
  have hgv := fun m (hn : a.has n = true) => Ar.has_give (m := m) hn
  have c1 := rin4_calls (c := tc) (a := ta) (l := K) (w := w) hT.inp (by omega) n
  have e : decide (n ∈ K) = a.has n := by
    have := hmem n
    cases hh : a.has n <;> rw [hh] at this <;> simpa using this
  rw [e] at c1
  clear e hKl ho
  cases hh : a.has n
  · rw [hh] at c1
    simp only [Bool.false_eq_true, ↓reduceIte]
    refine en2 Try.func134 Try.results134 mixed [] ?_
    intro e0 h0 h1
    refine w_ fun d => ?_
    refine callQ c1.call fun w1 hE1 hs1 => ?_
    refine w_ fun d => ?_
    exact ⟨⟨rfl, h.grown hE1⟩, chg_⟩
  · rw [hh] at c1
    simp only [↓reduceIte]
    have hgv := fun m => hgv m hh
    have c2 := fun u (hu : Ext w u) => rwo_calls (c := tc) (l := K) (Inp.ext hT.inp hu) (by omega) n
    clear h
    refine en2 Try.func134 Try.results134 mixed [] ?_
    intro e0 h0 h1
    refine w_ fun d => ?_
    refine callQ c1.call fun w1 hE1 hs1 => ?_
    refine w_ fun d => ?_
    refine (c2 _ (by assumption)).mono ?_
    rintro _ w2 ⟨a2, c2, rfl, hS2, hn2, hE2⟩
    have hEw : Ext w w2 := Ext.trans (by assumption) hE2
    have hs2 := sz_ hEw
    have hp2 := hEw.at hp
    have hpl2 := lt_of_heap hp2
    have hn2' : ∀ x, blk a2 = some x → w.heap.size ≤ x := fun x hx => by have := hn2 x hx; omega
    have hS2p : ∀ x, blk a2 = some x → x ≠ p := fun x hx => by have := hn2' x hx; omega
    obtain ⟨C, hC⟩ : ∃ C, (#[.int .i64 a.most, .slice a2 (wo K n).length c2, .slice fa a.Fr.length fc, .int .i64 a.T.length] : Array Value) = C := ⟨_, rfl⟩
    have hT2 := (hF.ext hEw).upd (b := p) (o := .cells C 169) hfa
    have hS3 := hS2.upd (b := p) (o := .cells C 169) hS2p
    obtain ⟨a3, c3, w3, hr, hT3, hC3, hs3, hB3⟩ := pushI hT2 (by omega) n
    simp only [upd_size] at hr hs3 hB3
    subst hC
    have hp3 : w3.heap[p]? = some (.cells #[.int .i64 a.most, .slice a2 (wo K n).length c2, .slice fa a.Fr.length fc, .int .i64 a.T.length] 169) := by
      rw [hC3.heap _ (by simp only [upd_size]; exact hpl2) fun h => hfa p h rfl]; exact upd_same hpl2
    have hpl3 := lt_of_heap hp3
    have hta2 : ∀ x, blk fa = some x → blk a2 ≠ some x := fun x hx h2 => by have := hn2' x h2; have := hF.lt hx; omega
    have hS4 := hS3.chg hC3 fun x hx h2 => hta2 x h2 hx
    have hCw := ((hEw.chg F).upd (b := p) (fun _ => fp) (.cells #[.int .i64 a.most, .slice a2 (wo K n).length c2, .slice fa a.Fr.length fc, .int .i64 a.T.length] 169)).trans hC3 fun b _ hb => ff b hb
    have hS2l : ∀ x, blk a2 = some x → x < w3.heap.size := fun x hx => hS4.lt hx
    clear hC3 hT2 hS3 hE2 c1 hn2
    refine w_ fun d => ?_
    have ha3 : ∀ g, blk a3 = some g → g ≠ p := fun g hg => hT3.ne hg hp3 (by decide)
    refine ⟨⟨rfl, wo K n, a2, c2, a3, c3, ?_, hS4.upd hS2p, ?_, .inl fp, fun g hg => ?_, fun g hg => ?_, fun g hg h2 => ?_, fun k hk => ?_, nodup_wo hnd, fun m => ?_⟩, chg_⟩
    · rw [show (a.give n).Fr.length = a.Fr.length + 1 by simp [Ar.give], show (a.give n).T.length = a.T.length by simp [Ar.give]]
      exact hA rfl
    · rw [show (a.give n).Fr = a.Fr ++ [n] by simp [Ar.give]]
      exact hT3.upd ha3
    · exact .inr ⟨hn2' g hg, by simp only [upd_size]; exact hS2l g hg⟩
    · rcases hB3 g hg with h | ⟨h, h'⟩
      · exact .inl (ff g h)
      · exact .inr ⟨by omega, by simp only [upd_size]; exact h'⟩
    · rcases hB3 g h2 with h | ⟨h, h'⟩
      · exact hta2 g h hg
      · have := hS2.lt hg; omega
    · rcases hk with hk | hk
      · have := hlt k hk; simp only [upd_size]; omega
      · exact hk.2
    · rw [hgv m, mem_wo, hmem, Bool.and_eq_true]; simp
end Go.Proofs.Ytpeindhocndmnaa

namespace Go.Proofs.Ytpeindhocndmnaa
open Go Go.Bx
set_option linter.unusedSimpArgs false
set_option linter.unusedVariables false
set_option maxRecDepth 100000
set_option maxHeartbeats 4000000
attribute [local irreducible] X XO XE XF XD XW thenX inX retX kN CallsR
structure RsC (sc : Array Value) (pa : Nat) (na : Option Addr) (nl nc : Nat) (oc : Array Value) : Prop where
  size : sc.size = 10
  c0 : sc[0]? = some (.pointer (some ⟨pa, 0, none⟩))
  c1 : sc[1]? = some (.slice na nl nc)
  co : sc.extract 2 10 = oc
theorem RsC.setN {sc oc : Array Value} {pa : Nat} {na : Option Addr} {nl nc : Nat} (h : RsC sc pa na nl nc oc) (na' : Option Addr) (nl' nc' : Nat) : RsC (sc.setIfInBounds 1 (.slice na' nl' nc')) pa na' nl' nc' oc := by
  have hs := h.size
  refine ⟨by rw [Array.size_setIfInBounds]; exact hs, by rw [Array.getElem?_setIfInBounds_ne (by omega)]; exact h.c0, by rw [Array.getElem?_setIfInBounds_self_of_lt (by omega)], ?_⟩
  rw [← h.co]
  apply Array.ext_getElem?
  intro j
  rw [Array.getElem?_extract, Array.getElem?_extract, Array.size_setIfInBounds, Array.getElem?_setIfInBounds_ne (by omega)]
theorem RsC.setO {sc oc oc' : Array Value} {pa : Nat} {na : Option Addr} {nl nc : Nat} (h : RsC sc pa na nl nc oc) (ho : oc'.size = 8) : RsC (wrN sc 2 oc'.toList) pa na nl nc oc' := by
  have hs := h.size
  have hl : oc'.toList.length = 8 := by rw [Array.length_toList]; exact ho
  have hg := fun j => wrN_get oc'.toList sc 2 j (by omega)
  refine ⟨by rw [wrN_size]; exact hs, by rw [hg, if_neg (by omega)]; exact h.c0, by rw [hg, if_neg (by omega)]; exact h.c1, ?_⟩
  apply Array.ext_getElem?
  intro j
  rw [Array.getElem?_extract, wrN_size, hs]
  by_cases hj : j < 8
  · rw [if_pos (by omega), hg, if_pos (by omega), show 2 + j - 2 = j by omega, Array.getElem?_toList]
  · rw [if_neg (by omega), Array.getElem?_eq_none (by omega)]
theorem RsC.at_ord {sc oc : Array Value} {pa : Nat} {na : Option Addr} {nl nc : Nat} (h : RsC sc pa na nl nc oc) {ord : List Int} (ho : OrdC ord oc) {k : Nat} {x : Int} (hx : ord[k]? = some x) : sc[2 + k]? = some (.int .i64 x) := by
  have h1 := ho.at_ k x hx
  rw [← h.co, Array.getElem?_extract] at h1
  split at h1
  · exact h1
  · cases h1
structure RsX (own : Nat → Nat) (w : World) (p : Nat) (s : Md) (pa : Nat) (na : Option Addr) (nc : Nat) (sc oc : Array Value) : Prop where
  at_ : w.heap[p]? = some (.cells sc 124)
  rc : RsC sc pa na s.N.length nc oc
  oc : OrdC s.ord oc
  op : own p = 1
  ar : RaI (owns own 2) w pa s.a
  no : SlN w na nc s.N
  on : ∀ g, blk na = some g → own g = 3
  lt : ∀ k, own k ≠ 0 → k < w.heap.size
def RsI (own : Nat → Nat) (w : World) (p : Nat) (s : Md) : Prop := ∃ pa na nc sc oc, RsX own w p s pa na nc sc oc
section
variable {own own1 own2 : Nat → Nat} {w w' w1 w2 : World} {p : Nat} {s : Md} {pa : Nat} {na : Option Addr} {nc : Nat} {sc oc : Array Value} {c : Nat}
theorem RsI.lt (h : RsI own w p s) : ∀ k, own k ≠ 0 → k < w.heap.size := by obtain ⟨_, _, _, _, _, h⟩ := h; exact h.lt
theorem RsI.op (h : RsI own w p s) : own p = 1 := by obtain ⟨_, _, _, _, _, h⟩ := h; exact h.op
theorem RsX.keep (h : RsX own w p s pa na nc sc oc) (hne : ∀ k, own k ≠ 0 → w'.heap[k]? = w.heap[k]?) (hs : w.heap.size ≤ w'.heap.size) : RsX own w' p s pa na nc sc oc := by
  have h1 := h.op
  exact ⟨by rw [hne p (by omega)]; exact h.at_, h.rc, h.oc, h.op, h.ar.keep (fun k hk => hne k (by unfold owns at hk; omega)) hs, Sl.keep h.no fun g hg => hne g (by have := h.on g hg; omega), h.on, fun k hk => Nat.lt_of_lt_of_le (h.lt k hk) hs⟩
theorem RsX.ext (h : RsX own w p s pa na nc sc oc) (hE : Ext w w') : RsX own w' p s pa na nc sc oc := h.keep (fun k hk => hE.heap k (h.lt k hk)) hE.size
theorem RsI.ext (h : RsI own w p s) (hE : Ext w w') : RsI own w' p s := by
  obtain ⟨pa, na, nc, sc, oc, h⟩ := h
  exact ⟨pa, na, nc, sc, oc, h.ext hE⟩
theorem RsX.turn (h : RsX own w p s pa na nc sc oc) (hC : Chg (owns own c) w w') (hc : c ≠ 0) :
    (c ≠ 1 → w'.heap[p]? = some (.cells sc 124)) ∧ ownUp own w w' c p = 1 ∧ (c ≠ 2 → RaI (owns (ownUp own w w' c) 2) w' pa s.a) ∧ (c ≠ 3 → SlN w' na nc s.N) ∧ (∀ g, blk na = some g → ownUp own w w' c g = 3) ∧ (∀ k, ownUp own w w' c k ≠ 0 → k < w'.heap.size) := by
  have kp : ∀ d, d ≠ c → ∀ k, owns own d k → k < w.heap.size → w'.heap[k]? = w.heap[k]? := fun d hd k hk hl => hC.heap k hl fun hf => hd (hk.symm.trans hf)
  refine ⟨fun h1 => ?_, ?_, fun h2 => ?_, fun h3 => ?_, fun g hg => ?_, ownUp_lt h.lt hC.size hc⟩
  · rw [kp 1 (Ne.symm h1) p h.op (lt_of_heap h.at_)]; exact h.at_
  · rw [ownUp_old (lt_of_heap h.at_)]; exact h.op
  · rw [owns_up_other h.lt (by decide) (Ne.symm h2)]
    exact h.ar.keep (fun k hk => kp 2 (Ne.symm h2) k hk (h.ar.lt k hk)) hC.size
  · exact Sl.keep h.no fun g hg => kp 3 (Ne.symm h3) g (h.on g hg) (Sl.lt h.no hg)
  · rw [ownUp_old (Sl.lt h.no hg)]; exact h.on g hg
theorem RsX.setAr (h : RsX own w p s pa na nc sc oc) {a : Ar} (hA : RaI (Grow (owns own 2) w w') w' pa a) (hC : Chg (owns own 2) w w') : RsX (ownUp own w w' 2) w' p ⟨a, s.N, s.ord⟩ pa na nc sc oc := by
  obtain ⟨h1, h2, h3, h4, h5, h6⟩ := h.turn hC (by decide)
  exact ⟨h1 (by decide), h.rc, h.oc, h2, by rw [owns_up_self]; exact hA, h4 (by decide), h5, h6⟩
theorem RsX.setNode {g : Nat} {cur : Array Value} (h : RsX own w p s pa (some ⟨g, 0, none⟩) nc sc oc) (hg : w.heap[g]? = some (.cells cur 39 (0, 0))) {k : Nat} (hk : k < s.N.length) (x : Nd) :
    RsX own (upd w g (.cells (((cur.setIfInBounds (k * 3) (.int .i64 x.1)).setIfInBounds (k * 3 + 1) (.int .i64 x.2.1)).setIfInBounds (k * 3 + 2) (.int .i64 x.2.2)) 39 (0, 0))) p ⟨s.a, s.N.set k x, s.ord⟩ pa (some ⟨g, 0, none⟩) nc sc oc ∧
    Chg (owns own 3) w (upd w g (.cells (((cur.setIfInBounds (k * 3) (.int .i64 x.1)).setIfInBounds (k * 3 + 1) (.int .i64 x.2.1)).setIfInBounds (k * 3 + 2) (.int .i64 x.2.2)) 39 (0, 0))) := by
  have hC := (Chg.refl (owns own 3) w).upd (b := g) (fun _ => h.on g rfl) (.cells (((cur.setIfInBounds (k * 3) (.int .i64 x.1)).setIfInBounds (k * 3 + 1) (.int .i64 x.2.1)).setIfInBounds (k * 3 + 2) (.int .i64 x.2.2)) 39 (0, 0))
  have hn := h.no.set hg hk x
  refine ⟨?_, hC⟩
  obtain ⟨h1, h2, h3, h4, h5, h6⟩ := h.turn hC (by decide)
  rw [ownUp_same (by simp only [upd_size])] at h2 h3 h5 h6
  exact ⟨h1 (by decide), by show RsC sc pa _ (s.N.set k x).length nc oc; rw [List.length_set]; exact h.rc, h.oc, h2, h3 (by decide), hn, h5, h6⟩
theorem RsX.pushN (h : RsX own w p s pa na nc sc oc) {x : Nd} {a' : Option Addr} {c' : Nat} (hS : SlN w1 a' c' (s.N ++ [x])) (hC : Chg (fun k => blk na = some k) w w1) (hB : ∀ g, blk a' = some g → blk na = some g ∨ (w.heap.size ≤ g ∧ g < w1.heap.size)) :
    w1.heap[p]? = some (.cells sc 124) ∧ RsX (ownUp own w w1 3) (upd w1 p (.cells (sc.setIfInBounds 1 (.slice a' (s.N.length + 1) c')) 124)) p ⟨s.a, s.N ++ [x], s.ord⟩ pa a' c' (sc.setIfInBounds 1 (.slice a' (s.N.length + 1) c')) oc ∧
    Chg (foot own) w (upd w1 p (.cells (sc.setIfInBounds 1 (.slice a' (s.N.length + 1) c')) 124)) := by
  have hC3 : Chg (owns own 3) w w1 := hC.mono fun k _ hk => h.on k hk
  obtain ⟨h1, h2, h3, h4, h5, h6⟩ := h.turn hC3 (by decide)
  have hp1 := h1 (by decide)
  have hpl := lt_of_heap hp1
  have hpo : ∀ k, ownUp own w w1 3 k ≠ 1 → (upd w1 p (.cells (sc.setIfInBounds 1 (.slice a' (s.N.length + 1) c')) 124)).heap[k]? = w1.heap[k]? := fun k hk => upd_other fun e => hk (by rw [← e]; exact h2)
  have on' : ∀ g, blk a' = some g → ownUp own w w1 3 g = 3 := fun g hg => by
    rcases hB g hg with h' | h'
    · exact h5 g h'
    · unfold ownUp; rw [if_pos h']
  refine ⟨hp1, ⟨upd_same hpl, ?_, h.oc, h2, (h3 (by decide)).keep (fun k hk => hpo k (by unfold owns at hk; omega)) (by rw [upd_size]; exact Nat.le_refl _), Sl.keep hS fun g hg => hpo g (by rw [on' g hg]; decide), on', fun k hk => by rw [upd_size]; exact h6 k hk⟩, ?_⟩
  · have := h.rc.setN a' (s.N.length + 1) c'
    rw [show (s.N ++ [x]).length = s.N.length + 1 by simp]
    exact this
  · exact (Chg.foot hC3 (by decide)).upd (fun _ => by unfold foot; rw [h.op]; decide) _
theorem RsX.setOrd {oc' : Array Value} (h : RsX own w p s pa na nc sc oc) {ord' : List Int} (ho : OrdC ord' oc') : RsX own (upd w p (.cells (wrN sc 2 oc'.toList) 124)) p ⟨s.a, s.N, ord'⟩ pa na nc (wrN sc 2 oc'.toList) oc' := by
  have hpl := lt_of_heap h.at_
  have hne : ∀ k, own k ≠ 1 → (upd w p (.cells (wrN sc 2 oc'.toList) 124)).heap[k]? = w.heap[k]? := fun k hk => upd_other fun e => hk (by rw [← e]; exact h.op)
  have hs : w.heap.size ≤ (upd w p (.cells (wrN sc 2 oc'.toList) 124)).heap.size := by rw [upd_size]; exact Nat.le_refl _
  exact ⟨upd_same hpl, h.rc.setO ho.size, ho, h.op, h.ar.keep (fun k hk => hne k (by unfold owns at hk; omega)) hs, Sl.keep h.no fun g hg => hne g (by have := h.on g hg; omega), h.on, fun k hk => by rw [upd_size]; exact h.lt k hk⟩
def TrS (own : Nat → Nat) (w : World) (p : Nat) (s' : Md) (w' : World) : Prop := ∃ own', RsI own' w' p s' ∧ Sw own w own' w'
theorem TrS.of_ext (h : RsI own w p s) (hE : Ext w w') : TrS own w p s w' := ⟨own, h.ext hE, Sw.of_ext hE⟩
theorem stN_ord2 {p : Nat} {sc oc : Array Value} {E : TypeId} {w : World} (hs : sc.size = 10) (ho : oc.size = 8) : stN Try.prog p 2 (vcs (.agg oc)) w (some (.cells sc E (0, 0))) = .ok () (upd w p (.cells (wrN sc 2 oc.toList) E (0, 0))) :=
  stN_cells (by show 2 + oc.toList.length ≤ sc.size; rw [Array.length_toList]; omega)
end
theorem nd_equal {a b c a' b' c' : Int} {w : World} : (Op.equal 39 (.agg #[.int .i64 a, .int .i64 b, .int .i64 c]) (.agg #[.int .i64 a', .int .i64 b', .int .i64 c'])).run Try.prog w = .ok (decide ((a, b, c) = ((a', b', c') : Nd))) w := by
  show (Op.equalIn (9999 + 1) _ _ _).run _ _ = _
  have hf : Try.prog.fieldsOf 39 = #[{ name := "Var", type := 3, offset := 0, embedded := false, tag := "", pkgPath := "", byteOffset := 0 }, { name := "Lo", type := 3, offset := 1, embedded := false, tag := "", pkgPath := "", byteOffset := 8 }, { name := "Hi", type := 3, offset := 2, embedded := false, tag := "", pkgPath := "", byteOffset := 16 }] := by kernel_rfl
  rw [run_equalIn_struct w 9999 39 _ _ (by kernel_rfl) (by kernel_rfl), hf]
  have p1 : ∀ (x y z : Int), (part 3 #[.int .i64 x, .int .i64 y, .int .i64 z] 0).run Try.prog w = .ok (.int .i64 x) w := fun x y z => part_one T3 rfl rfl
  have p2 : ∀ (x y z : Int), (part 3 #[.int .i64 x, .int .i64 y, .int .i64 z] 1).run Try.prog w = .ok (.int .i64 y) w := fun x y z => part_one T3 rfl rfl
  have p4 : ∀ (x y z : Int), (part 3 #[.int .i64 x, .int .i64 y, .int .i64 z] 2).run Try.prog w = .ok (.int .i64 z) w := fun x y z => part_one T3 rfl rfl
  have p3 : ∀ (x y : Int), (Op.equalIn 9999 3 (.int .i64 x) (.int .i64 y)).run Try.prog w = .ok (x == y) w := fun x y => run_equalIn_int w 9998 3 .i64 .i64 x y T3.und
  have n1 : ("Var" ≠ "_") = True := by decide
  have n2 : ("Lo" ≠ "_") = True := by decide
  have n3 : ("Hi" ≠ "_") = True := by decide
  simp only [Op.eqFields, n1, n2, n3, if_true, Sem.run_bind, p1, p2, p3, p4, Result.andThen_ok, Sem.run_ite, Sem.run_pure]
  by_cases h1 : a = a'
  · by_cases h2 : b = b'
    · by_cases h3 : c = c'
      · simp [h1, h2, h3]
      · have hb : (c == c') = false := by simpa using h3
        simp [h1, h2, h3, hb]
    · have hb : (b == b') = false := by simpa using h2
      simp [h1, h2, hb]
  · have ha : (a == a') = false := by simpa using h1
    simp [h1, ha]
theorem nd_eql {x y : Operand} {a b c a' b' c' : Int} {w : World} : binR Try.prog .eql 39 x y (.agg #[.int .i64 a, .int .i64 b, .int .i64 c]) (.agg #[.int .i64 a', .int .i64 b', .int .i64 c']) w = .ok (.bool (decide ((a, b, c) = ((a', b', c') : Nd)))) w :=
  binR_eqlA (by kernel_rfl) nd_equal
theorem nd_neq {x y : Operand} {a b c a' b' c' : Int} {w : World} : binR Try.prog .neq 39 x y (.agg #[.int .i64 a, .int .i64 b, .int .i64 c]) (.agg #[.int .i64 a', .int .i64 b', .int .i64 c']) w = .ok (.bool (!decide ((a, b, c) = ((a', b', c') : Nd)))) w :=
  binR_neqA (by kernel_rfl) nd_equal
attribute [push_cast] nd_eql nd_neq eq_self
end Go.Proofs.Ytpeindhocndmnaa

