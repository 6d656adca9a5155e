/- How many nodes functions need: by what is reached. No program is in sight. -/
import Derived.Test.YtghcmogbmaedfaaCofP2
namespace Go.Bx
open Go
set_option linter.unusedSimpArgs false
set_option linter.unusedVariables false

/-- The first variable of an order on which it depends. -/
def topF (ord : List Int) (f : Fun8) : Int := (ord.find? (depF f)).getD (-1)
def kids (ord : List Int) (f : Fun8) : List Fun8 := if 0 ≤ topF ord f then [cofF f (topF ord f) false, cofF f (topF ord f) true] else []
inductive Rch (ord : List Int) (l : List Fun8) : Fun8 → Prop
  | base {f} : f ∈ l → Rch ord l f
  | step {g f} : Rch ord l g → f ∈ kids ord g → Rch ord l f
structure IsNodes (ord : List Int) (l ns : List Fun8) : Prop where
  nodup : ns.Nodup
  mem : ∀ f, f ∈ ns ↔ Rch ord l f ∧ supF f ≠ 0

theorem sub_len {α : Type} [DecidableEq α] : ∀ {l m : List α}, l.Nodup → (∀ x ∈ l, x ∈ m) → l.length ≤ m.length
  | [], m, _, _ => by simp
  | x :: l, m, hn, h => by
    have hx := h x (by simp)
    have hn' := List.nodup_cons.1 hn
    have := sub_len (m := m.erase x) hn'.2 fun y hy => (List.mem_erase_of_ne (by intro e; subst e; exact hn'.1 hy)).2 (h y (by simp [hy]))
    rw [List.length_erase_of_mem hx] at this
    have := List.length_pos_of_mem hx
    simp only [List.length_cons]; omega
theorem IsNodes.len {ord : List Int} {l k ns ms : List Fun8} (h : IsNodes ord l ns) (h' : IsNodes ord k ms) (hr : ∀ f, Rch ord l f ↔ Rch ord k f) : ns.length = ms.length :=
  Nat.le_antisymm (sub_len h.nodup fun f hf => (h'.mem f).2 (by rw [← hr]; exact (h.mem f).1 hf)) (sub_len h'.nodup fun f hf => (h.mem f).2 (by rw [hr]; exact (h'.mem f).1 hf))
open Classical in
/-- How many nodes functions need. -/
noncomputable def sizeF (ord : List Int) (l : List Fun8) : Nat := if h : ∃ ns, IsNodes ord l ns then (Classical.choose h).length else 0
theorem IsNodes.size {ord : List Int} {l ns : List Fun8} (h : IsNodes ord l ns) : ns.length = sizeF ord l := by
  have hh : ∃ ns, IsNodes ord l ns := ⟨ns, h⟩
  unfold sizeF
  rw [dif_pos hh]
  exact h.len (Classical.choose_spec hh) fun f => Iff.rfl

/-! ### Fewer variables further down -/
theorem cnt_mono {p q : Nat → Bool} : ∀ {n : Nat}, (∀ i, i < n → p i = true → q i = true) → cnt p n ≤ cnt q n
  | 0, _ => Nat.le_refl _
  | n + 1, h => by
    have := cnt_mono (n := n) fun i hi => h i (by omega)
    have h2 := h n (by omega)
    simp only [cnt]
    cases hp : p n <;> cases hq : q n <;> simp_all <;> omega
theorem cnt_lt {p q : Nat → Bool} : ∀ {n : Nat}, (∀ i, i < n → p i = true → q i = true) → (∃ j, j < n ∧ p j = false ∧ q j = true) → cnt p n < cnt q n
  | 0, _, ⟨j, h, _⟩ => by omega
  | n + 1, h, ⟨j, hj, h1, h2⟩ => by
    have h0 := cnt_mono (n := n) fun i hi => h i (by omega)
    simp only [cnt]
    by_cases e : j = n
    · subst e; rw [h1, h2]; simp; omega
    · have := cnt_lt (n := n) (fun i hi => h i (by omega)) ⟨j, by omega, h1, h2⟩
      have h3 := h n (by omega)
      cases hp : p n <;> cases hq : q n <;> simp_all <;> omega
def nv (f : Fun8) : Nat := cnt (fun v => depF f v) 8
theorem nv_le {f : Fun8} : nv f ≤ 8 := cnt_le _ 8
theorem dep_range {f : Fun8} {v : Int} (h : depF f v = true) : 0 ≤ v ∧ v < 8 := by
  by_cases h' : 0 ≤ v ∧ v < 8
  · exact h'
  · rw [depF_out h'] at h; cases h
theorem dep_of_cof {f : Fun8} {v u : Int} {b : Bool} (h : depF (cofF f v b) u = true) : depF f u = true := by
  by_cases e : v = u
  · subst e; rw [dep_cof] at h; cases h
  · rw [depF_def] at h ⊢
    by_cases hc : cofF f u false = cofF f u true
    · rw [cof_comm e, cof_comm e, hc] at h; simp at h
    · simp [hc]
theorem nv_cof {f : Fun8} {v : Int} {b : Bool} (h : depF f v = true) : nv (cofF f v b) < nv f := by
  obtain ⟨n, rfl, hn⟩ := nat8 (dep_range h)
  exact cnt_lt (fun i _ hi => dep_of_cof hi) ⟨n, hn, dep_cof, h⟩
theorem topF_dep {ord : List Int} {f : Fun8} (h : 0 ≤ topF ord f) : depF f (topF ord f) = true := by
  unfold topF at h ⊢
  cases hf : ord.find? (depF f) with
  | none => rw [hf] at h; simp at h
  | some v => exact (by simpa using List.find?_some hf)
theorem topF_none {ord : List Int} {f : Fun8} (h : ¬ 0 ≤ topF ord f) : (∀ v ∈ ord, depF f v = false) ∧ topF ord f = -1 := by
  unfold topF at h ⊢
  cases hf : ord.find? (depF f) with
  | none => exact ⟨fun v hv => by simpa using List.find?_eq_none.1 hf v hv, rfl⟩
  | some v =>
    have := dep_range (List.find?_some hf)
    rw [hf] at h; simp at h; omega
theorem supTo_zero {f : Fun8} : ∀ {k : Nat}, supTo f k = 0 ↔ ∀ v, v < k → depF f (v : Nat) = false
  | 0 => by simp [supTo]
  | k + 1 => by
    have hp : 0 < 2 ^ k := Nat.two_pow_pos k
    rw [supTo]
    constructor
    · intro h v hv
      by_cases e : v = k
      · subst e
        cases hd : depF f v
        · rfl
        · rw [hd] at h; simp at h
      · exact (supTo_zero (k := k)).1 (by omega) v (by omega)
    · intro h
      rw [(supTo_zero (k := k)).2 fun v hv => h v (by omega), h k (by omega)]
      simp
theorem supF_zero {f : Fun8} : supF f = 0 ↔ ∀ v : Int, depF f v = false := by
  rw [supF_def, supTo_zero]
  constructor
  · intro h v
    by_cases h' : 0 ≤ v ∧ v < 8
    · obtain ⟨n, rfl, hn⟩ := nat8 h'
      exact h n hn
    · exact depF_out h'
  · exact fun h v _ => h v
theorem kids_flat {ord : List Int} {f : Fun8} (h : supF f = 0) : kids ord f = [] := by
  unfold kids
  by_cases h' : 0 ≤ topF ord f
  · have := topF_dep h'
    rw [supF_zero.1 h] at this; cases this
  · rw [if_neg h']

def wt (f : Fun8) : Nat := 3 ^ nv f
def wts (l : List Fun8) : Nat := (l.map wt).sum
theorem wt_pos {f : Fun8} : 0 < wt f := Nat.pow_pos (by decide)
theorem wt_le {f : Fun8} : wt f ≤ 6561 := Nat.le_trans (Nat.pow_le_pow_right (by decide) nv_le) (by decide)
theorem wts_app {l k : List Fun8} : wts (l ++ k) = wts l + wts k := by simp [wts]
theorem wts_cons {f : Fun8} {l : List Fun8} : wts (f :: l) = wt f + wts l := by simp [wts]
theorem wts_nil : wts [] = 0 := rfl
theorem len_wts : ∀ {l : List Fun8}, l.length ≤ wts l
  | [] => by simp
  | f :: l => by have := len_wts (l := l); have := wt_pos (f := f); rw [wts_cons, List.length_cons]; omega
theorem wts_le : ∀ {l : List Fun8}, wts l ≤ 6561 * l.length
  | [] => by simp [wts]
  | f :: l => by have := wts_le (l := l); have := wt_le (f := f); rw [wts_cons, List.length_cons]; omega
theorem wts_kids {ord : List Int} {f : Fun8} : wts (kids ord f) < wt f := by
  unfold kids
  by_cases h : 0 ≤ topF ord f
  · have hd := topF_dep h
    rw [if_pos h, wts_cons, wts_cons, wts_nil]
    have key : ∀ b, 3 * wt (cofF f (topF ord f) b) ≤ wt f := fun b => by
      have := nv_cof (b := b) hd
      unfold wt
      calc 3 * 3 ^ nv (cofF f (topF ord f) b) = 3 ^ (nv (cofF f (topF ord f) b) + 1) := by rw [Nat.pow_succ]; omega
        _ ≤ 3 ^ nv f := Nat.pow_le_pow_right (by decide) this
    have h1 := key false
    have h2 := key true
    have := wt_pos (f := f)
    omega
  · rw [if_neg h]; exact wt_pos

/-! ### The two ways of seeking -/
section
variable {ord : List Int} {l keys work : List Fun8} {f : Fun8}
/-- From the end of a stack. -/
structure Dfs (ord : List Int) (l keys work : List Fun8) : Prop where
  nodup : keys.Nodup
  sn : ∀ f ∈ keys, Rch ord l f ∧ supF f ≠ 0
  wk : ∀ f ∈ work, Rch ord l f
  kd : ∀ f ∈ keys, ∀ g ∈ kids ord f, g ∈ keys ∨ g ∈ work ∨ supF g = 0
  all : ∀ g ∈ l, g ∈ keys ∨ g ∈ work ∨ supF g = 0
theorem Dfs.init : Dfs ord l [] l := ⟨List.nodup_nil, (fun f h => by cases h), fun _ h => .base h, (fun f h => by cases h), fun g h => .inr (.inl h)⟩
theorem Dfs.skip {ws : List Fun8} (h : Dfs ord l keys (ws ++ [f])) (hf : f ∈ keys ∨ supF f = 0) : Dfs ord l keys ws := by
  have key : ∀ g, g ∈ keys ∨ g ∈ ws ++ [f] ∨ supF g = 0 → g ∈ keys ∨ g ∈ ws ∨ supF g = 0 := by
    rintro g (h1 | h1 | h1)
    · exact .inl h1
    · rcases List.mem_append.1 h1 with h2 | h2
      · exact .inr (.inl h2)
      · rw [List.mem_singleton] at h2
        subst h2
        exact hf.elim .inl fun h => .inr (.inr h)
    · exact .inr (.inr h1)
  exact ⟨h.nodup, h.sn, fun g hg => h.wk g (by simp [hg]), fun g hg k hk => key k (h.kd g hg k hk), fun g hg => key g (h.all g hg)⟩
theorem Dfs.go {ws : List Fun8} (h : Dfs ord l keys (ws ++ [f])) (hk : f ∉ keys) (hs : supF f ≠ 0) : Dfs ord l (keys ++ [f]) (ws ++ kids ord f) := by
  have hr := h.wk f (by simp)
  have key : ∀ g, g ∈ keys ∨ g ∈ ws ++ [f] ∨ supF g = 0 → g ∈ keys ++ [f] ∨ g ∈ ws ++ kids ord f ∨ supF g = 0 := by
    rintro g (h1 | h1 | h1)
    · exact .inl (by simp [h1])
    · rcases List.mem_append.1 h1 with h2 | h2
      · exact .inr (.inl (by simp [h2]))
      · exact .inl (by simp at h2; simp [h2])
    · exact .inr (.inr h1)
  refine ⟨?_, ?_, ?_, ?_, fun g hg => key g (h.all g hg)⟩
  · rw [List.nodup_append]
    exact ⟨h.nodup, by simp, fun a ha b hb => by simp at hb; subst hb; intro e; subst e; exact hk ha⟩
  · intro g hg
    rcases List.mem_append.1 hg with h1 | h1
    · exact h.sn g h1
    · rw [List.mem_singleton] at h1; subst h1; exact ⟨hr, hs⟩
  · intro g hg
    rcases List.mem_append.1 hg with h1 | h1
    · exact h.wk g (by simp [h1])
    · exact .step hr h1
  · intro g hg k hgk
    rcases List.mem_append.1 hg with h1 | h1
    · exact key k (h.kd g h1 k hgk)
    · rw [List.mem_singleton] at h1; subst h1; exact .inr (.inl (by simp [hgk]))
theorem Dfs.done (h : Dfs ord l keys []) : IsNodes ord l keys := by
  refine ⟨h.nodup, fun f => ⟨h.sn f, fun ⟨hr, hs⟩ => ?_⟩⟩
  have key : ∀ g, Rch ord l g → g ∈ keys ∨ supF g = 0 := by
    intro g hg
    induction hg with
    | base h1 => rcases h.all _ h1 with h2 | h2 | h2
                 · exact .inl h2
                 · cases h2
                 · exact .inr h2
    | step _ h1 ih =>
      rcases ih with ih | ih
      · rcases h.kd _ ih _ h1 with h2 | h2 | h2
        · exact .inl h2
        · cases h2
        · exact .inr h2
      · rw [kids_flat ih] at h1; cases h1
  exact (key f hr).resolve_right hs
theorem Dfs.meas {ws : List Fun8} : wts (ws ++ kids ord f) < wts (ws ++ [f]) ∧ wts ws < wts (ws ++ [f]) := by
  have := wts_kids (ord := ord) (f := f)
  have := wt_pos (f := f)
  rw [wts_app, wts_app, wts_cons, wts_nil]; omega

/-- Along a queue, of which i have been seen. -/
structure Bfs (ord : List Int) (l seen out work : List Fun8) (i : Nat) : Prop where
  le : i ≤ work.length
  sn : ∀ f, f ∈ seen ↔ f ∈ work.take i
  nodup : out.Nodup
  ot : ∀ f, f ∈ out ↔ f ∈ work.take i ∧ supF f ≠ 0
  wk : ∀ f ∈ work, Rch ord l f
  kd : ∀ f ∈ work.take i, ∀ g ∈ kids ord f, g ∈ work
  all : ∀ f ∈ l, f ∈ work
variable {seen out : List Fun8} {i : Nat}
theorem Bfs.init : Bfs ord l [] [] l 0 := ⟨by simp, by simp, List.nodup_nil, by simp, fun _ h => .base h, by simp, fun _ h => h⟩
theorem take_one (h : work[i]? = some f) : work.take (i + 1) = work.take i ++ [f] := by rw [List.take_add_one, h]; rfl
theorem Bfs.skip (h : Bfs ord l seen out work i) (hf : work[i]? = some f) (hs : f ∈ seen) : Bfs ord l seen out work (i + 1) := by
  have hi := (List.getElem?_eq_some_iff.1 hf).1
  have hm := (h.sn f).1 hs
  have ht := take_one hf
  refine ⟨hi, fun g => ?_, h.nodup, fun g => ?_, h.wk, fun g hg => ?_, h.all⟩
  · rw [h.sn, ht, List.mem_append, List.mem_singleton]
    exact ⟨.inl, fun h => h.elim id fun e => e ▸ hm⟩
  · rw [h.ot, ht, List.mem_append, List.mem_singleton]
    exact ⟨fun h => ⟨.inl h.1, h.2⟩, fun h => ⟨h.1.elim id fun e => e ▸ hm, h.2⟩⟩
  · rw [ht, List.mem_append, List.mem_singleton] at hg
    exact h.kd g (hg.elim id fun e => e ▸ hm)
theorem Bfs.flat (h : Bfs ord l seen out work i) (hf : work[i]? = some f) (hs : supF f = 0) {seen' : List Fun8} (hs' : ∀ g, g ∈ seen' ↔ g ∈ seen ∨ g = f) : Bfs ord l seen' out work (i + 1) := by
  have hi := (List.getElem?_eq_some_iff.1 hf).1
  have ht := take_one hf
  refine ⟨hi, fun g => ?_, h.nodup, fun g => ?_, h.wk, fun g hg => ?_, h.all⟩
  · rw [hs', h.sn, ht, List.mem_append, List.mem_singleton]
  · rw [h.ot, ht, List.mem_append, List.mem_singleton]
    exact ⟨fun h => ⟨.inl h.1, h.2⟩, fun h => ⟨h.1.elim id fun e => absurd (e ▸ hs) h.2, h.2⟩⟩
  · rw [ht, List.mem_append, List.mem_singleton] at hg
    rcases hg with hg | rfl
    · exact h.kd g hg
    · rw [kids_flat hs]; exact fun _ h => by cases h
theorem Bfs.go (h : Bfs ord l seen out work i) (hf : work[i]? = some f) (hn : f ∉ seen) (hs : supF f ≠ 0) {seen' : List Fun8} (hs' : ∀ g, g ∈ seen' ↔ g ∈ seen ∨ g = f) : Bfs ord l seen' (out ++ [f]) (work ++ kids ord f) (i + 1) := by
  have hi := (List.getElem?_eq_some_iff.1 hf).1
  have ht := take_one hf
  have ht' : (work ++ kids ord f).take (i + 1) = work.take i ++ [f] := by rw [List.take_append_of_le_length hi, ht]
  have hno : f ∉ work.take i := fun hh => hn ((h.sn f).2 hh)
  refine ⟨by rw [List.length_append]; omega, fun g => ?_, ?_, fun g => ?_, fun g hg => ?_, fun g hg k hk => ?_, fun g hg => by simp [h.all g hg]⟩
  · rw [hs', h.sn, ht', List.mem_append, List.mem_singleton]
  · rw [List.nodup_append]
    exact ⟨h.nodup, by simp, fun a ha b hb => by simp at hb; subst hb; intro e; subst e; exact hno ((h.ot _).1 ha).1⟩
  · rw [List.mem_append, h.ot, ht', List.mem_append, List.mem_singleton]
    constructor
    · rintro (h1 | rfl)
      · exact ⟨.inl h1.1, h1.2⟩
      · exact ⟨.inr rfl, hs⟩
    · rintro ⟨h1 | rfl, h2⟩
      · exact .inl ⟨h1, h2⟩
      · exact .inr rfl
  · rcases List.mem_append.1 hg with h1 | h1
    · exact h.wk g h1
    · exact .step (h.wk f (List.mem_of_getElem? hf)) h1
  · rw [ht', List.mem_append, List.mem_singleton] at hg
    rcases hg with hg | rfl
    · exact List.mem_append_left _ (h.kd g hg k hk)
    · exact List.mem_append_right _ hk
theorem Bfs.done (h : Bfs ord l seen out work i) (hi : ¬ i < work.length) : IsNodes ord l out := by
  have ht : work.take i = work := List.take_of_length_le (by omega)
  refine ⟨h.nodup, fun f => ?_⟩
  rw [h.ot, ht]
  have hk := h.kd
  rw [ht] at hk
  have key : ∀ g, Rch ord l g → g ∈ work := fun g hg => by
    induction hg with
    | base h1 => exact h.all _ h1
    | step _ h1 ih => exact hk _ ih _ h1
  exact ⟨fun ⟨h1, h2⟩ => ⟨h.wk f h1, h2⟩, fun ⟨h1, h2⟩ => ⟨key f h1, h2⟩⟩
end
end Go.Bx
