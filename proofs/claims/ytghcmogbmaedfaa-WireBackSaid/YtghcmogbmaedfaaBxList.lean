/- Lists that lie in memory, each in a block of its own; what a call changes. -/
import Derived.Test.YtghcmogbmaedfaaBxOps
import Derived.Laws.AppendOwn
import Derived.ArgAppend
namespace Go.Bx
open Go
set_option linter.unusedSimpArgs false
set_option linter.unusedVariables false

/-- Of the old blocks only those of F have turned. -/
structure Chg (F : Nat → Prop) (w w' : World) : Prop where
  os : w'.os = w.os
  tape : w'.tape = w.tape
  output : w'.output = w.output
  size : w.heap.size ≤ w'.heap.size
  heap : ∀ k, k < w.heap.size → ¬ F k → w'.heap[k]? = w.heap[k]?

section
variable {F G : Nat → Prop} {w w0 w1 w2 w' : World}
theorem Chg.refl (F : Nat → Prop) (w : World) : Chg F w w := ⟨rfl, rfl, rfl, Nat.le_refl _, fun _ _ _ => rfl⟩
theorem Chg.mono (h : Chg F w w') (hF : ∀ k, k < w.heap.size → F k → G k) : Chg G w w' := ⟨h.os, h.tape, h.output, h.size, fun k hk hg => h.heap k hk fun hf => hg (hF k hk hf)⟩
theorem Chg.trans (h : Chg F w w1) (k : Chg G w1 w2) (hG : ∀ b, b < w.heap.size → G b → F b) : Chg F w w2 :=
  ⟨k.os.trans h.os, k.tape.trans h.tape, k.output.trans h.output, Nat.le_trans h.size k.size, fun b hb hF => (k.heap b (Nat.lt_of_lt_of_le hb h.size) fun hg => hF (hG b hb hg)).trans (h.heap b hb hF)⟩
theorem Ext.chg (h : Ext w w') (F : Nat → Prop) : Chg F w w' := ⟨h.os, h.tape, h.output, h.size, fun k hk _ => h.heap k hk⟩
theorem Chg.ext (h : Chg F w w') (hF : ∀ k, k < w.heap.size → ¬ F k) : Ext w w' := ⟨h.os, h.tape, h.output, h.size, fun k hk => h.heap k hk (hF k hk)⟩
theorem Chg.toExt (h : Chg F w1 w2) (h0 : Ext w w1) (hF : ∀ k, k < w.heap.size → ¬ F k) : Ext w w2 :=
  ⟨h.os.trans h0.os, h.tape.trans h0.tape, h.output.trans h0.output, Nat.le_trans h0.size h.size, fun k hk => (h.heap k (Nat.lt_of_lt_of_le hk h0.size) (hF k hk)).trans (h0.heap k hk)⟩
theorem Chg.alloc (h : Chg F w w') (o : Obj) : Chg F w (w'.alloc o) :=
  ⟨h.os, h.tape, h.output, by rw [alloc_size]; exact Nat.le_succ_of_le h.size, fun k hk hF => by rw [alloc_old (by have := h.size; omega)]; exact h.heap k hk hF⟩
theorem Chg.upd (h : Chg F w w') {b : Nat} (hb : b < w.heap.size → F b) (o : Obj) : Chg F w (upd w' b o) :=
  ⟨h.os, h.tape, h.output, by rw [upd_size]; exact h.size, fun k hk hF => by
    by_cases e : b = k
    · subst e; exact absurd (hb hk) hF
    · rw [upd_other e]; exact h.heap k hk hF⟩
theorem Chg.dr (h : Chg F w w') (d : Nat) : Chg F w (dr w' d) := ⟨h.os, h.tape, h.output, h.size, h.heap⟩
end

/-- The block of an address. -/
def blk : Option Addr → Option Nat
  | some a => some a.block
  | none => none

structure Lst (w : World) (E s : Nat) (a : Option Addr) (n cap : Nat) (xs : List Value) : Prop where
  len : xs.length = n * s
  row : (a = none ∧ n = 0 ∧ cap = 0) ∨ ∃ g cur, a = some ⟨g, 0, none⟩ ∧ w.heap[g]? = some (.cells cur E (0, 0)) ∧ n ≤ cap ∧ cap ≤ maxLen ∧ cur.size = cap * s ∧ cur.toList.take (n * s) = xs

section
variable {w w' : World} {E s : Nat} {a : Option Addr} {n cap : Nat} {xs : List Value}
theorem Lst.nil (w : World) (E s : Nat) : Lst w E s none 0 0 [] := ⟨by simp, .inl ⟨rfl, rfl, rfl⟩⟩
theorem Lst.own (h : Lst w E s a n cap xs) : w.ownsRow 0 E s (.slice a n cap) n xs := by
  refine ⟨h.len, ?_⟩
  rcases h.row with ⟨rfl, rfl, rfl⟩ | ⟨g, cur, rfl, hg, h1, h2, h3, h4⟩
  · exact .inl ⟨rfl, rfl⟩
  · exact .inr ⟨g, cap, cur, rfl, Nat.zero_le _, hg, h1, h2, h3, h4⟩
theorem Lst.of_own {v : Value} (h : w.ownsRow 0 E s v n xs) : ∃ a cap, v = .slice a n cap ∧ Lst w E s a n cap xs := by
  rcases h.2 with ⟨rfl, rfl⟩ | ⟨g, cap, cur, rfl, _, hg, h1, h2, h3, h4⟩
  · exact ⟨none, 0, rfl, h.1, .inl ⟨rfl, rfl, rfl⟩⟩
  · exact ⟨_, cap, rfl, h.1, .inr ⟨g, cur, rfl, hg, h1, h2, h3, h4⟩⟩
theorem Lst.keep (h : Lst w E s a n cap xs) (hk : ∀ g, blk a = some g → w'.heap[g]? = w.heap[g]?) : Lst w' E s a n cap xs := by
  refine ⟨h.len, ?_⟩
  rcases h.row with h0 | ⟨g, cur, rfl, hg, h1⟩
  · exact .inl h0
  · exact .inr ⟨g, cur, rfl, by rw [hk g rfl]; exact hg, h1⟩
theorem Lst.tag (h : Lst w E s a n cap xs) {g : Nat} (hg : blk a = some g) : ∃ cur, w.heap[g]? = some (.cells cur E (0, 0)) := by
  rcases h.row with ⟨rfl, _⟩ | ⟨g', cur, rfl, hh, _⟩
  · cases hg
  · cases hg; exact ⟨cur, hh⟩
theorem Lst.lt (h : Lst w E s a n cap xs) {g : Nat} (hg : blk a = some g) : g < w.heap.size := by
  obtain ⟨cur, hc⟩ := h.tag hg
  exact lt_of_heap hc
theorem Lst.ne (h : Lst w E s a n cap xs) {g b : Nat} {cur : Array Value} {T : Nat} (hg : blk a = some g) (hb : w.heap[b]? = some (.cells cur T (0, 0))) (hT : T ≠ E) : g ≠ b := by
  obtain ⟨c2, hc⟩ := h.tag hg
  intro e
  subst e
  rw [hb] at hc
  cases hc
  exact hT rfl
/-- Where there is an element. -/
theorem Lst.at (h : Lst w E s a n cap xs) (hn : 0 < n) : ∃ g cur, a = some ⟨g, 0, none⟩ ∧ w.heap[g]? = some (.cells cur E (0, 0)) ∧ n ≤ cap ∧ cur.size = cap * s ∧ ∀ j, j < n * s → cur[j]? = xs[j]? := by
  rcases h.row with ⟨_, rfl, _⟩ | ⟨g, cur, rfl, hg, h1, h2, h3, h4⟩
  · omega
  · refine ⟨g, cur, rfl, hg, h1, h3, fun j hj => ?_⟩
    rw [← h4, List.getElem?_take, if_pos hj]
    simp
theorem Lst.take (h : Lst w E s a n cap xs) {k : Nat} (hk : k ≤ n) : Lst w E s a k cap (xs.take (k * s)) := by
  refine ⟨by rw [List.length_take, h.len]; exact Nat.min_eq_left (Nat.mul_le_mul_right _ hk), ?_⟩
  rcases h.row with ⟨rfl, rfl, rfl⟩ | ⟨g, cur, rfl, hg, h1, h2, h3, h4⟩
  · exact .inl ⟨rfl, by omega, rfl⟩
  · refine .inr ⟨g, cur, rfl, hg, by omega, h2, h3, ?_⟩
    rw [← h4, List.take_take, Nat.min_eq_left (Nat.mul_le_mul_right _ hk)]
theorem Lst.set {g : Nat} {cur : Array Value} (h : Lst w E s (some ⟨g, 0, none⟩) n cap xs) (hg : w.heap[g]? = some (.cells cur E (0, 0))) (j : Nat) (v : Value) :
    Lst (upd w g (.cells (cur.setIfInBounds j v) E (0, 0))) E s (some ⟨g, 0, none⟩) n cap (xs.set j v) := by
  refine ⟨by rw [List.length_set, h.len], ?_⟩
  rcases h.row with ⟨h0, _⟩ | ⟨g', cur', he, hg', h1, h2, h3, h4⟩
  · cases h0
  · cases he
    rw [hg] at hg'
    cases hg'
    refine .inr ⟨g, _, rfl, upd_same (lt_of_heap hg), h1, h2, by simpa using h3, ?_⟩
    rw [← h4, Array.toList_setIfInBounds, List.take_set]
end

def apR (P : Program) (t : TypeId) (a b : Value) (w : World) : Result Value := (Builtin.append_ #[t, t] 0 #[a, b]).run P w
theorem rG_append {P : Program} {t ty : TypeId} {e : Env} {w : World} {x y : Operand} : rG P (.call { callee := .builtin .append, args := #[x, y], argTypes := #[t, t] }) ty e w = vR (apR P t (ev e x) (ev e y) w) := by
  show (do let d ← resolve (ev e) { callee := .builtin .append, args := #[x, y], argTypes := #[t, t] } ty; invoke d.target d.args : Sem Next).run P w = _
  simp only [Sem.run_bind, resolve, pure, Sem.run, Result.andThen_ok, invoke, builtin]
  simp only [List.map_toArray, List.map_cons, List.map_nil]
  rfl

section
variable {P : Program} {w : World} {t E s by_ : Nat} {d : TypeDesc} {z : Value} {sz1 by1 : Nat} {z1 : Value} {a : Option Addr} {n cap : Nat} {xs news : List Value}
theorem Lst.append (h : Lst w E s a n cap xs) (ht : TI P t (.slice E) sz1 by1 z1) (hE : TI P E d s by_ z) (hz : z.cells.size = s) (hs : 0 < s)
    {nb no m c : Nat} {cur : Array Value} {T : Nat} {fz : Nat × Nat} (hb : w.heap[nb]? = some (.cells cur T fz)) (hl : news.length = m * s) (hnews : ∀ j u, news[j]? = some u → cur[no + j]? = some u) (h1 : news.all isCell = true)
    (hmax : n + m ≤ maxLen) (hby : (n + m) * by_ ≤ 140737488355328) :
    ∃ a' cap' w', apR P t (.slice a n cap) (.slice (some ⟨nb, no, none⟩) m c) w = .ok (.slice a' (n + m) cap') w' ∧ Lst w' E s a' (n + m) cap' (xs ++ news) ∧ Chg (fun k => blk a = some k) w w' ∧ (∀ g, blk a' = some g → blk a = some g ∨ (w.heap.size ≤ g ∧ g < w'.heap.size)) := by
  obtain ⟨i, hi, hi1, hi2, hi3⟩ := hE.inf
  have hn1 : ∀ u ∈ news, u.oneCell' = true := fun u hu => by
    have := List.all_eq_true.1 h1 u hu
    cases u <;> first | rfl | (simp [isCell] at this)
  have hc : ∀ j u, news[j]? = some u → w.cell? ((⟨nb, no, none⟩ : Addr).add j) = some u := fun j u hj => by
    rw [add_none, cell_rd1, hb]
    exact hnews j u hj
  obtain ⟨v', w', hr, hown, hg, hv⟩ := run_append_own (P := P) w 0 t 0 E i z s by_ ht.und hi hi3 hi1 hi2 hz hs (.slice a n cap) n xs h.own ⟨nb, no, none⟩ m c news hl hc hn1 hmax hby (Nat.zero_le _)
  obtain ⟨a', cap', rfl, hL⟩ := Lst.of_own hown
  have hblk : Value.ownBlock (.slice a n cap) = blk a := by cases a <;> rfl
  rw [hblk] at hg
  refine ⟨a', cap', w', hr, hL, ⟨hg.os, hg.tape, hg.output, hg.size, fun k hk hne => hg.block k hk (fun e => hne e.symm)⟩, fun g hg' => ?_⟩
  have hlt := hL.lt hg'
  rcases h.row with ⟨rfl, rfl, rfl⟩ | ⟨g0, cur0, rfl, hg0, hc1, hc2, hc3, hc4⟩
  · obtain rfl : xs = [] := List.eq_nil_of_length_eq_zero (by simpa using h.len)
    obtain ⟨v2, w2, hr2, hown2, _⟩ := run_append_own (P := P) w w.heap.size t 0 E i z s by_ ht.und hi hi3 hi1 hi2 hz hs (.slice none 0 0) 0 [] (World.ownsRow_nil _ _ _ _) ⟨nb, no, none⟩ m c news hl hc hn1 hmax hby (Nat.le_refl _)
    rw [hr] at hr2
    cases hr2
    refine .inr ⟨?_, hlt⟩
    have := hown2.lt g (by cases a' <;> first | exact hg' | cases hg')
    exact this.1
  · by_cases hroom : n + m ≤ cap
    · subst hi1
      have hfit : n * i.size + news.length ≤ cur0.size := by rw [hl, hc3, ← Nat.add_mul]; exact Nat.mul_le_mul_right _ hroom
      have hr2 := run_append_room (P := P) w t 0 E i ht.und hi g0 n cap cur0 hg0 ⟨nb, no, none⟩ m c news hl hc hn1 hroom hfit
      have hr' : (Builtin.append_ #[t, t] 0 #[.slice (some ⟨g0, 0, none⟩) n cap, .slice (some ⟨nb, no, none⟩) m c]).run P w = _ := hr
      rw [hr2] at hr'
      cases hr'
      exact .inl hg'
    · obtain ⟨v2, w2, hr2, hown2, _⟩ := run_append_arg_grows (P := P) w t 0 E i z s by_ ht.und hi hi3 hi1 hi2 hz hs ⟨g0, 0, none⟩ n cap xs h.len (fun j u hj => h.own.cells rfl j u hj) ⟨nb, no, none⟩ m c news hl hc (by omega) hmax hby
      have hr' : (Builtin.append_ #[t, t] 0 #[.slice (some ⟨g0, 0, none⟩) n cap, .slice (some ⟨nb, no, none⟩) m c]).run P w = _ := hr
      rw [hr2] at hr'
      cases hr'
      refine .inr ⟨?_, hlt⟩
      have := hown2.lt g (by cases a' <;> first | exact hg' | cases hg')
      exact this.1
theorem Lst.alloc (h : Lst w E s a n cap xs) (o : Obj) : Lst (w.alloc o) E s a n cap xs := h.keep fun g hg => alloc_old (by have := h.lt hg; omega)
/-- One element more, which has just been laid for it. -/
theorem Lst.push {us : List Value} (h : Lst w E s a n cap xs) (ht : TI P t (.slice E) sz1 by1 z1) (hE : TI P E d s by_ z) (hz : z.cells.size = s) (hs : 0 < s)
    (hl : us.length = s) (h1 : us.all isCell = true) (hmax : n + 1 ≤ 1099511627776) (hby : by_ ≤ 64) :
    ∃ a' cap' w', apR P t (.slice a n cap) (.slice (some ⟨w.heap.size, 0, none⟩) 1 1) (w.alloc (.cells us.toArray E)) = .ok (.slice a' (n + 1) cap') w' ∧ Lst w' E s a' (n + 1) cap' (xs ++ us) ∧ Chg (fun k => blk a = some k) w w' ∧ w.heap.size < w'.heap.size ∧ (∀ g, blk a' = some g → blk a = some g ∨ (w.heap.size ≤ g ∧ g < w'.heap.size)) := by
  have hm : n + 1 ≤ maxLen := by simp only [maxLen]; omega
  have hb : (n + 1) * by_ ≤ 140737488355328 := Nat.le_trans (Nat.mul_le_mul hmax hby) (by decide)
  obtain ⟨a', c', w', hr, hL, hC, hF⟩ := (h.alloc (.cells us.toArray E)).append (P := P) (c := 1) (no := 0) (m := 1) (news := us) ht hE hz hs alloc_new (by rw [hl, Nat.one_mul]) (fun j u hj => by simpa using hj) h1 hm hb
  have hsz := hC.size
  rw [alloc_size] at hsz
  refine ⟨a', c', w', hr, hL, ((Chg.refl (fun k => blk a = some k) w).alloc _).trans hC (fun b _ hb => hb), by omega, fun g hg => ?_⟩
  rcases hF g hg with h | ⟨h, h'⟩
  · exact .inl h
  · rw [alloc_size] at h; exact .inr ⟨by omega, h'⟩
end

/-! ### A world by a name -/
section
variable {w w0 w1 : World} {E s b T n cap : Nat} {a : Option Addr} {xs : List Value} {c : Array Value} {o : Obj} {F : Nat → Prop}
theorem Lst.updT (h : Lst w E s a n cap xs) (hw : upd w b o = w1) (hb : w.heap[b]? = some (.cells c T (0, 0))) (hT : T ≠ E) : Lst w1 E s a n cap xs := by
  subst hw
  exact h.keep fun g hg => upd_other (h.ne hg hb hT).symm
theorem Lst.updB (h : Lst w E s a n cap xs) (hw : upd w b o = w1) (hne : ∀ g, blk a = some g → g ≠ b) : Lst w1 E s a n cap xs := by
  subst hw
  exact h.keep fun g hg => upd_other (hne g hg).symm
theorem Lst.allocT (h : Lst w E s a n cap xs) (hw : w.alloc o = w1) : Lst w1 E s a n cap xs := hw ▸ h.alloc o
theorem Chg.updT (h : Chg F w0 w) (hw : Bx.upd w b o = w1) (hb : b < w0.heap.size → F b) : Chg F w0 w1 := hw ▸ h.upd hb o
theorem Chg.allocT (h : Chg F w0 w) (hw : w.alloc o = w1) : Chg F w0 w1 := hw ▸ h.alloc o
theorem at_upd {o' : Obj} {k : Nat} (h : w.heap[k]? = some o') (hw : upd w b o = w1) (hne : k ≠ b) : w1.heap[k]? = some o' := by
  subst hw; rw [upd_other (Ne.symm hne)]; exact h
theorem at_updb {o' : Obj} (hw : upd w b o = w1) (hb : w.heap[b]? = some o') : w1.heap[b]? = some o := hw ▸ upd_same (lt_of_heap hb)
theorem at_alloc {o' : Obj} {k : Nat} (h : w.heap[k]? = some o') (hw : w.alloc o = w1) : w1.heap[k]? = some o' := by
  subst hw; rw [alloc_old (by have := lt_of_heap h; omega)]; exact h
theorem at_chg {o' : Obj} {k : Nat} (h : w.heap[k]? = some o') (hC : Chg F w w1) (hne : ¬ F k) : w1.heap[k]? = some o' := by
  rw [hC.heap k (lt_of_heap h) hne]; exact h
theorem Lst.chg (h : Lst w E s a n cap xs) (hC : Chg F w w1) (hne : ∀ g, blk a = some g → ¬ F g) : Lst w1 E s a n cap xs :=
  h.keep fun g hg => hC.heap g (h.lt hg) (hne g hg)
theorem Lst.ext (h : Lst w E s a n cap xs) (hC : Ext w w1) : Lst w1 E s a n cap xs := h.keep fun g hg => hC.heap g (h.lt hg)
theorem ne_tag {g : Nat} {c2 : Array Value} (h : w.heap[g]? = some (.cells c2 E (0, 0))) (hb : w.heap[b]? = some (.cells c T (0, 0))) (hT : T ≠ E) : g ≠ b := by
  intro e; subst e
  rw [hb] at h; cases h; exact hT rfl
end

/-- A list that was handed in: rows of s cells each. -/
def Inp (W : World) (s : Nat) (a : Option Addr) (xs : List (List Value)) : Prop :=
  xs = [] ∨ ∃ b o c E fz, a = some ⟨b, o, none⟩ ∧ W.heap[b]? = some (.cells c E fz) ∧ ∀ i x, xs[i]? = some x → ∀ j u, x[j]? = some u → c[o + i * s + j]? = some u
theorem Inp.at {W : World} {s : Nat} {a : Option Addr} {xs : List (List Value)} (h : Inp W s a xs) {i : Nat} {x : List Value} (hx : xs[i]? = some x) :
    ∃ b o c E fz, a = some ⟨b, o, none⟩ ∧ W.heap[b]? = some (.cells c E fz) ∧ ∀ j u, x[j]? = some u → c[o + i * s + j]? = some u := by
  rcases h with rfl | ⟨b, o, c, E, fz, ha, hb, hc⟩
  · cases hx
  · exact ⟨b, o, c, E, fz, ha, hb, hc i x hx⟩
theorem row3 {c : Array Value} {i : Nat} {x y z : Value} (h0 : c[i]? = some x) (h1 : c[i + 1]? = some y) (h2 : c[i + 2]? = some z) : i + 3 ≤ c.size ∧ c.extract i (i + 3) = #[x, y, z] := by
  have hs : i + 2 < c.size := (Array.getElem?_eq_some_iff.1 h2).1
  refine ⟨by omega, ?_⟩
  apply Array.ext_getElem?
  intro j
  rw [Array.getElem?_extract]
  match j with
  | 0 => rw [if_pos (by omega)]; simpa using h0
  | 1 => rw [if_pos (by omega)]; simpa using h1
  | 2 => rw [if_pos (by omega)]; simpa using h2
  | j + 3 => rw [if_neg (by omega)]; simp
theorem row2 {c : Array Value} {i : Nat} {x y : Value} (h0 : c[i]? = some x) (h1 : c[i + 1]? = some y) : i + 2 ≤ c.size ∧ c.extract i (i + 2) = #[x, y] := by
  have hs : i + 1 < c.size := (Array.getElem?_eq_some_iff.1 h1).1
  refine ⟨by omega, ?_⟩
  apply Array.ext_getElem?
  intro j
  rw [Array.getElem?_extract]
  match j with
  | 0 => rw [if_pos (by omega)]; simpa using h0
  | 1 => rw [if_pos (by omega)]; simpa using h1
  | j + 2 => rw [if_neg (by omega)]; simp
end Go.Bx
