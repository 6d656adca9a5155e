/- ArR, StM, RcuA, StQ, BxFn, StF, StG, StS, ArR2, RsO, RsW, RsM, RsF, RsS: texts of this work, one behind the other. -/
import Derived.Test.YtpeindhocndmnaaSb6
/- Walks of layer 4's reference. -/
namespace Go.Proofs.Ytpeindhocndmnaa
open Go Go.Bx
set_option linter.unusedSimpArgs false
set_option linter.unusedVariables false
set_option maxRecDepth 100000
set_option maxHeartbeats 4000000
attribute [local irreducible] X XO XE XF XD XW thenX inX retX kN CallsR
abbrev ints (l : List Int) : List Value := l.map (Value.int .i64)
abbrev InI (w : World) (a : Option Addr) (l : List Int) : Prop := Inp w 1 a (one1 (ints l))
theorem InI.at {w : World} {a : Option Addr} {l : List Int} (h : InI w a l) : l = [] ∨ ∃ b o c E fz, a = some ⟨b, o, none⟩ ∧ w.heap[b]? = some (.cells c E fz) ∧ ∀ (i : Nat) (x : Int), l[i]? = some x → c[o + i]? = some (Value.int .i64 x) := by
  rcases h with h | ⟨b, o, c, E, fz, rfl, h2, h3⟩
  · exact .inl (List.map_eq_nil_iff.1 (List.map_eq_nil_iff.1 h))
  · refine .inr ⟨b, o, c, E, fz, rfl, h2, fun i x hx => ?_⟩
    have := h3 i [Value.int .i64 x] (by rw [List.getElem?_map, List.getElem?_map, hx]; rfl) 0 _ rfl
    rw [← this]; congr 1; omega
theorem pushI {w : World} {a : Option Addr} {cap : Nat} {l : List Int} (h : SlC w 3 a cap (ints l)) (hm : l.length ≤ 1000000000) (x : Int) :
    ∃ a' cap' w', apR Try.prog 34 (.slice a l.length cap) (.slice (some ⟨w.heap.size, 0, none⟩) 1 1) (w.alloc (.cells #[.int .i64 x] 3)) = .ok (.slice a' (l.length + 1) cap') w' ∧
      SlC w' 3 a' cap' (ints (l ++ [x])) ∧ Chg (fun k => blk a = some k) w w' ∧ w.heap.size < w'.heap.size ∧ (∀ g, blk a' = some g → blk a = some g ∨ (w.heap.size ≤ g ∧ g < w'.heap.size)) := by
  obtain ⟨a2, c2, w2, hr, hS2, hC2, hs2, hB2⟩ := h.push (P := Try.prog) (news := [.int .i64 x]) T34 T3 rfl rfl (by rw [List.length_map]; simp; omega) (by decide) (k := 1) rfl rfl
  have hl1 : (ints l ++ [Value.int .i64 x]).length = l.length + 1 := by simp
  rw [List.length_map, hl1] at hr
  exact ⟨a2, c2, w2, hr, by rw [ints, List.map_append]; exact hS2, hC2, hs2, hB2⟩
theorem mem_not {l : List Int} {n : Int} {k : Nat} (hl : k = l.length) (h : ∀ j, j < k → l[j]? ≠ some n) : decide (n ∈ l) = false := by
  refine decide_eq_false fun hm => ?_
  obtain ⟨j, hj, he⟩ := List.getElem_of_mem hm
  exact h j (by omega) (by rw [List.getElem?_eq_getElem hj, he])
theorem rin4_calls {w : World} {a : Option Addr} {c : Nat} {l : List Int} (hI : InI w a l) (hl : l.length ≤ 1099511627776) (n : Int) : Quiet Try.prog 157 #[.slice a l.length c, .int .i64 n] w (.bool (decide (n ∈ l))) := by
  intro u hu
  have hI := Inp.ext hI hu
  clear hu
  refine en2 Try.func157 Try.results157 mixed [] ?_
  intro e0 h0 h1
  refine w_ fun d => ?_
  refine lo_ (fun W e w' => ∃ k : Nat, k ≤ l.length ∧ e 5 = .int .i64 k ∧ Box (∀ j, j < k → l[j]? ≠ some n) ∧ Ext W w') (fun e _ => l.length - nat (e 5)) ?_ ?_
  · exact ⟨0, by omega, eA rfl, ⟨fun j hj => by omega⟩, ext_⟩
  rintro e w1 hf ⟨k, hk, h5, ⟨hi⟩, hE⟩
  have hs1 := sz_ hE
  have hI1 := Inp.ext hI hE
  clear hI
  by_cases hlt : k < l.length
  · obtain ⟨x, hx⟩ : ∃ x, l[k]? = some x := ⟨l[k], List.getElem?_eq_getElem (by omega)⟩
    rcases InI.at hI1 with rfl | ⟨b, o, cs, E, fz, rfl, hb, hat⟩
    · simp at hlt
    have hat := hat k x hx
    clear hI1
    by_cases e : x = n
    · subst e
      have hm : decide (x ∈ l) = true := decide_eq_true (List.mem_of_getElem? hx)
      clear hx hi
      refine w_ fun d => ?_
      exact ⟨by rw [hm], ext_⟩
    · have hi' : Box (∀ j, j < k + 1 → l[j]? ≠ some n) := ⟨fun j h => by
        by_cases e2 : j = k
        · subst e2; rw [hx]; simpa using e
        · exact hi j (by omega)⟩
      have e' : (x == n) = false := by simpa using e
      clear hx hi
      refine w_ fun d => ?_
      exact ⟨⟨k + 1, by omega, eA rfl, hi', ext_⟩, mA⟩
  · have hm := mem_not (by omega) hi
    obtain rfl : k = l.length := by omega
    clear hi hI1
    refine w_ fun d => ?_
    exact ⟨by rw [hm], ext_⟩
def wo (l : List Int) (n : Int) : List Int := l.filter fun x => decide (x ≠ n)
theorem wo_take {l : List Int} {n x : Int} {k : Nat} (hx : l[k]? = some x) : wo (l.take (k + 1)) n = if x = n then wo (l.take k) n else wo (l.take k) n ++ [x] := by
  rw [List.take_add_one, hx]
  unfold wo
  rw [List.filter_append]
  by_cases e : x = n <;> simp [e]
theorem rwo_calls {w : World} {a : Option Addr} {c : Nat} {l : List Int} (hI : InI w a l) (hl : l.length ≤ 1000000) (n : Int) :
    CallsR Try.prog 158 #[.slice a l.length c, .int .i64 n] w fun r w' => ∃ a' cap', r = .slice a' (wo l n).length cap' ∧ SlC w' 3 a' cap' (ints (wo l n)) ∧ (∀ g, blk a' = some g → w.heap.size ≤ g) ∧ Ext w w' := by
  refine en2 Try.func158 Try.results158 mixed [] ?_
  intro e0 h0 h1
  refine w_ fun d => ?_
  refine lo_ (fun W e w' => ∃ (k : Nat) (a' : Option Addr) (cap' : Nat) (m : List Int), k ≤ l.length ∧ e 6 = .int .i64 k ∧ e 5 = .slice a' m.length cap' ∧ SlC w' 3 a' cap' (ints m) ∧ (∀ g, blk a' = some g → w.heap.size ≤ g) ∧ Box (m = wo (l.take k) n) ∧ Ext w w') (fun e _ => l.length - nat (e 6)) ?_ ?_
  · exact ⟨0, none, 0, [], by omega, eA rfl, eA rfl, SlC.nil _ _, (fun g h => by cases h), ⟨by simp [wo]⟩, ext_⟩
  rintro e w1 hf ⟨k, a', cap', m, hk, h6, h5, hS, hn, ⟨hi⟩, hE⟩
  have hs1 := sz_ hE
  have hml : m.length ≤ k := by rw [hi]; exact Nat.le_trans (List.length_filter_le _ _) (by rw [List.length_take]; omega)
  have hI1 := Inp.ext hI hE
  by_cases hlt : k < l.length
  · obtain ⟨x, hx⟩ : ∃ x, l[k]? = some x := ⟨l[k], List.getElem?_eq_getElem (by omega)⟩
    rcases InI.at hI1 with rfl | ⟨b, o, cs, E, fz, rfl, hb, hat⟩
    · simp at hlt
    have hat := hat k x hx
    have ht := wo_take (n := n) hx
    clear hI1
    by_cases e : x = n
    · have hi' : Box (m = wo (l.take (k + 1)) n) := ⟨by rw [ht, if_pos e]; exact hi⟩
      have e' : (x == n) = true := by simpa using e
      clear hx hi ht hI
      refine w_ fun d => ?_
      exact ⟨⟨k + 1, a', cap', m, by omega, eA rfl, eA rfl, hS, hn, hi', ext_⟩, mA⟩
    · have hi' : Box (m ++ [x] = wo (l.take (k + 1)) n) := ⟨by rw [ht, if_neg e, ← hi]⟩
      have e' : (x == n) = false := by simpa using e
      obtain ⟨a2, c2, w2, hr, hS2', hC2, hs2, hB2⟩ := pushI hS (by omega) x
      have hE2 : Ext w w2 := hC2.toExt hE fun g hg hb => by have := hn g hb; omega
      have hn2 : ∀ g, blk a2 = some g → w.heap.size ≤ g := fun g hg => by
        rcases hB2 g hg with h | ⟨h, _⟩
        · exact hn g h
        · omega
      clear hx hi ht hI hS hn hC2 hB2
      refine w_ fun d => ?_
      exact ⟨⟨k + 1, a2, c2, m ++ [x], by omega, eA rfl, by rw [List.length_append]; exact eA rfl, hS2', hn2, hi', hE2⟩, mA⟩
  · obtain rfl : k = l.length := by omega
    rw [List.take_length] at hi
    subst hi
    clear hI1 hI
    refine w_ fun d => ?_
    exact ⟨a', cap', rfl, hS, hn, ext_⟩

/-- The reference's arena in memory: what is taken stands in a list, in any order. -/
structure RaO (F : Nat → Prop) (w : World) (p : Nat) (a : Ar) (K : List Int) (ta : Option Addr) (tc : Nat) (fa : Option Addr) (fc : Nat) : Prop where
  at_ : w.heap[p]? = some (.cells #[.int .i64 a.most, .slice ta K.length tc, .slice fa a.Fr.length fc, .int .i64 a.T.length] 169)
  T : SlC w 3 ta tc (ints K)
  Fr : SlC w 3 fa fc (ints a.Fr)
  fp : F p
  ft : ∀ g, blk ta = some g → F g
  ff : ∀ g, blk fa = some g → F g
  dj : ∀ g, blk ta = some g → blk fa ≠ some g
  lt : ∀ k, F k → k < w.heap.size
  nd : K.Nodup
  mem : ∀ n, n ∈ K ↔ a.has n = true
def RaI (F : Nat → Prop) (w : World) (p : Nat) (a : Ar) : Prop := ∃ K ta tc fa fc, RaO F w p a K ta tc fa fc
section
variable {F : Nat → Prop} {w w' : World} {p : Nat} {a : Ar}
theorem RaI.keep (h : RaI F w p a) (hk : ∀ k, F k → w'.heap[k]? = w.heap[k]?) (hs : w.heap.size ≤ w'.heap.size) : RaI F w' p a := by
  obtain ⟨K, ta, tc, fa, fc, h⟩ := h
  exact ⟨K, ta, tc, fa, fc, by rw [hk p h.fp]; exact h.at_, h.T.keep fun g hg => hk g (h.ft g hg), h.Fr.keep fun g hg => hk g (h.ff g hg), h.fp, h.ft, h.ff, h.dj, fun k hk' => Nat.lt_of_lt_of_le (h.lt k hk') hs, h.nd, h.mem⟩
theorem RaI.wider {G : Nat → Prop} (h : RaI F w p a) (hFG : ∀ k, F k → G k) (hG : ∀ k, G k → k < w.heap.size) : RaI G w p a := by
  obtain ⟨K, ta, tc, fa, fc, h⟩ := h
  exact ⟨K, ta, tc, fa, fc, h.at_, h.T, h.Fr, hFG _ h.fp, fun g hg => hFG _ (h.ft g hg), fun g hg => hFG _ (h.ff g hg), h.dj, hG, h.nd, h.mem⟩
theorem RaI.lt (h : RaI F w p a) : ∀ k, F k → k < w.heap.size := by obtain ⟨_, _, _, _, _, h⟩ := h; exact h.lt
theorem RaI.ext (h : RaI F w p a) (hE : Ext w w') : RaI F w' p a := h.keep (fun k hk => hE.heap k (h.lt k hk)) hE.size
theorem RaI.grown (h : RaI F w p a) (hE : Ext w w') : RaI (Grow F w w') w' p a := (h.ext hE).wider (fun k hk => .inl hk) fun k hk => hk.elim (fun h1 => Nat.lt_of_lt_of_le (h.lt k h1) hE.size) fun h1 => h1.2
theorem RaI.fp (h : RaI F w p a) : F p := by obtain ⟨_, _, _, _, _, h⟩ := h; exact h.fp
theorem RaI.tag (h : RaI F w p a) : ∃ c, w.heap[p]? = some (.cells c 169 (0, 0)) := by obtain ⟨_, _, _, _, _, h⟩ := h; exact ⟨_, h.at_⟩
theorem RaO.len {K : List Int} {ta fa : Option Addr} {tc fc : Nat} (h : RaO F w p a K ta tc fa fc) (ho : a.OK) : (K.length : Int) = a.many := ho.count h.nd h.mem
end
theorem raHas_calls {F : Nat → Prop} {w : World} {p : Nat} {a : Ar} (h : RaI F w p a) (ho : a.OK) (n : Int) : Quiet Try.prog 156 #[.pointer (some ⟨p, 0, none⟩), .int .i64 n] w (.bool (a.has n)) := by
  intro u hu
  have h := h.ext hu
  clear hu
  obtain ⟨K, ta, tc, fa, fc, h⟩ := h
  have hl := h.len ho
  have hm := ho.many_le
  have hmost := ho.most
  have hp := h.at_
  have c1 := rin4_calls (c := tc) (a := ta) (l := K) h.T.inp (by omega) n
  have e : decide (n ∈ K) = a.has n := by
    have := h.mem n
    cases hh : a.has n <;> rw [hh] at this <;> simpa using this
  rw [e] at c1
  clear h hl hm hmost e ho
  refine en2 Try.func156 Try.results156 mixed [] ?_
  intro e0 h0 h1
  refine w_ fun d => ?_
  refine callQ c1.call fun w1 hE1 hs1 => ?_
  refine w_ fun d => ?_
  exact ⟨rfl, ext_⟩
end Go.Proofs.Ytpeindhocndmnaa

/- Walks of layer 7: a node is made. -/
namespace Go.Proofs.Ytpeindhocndmnaa
open Go Go.Bx
set_option linter.unusedSimpArgs false
set_option linter.unusedVariables false
set_option maxRecDepth 100000
set_option maxHeartbeats 4000000
attribute [local irreducible] X XO XE XF XD XW thenX inX retX kN CallsR
def StI (own : Nat → Nat) (w : World) (p : Nat) (s : Md) (but : List Int) : Prop := ∃ R M c, StR own w p ⟨s.a, s.N, R, s.ord, M, c⟩ ∧ Agr s but R M c
/-- What comes of a call that turns a store. -/
def TrI (own : Nat → Nat) (w : World) (p : Nat) (s' : Md) (but' : List Int) (w' : World) : Prop := ∃ own', StI own' w' p s' but' ∧ (∀ k, k < w.heap.size → own' k = own k) ∧ Chg (foot own) w w'
section
variable {own own1 : Nat → Nat} {w w' w1 w2 : World} {p : Nat} {s s' s1 s2 : Md} {but but' : List Int} {n v lo hi : Int}
theorem StI.ext (h : StI own w p s but) (hE : Ext w w') : StI own w' p s but := by
  obtain ⟨R, M, c, h, A⟩ := h
  exact ⟨R, M, c, h.ext hE, A⟩
theorem StI.lt (h : StI own w p s but) : ∀ k, own k ≠ 0 → k < w.heap.size := by obtain ⟨R, M, c, h, A⟩ := h; exact h.lt
theorem StI.op (h : StI own w p s but) : own p = 1 := by obtain ⟨R, M, c, h, A⟩ := h; exact h.op
theorem TrI.of_ext (h : StI own w p s but) (hE : Ext w w') : TrI own w p s but w' := ⟨own, h.ext hE, fun _ _ => rfl, hE.chg _⟩
theorem TrI.trans (ho : ∀ k, k < w.heap.size → own1 k = own k) (hC : Chg (foot own) w w1) (k : TrI own1 w1 p s2 but w2) : TrI own w p s2 but w2 := by
  obtain ⟨own2, h2, ho2, hC2⟩ := k
  have hs := hC.size
  exact ⟨own2, h2, fun k hk => (ho2 k (by omega)).trans (ho k hk), hC.trans hC2 fun b hb hf => by unfold foot at hf ⊢; rw [← ho b hb]; exact hf⟩
theorem TrI.ext (k : TrI own w p s but w1) (hE : Ext w1 w2) : TrI own w p s but w2 := by
  obtain ⟨own2, h2, ho2, hC2⟩ := k
  exact ⟨own2, h2.ext hE, ho2, hC2.transE hE⟩
theorem errV_ne {c : Int} (h : c ≠ 0) : errV c = .iface 127 (.int .i64 c) := if_neg h
theorem Agr.get {R : List Int} {M : Nat → Ky → Option Int} {c : Nat → Int} (A : Agr s but R M c) (G : s.Good but) (hv : 0 ≤ v ∧ v < 8) : M v.toNat (lo, hi) = s.find but (v, lo, hi) := by
  have hvn : ((v.toNat : Nat) : Int) = v := by omega
  have hm := A.map v.toNat (by omega) (lo, hi)
  rw [hvn] at hm
  cases hf : s.find but (v, lo, hi) with
  | some n => obtain ⟨a, b, c⟩ := Md.find_some hf; exact (hm n).2 ⟨a, b, c⟩
  | none =>
    cases hM : M v.toNat (lo, hi) with
    | none => rfl
    | some n =>
      obtain ⟨a, b, c⟩ := (hm n).1 hM
      exact absurd c (G.wf.find_none hf a b)
theorem Md.below_lt (W : s.WF) (h : s.below n v = true) : n ≤ 1000000 ∧ (2 ≤ n → n - 2 < s.N.length) := by
  have h1 := W.len
  have h2 := W.ar.lim
  have h3 := W.ar.most
  rcases Md.below_iff.1 h with e | e | e
  · omega
  · omega
  · have := W.lt e.1; omega
end
section
variable {own : Nat → Nat} {w w' w1 : World} {p : Nat} {s : Raw} {pa : Nat} {na : Option Addr} {nc : Nat} {ra : Option Addr} {rc : Nat} {pu : Nat → Nat} {sc oc : Array Value}
theorem StX.pushN (h : StX own w p s pa na nc ra rc pu sc oc) {x : Nd} {a' : Option Addr} {c' : Nat} (hS : SlN w1 a' c' (s.N ++ [x])) (hC : Chg (fun k => blk na = some k) w w1) (hB : ∀ g, blk a' = some g → blk na = some g ∨ (w.heap.size ≤ g ∧ g < w1.heap.size)) :
    w1.heap[p]? = some (.cells sc 120) ∧ StX (ownUp own w w1 3) (upd w1 p (.cells (sc.setIfInBounds 2 (.slice a' (s.N.length + 1) c')) 120)) p { s with N := s.N ++ [x] } pa a' c' ra rc pu (sc.setIfInBounds 2 (.slice a' (s.N.length + 1) c')) oc ∧
    Chg (foot own) w (upd w1 p (.cells (sc.setIfInBounds 2 (.slice a' (s.N.length + 1) c')) 120)) := by
  have hC3 : Chg (owns own 3) w w1 := hC.mono fun k _ hk => h.on k hk
  obtain ⟨h1, h2, h3, h4, h5, h6, h7, h8, h9⟩ := h.turn hC3 (by decide)
  have hp1 := h1 (by decide)
  have hpl := lt_of_heap hp1
  have hpo : ∀ k, ownUp own w w1 3 k ≠ 1 → (upd w1 p (.cells (sc.setIfInBounds 2 (.slice a' (s.N.length + 1) c')) 120)).heap[k]? = w1.heap[k]? := fun k hk => upd_other fun e => hk (by rw [← e]; exact h2)
  have on' : ∀ g, blk a' = some g → ownUp own w w1 3 g = 3 := fun g hg => by
    rcases hB g hg with h' | h'
    · exact h5 g h'
    · unfold ownUp; rw [if_pos h']
  have ar := h3 (by decide)
  refine ⟨hp1, ⟨upd_same hpl, ?_, h.oc, h2, ar.keep (fun k hk => hpo k (by unfold owns at hk; omega)) (by rw [upd_size]; exact Nat.le_refl _), Sl.keep hS fun g hg => hpo g (by rw [on' g hg]; decide), on', (h6 (by decide)).keep fun g hg => hpo g (by rw [h7 g hg]; decide), h7, fun v hv => ?_, fun k hk => by rw [upd_size]; exact h9 k hk⟩, ?_⟩
  · have := h.cs.setN a' (s.N.length + 1) c'
    rw [show (s.N ++ [x]).length = s.N.length + 1 by simp]
    exact this
  · exact (h8 v hv (by omega)).keep (fun k hk => hpo k (by unfold owns at hk; omega)) (by rw [upd_size]; exact Nat.le_refl _)
  · exact (Chg.foot hC3 (by decide)).upd (fun _ => by unfold foot; rw [h.op]; decide) _
theorem StX.pushR (h : StX own w p s pa na nc ra rc pu sc oc) {x : Int} {a' : Option Addr} {c' : Nat} (hS : SlC w1 3 a' c' ((s.R ++ [x]).map (.int .i64))) (hC : Chg (fun k => blk ra = some k) w w1) (hB : ∀ g, blk a' = some g → blk ra = some g ∨ (w.heap.size ≤ g ∧ g < w1.heap.size)) :
    w1.heap[p]? = some (.cells sc 120) ∧ StX (ownUp own w w1 4) (upd w1 p (.cells (sc.setIfInBounds 3 (.slice a' (s.R.length + 1) c')) 120)) p { s with R := s.R ++ [x] } pa na nc a' c' pu (sc.setIfInBounds 3 (.slice a' (s.R.length + 1) c')) oc ∧
    Chg (foot own) w (upd w1 p (.cells (sc.setIfInBounds 3 (.slice a' (s.R.length + 1) c')) 120)) := by
  have hC3 : Chg (owns own 4) w w1 := hC.mono fun k _ hk => h.or k hk
  obtain ⟨h1, h2, h3, h4, h5, h6, h7, h8, h9⟩ := h.turn hC3 (by decide)
  have hp1 := h1 (by decide)
  have hpl := lt_of_heap hp1
  have hpo : ∀ k, ownUp own w w1 4 k ≠ 1 → (upd w1 p (.cells (sc.setIfInBounds 3 (.slice a' (s.R.length + 1) c')) 120)).heap[k]? = w1.heap[k]? := fun k hk => upd_other fun e => hk (by rw [← e]; exact h2)
  have or' : ∀ g, blk a' = some g → ownUp own w w1 4 g = 4 := fun g hg => by
    rcases hB g hg with h' | h'
    · exact h7 g h'
    · unfold ownUp; rw [if_pos h']
  have ar := h3 (by decide)
  refine ⟨hp1, ⟨upd_same hpl, ?_, h.oc, h2, ar.keep (fun k hk => hpo k (by unfold owns at hk; omega)) (by rw [upd_size]; exact Nat.le_refl _), Sl.keep (h4 (by decide)) fun g hg => hpo g (by rw [h5 g hg]; decide), h5, hS.keep fun g hg => hpo g (by rw [or' g hg]; decide), or', fun v hv => ?_, fun k hk => by rw [upd_size]; exact h9 k hk⟩, ?_⟩
  · have := h.cs.setR a' (s.R.length + 1) c'
    rw [show (s.R ++ [x]).length = s.R.length + 1 by simp]
    exact this
  · exact (h8 v hv (by omega)).keep (fun k hk => hpo k (by unfold owns at hk; omega)) (by rw [upd_size]; exact Nat.le_refl _)
  · exact (Chg.foot hC3 (by decide)).upd (fun _ => by unfold foot; rw [h.op]; decide) _
end
/-- A number was taken for a node; none is laid there as yet. -/
def _root_.Go.Bx.Md.add0 (s : Md) (k : Int) (b : Ar) : Md := ⟨b, if k = s.N.length then s.N ++ [(0, 0, 0)] else s.N, s.ord⟩
def addR (s : Md) (k : Int) (R : List Int) : List Int := if k = s.N.length then R ++ [0] else R
structure Add0 (s : Md) (but : List Int) (k : Int) (b : Ar) (R : List Int) (M : Nat → Ky → Option Int) (c : Nat → Int) : Prop where
  wf : (s.add0 k b).WF
  agr : Agr (s.add0 k b) ((k + 2) :: but) (addR s k R) M c
  has : (s.add0 k b).has (k + 2) = true
  nb : k + 2 ∉ but
  le : ∀ n, s.has n = true → (s.add0 k b).has n = true ∧ (s.add0 k b).nd n = s.nd n
  lt : 0 ≤ k ∧ k < (s.add0 k b).N.length
  lay : ∀ x, (s.add0 k b).lay (k + 2) x = s.add k b x
  grow : s.N.length ≤ (s.add0 k b).N.length
  hm : ∀ n, ((s.add0 k b).has n = true ∧ n ∉ (k + 2) :: but) ↔ (s.has n = true ∧ n ∉ but)
theorem Agr.add0 {s : Md} {but : List Int} {k : Int} {b : Ar} {R : List Int} {M : Nat → Ky → Option Int} {c : Nat → Int} (A : Agr s but R M c) (G : s.Good but) (ht : s.a.take = some (k, b)) : Add0 s but k b R M c := by
  have W := G.wf
  obtain ⟨b1, b2, b3, b4, b5, b6, b7, b8⟩ := W.ar.taken ht
  have hlen := W.len
  have hh : ∀ m, (s.add0 k b).has m = (s.has m || decide (m = k + 2)) := by
    intro m
    unfold Md.has Md.add0
    rw [b7]
    by_cases e : m = k + 2
    · subst e; simp; omega
    · have : ¬ (m - 2 = k) := by omega
      simp [e, this]
  have hno : s.has (k + 2) = false := by
    unfold Md.has; rw [show k + 2 - 2 = k by omega, b4]; simp
  have hnb : k + 2 ∉ but := fun h => by have := G.sub _ h; rw [hno] at this; cases this
  have W' : (s.add0 k b).WF := by
    refine ⟨b1, ?_, W.ord⟩
    simp only [Md.add0]
    rw [b8, hlen]
    split
    · rw [List.length_append, hlen]; rfl
    · exact hlen
  have hle : ∀ n, s.has n = true → (s.add0 k b).has n = true ∧ (s.add0 k b).nd n = s.nd n := fun n hn => by
    refine ⟨by rw [hh, hn]; rfl, ?_⟩
    have hm2 := W.lt hn
    unfold Md.nd Md.add0
    simp only
    split
    · rw [List.getD, List.getElem?_append_left (by omega)]; rfl
    · rfl
  have hm : ∀ n, ((s.add0 k b).has n = true ∧ n ∉ (k + 2) :: but) ↔ (s.has n = true ∧ n ∉ but) := fun n => by
    rw [hh]
    by_cases e : n = k + 2
    · subst e; simp [hno]
    · simp [e]
  have hgr : s.N.length ≤ (s.add0 k b).N.length := by simp only [Md.add0]; split <;> simp
  refine ⟨W', A.same W W' ?_ hm (fun n hn _ => (hle n hn).2) fun j hj => ?_, by rw [hh]; simp, hnb, hle, ⟨b5, ?_⟩, fun x => ?_, hgr, hm⟩
  · simp only [addR, Md.add0]
    split
    · rw [List.length_append, List.length_append, A.len]; rfl
    · exact A.len
  · by_cases hjl : j < s.N.length
    · refine .inl ⟨hjl, ?_⟩
      unfold addR
      split
      · rw [List.getD, List.getElem?_append_left (by rw [A.len]; exact hjl)]; rfl
      · rfl
    · right
      have hk : k = s.N.length := by
        simp only [Md.add0] at hj
        split at hj
        · assumption
        · omega
      refine ⟨?_, fun n hn hb => ?_⟩
      · unfold addR
        rw [if_pos hk]
        simp only [Md.add0] at hj
        rw [if_pos hk, List.length_append, List.length_singleton] at hj
        have : j = R.length := by rw [A.len]; omega
        rw [List.getD, this, List.getElem?_append_right (Nat.le_refl _), Nat.sub_self]; rfl
      · have ok := G.node n hn hb
        have key : ∀ c v, s.below c v = true → c ≠ (j : Int) + 2 := fun c v hc e => by
          rcases Md.below_iff.1 hc with e' | e' | e'
          · omega
          · omega
          · have := W.lt e'.1; omega
        exact ⟨key _ _ ok.lo, key _ _ ok.hi⟩
  · simp only [Md.add0]
    split
    · rename_i e; rw [List.length_append, List.length_singleton]; omega
    · omega
  · unfold Md.add Md.lay Md.add0
    simp only [Md.mk.injEq, true_and, and_true]
    rw [show k + 2 - 2 = k by omega]
    split
    · rename_i e
      rw [e, show ((s.N.length : Int)).toNat = s.N.length by omega, List.set_append_right _ _ (Nat.le_refl _), Nat.sub_self]; rfl
    · rfl
section
variable {own : Nat → Nat} {w w' w1 : World} {p : Nat} {s : Md} {but : List Int} {v lo hi : Int}
theorem stMk_calls (h : StI own w p s but) (G : s.Good but) (hlo : lo ≤ 9223372036854775807) (hhi : hi ≤ 9223372036854775807) :
    CallsR Try.prog 82 #[.pointer (some ⟨p, 0, none⟩), .int .i64 v, .int .i64 lo, .int .i64 hi] w fun r w' => r = .tuple #[.int .i64 (s.mk' but v lo hi).1.1, errV (s.mk' but v lo hi).1.2] ∧ TrI own w p (s.mk' but v lo hi).2 but w' := by
  obtain ⟨R, M, c, hR, A⟩ := id h
  have W := G.wf
  have b0 := stBelow_calls hR W.len lo v hlo
  have b1 := stBelow_calls hR W.len hi v hhi
  have hmd : (⟨s.a, s.N, R, s.ord, M, c⟩ : Raw).md = s := rfl
  rw [hmd] at b0 b1
  have hk := W.mks but v lo hi
  generalize s.mk' but v lo hi = res at hk
  cases hk with
  | bad hbad =>
    by_cases hv0 : 0 ≤ v
    · by_cases hv1 : v < 8
      · cases e0 : s.below lo v
        · rw [e0] at b0
          clear hbad hmd A W G hR e0
          refine en4 Try.func82 Try.results82 mixed [] ?_
          intro e0 h0 h1 h2 h3
          refine w_ fun d => ?_
          refine callQ b0.call fun w1 hE1 hs1 => ?_
          refine w_ fun d => ?_
          exact ⟨rfl, TrI.of_ext h ext_⟩
        · cases e1 : s.below hi v
          · rw [e0] at b0
            rw [e1] at b1
            clear hbad hmd A W G hR e0 e1
            refine en4 Try.func82 Try.results82 mixed [] ?_
            intro e0 h0 h1 h2 h3
            refine w_ fun d => ?_
            refine callQ b0.call fun w1 hE1 hs1 => ?_
            refine w_ fun d => ?_
            refine callQ (b1.at (by assumption)).call fun w2 hE2 hs2 => ?_
            refine w_ fun d => ?_
            exact ⟨rfl, TrI.of_ext h ext_⟩
          · exact absurd ⟨⟨hv0, hv1⟩, e0, e1⟩ hbad
      · clear hbad hmd A W G hR b0 b1
        refine en4 Try.func82 Try.results82 mixed [] ?_
        intro e0 h0 h1 h2 h3
        refine w_ fun d => ?_
        exact ⟨rfl, TrI.of_ext h ext_⟩
    · clear hbad hmd A W G hR b0 b1
      refine en4 Try.func82 Try.results82 mixed [] ?_
      intro e0 h0 h1 h2 h3
      refine w_ fun d => ?_
      exact ⟨rfl, TrI.of_ext h ext_⟩
  | same hv e0 e1 e =>
    subst e
    rw [e0] at b0 b1
    clear hmd A W G hR e0
    obtain ⟨hv0, hv1⟩ := hv
    refine en4 Try.func82 Try.results82 mixed [] ?_
    intro e0 h0 h1 h2 h3
    refine w_ fun d => ?_
    refine callQ b0.call fun w1 hE1 hs1 => ?_
    refine w_ fun d => ?_
    refine callQ (b1.at (by assumption)).call fun w2 hE2 hs2 => ?_
    refine w_ fun d => ?_
    exact ⟨rfl, TrI.of_ext h ext_⟩
  | found n hv e0 e1 e hf hn hb hx =>
    rw [e0] at b0
    rw [e1] at b1
    have hg := A.get G (lo := lo) (hi := hi) hv
    rw [hf] at hg
    obtain ⟨hv0, hv1⟩ := hv
    obtain ⟨vn, rfl⟩ := Int.eq_ofNat_of_zero_le hv0
    rw [Int.toNat_natCast] at hg
    have hvn : vn < 8 := by omega
    obtain ⟨pa, na, nc, ra, rc, pu, sc, oc, hX⟩ := hR
    have g0 := uqGet_calls (hX.un vn hvn) lo hi
    rw [show (⟨s.a, s.N, R, s.ord, M, c⟩ : Raw).M vn (lo, hi) = some n from hg] at g0
    simp only [Option.getD_some, Option.isSome_some] at g0
    have hp := hX.at_
    have hpl := lt_of_heap hp
    have hsz := hX.cs.size
    have cu := hX.cs.cu vn hvn
    have e' : (lo == hi) = false := by simpa using e
    clear hmd A W G hX e hf hn hb hx hg e0 e1
    refine en4 Try.func82 Try.results82 mixed [] ?_
    intro e0 h0 h1 h2 h3
    refine w_ fun d => ?_
    refine callQ b0.call fun w1 hE1 hs1 => ?_
    refine w_ fun d => ?_
    refine callQ (b1.at (by assumption)).call fun w2 hE2 hs2 => ?_
    have hE2w := hE1.trans hE2
    refine w_ fun d => ?_
    refine callQ (g0.at (by assumption)).call fun w3 hE3 hs3 => ?_
    refine w_ fun d => ?_
    exact ⟨rfl, TrI.of_ext h ext_⟩
  | full hv e0 e1 e hf ht hm =>
    rw [e0] at b0
    rw [e1] at b1
    have hg := A.get G (lo := lo) (hi := hi) hv
    rw [hf] at hg
    obtain ⟨hv0, hv1⟩ := hv
    obtain ⟨vn, rfl⟩ := Int.eq_ofNat_of_zero_le hv0
    rw [Int.toNat_natCast] at hg
    have hvn : vn < 8 := by omega
    obtain ⟨pa, na, nc, ra, rc, pu, sc, oc, hX⟩ := hR
    have g0 := uqGet_calls (hX.un vn hvn) lo hi
    rw [show (⟨s.a, s.N, R, s.ord, M, c⟩ : Raw).M vn (lo, hi) = none from hg] at g0
    simp only [Option.getD_none, Option.isSome_none] at g0
    have hp := hX.at_
    have hpl := lt_of_heap hp
    have hsz := hX.cs.size
    have cu := hX.cs.cu vn hvn
    have ca := hX.cs.c1
    have e' : (lo == hi) = false := by simpa using e
    have tk := fun u (hu : Ext w u) => arTake_calls ((hX.ext hu).ar) W.ar
    rw [show (⟨s.a, s.N, R, s.ord, M, c⟩ : Raw).a = s.a from rfl, ht] at tk
    clear hmd b0 b1
    have b0 := stBelow_calls (w := w) ⟨pa, na, nc, ra, rc, pu, sc, oc, hX⟩ W.len lo vn hlo
    have b1 := stBelow_calls (w := w) ⟨pa, na, nc, ra, rc, pu, sc, oc, hX⟩ W.len hi vn hhi
    rw [show (⟨s.a, s.N, R, s.ord, M, c⟩ : Raw).md = s from rfl, e0] at b0
    rw [show (⟨s.a, s.N, R, s.ord, M, c⟩ : Raw).md = s from rfl, e1] at b1
    clear e hf hm hg e0 e1
    refine en4 Try.func82 Try.results82 mixed [] ?_
    intro e0 h0 h1 h2 h3
    refine w_ fun d => ?_
    refine callQ b0.call fun w1 hE1 hs1 => ?_
    refine w_ fun d => ?_
    refine callQ (b1.at (by assumption)).call fun w2 hE2 hs2 => ?_
    have hE2w := hE1.trans hE2
    refine w_ fun d => ?_
    refine callQ (g0.at (by assumption)).call fun w3 hE3 hs3 => ?_
    have hE3w := hE2w.trans hE3
    refine w_ fun d => ?_
    refine (tk _ hE3w).mono ?_
    rintro _ w4 ⟨b, (⟨n, hh, _⟩ | ⟨_, rfl, rfl⟩), hA, hC⟩
    · cases hh
    refine w_ fun d => ?_
    have hX3 := hX.ext hE3w
    have hX4 := hX3.setAr rfl hA hC
    refine ⟨rfl, _, ⟨R, M, c, ⟨_, _, _, _, _, _, _, _, hX4⟩, A⟩, fun k hk => ownUp_old (by have := hE3w.size; omega), (hE3w.chg _).trans (Chg.foot hC (by decide)) fun _ _ h => h⟩
  | new k b hv e0 e1 e hf ht =>
    have D := A.add0 G ht
    have hg := A.get G (lo := lo) (hi := hi) hv
    rw [hf] at hg
    obtain ⟨hv0, hv1⟩ := hv
    obtain ⟨vn, rfl⟩ := Int.eq_ofNat_of_zero_le hv0
    rw [Int.toNat_natCast] at hg
    have hvn : vn < 8 := by omega
    obtain ⟨pa, na, nc, ra, rc, pu, sc, oc, hX⟩ := hR
    have g0 := uqGet_calls (hX.un vn hvn) lo hi
    rw [show (⟨s.a, s.N, R, s.ord, M, c⟩ : Raw).M vn (lo, hi) = none from hg] at g0
    simp only [Option.getD_none, Option.isSome_none] at g0
    have hp := hX.at_
    have hpl := lt_of_heap hp
    have hsz := hX.cs.size
    have cu := hX.cs.cu vn hvn
    have ca := hX.cs.c1
    have cn := hX.cs.c2
    have e' : (lo == hi) = false := by simpa using e
    have tk := fun u (hu : Ext w u) => arTake_calls ((hX.ext hu).ar) W.ar
    rw [show (⟨s.a, s.N, R, s.ord, M, c⟩ : Raw).a = s.a from rfl, ht] at tk
    clear hmd b0 b1
    have b0 := stBelow_calls (w := w) ⟨pa, na, nc, ra, rc, pu, sc, oc, hX⟩ W.len lo vn hlo
    have b1 := stBelow_calls (w := w) ⟨pa, na, nc, ra, rc, pu, sc, oc, hX⟩ W.len hi vn hhi
    rw [show (⟨s.a, s.N, R, s.ord, M, c⟩ : Raw).md = s from rfl, e0] at b0
    rw [show (⟨s.a, s.N, R, s.ord, M, c⟩ : Raw).md = s from rfl, e1] at b1
    -- the counts
    have W1 := D.wf
    have hN1 : (s.add0 k b).N.length ≤ 20000 := by
      have h1 := W1.len
      have h2 := W1.ar.lim
      have h3 := W1.ar.most
      omega
    have hc1 : c vn ≤ 19999 := by
      have h1 := D.agr.cnt_le W1 hvn
      have h2 := live_lt (but := (k + 2) :: but) W1 D.has (by simp)
      have h3 := W1.ar.many_le
      have h4 := W1.ar.most
      omega
    have hlo1 : lo - 2 < ((s.add0 k b).N.length : Int) := by
      have h1 := Md.below_lt W e0
      have h2 := D.grow
      by_cases h3 : 2 ≤ lo
      · have := h1.2 h3; omega
      · omega
    have hhi1 : hi - 2 < ((s.add0 k b).N.length : Int) := by
      have h1 := Md.below_lt W e1
      have h2 := D.grow
      by_cases h3 : 2 ≤ hi
      · have := h1.2 h3; omega
      · omega
    have hsm := D.agr.small W1
    have hfin := D.agr.lay W1 D.has D.nb (v := vn) (lo := lo) (hi := hi) ⟨hv0, hv1⟩ (fun _ => hlo1) (fun _ => hhi1) (fun m hm hmb => by
      obtain ⟨h1, h2⟩ := (D.hm m).1 ⟨hm, hmb⟩
      rw [(D.le m h1).2]
      exact W.find_none hf h1 h2)
    rw [D.lay] at hfin
    have hlay := D.lay ((vn : Int), lo, hi)
    have hk0 := D.lt
    have hlenR := D.agr.len
    have hmostb := (W.ar.taken ht).2.1
    have hN0 : s.N.length ≤ 20000 := by have := D.grow; omega
    have hRl := A.len
    -- the last step
    have last : ∀ {own' : Nat → Nat} {u : World}, StR own' u p ⟨b, (s.add0 k b).N, addR s k R, s.ord, M, c⟩ → (∀ j, j < w.heap.size → own' j = own j) → Chg (foot own) w u →
        CallsR Try.prog 98 #[.pointer (some ⟨p, 0, none⟩), .int .i64 (k + 2), .agg #[.int .i64 vn, .int .i64 lo, .int .i64 hi]] u fun r w' => TrI own w p (s.add k b ((vn : Int), lo, hi)) but w' := by
      intro own' u hR' ho hC
      refine (stLay_calls hR' (n := k + 2) (v := vn) (lo := lo) (hi := hi) (by omega) (by show k + 2 - 2 < ((s.add0 k b).N.length : Int); omega) hN1 ⟨hv0, hv1⟩ (by rw [Int.toNat_natCast]; exact hg) (by rw [Int.toNat_natCast]; exact hc1) hlenR hlo1 hhi1 hsm).mono ?_
      rintro r w' ⟨own2, h2, ho2, hC2⟩
      refine TrI.trans ho hC ⟨own2, ⟨_, _, _, ?_, hfin⟩, ho2, hC2⟩
      rw [← hlay]
      exact h2
    have hk3 : k ≤ 1000000 := by omega
    clear e hf hg e0 e1 hfin hlay hsm hc1 hN1 hlo1 hhi1
    refine en4 Try.func82 Try.results82 mixed [] ?_
    intro e0 h0 h1 h2 h3
    refine w_ fun d => ?_
    refine callQ b0.call fun w1 hE1 hs1 => ?_
    refine w_ fun d => ?_
    refine callQ (b1.at (by assumption)).call fun w2 hE2 hs2 => ?_
    have hE2w := hE1.trans hE2
    refine w_ fun d => ?_
    refine callQ (g0.at (by assumption)).call fun w3 hE3 hs3 => ?_
    have hE3w := hE2w.trans hE3
    refine w_ fun d => ?_
    refine (tk _ hE3w).mono ?_
    rintro _ w4 ⟨b', (⟨n, hh, rfl⟩ | ⟨hh, _⟩), hA, hC⟩
    rotate_left
    · cases hh
    obtain ⟨rfl, rfl⟩ : k = n ∧ b = b' := by cases hh; exact ⟨rfl, rfl⟩
    have hX4 := (hX.ext hE3w).setAr hmostb hA hC
    dsimp only at hX4
    have ho4 : ∀ j, j < w.heap.size → ownUp own w3 w4 2 j = own j := fun j hj => ownUp_old (by have := hE3w.size; omega)
    have hC4 : Chg (foot own) w w4 := (hE3w.chg _).trans (Chg.foot hC (by decide)) fun _ _ h => h
    have hp4 := hX4.at_
    have hpl4 := lt_of_heap hp4
    by_cases hkn : k = s.N.length
    · have e1 : (s.add0 k b).N = s.N ++ [(0, 0, 0)] := if_pos hkn
      have e2 : addR s k R = R ++ [0] := if_pos hkn
      rw [e1, e2] at last
      subst hkn
      have cn4 := hX4.cs.c2
      obtain ⟨a5, c5, w5, hr5, hS5, hC5, hs5, hB5⟩ := hX4.no.push (by show s.N.length ≤ 1000000; omega) (0, 0, 0)
      obtain ⟨hp5, hX5, hCX5⟩ := hX4.pushN hS5 hC5 hB5
      dsimp only at hr5 hX5 hCX5
      have hpl5 := lt_of_heap hp5
      have hp6 := hX5.at_
      have cr6 := hX5.cs.c3
      have hsz6 := hX5.cs.size
      have hpl6 := lt_of_heap hp6
      obtain ⟨a7, c7, w7, hr7, hS7, hC7, hs7, hB7⟩ := pushI hX5.re (by show R.length ≤ 1000000000; omega) 0
      obtain ⟨hp7, hX7, hCX7⟩ := hX5.pushR hS7 hC7 hB7
      dsimp only at hr7 hX7 hCX7
      have hpl7 := lt_of_heap hp7
      have ho5 : ∀ j, j < w4.heap.size → ownUp (ownUp own w3 w4 2) w4 w5 3 j = ownUp own w3 w4 2 j := fun j hj => ownUp_old hj
      have s34 := hC.size
      have s03 := hE3w.size
      have hl := last ⟨_, _, _, _, _, _, _, _, hX7⟩ (fun j hj => by rw [ownUp_old (by simp only [upd_size]; omega), ho5 _ (by omega), ho4 _ hj]) (by
        refine (hC4.trans hCX5 fun b hb hf => ?_).trans hCX7 fun b hb hf => ?_
        · unfold foot at hf ⊢; rw [ho4 b hb] at hf; exact hf
        · unfold foot at hf ⊢; rw [ho5 b (by omega), ho4 b hb] at hf; exact hf)
      simp only [upd_size] at hr7 hs7
      clear hRl hlenR tk b0 b1 g0 hp hpl h last e1 e2 hA hC hX D W1 hmostb hX4 hX5 hX7 hh hS5 hC5 hB5 hS7 hC7 hB7 hCX5 hCX7
      refine w_ fun d => ?_
      refine hl.mono ?_
      rintro r w5 hT
      refine w_ fun d => ?_
      exact ⟨rfl, hT⟩
    · have e1 : (s.add0 k b).N = s.N := if_neg hkn
      have e2 : addR s k R = R := if_neg hkn
      rw [e1, e2] at last
      have hkb : (k == (s.N.length : Int)) = false := by simpa using hkn
      have hl := last ⟨_, _, _, _, _, _, _, _, hX4⟩ ho4 hC4
      have hk4 := hk0.1
      clear tk b0 b1 g0 hp hpl h last e1 e2 hA hC hX D W1 hmostb hX4 hh
      refine w_ fun d => ?_
      refine hl.mono ?_
      rintro r w5 hT
      refine w_ fun d => ?_
      exact ⟨rfl, hT⟩
end
end Go.Proofs.Ytpeindhocndmnaa

/- A function's results: a cell's value and a slot's. -/
namespace Go.Proofs.Ytpeindhocndmnaa
open Go Go.Bx
set_option linter.unusedSimpArgs false
set_option linter.unusedVariables false
set_option maxRecDepth 100000
set_option maxHeartbeats 4000000
attribute [local irreducible] X XO XE XF XD XW thenX inX retX kN CallsR
section
variable {P : Program} {R : Value → World → Prop} {e : Env} {w : World} {t u : Nat} {v v2 : Value} {ex : Exit}
theorem resM_cu {a t u b o : Nat} (h : e a = .pointer (some ⟨b, o, none⟩)) (h2 : ldR P t (.pointer (some ⟨b, o, none⟩)) w = .ok v w) : (resM #[.cell a t, .tmp u] e).run P w = .ok (.tuple #[v, e u]) w := by
  have e1 : (resM #[.cell a t] e).run P w = .ok v w := by rw [resM_cell (b := b) (o := o) h]; exact h2
  simp [resM, h, asAddr] at e1 ⊢
  rw [e1]; rfl
theorem rcuA {bk t' : Nat} (h : R (.tuple #[v, v2]) w) (hx : isEnd ex = true := by rfl) (h1 : e t = .pointer (some ⟨bk, 0, none⟩) := by (first | (simp (disch := first | assumption | ((try simp only [upd_size, alloc_size, dr_heap, List.size_toArray, List.length_cons, List.length_nil, Nat.reduceAdd]) <;> omega) | (with_unfolding_all (refine Eq.trans rfl ?_; exact rfl)) | fail) only [push_cast, *, Nat.reduceEqDiff, ↓reduceIte] <;> rfl) | rfl))
    (h2 : ldR P t' (.pointer (some ⟨bk, 0, none⟩)) w = .ok v w := by (simp (disch := first | assumption | ((try simp only [upd_size, alloc_size, dr_heap, List.size_toArray, List.length_cons, List.length_nil, Nat.reduceAdd]) <;> omega) | (with_unfolding_all (refine Eq.trans rfl ?_; exact rfl)) | exact Nat.le_of_ble_eq_true rfl | fail) only [push_cast, *, Nat.reduceEqDiff, Nat.reduceAdd, Nat.reduceMul, ↓reduceIte] <;> rfl))
    (h3 : e u = v2 := by (first | (simp (disch := first | assumption | ((try simp only [upd_size, alloc_size, dr_heap, List.size_toArray, List.length_cons, List.length_nil, Nat.reduceAdd]) <;> omega) | (with_unfolding_all (refine Eq.trans rfl ?_; exact rfl)) | fail) only [push_cast, *, Nat.reduceEqDiff, ↓reduceIte] <;> rfl) | rfl)) : retX P #[.cell t t', .tmp u] R ex e w := ret_of hx (h3 ▸ resM_cu (b := bk) (o := 0) h1 h2) h
end
end Go.Proofs.Ytpeindhocndmnaa

/- Walks of layer 7: what is asked of a store. -/
namespace Go.Proofs.Ytpeindhocndmnaa
open Go Go.Bx
set_option linter.unusedSimpArgs false
set_option linter.unusedVariables false
set_option maxRecDepth 100000
set_option maxHeartbeats 4000000
attribute [local irreducible] X XO XE XF XD XW thenX inX retX kN CallsR
/-- What is told of a number. -/
def _root_.Go.Bx.Md.node (s : Md) (n : Int) : Nd × Bool := if s.has n then (s.nd n, true) else ((0, 0, 0), false)
def _root_.Go.Bx.Md.allTo (s : Md) (k : Nat) : List Int := ((List.range k).map fun j : Nat => (j : Int) + 2).filter fun n => s.has n
theorem allTo_succ {s : Md} {k : Nat} : s.allTo (k + 1) = if s.has ((k : Int) + 2) then s.allTo k ++ [(k : Int) + 2] else s.allTo k := by
  unfold Md.allTo
  rw [List.range_succ, List.map_append, List.filter_append]
  cases h : s.has ((k : Int) + 2) <;> simp [h]
theorem allTo_all {s : Md} : s.allTo s.N.length = s.all := rfl
theorem allTo_len {s : Md} {k : Nat} : (s.allTo k).length ≤ k := Nat.le_trans (List.length_filter_le _ _) (by simp)
section
variable {own : Nat → Nat} {w w' w1 : World} {p : Nat} {s : Md} {but : List Int} {n v lo hi : Int}
theorem Md.has_add (n : Nat) : s.has ((n : Int) + 2) = s.a.has n := by unfold Md.has; rw [show (n : Int) + 2 - 2 = n by omega]; simp; omega
theorem stNode_calls (h : StI own w p s but) (W : s.WF) (n : Int) (hn : n ≤ 9223372036854775807) : Quiet Try.prog 24 #[.pointer (some ⟨p, 0, none⟩), .int .i64 n] w (.tuple #[ndV (s.node n).1, .bool (s.node n).2]) := by
  intro u hu
  have h := h.ext hu
  clear hu
  obtain ⟨R, M, c, h, A⟩ := h
  have c1 := stHas_calls h n hn
  rw [show (⟨s.a, s.N, R, s.ord, M, c⟩ : Raw).md = s from rfl] at c1
  unfold Md.node
  cases hh : s.has n
  · rw [hh] at c1
    simp only [Bool.false_eq_true, ↓reduceIte]
    clear h A W hh
    refine en2 Try.func24 Try.results24 mixed [] ?_
    intro e0 h0 h1
    refine w_ fun d => ?_
    refine qq c1 fun w1 hE1 hs1 => ?_
    refine w_ fun d => ?_
    refine rcuA ?_
    exact ⟨rfl, ext_⟩
  · rw [hh] at c1
    simp only [↓reduceIte]
    have hx := W.get hh
    have hl := W.lt hh
    obtain ⟨x, hxx⟩ : ∃ x, s.nd n = x := ⟨_, rfl⟩
    rw [hxx] at hx ⊢
    obtain ⟨v, lo, hi⟩ := x
    obtain ⟨pa, na, nc, ra, rc, pu, sc, oc, h⟩ := h
    obtain ⟨g, cur, rfl, hg, hc, hlt, x0, x1, x2, hsz3, hex⟩ := h.no.at hx
    have hp := h.at_
    have c2 := h.cs.c2
    have hsz := h.cs.size
    have hpl := lt_of_heap hp
    have hgl := lt_of_heap hg
    have hl1 := hl.2
    have hl0 : 0 ≤ n - 2 := by omega
    dsimp only at c2 hc hlt
    clear h A W hh hxx hx hl
    refine en2 Try.func24 Try.results24 mixed [] ?_
    intro e0 h0 h1
    refine w_ fun d => ?_
    refine qq c1 fun w1 hE1 hs1 => ?_
    have hs2 := sz_ hE1
    refine w_ fun d => ?_
    refine rcuA ?_
    exact ⟨rfl, ext_⟩
theorem stLive_calls (h : StI own w p s but) (W : s.WF) : Quiet Try.prog 50 #[.pointer (some ⟨p, 0, none⟩)] w (.int .i64 s.a.many) := by
  intro u hu
  obtain ⟨R, M, c, h, A⟩ := h.ext hu
  clear hu
  obtain ⟨pa, na, nc, ra, rc, pu, sc, oc, h⟩ := h
  have c1 := arMany_calls h.ar W.ar
  have hp := h.at_
  have c2 := h.cs.c1
  have hsz := h.cs.size
  dsimp only at c1
  clear h A W
  refine en1 Try.func50 Try.results50 mixed [] ?_
  intro e0 h0
  refine w_ fun d => ?_
  refine qq c1 fun w1 hE1 hs1 => ?_
  refine w_ fun d => ?_
  exact ⟨rfl, ext_⟩
theorem stRoom_calls (h : StI own w p s but) (W : s.WF) : Quiet Try.prog 51 #[.pointer (some ⟨p, 0, none⟩)] w (.int .i64 s.room) := by
  intro u hu
  have h := h.ext hu
  clear hu
  have c1 := stLive_calls h W
  obtain ⟨R, M, c, h, A⟩ := h
  obtain ⟨pa, na, nc, ra, rc, pu, sc, oc, h⟩ := h
  have hp := h.at_
  have c2 := h.cs.c0
  have hsz := h.cs.size
  have hm := W.ar.many_le
  have hmo := W.ar.most
  have hr : s.a.most - s.a.many = s.room := rfl
  have hpl := lt_of_heap hp
  dsimp only at c2
  clear h A W
  refine en1 Try.func51 Try.results51 mixed [] ?_
  intro e0 h0
  refine w_ fun d => ?_
  intro w1 hE1 hs1
  refine w_ fun d => ?_
  exact ⟨rfl, ext_⟩
theorem stOrder_calls (h : StI own w p s but) : Quiet Try.prog 23 #[.pointer (some ⟨p, 0, none⟩)] w (aI s.ord) := by
  intro u hu
  obtain ⟨R, M, c, h, A⟩ := h.ext hu
  clear hu
  obtain ⟨pa, na, nc, ra, rc, pu, sc, oc, h⟩ := h
  have hp := h.at_
  have co := h.cs.co
  have hsz := h.cs.size
  have ho := h.oc.agg
  have ho2 := h.oc.len8
  have ho3 := h.oc.cell
  have ho4 := h.oc.all
  have ho5 := h.oc.size
  have hpl := lt_of_heap hp
  dsimp only at ho
  rw [ho]
  clear h A ho
  refine en1 Try.func23 Try.results23 mixed [] ?_
  intro e0 h0
  refine w_ fun d => ?_
  exact ⟨rfl, ext_⟩
theorem stAll_calls (h : StI own w p s but) (W : s.WF) : CallsR Try.prog 22 #[.pointer (some ⟨p, 0, none⟩)] w fun r w' => ∃ a' cap', r = .slice a' s.all.length cap' ∧ SlC w' 3 a' cap' (ints s.all) ∧ (∀ g, blk a' = some g → w.heap.size ≤ g) ∧ Ext w w' := by
  obtain ⟨R, M, c, h, A⟩ := h
  obtain ⟨pa, na, nc, ra, rc, pu, sc, oc, h⟩ := h
  have hp := h.at_
  have c1 := h.cs.c1
  have c2 := h.cs.c2
  have hsz := h.cs.size
  have hpl := lt_of_heap hp
  have hN : s.N.length ≤ 20000 := by
    have h1 := W.len
    have h2 := W.ar.lim
    have h3 := W.ar.most
    omega
  have hh := fun k : Nat => arHas_calls h.ar k
  dsimp only at c2 hh
  clear h A
  refine en1 Try.func22 Try.results22 mixed [] ?_
  intro e0 h0
  refine w_ fun d => ?_
  refine lo_ (fun W e w' => ∃ (k : Nat) (a' : Option Addr) (cap' : Nat) (m : List Int), k ≤ s.N.length ∧ e 10 = .int .i64 k ∧ e 3 = .slice a' m.length cap' ∧ SlC w' 3 a' cap' (ints m) ∧ (∀ g, blk a' = some g → w.heap.size ≤ g) ∧ Box (m = s.allTo k) ∧ Ext w w') (fun e _ => s.N.length - nat (e 10)) ?_ ?_
  · exact ⟨0, none, 0, [], by omega, eA rfl, eA rfl, SlC.nil _ _, (fun g h => by cases h), ⟨rfl⟩, ext_⟩
  rintro e w1 hf ⟨k, a', cap', m, hk, h10, h3, hS, hn, ⟨hi⟩, hE⟩
  have hs1 := sz_ hE
  have hml : m.length ≤ k := by rw [hi]; exact allTo_len
  by_cases hlt : k < s.N.length
  · have hsc := allTo_succ (s := s) (k := k)
    rw [Md.has_add] at hsc
    have hq := (hh k).at hE
    cases hb : s.a.has k
    · rw [hb] at hq hsc
      have hi' : Box (m = s.allTo (k + 1)) := ⟨by rw [hsc, hi]; rfl⟩
      clear hi hsc hh hb
      refine w_ fun d => ?_
      refine qq hq fun w2 hE2 hs2 => ?_
      have hEw2 := hE.trans hE2
      have hS2 := hS.ext hE2
      refine w_ fun d => ?_
      exact ⟨⟨k + 1, a', cap', m, by omega, eA rfl, eA rfl, hS2, hn, hi', hEw2⟩, mA⟩
    · rw [hb] at hq hsc
      have hi' : Box (m ++ [(k : Int) + 2] = s.allTo (k + 1)) := ⟨by rw [hsc, hi]; rfl⟩
      clear hi hsc hh hb
      refine w_ fun d => ?_
      refine qq hq fun w2 hE2 hs2 => ?_
      have hEw2 := hE.trans hE2
      have hS2 := hS.ext hE2
      obtain ⟨a3, c3, w3, hr, hS3, hC3, hs3, hB3⟩ := pushI hS2 (by omega) ((k : Int) + 2)
      have hE3 : Ext w w3 := hC3.toExt hEw2 fun g hg hb => by have := hn g hb; omega
      have hn3 : ∀ g, blk a3 = some g → w.heap.size ≤ g := fun g hg => by
        rcases hB3 g hg with h | ⟨h, _⟩
        · exact hn g h
        · omega
      clear hS hS2 hC3 hB3 hn
      refine w_ fun d => ?_
      exact ⟨⟨k + 1, a3, c3, m ++ [(k : Int) + 2], by omega, eA rfl, by rw [List.length_append]; exact eA rfl, hS3, hn3, hi', hE3⟩, mA⟩
  · obtain rfl : k = s.N.length := by omega
    rw [allTo_all] at hi
    subst hi
    clear hh
    refine w_ fun d => ?_
    exact ⟨a', cap', rfl, hS, hn, ext_⟩
end
end Go.Proofs.Ytpeindhocndmnaa

/- Functions as values. No program is in sight. -/
namespace Go.Bx
open Go
set_option linter.unusedSimpArgs false
section
variable {P : Program} {e : Env} {w : World} {ty : TypeId} {t : Tmp}
theorem rG_makeFunc {fn : Fn} {first cap : Array Operand} : rG P (.makeFunc fn first cap) ty e w = .ok (.value (.func fn (first.map (ev e)) (cap.map (ev e)))) w := rfl
/-- A call of a value. -/
def cvF (P : Program) (v : Value) (args : Array Value) (w : World) : Result Next := (do let d ← Deferred.ofValue v args; invoke d.target d.args : Sem Next).run P w
theorem rG_callV {args : Array Operand} {ts : Array TypeId} : rG P (.call { callee := .value (.tmp t), args := args, argTypes := ts }) ty e w = cvF P (e t) (args.map (ev e)) w := by
  show (do let d ← resolve (ev e) { callee := .value (.tmp t), args := args, argTypes := ts } ty; invoke d.target d.args : Sem Next).run P w = _
  rfl
theorem cvF_fn {f : FuncId} {fn : Func} {args cap ar2 : Array Value} (hf : P.funcs[f]? = some fn) (hn : (fn.name == "runtime.NumGoroutine") = false) (hb : fn.body.isNone = false) (ha : args ++ cap = ar2) :
    cvF P (.func (.func f) #[] cap) args w = .ok (.enter f ar2) w := by
  unfold cvF
  simp only [Sem.run_bind, Deferred.ofValue, pure, Sem.run, Result.andThen_ok, invoke, callFunc, program, Sem.bind, bind, hf, hn, hb]
  simp [pure, Sem.run, Sem.bind, bind, ha]
attribute [push_cast] rG_makeFunc rG_callV
end
end Go.Bx

/- Walks of layer 7: a node is freed, what its sides are, what changes. -/
namespace Go.Proofs.Ytpeindhocndmnaa
open Go Go.Bx
set_option linter.unusedSimpArgs false
set_option linter.unusedVariables false
set_option maxRecDepth 100000
set_option maxHeartbeats 4000000
attribute [local irreducible] X XO XE XF XD XW thenX inX retX kN CallsR
section
variable {own : Nat → Nat} {w w' w1 : World} {p : Nat} {s : Md} {but : List Int} {n v lo hi x y : Int}
theorem cvF_is {w : World} {a b c : Value} : cvF Try.prog (.func (.func 135) #[] #[b, c]) #[a] w = .ok (.enter 135 #[a, b, c]) w := cvF_fn Try.func135 (by kernel_rfl) (by kernel_rfl) rfl
attribute [push_cast] cvF_is
theorem stSides_calls (h : StI own w p s but) (W : s.WF) (n y : Int) (hn : n = 0 ∨ n = 1 ∨ s.has n = true) : Quiet Try.prog 97 #[.pointer (some ⟨p, 0, none⟩), .int .i64 n, .int .i64 y] w (.tuple #[.int .i64 (s.side n y false), .int .i64 (s.side n y true)]) := by
  intro u hu
  obtain ⟨R, M, c, h, A⟩ := h.ext hu
  clear hu
  by_cases h2 : 2 ≤ n
  · have hh : s.has n = true := by
      rcases hn with e | e | e
      · omega
      · omega
      · exact e
    have hx := W.get hh
    have hl := W.lt hh
    obtain ⟨x, hxx⟩ : ∃ x, s.nd n = x := ⟨_, rfl⟩
    rw [hxx] at hx
    obtain ⟨v, lo, hi⟩ := x
    have hs : ∀ b, s.side n y b = if v = y then (if b then hi else lo) else n := fun b => by
      unfold Md.side Md.of
      rw [hh, hxx]; simp
    rw [hs, hs]
    obtain ⟨pa, na, nc, ra, rc, pu, sc, oc, h⟩ := h
    obtain ⟨g, cur, rfl, hg, hc, hlt, x0, x1, x2, hsz3, hex⟩ := h.no.at hx
    have hp := h.at_
    have c2 := h.cs.c2
    have hsz := h.cs.size
    have hpl := lt_of_heap hp
    have hgl := lt_of_heap hg
    have hl1 := hl.2
    have hl0 : 0 ≤ n - 2 := by omega
    have hN : n ≤ 1000000 := by
      have h1 := W.len
      have h2 := W.ar.lim
      have h3 := W.ar.most
      omega
    dsimp only at c2 hc hlt
    clear h A W hh hxx hx hl hs hn
    by_cases e : v = y
    · subst e
      simp only [↓reduceIte, Bool.false_eq_true]
      refine en3 Try.func97 Try.results97 mixed [] ?_
      intro e0 h0 h1 h2
      refine w_ fun d => ?_
      exact ⟨rfl, ext_⟩
    · simp only [e, ↓reduceIte]
      have e' : (v == y) = false := by simpa using e
      refine en3 Try.func97 Try.results97 mixed [] ?_
      intro e0 h0 h1 h2
      refine w_ fun d => ?_
      exact ⟨rfl, ext_⟩
  · have hs : ∀ b, s.side n y b = n := fun b => by
      unfold Md.side Md.of
      rw [Md.has_no h2]; simp
    rw [hs, hs]
    clear h A W hn hs
    refine en3 Try.func97 Try.results97 mixed [] ?_
    intro e0 h0 h1 h2
    refine w_ fun d => ?_
    exact ⟨rfl, ext_⟩
theorem stIs_calls (h : StI own w p s but) (W : s.WF) (n y : Int) (hn : n = 0 ∨ n = 1 ∨ s.has n = true) {b1 b2 : Nat} (h1 : w.heap[b1]? = some (.cells #[.pointer (some ⟨p, 0, none⟩)] 24)) (h2 : w.heap[b2]? = some (.cells #[.int .i64 y] 3)) :
    Quiet Try.prog 135 #[.int .i64 n, .pointer (some ⟨b1, 0, none⟩), .pointer (some ⟨b2, 0, none⟩)] w (.bool (s.of n y)) := by
  intro u hu
  obtain ⟨R, M, c, h, A⟩ := h.ext hu
  have hb1 := hu.at h1
  have hb2 := hu.at h2
  clear hu h1 h2
  by_cases h2 : 2 ≤ n
  · have hh : s.has n = true := by
      rcases hn with e | e | e
      · omega
      · omega
      · exact e
    have hx := W.get hh
    have hl := W.lt hh
    obtain ⟨x, hxx⟩ : ∃ x, s.nd n = x := ⟨_, rfl⟩
    rw [hxx] at hx
    obtain ⟨v, lo, hi⟩ := x
    have hs : s.of n y = (v == y) := by
      unfold Md.of
      rw [hh, hxx]; simp; rfl
    rw [hs]
    obtain ⟨pa, na, nc, ra, rc, pu, sc, oc, h⟩ := h
    obtain ⟨g, cur, rfl, hg, hc, hlt, x0, x1, x2, hsz3, hex⟩ := h.no.at hx
    have hp := h.at_
    have c2 := h.cs.c2
    have hsz := h.cs.size
    have hpl := lt_of_heap hp
    have hgl := lt_of_heap hg
    have hl1 := hl.2
    have hl0 : 0 ≤ n - 2 := by omega
    have hN : n ≤ 1000000 := by
      have h1 := W.len
      have h2 := W.ar.lim
      have h3 := W.ar.most
      omega
    dsimp only at c2 hc hlt
    clear h A W hh hxx hx hl hs hn
    refine en3 Try.func135 Try.results135 mixed [] ?_
    intro e0 h0 h1 h2
    refine w_ fun d => ?_
    exact ⟨rfl, ext_⟩
  · have hs : s.of n y = false := by
      unfold Md.of
      rw [Md.has_no h2]; simp
    rw [hs]
    clear h A W hn hs
    refine en3 Try.func135 Try.results135 mixed [] ?_
    intro e0 h0 h1 h2
    refine w_ fun d => ?_
    exact ⟨rfl, ext_⟩
def chgB (s : Md) (x y n : Int) : Bool := decide ((s.nd n).1 = x) && (s.of (s.nd n).2.1 y || s.of (s.nd n).2.2 y)
theorem take_filter {f : Int → Bool} {l : List Int} {k : Nat} {n : Int} (h : l[k]? = some n) : (l.take (k + 1)).filter f = if f n then (l.take k).filter f ++ [n] else (l.take k).filter f := by
  rw [List.take_add_one, h, List.filter_append]
  cases hf : f n <;> simp [hf]
theorem stChanging_calls (h : StI own w p s []) (G : s.Good []) (x y : Int) : CallsR Try.prog 94 #[.pointer (some ⟨p, 0, none⟩), .int .i64 x, .int .i64 y] w fun r w' => ∃ a' cap', r = .slice a' (s.change x y).length cap' ∧ SlC w' 3 a' cap' (ints (s.change x y)) ∧ (∀ g, blk a' = some g → w.heap.size ≤ g) ∧ Ext w w' := by
  have W := G.wf
  have hN : s.N.length ≤ 20000 := by
    have h1 := W.len
    have h2 := W.ar.lim
    have h3 := W.ar.most
    omega
  have hal : s.all.length ≤ s.N.length := allTo_len (s := s) (k := s.N.length)
  refine en3 Try.func94 Try.results94 mixed [] ?_
  intro e0 h0 h1 h2
  refine w_ fun d => ?_
  refine (stAll_calls (h.ext ext_) W).mono ?_
  rintro _ w2 ⟨aA, cA, rfl, hSA, hnA, hEA⟩
  have hE : Ext w w2 := Ext.trans (by exact ext_) hEA
  have hb1 : w2.heap[w.heap.size]? = some (.cells #[.pointer (some ⟨p, 0, none⟩)] 24) := hEA.at (hA rfl)
  have hb2 : w2.heap[w.heap.size + 1]? = some (.cells #[.int .i64 y] 3) := hEA.at (hA rfl)
  have hI := h.ext hE
  have hsz := hE.size
  clear hEA hnA
  refine w_ fun d => ?_
  refine lo_ (fun W e w' => ∃ (k : Nat) (a' : Option Addr) (cap' : Nat) (m : List Int), k ≤ s.all.length ∧ e 16 = .int .i64 k ∧ e 7 = .slice a' m.length cap' ∧ SlC w' 3 a' cap' (ints m) ∧ (∀ g, blk a' = some g → w2.heap.size ≤ g) ∧ Box (m = (s.all.take k).filter (chgB s x y)) ∧ Ext w2 w') (fun e _ => s.all.length - nat (e 16)) ?_ ?_
  · exact ⟨0, none, 0, [], by omega, eA rfl, eA rfl, SlC.nil _ _, (fun g h => by cases h), ⟨rfl⟩, ext_⟩
  rintro e w1 hf ⟨k, a', cap', m, hk, h16, h7, hS, hn, ⟨hi⟩, hE2⟩
  have hs1 := sz_ hE2
  have hml : m.length ≤ k := by rw [hi]; exact Nat.le_trans (List.length_filter_le _ _) (by rw [List.length_take]; omega)
  by_cases hlt : k < s.all.length
  · obtain ⟨n, hn0⟩ : ∃ n, s.all[k]? = some n := ⟨s.all[k], List.getElem?_eq_getElem hlt⟩
    have hsc := take_filter (f := chgB s x y) hn0
    have hhas := W.mem_all.1 (List.mem_of_getElem? hn0)
    have hx := W.get hhas
    have hl := W.lt hhas
    have ok := G.node n hhas (by simp)
    obtain ⟨z, hz⟩ : ∃ z, s.nd n = z := ⟨_, rfl⟩
    have hcb : chgB s x y n = (decide (z.1 = x) && (s.of z.2.1 y || s.of z.2.2 y)) := by unfold chgB; rw [hz]
    have okl := ok.lo
    have okh := ok.hi
    rw [hz] at hx okl okh
    obtain ⟨v, lo, hi'⟩ := z
    dsimp only at hcb okl okh
    have th : ∀ c, s.below c v = true → c = 0 ∨ c = 1 ∨ s.has c = true := fun c hc => by
      rcases Md.below_iff.1 hc with e | e | e
      · exact .inl e
      · exact .inr (.inl e)
      · exact .inr (.inr e.1)
    have il := stIs_calls (hI.ext hE2) W lo y (th _ okl) (hE2.at hb1) (hE2.at hb2)
    have ih := stIs_calls (hI.ext hE2) W hi' y (th _ okh) (hE2.at hb1) (hE2.at hb2)
    obtain ⟨gA, curA, rfl, hgA, hcA, _, hatA⟩ := (hSA.ext hE2).at (i := k) (v := .int .i64 n) (by rw [List.getElem?_map, hn0]; rfl)
    rw [List.length_map] at hcA
    obtain ⟨R, M, c, hR, _⟩ := hI.ext hE2
    obtain ⟨pa, na, nc, ra, rc, pu, sc, oc, hX⟩ := hR
    obtain ⟨g, cur, rfl, hg, hc, hlt2, x0, x1, x2, hsz3, hex⟩ := hX.no.at hx
    have hp := hX.at_
    have c2 := hX.cs.c2
    have hscs := hX.cs.size
    have hpl := lt_of_heap hp
    have hgl := lt_of_heap hg
    have hb1' := hE2.at hb1
    have hb2' := hE2.at hb2
    have hbl1 := lt_of_heap hb1'
    have hl1 := hl.2
    have hl0 : 0 ≤ n - 2 := by omega
    have hN' : n ≤ 1000000 := by omega
    dsimp only at c2 hc hlt2
    have yes : chgB s x y n = true → ∃ a3 c3 w3, apR Try.prog 34 (.slice a' m.length cap') (.slice (some ⟨w1.heap.size, 0, none⟩) 1 1) (w1.alloc (.cells #[.int .i64 n] 3)) = .ok (.slice a3 (m.length + 1) c3) w3 → True := fun _ => ⟨none, 0, w1, fun _ => trivial⟩
    -- the list grows
    have grow : ∀ u, Ext w1 u → ∃ a3 c3 w3, apR Try.prog 34 (.slice a' m.length cap') (.slice (some ⟨u.heap.size, 0, none⟩) 1 1) (u.alloc (.cells #[.int .i64 n] 3)) = .ok (.slice a3 (m.length + 1) c3) w3 ∧ SlC w3 3 a3 c3 (ints (m ++ [n])) ∧ (∀ g, blk a3 = some g → w2.heap.size ≤ g) ∧ Ext w2 w3 := fun u hu => by
      obtain ⟨a3, c3, w3, hr, hS3, hC3, hs3, hB3⟩ := pushI (hS.ext hu) (by omega) n
      refine ⟨a3, c3, w3, hr, hS3, fun g hg => ?_, hC3.toExt (hE2.trans hu) fun g hg hb => by have := hn g hb; omega⟩
      have := (hE2.trans hu).size
      rcases hB3 g hg with h | ⟨h, _⟩
      · exact hn g h
      · omega
    clear yes hX hx hl ok okl okh th hz hn0 W G h hhas hSA hb1 hb2 hE
    by_cases hv : v = x
    · subst hv
      cases hl' : s.of lo y
      · rw [hl'] at il hcb
        cases hh' : s.of hi' y
        · rw [hh'] at ih hcb
          have hi2 : Box (m = (s.all.take (k + 1)).filter (chgB s v y)) := ⟨by rw [hsc, hcb, hi]; simp⟩
          clear hi hsc hcb hl' hh' grow
          refine w_ fun d => ?_
          refine qq il fun w5 hE5 hs5 => ?_
          refine w_ fun d => ?_
          refine qq ih fun w6 hE6 hs6 => ?_
          have hEz := Ext.trans hE2 (Ext.trans (by exact ext_) hE6 : Ext w1 w6)
          have hS6 := hS.ext (Ext.trans (by exact ext_) hE6 : Ext w1 w6)
          refine w_ fun d => ?_
          exact ⟨⟨k + 1, a', cap', m, by omega, eA rfl, eA rfl, hS6, hn, hi2, hEz⟩, mA⟩
        · rw [hh'] at ih hcb
          have hi2 : Box (m ++ [n] = (s.all.take (k + 1)).filter (chgB s v y)) := ⟨by rw [hsc, hcb, hi]; simp⟩
          clear hi hsc hcb hl' hh'
          refine w_ fun d => ?_
          refine qq il fun w5 hE5 hs5 => ?_
          refine w_ fun d => ?_
          refine qq ih fun w6 hE6 hs6 => ?_
          obtain ⟨a3, c3, w3, hr, hS3, hn3, hE3⟩ := grow w6 (Ext.trans (by exact ext_) hE6)
          clear grow
          refine w_ fun d => ?_
          exact ⟨⟨k + 1, a3, c3, m ++ [n], by omega, eA rfl, by rw [List.length_append]; exact eA rfl, hS3, hn3, hi2, hE3⟩, mA⟩
      · rw [hl'] at il hcb
        have hi2 : Box (m ++ [n] = (s.all.take (k + 1)).filter (chgB s v y)) := ⟨by rw [hsc, hcb, hi]; simp⟩
        clear hi hsc hcb hl' ih
        refine w_ fun d => ?_
        refine qq il fun w5 hE5 hs5 => ?_
        obtain ⟨a3, c3, w3, hr, hS3, hn3, hE3⟩ := grow w5 (Ext.trans (by exact ext_) hE5)
        clear grow
        refine w_ fun d => ?_
        exact ⟨⟨k + 1, a3, c3, m ++ [n], by omega, eA rfl, by rw [List.length_append]; exact eA rfl, hS3, hn3, hi2, hE3⟩, mA⟩
    · have hv' : (v == x) = false := by simpa using hv
      have hi2 : Box (m = (s.all.take (k + 1)).filter (chgB s x y)) := ⟨by rw [hsc, hcb, hi]; simp [hv]⟩
      have hSz := hS.ext ((Ext.refl w1).alloc (.cells #[.int .i64 v, .int .i64 lo, .int .i64 hi'] 39))
      clear hi hsc hcb grow il ih hv
      refine w_ fun d => ?_
      exact ⟨⟨k + 1, a', cap', m, by omega, eA rfl, eA rfl, hSz, hn, hi2, ext_⟩, mA⟩
  · obtain rfl : k = s.all.length := by omega
    rw [List.take_length] at hi
    subst hi
    refine w_ fun d => ?_
    exact ⟨a', cap', rfl, hS, fun g hg => by have := hn g hg; omega, ext_⟩
end
end Go.Proofs.Ytpeindhocndmnaa

/- Walks of layer 7: a node is freed. -/
namespace Go.Proofs.Ytpeindhocndmnaa
open Go Go.Bx
set_option linter.unusedSimpArgs false
set_option linter.unusedVariables false
set_option maxRecDepth 100000
set_option maxHeartbeats 4000000
attribute [local irreducible] X XO XE XF XD XW thenX inX retX kN CallsR
section
variable {own : Nat → Nat} {w w' w1 : World} {p : Nat} {s : Md} {but : List Int} {n v lo hi x y : Int} {R : List Int} {M : Nat → Ky → Option Int} {c : Nat → Int}
theorem ptr_rng (m n : Int) : 0 ≤ ptr s m n := by unfold ptr; have := b2_rng (decide ((s.nd n).2.1 = m)); have := b2_rng (decide ((s.nd n).2.2 = m)); omega
theorem ref_pointed (A : Agr s [] R M c) (W : s.WF) (hn : s.has n = true) : (0 < R.getD (n - 2).toNat 0) ↔ s.pointed n = true := by
  have hl := W.lt hn
  have e1 := A.ref (n - 2).toNat (by omega)
  have e2 : (((n - 2).toNat : Nat) : Int) + 2 = n := by omega
  rw [e2] at e1
  rw [e1]
  have hlive : s.live [] = s.all := by unfold Md.live; exact List.filter_eq_self.2 fun x _ => by simp
  rw [hlive]
  unfold Md.pointed
  constructor
  · intro h
    cases hp : s.all.any fun m => decide ((s.nd m).2.1 = n) || decide ((s.nd m).2.2 = n)
    · exfalso
      rw [List.any_eq_false] at hp
      have : sumF (ptr s n) s.all = sumF (fun _ => 0) s.all := sum_congr fun m hm => by
        have := hp m hm
        simp only [Bool.or_eq_true, decide_eq_true_eq, not_or] at this
        unfold ptr; simp [this.1, this.2, b2]
      rw [this] at h
      have h2 := sumF_le (fun _ : Int => (0 : Int)) 0 s.all fun _ _ => Int.le_refl _
      omega
    · rfl
  · intro h
    obtain ⟨m, hm, hh⟩ := List.any_eq_true.1 h
    have h1 := sumF_mem (ptr s n) s.all (fun x _ => ptr_rng n x) m hm
    have h2 : 1 ≤ ptr s n m := by
      unfold ptr
      have b1 := b2_rng (decide ((s.nd m).2.1 = n))
      have b3 := b2_rng (decide ((s.nd m).2.2 = n))
      rw [Bool.or_eq_true, decide_eq_true_eq, decide_eq_true_eq] at hh
      rcases hh with e | e
      · have : b2 (decide ((s.nd m).2.1 = n)) = 1 := by simp [e, b2]
        omega
      · have : b2 (decide ((s.nd m).2.2 = n)) = 1 := by simp [e, b2]
        omega
    omega
theorem below_idx (W : s.WF) (h : s.below n v = true) : (2 ≤ n → n - 2 < s.N.length) ∧ n - 2 < s.N.length := by
  have h1 := (Md.below_lt W h).2
  refine ⟨h1, ?_⟩
  by_cases h2 : 2 ≤ n
  · exact h1 h2
  · omega
theorem stFree_calls (h : StI own w p s []) (G : s.Good []) (hn : n ≤ 9223372036854775807) :
    CallsR Try.prog 86 #[.pointer (some ⟨p, 0, none⟩), .int .i64 n] w fun r w' => r = errV (s.free n).1 ∧ TrI own w p (s.free n).2 [] w' := by
  have W := G.wf
  obtain ⟨R, M, c, hR, A⟩ := id h
  have c1 := stHas_calls hR n hn
  rw [show (⟨s.a, s.N, R, s.ord, M, c⟩ : Raw).md = s from rfl] at c1
  unfold Md.free
  cases hh : s.has n
  · rw [hh] at c1
    rw [if_pos (.inl rfl)]
    clear hR A G W
    refine en2 Try.func86 Try.results86 mixed [] ?_
    intro e0 h0 h1
    refine w_ fun d => ?_
    refine qq c1 fun w1 hE1 hs1 => ?_
    refine w_ fun d => ?_
    exact ⟨rfl, TrI.of_ext h ext_⟩
  · rw [hh] at c1
    have hx := W.get hh
    have hl := W.lt hh
    have hpt := ref_pointed A W hh
    have hlen := A.len
    have hsm := A.small W (n - 2).toNat
    obtain ⟨r, hr⟩ : ∃ r, R[(n - 2).toNat]? = some r := ⟨R[(n - 2).toNat]'(by omega), List.getElem?_eq_getElem (by omega)⟩
    have hrd : R.getD (n - 2).toNat 0 = r := by rw [List.getD, hr]; rfl
    rw [hrd] at hpt hsm
    obtain ⟨pa, na, nc, ra, rc, pu, sc, oc, hX⟩ := id hR
    obtain ⟨g, cur, rfl, hg, hc, hlt, hat⟩ := hX.re.at (i := (n - 2).toNat) (v := .int .i64 r) (by rw [List.getElem?_map, hr]; rfl)
    have hp := hX.at_
    have c3 := hX.cs.c3
    have hsz := hX.cs.size
    have hpl := lt_of_heap hp
    have hgl := lt_of_heap hg
    have hl0 : 0 ≤ n - 2 := by omega
    have hl1 : n - 2 < R.length := by omega
    rw [List.length_map] at hc hlt
    dsimp only at c3 hc hlt
    have hN : s.N.length ≤ 20000 := by
      have h1 := W.len
      have h2 := W.ar.lim
      have h3 := W.ar.most
      omega
    have hn6 : n ≤ 1000000 := by omega
    cases hpd : s.pointed n
    · rw [hpd] at hpt
      have hr0 : ¬ 0 < r := fun h => by have := hpt.1 h; cases this
      rw [if_neg (by simp)]
      have hr0' : r ≤ 0 := by omega
      -- what is lifted
      obtain ⟨z, hz⟩ : ∃ z, s.nd n = z := ⟨_, rfl⟩
      have ok := G.node n hh (by simp)
      have okv := ok.var
      have okl := ok.lo
      have okh := ok.hi
      rw [hz] at hx okv okl okh
      obtain ⟨v, lo, hi⟩ := z
      dsimp only at okv okl okh
      have hvn : ((v.toNat : Nat) : Int) = v := by omega
      have hmap : M v.toNat (lo, hi) = some n := (A.map v.toNat (by omega) (lo, hi) n).2 ⟨hh, by simp, by rw [hz, hvn]⟩
      have il := below_idx W okl
      have ih := below_idx W okh
      have A1 := A.lift W hh (by simp) hz okv il.1 ih.1 (fun m hm _ hme => G.one m n hm (by simp) hh (by simp) (by rw [hme, hz]))
      have W2 := (W.drop hh).1
      have A2 := A1.same (s' := s.drop n) (but' := []) (R' := bump (bump R lo (-1)) hi (-1)) W W2 A1.len (fun m => by rw [Md.has_drop hh]; simp) (fun _ _ _ => rfl) (fun k hk => .inl ⟨hk, rfl⟩)
      have c4 := fun u (hu : Ext w u) => stLift_calls (hR.ext hu) (n := n) (v := v) (lo := lo) (hi := hi) (m := n) (by omega) hn6 hx hN okv hmap hlen il.2 ih.2 (A.small W)
      have hahas : s.a.has (n - 2) = true := Md.has_ar hh
      have hao := W.ar
      clear hpt hX hr hrd A A1 il ih okl okh hmap W2 ok G h hx hz
      refine en2 Try.func86 Try.results86 mixed [] ?_
      intro e0 h0 h1
      refine w_ fun d => ?_
      refine qq c1 fun w1 hE1 hs1 => ?_
      have hE1' : Ext w w1 := by assumption
      have hpe := hE1'.at hp
      refine w_ fun d => ?_
      refine (c4 _ hE1').mono ?_
      rintro _ w2 ⟨rfl, own2, hR2, ho2, hC2⟩
      obtain ⟨pa2, na2, nc2, ra2, rc2, pu2, sc2, oc2, hX2⟩ := hR2
      have hp2 := hX2.at_
      have c12 := hX2.cs.c1
      have hsz2 := hX2.cs.size
      have hg2 := arGive_calls hX2.ar hao (n - 2)
      rw [show ((⟨s.a, s.N, R, s.ord, M, c⟩ : Raw).lift (v, lo, hi)).a = s.a from rfl, hahas] at hg2
      simp only [↓reduceIte] at hg2
      clear c1 c4 hp c3 hpe hg hat
      refine w_ fun d => ?_
      refine hg2.mono ?_
      rintro _ w3 ⟨⟨rfl, hA3⟩, hC3⟩
      refine w_ fun d => ?_
      have hX3 := hX2.setAr (a := s.a.give (n - 2)) rfl hA3 hC3
      have hsz1 := hE1'.size
      have hsz3 := hC2.size
      refine ⟨rfl, ownUp own2 w2 w3 2, ⟨_, _, _, ⟨_, _, _, _, _, _, _, _, hX3⟩, A2⟩, fun k hk => ?_, ?_⟩
      · rw [ownUp_old (by omega), ho2 k (by omega)]
      · refine ((hE1'.chg (foot own)).trans hC2 fun _ _ h => h).trans (Chg.foot hC3 (by decide)) fun b hb hf => ?_
        unfold foot at hf ⊢
        rw [← ho2 b (by omega)]; exact hf
    · rw [hpd] at hpt
      have hr0 : 0 < r := hpt.2 rfl
      rw [if_pos (.inr rfl)]
      clear hpt hX hR hr hrd A G
      refine en2 Try.func86 Try.results86 mixed [] ?_
      intro e0 h0 h1
      refine w_ fun d => ?_
      refine qq c1 fun w1 hE1 hs1 => ?_
      refine w_ fun d => ?_
      exact ⟨rfl, TrI.of_ext h ext_⟩
end
end Go.Proofs.Ytpeindhocndmnaa

/- Walks of layer 7: two levels change places. -/
namespace Go.Proofs.Ytpeindhocndmnaa
open Go Go.Bx
set_option linter.unusedSimpArgs false
set_option linter.unusedVariables false
set_option maxRecDepth 100000
set_option maxHeartbeats 4000000
attribute [local irreducible] X XO XE XF XD XW thenX inX retX kN CallsR
section
variable {own own1 own2 : Nat → Nat} {w w' w1 w2 : World} {p : Nat} {s s0 s1 : Md} {but but' : List Int} {n v lo hi x y : Int} {R : List Int} {M : Nat → Ky → Option Int} {c : Nat → Int}
theorem StR.keep {s : Raw} (h : StR own w p s) (hne : ∀ k, own k ≠ 0 → w'.heap[k]? = w.heap[k]?) (hs : w.heap.size ≤ w'.heap.size) : StR own w' p s := by
  obtain ⟨pa, na, nc, ra, rc, pu, sc, oc, h⟩ := h
  have h1 := h.op
  exact ⟨pa, na, nc, ra, rc, pu, sc, oc, by rw [hne p (by omega)]; exact h.at_, h.cs, h.oc, h.op, h.ar.keep (fun k hk => hne k (by unfold owns at hk; omega)) hs, Sl.keep h.no fun g hg => hne g (by have := h.on g hg; omega), h.on, h.re.keep fun g hg => hne g (by have := h.or g hg; omega), h.or, fun v hv => (h.un v hv).keep (fun k hk => hne k (by unfold owns at hk; omega)) hs, fun k hk => Nat.lt_of_lt_of_le (h.lt k hk) hs⟩
theorem StI.chg0 {F : Nat → Prop} (h : StI own w p s but) (hC : Chg F w w') (hF : ∀ k, F k → own k = 0) : StI own w' p s but := by
  obtain ⟨R, M, c, h, A⟩ := h
  exact ⟨R, M, c, h.keep (fun k hk => hC.heap k (h.lt k hk) fun hf => hk (hF k hf)) hC.size, A⟩
theorem Agr.but_eq (A : Agr s but R M c) (W : s.WF) (hm : ∀ n, n ∈ but' ↔ n ∈ but) : Agr s but' R M c :=
  A.same W W A.len (fun n => by rw [hm]) (fun _ _ _ => rfl) fun k hk => .inl ⟨hk, rfl⟩
/-- From one world on to another one the store is turned. -/
structure Sw (own : Nat → Nat) (w : World) (own' : Nat → Nat) (w' : World) : Prop where
  ho : ∀ k, k < w.heap.size → own' k = own k
  ch : Chg (foot own) w w'
theorem Sw.of_ext (hE : Ext w w') : Sw own w own w' := ⟨fun _ _ => rfl, hE.chg _⟩
theorem Sw.trans (h : Sw own w own1 w1) (k : Sw own1 w1 own2 w2) : Sw own w own2 w2 := by
  have hs := h.ch.size
  exact ⟨fun j hj => (k.ho j (by omega)).trans (h.ho j hj), h.ch.trans k.ch fun b hb hf => by unfold foot at hf ⊢; rw [← h.ho b hb]; exact hf⟩
theorem Sw.ext (h : Sw own w own1 w1) (hE : Ext w1 w2) : Sw own w own1 w2 := ⟨h.ho, h.ch.transE hE⟩
/-- What is not the store's stays so, and stays. -/
theorem Sw.out (h : Sw own w own1 w1) {k : Nat} (hk : k < w.heap.size) (h0 : own k = 0) : own1 k = 0 ∧ w1.heap[k]? = w.heap[k]? := ⟨(h.ho k hk).trans h0, h.ch.heap k hk fun hf => hf h0⟩
/-- What others lay aside. -/
theorem Sw.chg0 {F : Nat → Prop} (h : Sw own w own1 w1) (hC : Chg F w1 w2) (hF : ∀ k, k < w.heap.size → ¬ F k) : Sw own w own1 w2 := ⟨h.ho, h.ch.trans hC fun b hb hf => (hF b hb hf).elim⟩
theorem StC.at_ord {sc oc : Array Value} {most : Int} {pa : Nat} {na ra : Option Addr} {nl nc rl rc : Nat} {pu : Nat → Nat} (h : StC sc most pa na nl nc ra rl rc pu oc) {ord : List Int} (ho : OrdC ord oc) {k : Nat} {x : Int} (hx : ord[k]? = some x) : sc[12 + k]? = some (.int .i64 x) := by
  have h1 := ho.at_ k x hx
  rw [← h.co] at h1
  rw [Array.getElem?_extract] at h1
  split at h1
  · exact h1
  · cases h1
theorem StX.setOrd {s : Raw} {pa : Nat} {na : Option Addr} {nc : Nat} {ra : Option Addr} {rc : Nat} {pu : Nat → Nat} {sc oc oc' : Array Value} (h : StX own w p s pa na nc ra rc pu sc oc) {ord' : List Int} (ho : OrdC ord' oc') :
    StX own (upd w p (.cells (wrN sc 12 oc'.toList) 120)) p { s with ord := ord' } pa na nc ra rc pu (wrN sc 12 oc'.toList) oc' := by
  have hpl := lt_of_heap h.at_
  have hne : ∀ k, own k ≠ 1 → (upd w p (.cells (wrN sc 12 oc'.toList) 120)).heap[k]? = w.heap[k]? := fun k hk => upd_other fun e => hk (by rw [← e]; exact h.op)
  have hs : w.heap.size ≤ (upd w p (.cells (wrN sc 12 oc'.toList) 120)).heap.size := by rw [upd_size]; exact Nat.le_refl _
  exact ⟨upd_same hpl, h.cs.setO ho.size, ho, h.op, h.ar.keep (fun k hk => hne k (by unfold owns at hk; omega)) hs, Sl.keep h.no fun g hg => hne g (by have := h.on g hg; omega), h.on, h.re.keep fun g hg => hne g (by have := h.or g hg; omega), h.or, fun v hv => (h.un v hv).keep (fun k hk => hne k (by unfold owns at hk; omega)) hs, fun k hk => by rw [upd_size]; exact h.lt k hk⟩
theorem stN_ord {p : Nat} {sc oc : Array Value} {E : TypeId} {w : World} (hs : sc.size = 20) (ho : oc.size = 8) : stN Try.prog p 12 (vcs (.agg oc)) w (some (.cells sc E (0, 0))) = .ok () (upd w p (.cells (wrN sc 12 oc.toList) E (0, 0))) :=
  stN_cells (by show 12 + oc.toList.length ≤ sc.size; rw [Array.length_toList]; omega)
theorem stSwap_calls (h : StI own w p s []) (G : s.Good []) (l : Int) :
    CallsR Try.prog 28 #[.pointer (some ⟨p, 0, none⟩), .int .i64 l] w fun r w' => r = errV (s.swap l).1 ∧ TrI own w p (s.swap l).2 [] w' := by
  have W := G.wf
  by_cases hl : 0 ≤ l ∧ l < 7
  rotate_left
  · have e : s.swap l = (1, s) := by unfold Md.swap; rw [if_pos (by omega)]
    rw [e]
    clear G W e
    by_cases h0' : 0 ≤ l
    · have h1' : ¬ l < 7 := fun h => hl ⟨h0', h⟩
      clear hl
      refine en2 Try.func28 Try.results28 mixed [] ?_
      intro e0 h0 h1
      refine w_ fun d => ?_
      exact ⟨rfl, TrI.of_ext h ext_⟩
    · clear hl
      refine en2 Try.func28 Try.results28 mixed [] ?_
      intro e0 h0 h1
      refine w_ fun d => ?_
      exact ⟨rfl, TrI.of_ext h ext_⟩
  obtain ⟨k, rfl⟩ := Int.eq_ofNat_of_zero_le hl.1
  have hk : k < 7 := by omega
  have hol := W.ord.len
  obtain ⟨x, hx⟩ : ∃ x, s.ord[k]? = some x := ⟨s.ord[k], List.getElem?_eq_getElem (by omega)⟩
  obtain ⟨y, hy⟩ : ∃ y, s.ord[k + 1]? = some y := ⟨s.ord[k + 1], List.getElem?_eq_getElem (by omega)⟩
  have gx : s.ord.getD k 0 = x := by rw [List.getD, hx]; rfl
  have gy : s.ord.getD (k + 1) 0 = y := by rw [List.getD, hy]; rfl
  have L : LvXY s k x y := ⟨hk, hx, hy⟩
  have hchl : (s.change x y).length ≤ 20000 := by
    have h1 := List.length_filter_le (fun n => decide ((s.nd n).1 = x) && (s.of (s.nd n).2.1 y || s.of (s.nd n).2.2 y)) s.all
    have h2 := W.len_all
    have h3 := W.ar.many_le
    have h4 := W.ar.most
    unfold Md.change; omega
  have hm0 := W.ar.many_le
  have hmo := W.ar.most
  have hroom : s.room = s.a.most - s.a.many := rfl
  have ch := fun u (hu : Ext w u) => stChanging_calls (h.ext hu) G x y
  have rm := fun u (hu : Ext w u) => stRoom_calls (h.ext hu) W
  have hI := h
  obtain ⟨R, M, c, hR, A⟩ := h
  obtain ⟨pa, na, nc, ra, rc, pu, sc, oc, hX⟩ := id hR
  have hp := hX.at_
  have hsz := hX.cs.size
  have ox := hX.cs.at_ord hX.oc hx
  have oy := hX.cs.at_ord hX.oc hy
  have hpl := lt_of_heap hp
  have hk1 : ((k : Int) + 1).toNat = k + 1 := by omega
  by_cases hfull : s.room < 2 * ((s.change x y).length : Int)
  · have e : s.swap k = (2, s) := by
      unfold Md.swap
      rw [if_neg (by omega), show ((k : Nat) : Int).toNat = k by omega, gx, gy, if_pos hfull]
    rw [e]
    clear e gx gy hx hy A hR G W L hX hl hm0 hmo
    refine en2 Try.func28 Try.results28 mixed [] ?_
    intro e0 h0 h1
    refine w_ fun d => ?_
    refine (ch _ ext_).mono ?_
    rintro _ w2 ⟨aC, cC, rfl, hSC, hnC, hEC⟩
    have hE2 : Ext w w2 := Ext.trans (by exact ext_) hEC
    have rm2 := rm _ hE2
    refine w_ fun d => ?_
    refine qq rm2 fun w3 hE3 hs3 => ?_
    have hE3w := hE2.trans hE3
    refine w_ fun d => ?_
    exact ⟨rfl, TrI.of_ext hI ext_⟩
  have e0 : s.swap k = (0, Md.swapGo x y (s.ordS k) (s.change x y)) := by
    unfold Md.swap
    rw [if_neg (by omega), show ((k : Nat) : Int).toNat = k by omega, gx, gy, if_neg hfull]
  have I0 := SwI.start G L (by omega)
  obtain ⟨CH, hCH⟩ : ∃ z, s.change x y = z := ⟨_, rfl⟩
  rw [hCH] at e0 ch I0 hfull hchl
  have hnd : CH.Nodup := by rw [← hCH]; exact List.Pairwise.filter _ Md.nodup_all
  have hmem : ∀ n ∈ CH, s.has n = true := fun n hn => by rw [← hCH] at hn; exact (W.mem_change.1 hn).1
  rw [e0]
  have hN : s.N.length ≤ 20000 := by
    have h1 := W.len
    have h2 := W.ar.lim
    omega
  obtain ⟨oc2, hoc2⟩ := ordC (ord := swp s.ord k) (by rw [swp_length]; exact hol)
  have hsw := swap_calls s.ord hol k
  rw [hoc2.agg] at hsw
  have hoz := hoc2.size
  have ho8 := hoc2.len8
  have hoce := hoc2.cell
  clear e0 gx gy hx hy hCH hX A hR hl
  refine en2 Try.func28 Try.results28 mixed [] ?_
  intro e0 h0 h1
  refine w_ fun d => ?_
  refine (ch _ ext_).mono ?_
  rintro _ w2 ⟨aC, cC, rfl, hSC, hnC, hEC⟩
  have hE2 : Ext w w2 := Ext.trans (by exact ext_) hEC
  have rm2 := rm _ hE2
  refine w_ fun d => ?_
  refine qq rm2 fun w3 hE3 hs3 => ?_
  have hE3w := hE2.trans hE3
  have hI3 := hI.ext hE3w
  have hSC3 := hSC.ext hE3
  have hnC3 : ∀ g, blk aC = some g → own g = 0 := fun g hg => by
    have h1 := hnC g hg
    simp only [dr_heap] at h1
    cases ho : own g with
    | zero => rfl
    | succ m => have := hI.lt g (by omega); omega
  clear ch rm rm2 hSC hnC hEC hE2 hE3 hp ox oy
  refine w_ fun d => ?_
  refine lo_ (fun W e u => ∃ (i : Nat) (own' : Nat → Nat) (aO : Option Addr) (cO : Nat) (m : List Nd), i ≤ CH.length ∧ e 53 = .int .i64 i ∧ e 8 = .slice aO m.length cO ∧ StI own' u p s ((CH.take i).reverse) ∧ Sw own w3 own' u ∧ SlN u aO cO m ∧ (∀ g, blk aO = some g → own' g = 0 ∧ w3.heap.size ≤ g) ∧ Box (m = (CH.take i).map s.nd)) (fun e _ => CH.length - nat (e 53)) ?_ ?_
  · exact ⟨0, own, none, 0, [], by omega, eA rfl, eA rfl, by simpa using hI3.ext ext_, Sw.of_ext ext_, Sl.nil _ _ _, (fun g h => by cases h), ⟨by simp⟩⟩
  rintro e u hf ⟨i, own', aO, cO, m, hi, h53, h8, hIu, hSw, hSO, hO, ⟨hm⟩⟩
  have hml : m.length = i := by rw [hm, List.length_map, List.length_take]; omega
  by_cases hlt : i < CH.length
  · obtain ⟨n, hn⟩ : ∃ n, CH[i]? = some n := ⟨CH[i], List.getElem?_eq_getElem hlt⟩
    have hSCu : SlC u 3 aC cC (ints CH) := hSC3.keep fun g hg => (hSw.out (hSC3.lt hg) (hnC3 g hg)).2
    obtain ⟨gC, curC, rfl, hgC, hcC, _, hatC⟩ := hSCu.at (i := i) (v := .int .i64 n) (by rw [List.getElem?_map, hn]; rfl)
    rw [List.length_map] at hcC
    have hhas := hmem n (List.mem_of_getElem? hn)
    have hnt : n ∉ (CH.take i).reverse := fun h => by
      rw [List.mem_reverse] at h
      obtain ⟨j, hj, he⟩ := List.getElem_of_mem h
      rw [List.getElem_take] at he
      rw [List.length_take] at hj
      have h2 : CH[i] = n := by rw [List.getElem?_eq_getElem hlt] at hn; exact Option.some.inj hn
      have := (List.getElem_inj (h₀ := by omega) (h₁ := hlt) hnd).1 (he.trans h2.symm)
      omega
    have hx := W.get hhas
    have hl := W.lt hhas
    have ok := G.node n hhas (by simp)
    obtain ⟨z, hz⟩ : ∃ z, s.nd n = z := ⟨_, rfl⟩
    have okv := ok.var
    have okl := ok.lo
    have okh := ok.hi
    rw [hz] at hx okv okl okh
    obtain ⟨v, lo, hi'⟩ := z
    dsimp only at okv okl okh
    have hvn : ((v.toNat : Nat) : Int) = v := by omega
    obtain ⟨R1, M1, c1, hR1, A1⟩ := hIu
    have hmap : M1 v.toNat (lo, hi') = some n := (A1.map v.toNat (by omega) (lo, hi') n).2 ⟨hhas, hnt, by rw [hz, hvn]⟩
    have il := below_idx W okl
    have ih := below_idx W okh
    have A2 := A1.lift W hhas hnt hz okv il.1 ih.1 (fun m hm _ hme => G.one m n hm (by simp) hhas (by simp) (by rw [hme, hz]))
    have lf := stLift_calls hR1 (n := n) (v := v) (lo := lo) (hi := hi') (m := n) (by omega) (by omega) hx hN okv hmap A1.len il.2 ih.2 (A1.small W)
    have htk : n :: (CH.take i).reverse = (CH.take (i + 1)).reverse := by rw [List.take_add_one, hn]; simp
    have hm2 : Box (m ++ [(v, lo, hi')] = (CH.take (i + 1)).map s.nd) := ⟨by rw [List.take_add_one, hn, List.map_append, hm]; simp [hz]⟩
    have hltC : (i : Int) < CH.length := by omega
    rw [htk] at A2
    have hmb : m.length ≤ 20000 := by omega
    clear hm hx hl ok okl okh il ih hmap hR1 A1 htk hz hn hnt hhas hml
    refine w_ fun d => ?_
    refine lf.mono ?_
    rintro _ u2 ⟨rfl, own2, hR2, ho2, hC2⟩
    have hSw1 : Sw own' u own2 u2 := ⟨ho2, hC2⟩
    have hI2 : StI own2 u2 p s ((CH.take (i + 1)).reverse) := ⟨_, _, _, hR2, A2⟩
    have hSO2 : SlN u2 aO cO m := Sl.keep hSO fun g hg => (hSw1.out (Sl.lt hSO hg) (hO g hg).1).2
    obtain ⟨a3, c3, u3, hr, hSO3, hC3, hs3', hB3⟩ := hSO2.push (by omega) (v, lo, hi')
    have hSw2 := hSw.trans hSw1
    have hO2 : ∀ g, blk aO = some g → own2 g = 0 ∧ w3.heap.size ≤ g := fun g hg => ⟨(hSw1.out (Sl.lt hSO hg) (hO g hg).1).1, (hO g hg).2⟩
    have hI3' := hI2.chg0 hC3 fun g hg => (hO2 g hg).1
    have hSw3 := hSw2.chg0 hC3 fun g hg hb => by have := (hO2 g hb).2; omega
    have hsw0 := hSw2.ch.size
    have hO3 : ∀ g, blk a3 = some g → own2 g = 0 ∧ w3.heap.size ≤ g := fun g hg => by
      rcases hB3 g hg with h | ⟨h, _⟩
      · exact hO2 g h
      · refine ⟨?_, by omega⟩
        cases ho : own2 g with
        | zero => rfl
        | succ m => have := hI2.lt g (by omega); omega
    dsimp only at hr
    clear hSO hSO2 hO hO2 hC3 hB3 hC2 hSw hSw1 hSw2 hI2 hR2 lf A2 ho2 hgC hatC hSCu
    refine w_ fun d => ?_
    exact ⟨⟨i + 1, own2, a3, c3, m ++ [(v, lo, hi')], by omega, eA rfl, by rw [List.length_append]; exact eA rfl, hI3', hSw3, hSO3, hO3, hm2⟩, mA⟩
  obtain rfl : i = CH.length := by omega
  rw [List.take_length] at hIu hm
  have hIu : StI own' u p s CH := by
    obtain ⟨R1, M1, c1, hR1, A1⟩ := hIu
    exact ⟨R1, M1, c1, hR1, A1.but_eq W fun n => by rw [List.mem_reverse]⟩
  obtain ⟨R1, M1, c1, hR1, A1⟩ := hIu
  obtain ⟨pa1, na1, nc1, ra1, rc1, pu1, sc1, oc1, hX1⟩ := hR1
  have hp1 := hX1.at_
  have hsz1 := hX1.cs.size
  have co1 := hX1.cs.co
  have hag := hX1.oc.agg
  dsimp only at hag
  rw [hag] at hsw
  have hX2 := fun u' (hE : Ext u u') => (hX1.ext hE).setOrd hoc2
  have stn := fun u' : World => stN_ord (p := p) (E := 120) (w := u') hsz1 hoz
  have hpl1 := lt_of_heap hp1
  clear hag
  refine w_ fun d => ?_
  refine qq hsw.quiet fun u2 hE2 hs2 => ?_
  have hp2 := hE2.at hp1
  refine w_ fun d => ?_
  refine at_w fun u4 hu4 => ?_
  have hX4 := hX2 u2 hE2
  rw [← hu4] at hX4
  dsimp only at hX4
  have hI4 : StI own' u4 p (s.ordS k) CH := ⟨R1, M1, c1, ⟨_, _, _, _, _, _, _, _, hX4⟩, ⟨A1.len, A1.ref, A1.map, A1.cnt⟩⟩
  have hop : own' p = 1 := hX1.op
  have hSw4 : Sw own w3 own' u4 := by
    have h1 := hSw.ext hE2
    refine ⟨h1.ho, ?_⟩
    rw [hu4]
    exact h1.ch.upd (fun _ => by unfold foot; rw [hI.op]; decide) _
  have hSC4 : SlC u4 3 aC cC (ints CH) := hSC3.keep fun g hg => (hSw4.out (hSC3.lt hg) (hnC3 g hg)).2
  have hC0 : ∀ g, blk aC = some g → own' g = 0 := fun g hg => (hSw4.out (hSC3.lt hg) (hnC3 g hg)).1
  have hO0 : ∀ g, blk aO = some g → own' g = 0 := fun g hg => (hO g hg).1
  have hSO4 : SlN u4 aO cO m := by
    rw [hu4]
    exact Sl.keep (Sl.ext hSO hE2) fun g hg => upd_other fun e => by have := hO0 g hg; rw [← e, hop] at this; cases this
  have hSww : Sw own w own' u4 := (Sw.of_ext hE3w).trans hSw4
  obtain ⟨fin, hfin⟩ : ∃ z, Md.swapGo x y (s.ordS k) CH = z := ⟨_, rfl⟩
  rw [hfin]
  have hmle : m.length = CH.length := by rw [hm, List.length_map]
  have hm' : ∀ i n, CH[i]? = some n → m[i]? = some (s.nd n) := fun i n hn => by rw [hm, List.getElem?_map, hn]; rfl
  obtain ⟨rx, ry, nxy⟩ := L.rng G
  clear hu4 hX4 hX2 hX1 hp2 hp1 hE2 hs2 hSw4 hSO hO hSw hSC3 hnC3 hI3 A1 stn hsz1 co1 hpl1 hsw hm hfull hs3 hE3w hIu hml
  clear u2
  refine lo_ (fun W e u => ∃ (i : Nat) (own2 : Nat → Nat) (si : Md), i ≤ CH.length ∧ e 75 = .int .i64 i ∧ StI own2 u p si (CH.drop i) ∧ Sw own' u4 own2 u ∧ Box (SwI s k x y si (CH.drop i) ∧ Md.swapGo x y si (CH.drop i) = fin)) (fun e _ => CH.length - nat (e 75)) ?_ ?_
  · exact ⟨0, own', s.ordS k, by omega, eA rfl, by rw [List.drop_zero]; exact hI4, Sw.of_ext ext_, ⟨by rw [List.drop_zero]; exact ⟨I0, hfin⟩⟩⟩
  rintro e u hf ⟨i, own2, si, hi, h75, hIu, hSw, ⟨I, hgo⟩⟩
  by_cases hlt : i < CH.length
  · obtain ⟨n, hn⟩ : ∃ n, CH[i]? = some n := ⟨CH[i], List.getElem?_eq_getElem hlt⟩
    have hdr : CH.drop i = n :: CH.drop (i + 1) := by
      rw [List.drop_eq_getElem_cons hlt]
      rw [List.getElem?_eq_getElem hlt] at hn
      rw [Option.some.inj hn]
    have hmi := hm' i n hn
    rw [hdr] at hIu I hgo
    have S := I.step G L
    obtain ⟨hn0, hvx, _, hnd'⟩ := I.rem n (by simp)
    have ok := G.node n hn0 (by simp)
    have okl := ok.lo
    have okh := ok.hi
    obtain ⟨z, hz⟩ : ∃ z, s.nd n = z := ⟨_, rfl⟩
    rw [hz] at hvx okl okh hmi hnd'
    obtain ⟨v, Lo, Hi⟩ := z
    dsimp only at hvx okl okh
    subst hvx
    have sL := fun b => I.side G L okl b
    have sH := fun b => I.side G L okh b
    have Wi := I.good.wf
    have a1 := (Md.below_lt Wi (sL false).1).1
    have a2 := (Md.below_lt Wi (sH false).1).1
    have a3 := (Md.below_lt Wi (sL true).1).1
    have a4 := (Md.below_lt Wi (sH true).1).1
    have q1 : si.mk' (n :: CH.drop (i + 1)) v (si.side Lo y false) (si.side Hi y false) = si.step1 (n :: CH.drop (i + 1)) v y n := by unfold Md.step1; rw [hnd']
    have q2 : (si.step1 (n :: CH.drop (i + 1)) v y n).2.mk' (n :: CH.drop (i + 1)) v (si.side Lo y true) (si.side Hi y true) = si.step2 (n :: CH.drop (i + 1)) v y n := by
      unfold Md.step2; rw [hnd', (Md.side_le S.l1 (sL true).2.2.1 true).1, (Md.side_le S.l1 (sH true).2.2.1 true).1]
    have sd1 := stSides_calls hIu Wi Lo y (sL true).2.2.1
    have sd2 := stSides_calls hIu Wi Hi y (sH true).2.2.1
    have mk1 := fun u' (hE : Ext u u') => stMk_calls (v := v) (hIu.ext hE) I.good (lo := si.side Lo y false) (hi := si.side Hi y false) (by omega) (by omega)
    have mk2 := fun u' o (hh : StI o u' p (si.step1 (n :: CH.drop (i + 1)) v y n).2 (n :: CH.drop (i + 1))) => stMk_calls (v := v) hh S.g1 (lo := si.side Lo y true) (hi := si.side Hi y true) (by omega) (by omega)
    rw [q1, S.e1, errV0] at mk1
    rw [q2, S.e2, errV0] at mk2
    have hgo' : Md.swapGo v y (si.swapStep (n :: CH.drop (i + 1)) v y n) (CH.drop (i + 1)) = fin := hgo
    have hbox : Box (SwI s k v y (si.swapStep (n :: CH.drop (i + 1)) v y n) (CH.drop (i + 1)) ∧ Md.swapGo v y (si.swapStep (n :: CH.drop (i + 1)) v y n) (CH.drop (i + 1)) = fin) := ⟨S.next, hgo'⟩
    have hst : si.swapStep (n :: CH.drop (i + 1)) v y n = (si.step2 (n :: CH.drop (i + 1)) v y n).2.lay n (y, (si.step1 (n :: CH.drop (i + 1)) v y n).1.1, (si.step2 (n :: CH.drop (i + 1)) v y n).1.1) := rfl
    have S2 := S.g2
    have Sf := S.fresh
    have Slo := S.lo
    have Shi := S.hi
    have hnr : n ∉ CH.drop (i + 1) := (List.nodup_cons.1 I.nodup).1
    obtain ⟨a, ha⟩ : ∃ a, si.side Lo y false = a := ⟨_, rfl⟩
    obtain ⟨b, hb⟩ : ∃ b, si.side Hi y false = b := ⟨_, rfl⟩
    obtain ⟨c', hc'⟩ : ∃ c', si.side Lo y true = c' := ⟨_, rfl⟩
    obtain ⟨d', hd'⟩ : ∃ d', si.side Hi y true = d' := ⟨_, rfl⟩
    rw [ha, hc'] at sd1
    rw [hb, hd'] at sd2
    rw [ha, hb] at mk1
    rw [hc', hd'] at mk2
    generalize si.swapStep (n :: CH.drop (i + 1)) v y n = sn at hst hbox hgo'
    generalize si.step2 (n :: CH.drop (i + 1)) v y n = r2 at mk2 hst S2 Sf Slo Shi
    generalize si.step1 (n :: CH.drop (i + 1)) v y n = r1 at mk1 mk2 hst Sf Slo
    obtain ⟨⟨o1, z1⟩, t1⟩ := r1
    obtain ⟨⟨o2, z2⟩, t2⟩ := r2
    dsimp only at mk1 mk2 hst S2 Sf Slo Shi
    have hhas2 : t2.has n = true := S2.sub n (by simp)
    have W2 := S2.wf
    have hl2 := W2.lt hhas2
    have hN2 : t2.N.length ≤ 20000 := by
      have h1 := W2.len
      have h2 := W2.ar.lim
      have h3 := W2.ar.most
      omega
    have idx : ∀ o, (o = 0 ∨ o = 1 ∨ t2.has o = true) → (2 ≤ o → o - 2 < (t2.N.length : Int)) ∧ o - 2 < (t2.N.length : Int) := fun o ho => by
      rcases ho with e | e | e
      · omega
      · omega
      · have := W2.lt e; omega
    have i1 := idx o1 Slo
    have i2 := idx o2 Shi
    have hvy : ((y.toNat : Nat) : Int) = y := by omega
    -- the last step
    have last : ∀ {o : Nat → Nat} {u' : World}, StI o u' p t2 (n :: CH.drop (i + 1)) → CallsR Try.prog 98 #[.pointer (some ⟨p, 0, none⟩), .int .i64 n, .agg #[.int .i64 y, .int .i64 o1, .int .i64 o2]] u' fun _ w' => TrI o u' p sn (CH.drop (i + 1)) w' := by
      rintro o u' ⟨R6, M6, c6, hR6, A6⟩
      have hcl := A6.cnt_le W2 (v := y.toNat) (by omega)
      have hll := live_lt (but := n :: CH.drop (i + 1)) W2 hhas2 (by simp)
      have hmm := W2.ar.many_le
      have hmo := W2.ar.most
      have hno : M6 y.toNat (o1, o2) = none := by
        cases hM : M6 y.toNat (o1, o2) with
        | none => rfl
        | some q =>
          obtain ⟨e1, e2, e3⟩ := (A6.map y.toNat (by omega) (o1, o2) q).1 hM
          rw [hvy] at e3
          exact absurd e3 (Sf q e1 e2)
      have A7 := A6.lay W2 hhas2 hnr ry i1.1 i2.1 Sf
      refine (stLay_calls hR6 (n := n) (v := y) (lo := o1) (hi := o2) (by omega) (by show n - 2 < (t2.N.length : Int); omega) hN2 ry hno (by show c6 y.toNat ≤ 19999; omega) A6.len i1.2 i2.2 (A6.small W2)).mono ?_
      rintro _ w' ⟨own7, h7, ho7, hC7⟩
      rw [hst]
      exact ⟨own7, ⟨_, _, _, h7, A7⟩, ho7, hC7⟩
    have hSCu : SlC u 3 aC cC (ints CH) := hSC4.keep fun g hg => (hSw.out (hSC4.lt hg) (hC0 g hg)).2
    have hSOu : SlN u aO cO m := Sl.keep hSO4 fun g hg => (hSw.out (Sl.lt hSO4 hg) (hO0 g hg)).2
    obtain ⟨gC, curC, rfl, hgC, hcC, _, hatC⟩ := hSCu.at (i := i) (v := .int .i64 n) (by rw [List.getElem?_map, hn]; rfl)
    rw [List.length_map] at hcC
    obtain ⟨gO, curO, rfl, hgO, hcO, hlO, xO0, xO1, xO2, hszO, _⟩ := hSOu.at hmi
    have hglC := lt_of_heap hgC
    have hglO := lt_of_heap hgO
    have hltC : (i : Int) < CH.length := by omega
    have hltO : (i : Int) < m.length := by omega
    clear hSCu hSOu hmi hdr S I sL sH Wi q1 q2 ok okl okh hz hnd' hn0 hn hst S2 Sf Slo Shi hnr hhas2 W2 hl2 hN2 idx i1 i2 hvy a1 a2 a3 a4 hgo hgo' ha hb hc' hd' hmle
    refine w_ fun d => ?_
    refine qq sd1 fun u5 hE5 hs5 => ?_
    have hg5 := hE5.at hgO
    have hgl5 := lt_of_heap hg5
    refine w_ fun d => ?_
    refine qq sd2 fun u6 hE6 hs6 => ?_
    have hE6u := hE5.trans hE6
    refine w_ fun d => ?_
    refine (mk1 _ hE6u).mono ?_
    rintro _ u7 ⟨rfl, own7, hI7, ho7, hC7⟩
    have hSw7 := (hSw.ext hE6u).trans ⟨ho7, hC7⟩
    refine w_ fun d => ?_
    refine (mk2 _ _ hI7).mono ?_
    rintro _ u8 ⟨rfl, own8, hI8, ho8, hC8⟩
    have hSw8 := hSw7.trans ⟨ho8, hC8⟩
    refine w_ fun d => ?_
    refine (last hI8).mono ?_
    rintro _ u9 ⟨own9, hI9, ho9, hC9⟩
    have hSw9 := hSw8.trans ⟨ho9, hC9⟩
    refine w_ fun d => ?_
    exact ⟨⟨i + 1, own9, sn, by omega, eA rfl, hI9, hSw9, hbox⟩, mA⟩
  · obtain rfl : i = CH.length := by omega
    rw [List.drop_length] at hIu hgo
    have hff : si = fin := hgo
    subst hff
    have hSwf := hSww.trans hSw
    clear I hgo
    refine w_ fun d => ?_
    exact ⟨rfl, own2, hIu, hSwf.ho, hSwf.ch⟩
end
end Go.Proofs.Ytpeindhocndmnaa

/- Walks of layer 4's reference: Take and Give. -/
namespace Go.Proofs.Ytpeindhocndmnaa
open Go Go.Bx
set_option linter.unusedSimpArgs false
set_option linter.unusedVariables false
set_option maxRecDepth 100000
set_option maxHeartbeats 4000000
attribute [local irreducible] X XO XE XF XD XW thenX inX retX kN CallsR
theorem wo_last {R : List Int} {n : Int} (h : (R ++ [n]).Nodup) : wo (R ++ [n]) n = R := by
  rw [List.nodup_append] at h
  unfold wo
  rw [List.filter_append]
  have e1 : R.filter (fun x => decide (x ≠ n)) = R := List.filter_eq_self.2 fun x hx => by
    have := h.2.2 x hx n (by simp)
    simpa using this
  rw [e1]; simp
theorem mem_wo {l : List Int} {n m : Int} : m ∈ wo l n ↔ m ∈ l ∧ m ≠ n := by unfold wo; rw [List.mem_filter]; simp
theorem nodup_wo {l : List Int} {n : Int} (h : l.Nodup) : (wo l n).Nodup := List.Pairwise.filter _ h
theorem nodup_add {l : List Int} {n : Int} (h : l.Nodup) (hn : n ∉ l) : (l ++ [n]).Nodup := by
  rw [List.nodup_append]
  exact ⟨h, by simp, fun x hx y hy e => by rw [List.mem_singleton] at hy; subst hy; subst e; exact hn hx⟩
theorem raNew_box {most : Int} {w : World} : RaI (fun k => k = w.heap.size) (w.alloc (.cells #[.int .i64 most, .slice none 0 0, .slice none 0 0, .int .i64 0] 169)) w.heap.size ⟨most, [], []⟩ :=
  ⟨[], none, 0, none, 0, hA rfl, SlC.nil _ _, SlC.nil _ _, rfl, (fun g h => by cases h), (fun g h => by cases h), (fun g h => by cases h), fun k hk => by rw [hk, alloc_size]; omega, List.nodup_nil, fun n => by unfold Ar.has; simp⟩
theorem raTake_calls {F : Nat → Prop} {w : World} {p : Nat} {a : Ar} (h : RaI F w p a) (ho : a.OK) :
    CallsR Try.prog 147 #[.pointer (some ⟨p, 0, none⟩)] w fun r w' => ∃ b, ((∃ n, a.take = some (n, b) ∧ r = .tuple #[.int .i64 n, .int .i64 0]) ∨ (a.take = none ∧ b = a ∧ r = .tuple #[.int .i64 0, .int .i64 2])) ∧ RaI (Grow F w w') w' p b ∧ Chg F w w' := by
  obtain ⟨K, ta, tc, fa, fc, h⟩ := id h
  have hKl := h.len ho
  have hKm := ho.many_le
  have hrm := ho.room
  have htk := fun n b => ho.taken (n := n) (b := b)
  obtain ⟨hp, hT, hF, fp, ft, ff, dj, hlt, hnd, hmem⟩ := h
  have hlim := ho.lim
  have hmost := ho.most
  have hpl := lt_of_heap hp
  have hKb : K.length ≤ 20000 := by omega
  have hfl := ho.frlen
  have hFnd := ho.nodup
  have hk := ho.takes
  clear ho
  generalize a.take = o at hk hrm htk
  have hta : ∀ g, blk ta = some g → g ≠ p := fun g hg => hT.ne hg hp (by decide)
  have hfa : ∀ g, blk fa = some g → g ≠ p := fun g hg => hF.ne hg hp (by decide)
  cases hk with
  | full hFr hm =>
    have e1 : ((K.length : Int) == a.most) = true := by simpa using hKl.trans (hrm.1 rfl)
    clear hrm htk hFr hm hKl
    refine en1 Try.func147 Try.results147 mixed [] ?_
    intro e0 h0
    refine w_ fun d => ?_
    exact ⟨a, .inr (by simp), RaI.grown (w := w) ⟨K, ta, tc, fa, fc, hp, hT, hF, fp, ft, ff, dj, hlt, hnd, hmem⟩ ext_, chg_⟩
  | back R n hFr h0' h1' hf =>
    have e1 : ((K.length : Int) == a.most) = false := by
      have : ¬ (K.length : Int) = a.most := fun e => by have := hrm.2 (hKl.symm.trans e); cases this
      simpa using this
    obtain ⟨_, _, _, _, _, _, hb7, _⟩ := htk n _ rfl
    have hnK : n ∉ K := fun hm => by have := (hmem n).1 hm; rw [hf] at this; cases this
    have hK2 := nodup_add hnd hnK
    have e2 : a.Fr.length = R.length + 1 := by rw [hFr]; simp
    rw [hFr] at hF hFnd
    rw [e2] at hp
    obtain ⟨g, cur, rfl, hg, hc, _, hat⟩ := hF.at (i := R.length) (v := .int .i64 n) (by simp)
    have hgp : g ≠ p := hfa g rfl
    have hwo := wo_last hFnd
    have hin := hF.inp
    have c1 := fun u (hu : Ext w u) => rwo_calls (c := fc) (Inp.ext hin hu) (by simp; omega) n
    rw [hwo, List.length_append, List.length_singleton] at c1
    have e3 : (R.length : Int) + 1 - 1 = R.length := by omega
    rw [List.length_map, List.length_append, List.length_singleton] at hc
    clear hwo hin hFr hFnd hrm htk hKl
    refine en1 Try.func147 Try.results147 mixed [] ?_
    intro e0 h0
    refine w_ fun d => ?_
    refine (c1 _ ext_).mono ?_
    rintro _ w2 ⟨a2, c2, rfl, hS2, hn2, hE2⟩
    have hEw : Ext w w2 := Ext.trans (by exact ext_) hE2
    have hs2 := sz_ hEw
    have hp2 := hEw.at hp
    have hpl2 := lt_of_heap hp2
    have hS2p : ∀ x, blk a2 = some x → x ≠ p := fun x hx => by have := hn2 x hx; simp only [dr_heap] at this; omega
    obtain ⟨C, hC⟩ : ∃ C, (#[.int .i64 a.most, .slice ta K.length tc, .slice a2 R.length c2, .int .i64 a.T.length] : Array Value) = C := ⟨_, rfl⟩
    have hT2 := (hT.ext hEw).upd (b := p) (o := .cells C 169) hta
    have hS3 := hS2.upd (b := p) (o := .cells C 169) hS2p
    obtain ⟨a3, c3, w3, hr, hT3, hC3, hs3, hB3⟩ := pushI hT2 (by omega) n
    simp only [upd_size] at hr hs3 hB3
    subst hC
    have hp3 : w3.heap[p]? = some (.cells #[.int .i64 a.most, .slice ta K.length tc, .slice a2 R.length c2, .int .i64 a.T.length] 169) := by
      rw [hC3.heap _ (by simp only [upd_size]; exact hpl2) fun h => hta p h rfl]; exact upd_same hpl2
    have hpl3 := lt_of_heap hp3
    have hta2 : ∀ x, blk ta = some x → blk a2 ≠ some x := fun x hx h2 => by have := hn2 x h2; simp only [dr_heap] at this; have := hT.lt hx; omega
    have hS4 := hS3.chg hC3 fun x hx h2 => hta2 x h2 hx
    have hCw := ((hEw.chg F).upd (b := p) (fun _ => fp) (.cells #[.int .i64 a.most, .slice ta K.length tc, .slice a2 R.length c2, .int .i64 a.T.length] 169)).trans hC3 fun b _ hb => ft b hb
    have hn2' : ∀ x, blk a2 = some x → w.heap.size ≤ x := fun x hx => by have := hn2 x hx; simpa only [dr_heap] using this
    have hS2l : ∀ x, blk a2 = some x → x < w3.heap.size := fun x hx => hS4.lt hx
    clear hC3 hT2 hS3 hE2 c1 hn2
    refine w_ fun d => ?_
    have ha3 : ∀ g, blk a3 = some g → g ≠ p := fun g hg => hT3.ne hg hp3 (by decide)
    refine ⟨_, .inl ⟨_, rfl, rfl⟩, ⟨K ++ [n], a3, c3, a2, c2, ?_, hT3.upd ha3, hS4.upd hS2p, .inl fp, fun g hg => ?_, fun g hg => ?_, fun g hg h2 => ?_, fun k hk => ?_, hK2, fun m => ?_⟩, chg_⟩
    · rw [show (K ++ [n]).length = K.length + 1 by simp, show (a.takeB n R).T.length = a.T.length by simp [Ar.takeB]]
      exact hA rfl
    · rcases hB3 g hg with h | ⟨h, h'⟩
      · exact .inl (ft g h)
      · exact .inr ⟨by omega, by simp only [upd_size]; exact h'⟩
    · exact .inr ⟨hn2' g hg, by simp only [upd_size]; exact hS2l g hg⟩
    · rcases hB3 g hg with h | ⟨h, h'⟩
      · exact hta2 g h h2
      · have := hS2.lt h2; omega
    · rcases hk with hk | hk
      · have := hlt k hk; simp only [upd_size]; omega
      · exact hk.2
    · rw [hb7 m, List.mem_append, List.mem_singleton, hmem, Bool.or_eq_true, decide_eq_true_eq]
  | new hFr hm =>
    have e1 : ((K.length : Int) == a.most) = false := by
      have : ¬ (K.length : Int) = a.most := fun e => by have := hrm.2 (hKl.symm.trans e); cases this
      simpa using this
    obtain ⟨_, _, _, hno, _, _, hb7, _⟩ := htk _ _ rfl
    have hnK : (a.T.length : Int) ∉ K := fun hm => by have := (hmem _).1 hm; rw [hno] at this; cases this
    have hK2 := nodup_add hnd hnK
    have e2 : a.Fr.length = 0 := by rw [hFr]; rfl
    rw [hFr] at hF
    rw [e2] at hp
    clear hFr hFnd hrm htk hKl hno hnK
    refine en1 Try.func147 Try.results147 mixed [] ?_
    intro e0 h0
    refine w_ fun d => ?_
    have hEw : Ext w (dr w d) := ext_
    obtain ⟨C, hC⟩ : ∃ C, (#[.int .i64 a.most, .slice ta K.length tc, .slice fa 0 fc, .int .i64 (a.T.length + 1)] : Array Value) = C := ⟨_, rfl⟩
    have hT2 := (hT.ext hEw).upd (b := p) (o := .cells C 169) hta
    have hS3 := (hF.ext hEw).upd (b := p) (o := .cells C 169) hfa
    obtain ⟨a3, c3, w3, hr, hT3, hC3, hs3, hB3⟩ := pushI hT2 (by omega) a.T.length
    simp only [upd_size, dr_heap] at hr hs3 hB3
    subst hC
    have hp3 : w3.heap[p]? = some (.cells #[.int .i64 a.most, .slice ta K.length tc, .slice fa 0 fc, .int .i64 (a.T.length + 1)] 169) := by
      rw [hC3.heap _ (by simp only [upd_size, dr_heap]; exact hpl) fun h => hta p h rfl]; exact upd_same hpl
    have hpl3 := lt_of_heap hp3
    have hS4 := hS3.chg hC3 fun x hx h2 => dj x h2 hx
    have hCw := ((hEw.chg F).upd (b := p) (fun _ => fp) (.cells #[.int .i64 a.most, .slice ta K.length tc, .slice fa 0 fc, .int .i64 (a.T.length + 1)] 169)).trans hC3 fun b _ hb => ft b hb
    simp only [upd_dr, alloc_dr] at hr
    clear hC3 hT2 hS3 hEw
    refine w_ fun d => ?_
    have ha3 : ∀ g, blk a3 = some g → g ≠ p := fun g hg => hT3.ne hg hp3 (by decide)
    refine ⟨_, .inl ⟨_, rfl, rfl⟩, ⟨K ++ [(a.T.length : Int)], a3, c3, fa, fc, ?_, hT3.upd ha3, hS4.upd hfa, .inl fp, fun g hg => ?_, fun g hg => .inl (ff g hg), fun g hg h2 => ?_, fun k hk => ?_, hK2, fun m => ?_⟩, chg_⟩
    · rw [show (K ++ [(a.T.length : Int)]).length = K.length + 1 by simp, show ((a.takeN.T.length : Nat) : Int) = a.T.length + 1 by simp [Ar.takeN]]
      exact hA rfl
    · rcases hB3 g hg with h | ⟨h, h'⟩
      · exact .inl (ft g h)
      · exact .inr ⟨by omega, by simp only [upd_size]; exact h'⟩
    · rcases hB3 g hg with h | ⟨h, h'⟩
      · exact dj g h h2
      · have := hlt g (ff g h2); omega
    · rcases hk with hk | hk
      · have := hlt k hk; simp only [upd_size]; omega
      · exact hk.2
    · rw [hb7 m, List.mem_append, List.mem_singleton, hmem, Bool.or_eq_true, decide_eq_true_eq]
theorem raGive_calls {F : Nat → Prop} {w : World} {p : Nat} {a : Ar} (h : RaI F w p a) (ho : a.OK) (n : Int) :
    CallsR Try.prog 134 #[.pointer (some ⟨p, 0, none⟩), .int .i64 n] w fun r w' => (if a.has n then r = .int .i64 0 ∧ RaI (Grow F w w') w' p (a.give n) else r = .int .i64 1 ∧ RaI (Grow F w w') w' p a) ∧ Chg F w w' := by
  obtain ⟨K, ta, tc, fa, fc, h'⟩ := id h
  have hKl := h'.len ho
  have hKm := ho.many_le
  obtain ⟨hp, hT, hF, fp, ft, ff, dj, hlt, hnd, hmem⟩ := h'
  have hmost := ho.most
  have hlim := ho.lim
  have hfl := ho.frlen
  have hpl := lt_of_heap hp
  have hKb : K.length ≤ 20000 := by omega
  have hta : ∀ g, blk ta = some g → g ≠ p := fun g hg => hT.ne hg hp (by decide)
  have hfa : ∀ g, blk fa = some g → g ≠ p := fun g hg => hF.ne hg hp (by decide)
  have hgv := fun m (hn : a.has n = true) => Ar.has_give (m := m) hn
  have c1 := rin4_calls (c := tc) (a := ta) (l := K) (w := w) hT.inp (by omega) n
  have e : decide (n ∈ K) = a.has n := by
    have := hmem n
    cases hh : a.has n <;> rw [hh] at this <;> simpa using this
  rw [e] at c1
  clear e hKl ho
  cases hh : a.has n
  · rw [hh] at c1
    simp only [Bool.false_eq_true, ↓reduceIte]
    refine en2 Try.func134 Try.results134 mixed [] ?_
    intro e0 h0 h1
    refine w_ fun d => ?_
    refine callQ c1.call fun w1 hE1 hs1 => ?_
    refine w_ fun d => ?_
    exact ⟨⟨rfl, h.grown hE1⟩, chg_⟩
  · rw [hh] at c1
    simp only [↓reduceIte]
    have hgv := fun m => hgv m hh
    have c2 := fun u (hu : Ext w u) => rwo_calls (c := tc) (l := K) (Inp.ext hT.inp hu) (by omega) n
    clear h
    refine en2 Try.func134 Try.results134 mixed [] ?_
    intro e0 h0 h1
    refine w_ fun d => ?_
    refine callQ c1.call fun w1 hE1 hs1 => ?_
    refine w_ fun d => ?_
    refine (c2 _ (by assumption)).mono ?_
    rintro _ w2 ⟨a2, c2, rfl, hS2, hn2, hE2⟩
    have hEw : Ext w w2 := Ext.trans (by assumption) hE2
    have hs2 := sz_ hEw
    have hp2 := hEw.at hp
    have hpl2 := lt_of_heap hp2
    have hn2' : ∀ x, blk a2 = some x → w.heap.size ≤ x := fun x hx => by have := hn2 x hx; omega
    have hS2p : ∀ x, blk a2 = some x → x ≠ p := fun x hx => by have := hn2' x hx; omega
    obtain ⟨C, hC⟩ : ∃ C, (#[.int .i64 a.most, .slice a2 (wo K n).length c2, .slice fa a.Fr.length fc, .int .i64 a.T.length] : Array Value) = C := ⟨_, rfl⟩
    have hT2 := (hF.ext hEw).upd (b := p) (o := .cells C 169) hfa
    have hS3 := hS2.upd (b := p) (o := .cells C 169) hS2p
    obtain ⟨a3, c3, w3, hr, hT3, hC3, hs3, hB3⟩ := pushI hT2 (by omega) n
    simp only [upd_size] at hr hs3 hB3
    subst hC
    have hp3 : w3.heap[p]? = some (.cells #[.int .i64 a.most, .slice a2 (wo K n).length c2, .slice fa a.Fr.length fc, .int .i64 a.T.length] 169) := by
      rw [hC3.heap _ (by simp only [upd_size]; exact hpl2) fun h => hfa p h rfl]; exact upd_same hpl2
    have hpl3 := lt_of_heap hp3
    have hta2 : ∀ x, blk fa = some x → blk a2 ≠ some x := fun x hx h2 => by have := hn2' x h2; have := hF.lt hx; omega
    have hS4 := hS3.chg hC3 fun x hx h2 => hta2 x h2 hx
    have hCw := ((hEw.chg F).upd (b := p) (fun _ => fp) (.cells #[.int .i64 a.most, .slice a2 (wo K n).length c2, .slice fa a.Fr.length fc, .int .i64 a.T.length] 169)).trans hC3 fun b _ hb => ff b hb
    have hS2l : ∀ x, blk a2 = some x → x < w3.heap.size := fun x hx => hS4.lt hx
    clear hC3 hT2 hS3 hE2 c1 hn2
    refine w_ fun d => ?_
    have ha3 : ∀ g, blk a3 = some g → g ≠ p := fun g hg => hT3.ne hg hp3 (by decide)
    refine ⟨⟨rfl, wo K n, a2, c2, a3, c3, ?_, hS4.upd hS2p, ?_, .inl fp, fun g hg => ?_, fun g hg => ?_, fun g hg h2 => ?_, fun k hk => ?_, nodup_wo hnd, fun m => ?_⟩, chg_⟩
    · rw [show (a.give n).Fr.length = a.Fr.length + 1 by simp [Ar.give], show (a.give n).T.length = a.T.length by simp [Ar.give]]
      exact hA rfl
    · rw [show (a.give n).Fr = a.Fr ++ [n] by simp [Ar.give]]
      exact hT3.upd ha3
    · exact .inr ⟨hn2' g hg, by simp only [upd_size]; exact hS2l g hg⟩
    · rcases hB3 g hg with h | ⟨h, h'⟩
      · exact .inl (ff g h)
      · exact .inr ⟨by omega, by simp only [upd_size]; exact h'⟩
    · rcases hB3 g h2 with h | ⟨h, h'⟩
      · exact hta2 g h hg
      · have := hS2.lt hg; omega
    · rcases hk with hk | hk
      · have := hlt k hk; simp only [upd_size]; omega
      · exact hk.2
    · rw [hgv m, mem_wo, hmem, Bool.and_eq_true]; simp
end Go.Proofs.Ytpeindhocndmnaa

/- Layer 7's reference in memory. -/
namespace Go.Proofs.Ytpeindhocndmnaa
open Go Go.Bx
set_option linter.unusedSimpArgs false
set_option linter.unusedVariables false
set_option maxRecDepth 100000
set_option maxHeartbeats 4000000
attribute [local irreducible] X XO XE XF XD XW thenX inX retX kN CallsR
structure RsC (sc : Array Value) (pa : Nat) (na : Option Addr) (nl nc : Nat) (oc : Array Value) : Prop where
  size : sc.size = 10
  c0 : sc[0]? = some (.pointer (some ⟨pa, 0, none⟩))
  c1 : sc[1]? = some (.slice na nl nc)
  co : sc.extract 2 10 = oc
theorem RsC.setN {sc oc : Array Value} {pa : Nat} {na : Option Addr} {nl nc : Nat} (h : RsC sc pa na nl nc oc) (na' : Option Addr) (nl' nc' : Nat) : RsC (sc.setIfInBounds 1 (.slice na' nl' nc')) pa na' nl' nc' oc := by
  have hs := h.size
  refine ⟨by rw [Array.size_setIfInBounds]; exact hs, by rw [Array.getElem?_setIfInBounds_ne (by omega)]; exact h.c0, by rw [Array.getElem?_setIfInBounds_self_of_lt (by omega)], ?_⟩
  rw [← h.co]
  apply Array.ext_getElem?
  intro j
  rw [Array.getElem?_extract, Array.getElem?_extract, Array.size_setIfInBounds, Array.getElem?_setIfInBounds_ne (by omega)]
theorem RsC.setO {sc oc oc' : Array Value} {pa : Nat} {na : Option Addr} {nl nc : Nat} (h : RsC sc pa na nl nc oc) (ho : oc'.size = 8) : RsC (wrN sc 2 oc'.toList) pa na nl nc oc' := by
  have hs := h.size
  have hl : oc'.toList.length = 8 := by rw [Array.length_toList]; exact ho
  have hg := fun j => wrN_get oc'.toList sc 2 j (by omega)
  refine ⟨by rw [wrN_size]; exact hs, by rw [hg, if_neg (by omega)]; exact h.c0, by rw [hg, if_neg (by omega)]; exact h.c1, ?_⟩
  apply Array.ext_getElem?
  intro j
  rw [Array.getElem?_extract, wrN_size, hs]
  by_cases hj : j < 8
  · rw [if_pos (by omega), hg, if_pos (by omega), show 2 + j - 2 = j by omega, Array.getElem?_toList]
  · rw [if_neg (by omega), Array.getElem?_eq_none (by omega)]
theorem RsC.at_ord {sc oc : Array Value} {pa : Nat} {na : Option Addr} {nl nc : Nat} (h : RsC sc pa na nl nc oc) {ord : List Int} (ho : OrdC ord oc) {k : Nat} {x : Int} (hx : ord[k]? = some x) : sc[2 + k]? = some (.int .i64 x) := by
  have h1 := ho.at_ k x hx
  rw [← h.co, Array.getElem?_extract] at h1
  split at h1
  · exact h1
  · cases h1
structure RsX (own : Nat → Nat) (w : World) (p : Nat) (s : Md) (pa : Nat) (na : Option Addr) (nc : Nat) (sc oc : Array Value) : Prop where
  at_ : w.heap[p]? = some (.cells sc 124)
  rc : RsC sc pa na s.N.length nc oc
  oc : OrdC s.ord oc
  op : own p = 1
  ar : RaI (owns own 2) w pa s.a
  no : SlN w na nc s.N
  on : ∀ g, blk na = some g → own g = 3
  lt : ∀ k, own k ≠ 0 → k < w.heap.size
def RsI (own : Nat → Nat) (w : World) (p : Nat) (s : Md) : Prop := ∃ pa na nc sc oc, RsX own w p s pa na nc sc oc
section
variable {own own1 own2 : Nat → Nat} {w w' w1 w2 : World} {p : Nat} {s : Md} {pa : Nat} {na : Option Addr} {nc : Nat} {sc oc : Array Value} {c : Nat}
theorem RsI.lt (h : RsI own w p s) : ∀ k, own k ≠ 0 → k < w.heap.size := by obtain ⟨_, _, _, _, _, h⟩ := h; exact h.lt
theorem RsI.op (h : RsI own w p s) : own p = 1 := by obtain ⟨_, _, _, _, _, h⟩ := h; exact h.op
theorem RsX.keep (h : RsX own w p s pa na nc sc oc) (hne : ∀ k, own k ≠ 0 → w'.heap[k]? = w.heap[k]?) (hs : w.heap.size ≤ w'.heap.size) : RsX own w' p s pa na nc sc oc := by
  have h1 := h.op
  exact ⟨by rw [hne p (by omega)]; exact h.at_, h.rc, h.oc, h.op, h.ar.keep (fun k hk => hne k (by unfold owns at hk; omega)) hs, Sl.keep h.no fun g hg => hne g (by have := h.on g hg; omega), h.on, fun k hk => Nat.lt_of_lt_of_le (h.lt k hk) hs⟩
theorem RsX.ext (h : RsX own w p s pa na nc sc oc) (hE : Ext w w') : RsX own w' p s pa na nc sc oc := h.keep (fun k hk => hE.heap k (h.lt k hk)) hE.size
theorem RsI.ext (h : RsI own w p s) (hE : Ext w w') : RsI own w' p s := by
  obtain ⟨pa, na, nc, sc, oc, h⟩ := h
  exact ⟨pa, na, nc, sc, oc, h.ext hE⟩
theorem RsI.chg0 {F : Nat → Prop} (h : RsI own w p s) (hC : Chg F w w') (hF : ∀ k, F k → own k = 0) : RsI own w' p s := by
  obtain ⟨pa, na, nc, sc, oc, h⟩ := h
  exact ⟨pa, na, nc, sc, oc, h.keep (fun k hk => hC.heap k (h.lt k hk) fun hf => hk (hF k hf)) hC.size⟩
theorem RsX.turn (h : RsX own w p s pa na nc sc oc) (hC : Chg (owns own c) w w') (hc : c ≠ 0) :
    (c ≠ 1 → w'.heap[p]? = some (.cells sc 124)) ∧ ownUp own w w' c p = 1 ∧ (c ≠ 2 → RaI (owns (ownUp own w w' c) 2) w' pa s.a) ∧ (c ≠ 3 → SlN w' na nc s.N) ∧ (∀ g, blk na = some g → ownUp own w w' c g = 3) ∧ (∀ k, ownUp own w w' c k ≠ 0 → k < w'.heap.size) := by
  have kp : ∀ d, d ≠ c → ∀ k, owns own d k → k < w.heap.size → w'.heap[k]? = w.heap[k]? := fun d hd k hk hl => hC.heap k hl fun hf => hd (hk.symm.trans hf)
  refine ⟨fun h1 => ?_, ?_, fun h2 => ?_, fun h3 => ?_, fun g hg => ?_, ownUp_lt h.lt hC.size hc⟩
  · rw [kp 1 (Ne.symm h1) p h.op (lt_of_heap h.at_)]; exact h.at_
  · rw [ownUp_old (lt_of_heap h.at_)]; exact h.op
  · rw [owns_up_other h.lt (by decide) (Ne.symm h2)]
    exact h.ar.keep (fun k hk => kp 2 (Ne.symm h2) k hk (h.ar.lt k hk)) hC.size
  · exact Sl.keep h.no fun g hg => kp 3 (Ne.symm h3) g (h.on g hg) (Sl.lt h.no hg)
  · rw [ownUp_old (Sl.lt h.no hg)]; exact h.on g hg
theorem RsX.setAr (h : RsX own w p s pa na nc sc oc) {a : Ar} (hA : RaI (Grow (owns own 2) w w') w' pa a) (hC : Chg (owns own 2) w w') : RsX (ownUp own w w' 2) w' p ⟨a, s.N, s.ord⟩ pa na nc sc oc := by
  obtain ⟨h1, h2, h3, h4, h5, h6⟩ := h.turn hC (by decide)
  exact ⟨h1 (by decide), h.rc, h.oc, h2, by rw [owns_up_self]; exact hA, h4 (by decide), h5, h6⟩
theorem RsX.setNode {g : Nat} {cur : Array Value} (h : RsX own w p s pa (some ⟨g, 0, none⟩) nc sc oc) (hg : w.heap[g]? = some (.cells cur 39 (0, 0))) {k : Nat} (hk : k < s.N.length) (x : Nd) :
    RsX own (upd w g (.cells (((cur.setIfInBounds (k * 3) (.int .i64 x.1)).setIfInBounds (k * 3 + 1) (.int .i64 x.2.1)).setIfInBounds (k * 3 + 2) (.int .i64 x.2.2)) 39 (0, 0))) p ⟨s.a, s.N.set k x, s.ord⟩ pa (some ⟨g, 0, none⟩) nc sc oc ∧
    Chg (owns own 3) w (upd w g (.cells (((cur.setIfInBounds (k * 3) (.int .i64 x.1)).setIfInBounds (k * 3 + 1) (.int .i64 x.2.1)).setIfInBounds (k * 3 + 2) (.int .i64 x.2.2)) 39 (0, 0))) := by
  have hC := (Chg.refl (owns own 3) w).upd (b := g) (fun _ => h.on g rfl) (.cells (((cur.setIfInBounds (k * 3) (.int .i64 x.1)).setIfInBounds (k * 3 + 1) (.int .i64 x.2.1)).setIfInBounds (k * 3 + 2) (.int .i64 x.2.2)) 39 (0, 0))
  have hn := h.no.set hg hk x
  refine ⟨?_, hC⟩
  obtain ⟨h1, h2, h3, h4, h5, h6⟩ := h.turn hC (by decide)
  rw [ownUp_same (by simp only [upd_size])] at h2 h3 h5 h6
  exact ⟨h1 (by decide), by show RsC sc pa _ (s.N.set k x).length nc oc; rw [List.length_set]; exact h.rc, h.oc, h2, h3 (by decide), hn, h5, h6⟩
theorem RsX.pushN (h : RsX own w p s pa na nc sc oc) {x : Nd} {a' : Option Addr} {c' : Nat} (hS : SlN w1 a' c' (s.N ++ [x])) (hC : Chg (fun k => blk na = some k) w w1) (hB : ∀ g, blk a' = some g → blk na = some g ∨ (w.heap.size ≤ g ∧ g < w1.heap.size)) :
    w1.heap[p]? = some (.cells sc 124) ∧ RsX (ownUp own w w1 3) (upd w1 p (.cells (sc.setIfInBounds 1 (.slice a' (s.N.length + 1) c')) 124)) p ⟨s.a, s.N ++ [x], s.ord⟩ pa a' c' (sc.setIfInBounds 1 (.slice a' (s.N.length + 1) c')) oc ∧
    Chg (foot own) w (upd w1 p (.cells (sc.setIfInBounds 1 (.slice a' (s.N.length + 1) c')) 124)) := by
  have hC3 : Chg (owns own 3) w w1 := hC.mono fun k _ hk => h.on k hk
  obtain ⟨h1, h2, h3, h4, h5, h6⟩ := h.turn hC3 (by decide)
  have hp1 := h1 (by decide)
  have hpl := lt_of_heap hp1
  have hpo : ∀ k, ownUp own w w1 3 k ≠ 1 → (upd w1 p (.cells (sc.setIfInBounds 1 (.slice a' (s.N.length + 1) c')) 124)).heap[k]? = w1.heap[k]? := fun k hk => upd_other fun e => hk (by rw [← e]; exact h2)
  have on' : ∀ g, blk a' = some g → ownUp own w w1 3 g = 3 := fun g hg => by
    rcases hB g hg with h' | h'
    · exact h5 g h'
    · unfold ownUp; rw [if_pos h']
  refine ⟨hp1, ⟨upd_same hpl, ?_, h.oc, h2, (h3 (by decide)).keep (fun k hk => hpo k (by unfold owns at hk; omega)) (by rw [upd_size]; exact Nat.le_refl _), Sl.keep hS fun g hg => hpo g (by rw [on' g hg]; decide), on', fun k hk => by rw [upd_size]; exact h6 k hk⟩, ?_⟩
  · have := h.rc.setN a' (s.N.length + 1) c'
    rw [show (s.N ++ [x]).length = s.N.length + 1 by simp]
    exact this
  · exact (Chg.foot hC3 (by decide)).upd (fun _ => by unfold foot; rw [h.op]; decide) _
theorem RsX.setOrd {oc' : Array Value} (h : RsX own w p s pa na nc sc oc) {ord' : List Int} (ho : OrdC ord' oc') : RsX own (upd w p (.cells (wrN sc 2 oc'.toList) 124)) p ⟨s.a, s.N, ord'⟩ pa na nc (wrN sc 2 oc'.toList) oc' := by
  have hpl := lt_of_heap h.at_
  have hne : ∀ k, own k ≠ 1 → (upd w p (.cells (wrN sc 2 oc'.toList) 124)).heap[k]? = w.heap[k]? := fun k hk => upd_other fun e => hk (by rw [← e]; exact h.op)
  have hs : w.heap.size ≤ (upd w p (.cells (wrN sc 2 oc'.toList) 124)).heap.size := by rw [upd_size]; exact Nat.le_refl _
  exact ⟨upd_same hpl, h.rc.setO ho.size, ho, h.op, h.ar.keep (fun k hk => hne k (by unfold owns at hk; omega)) hs, Sl.keep h.no fun g hg => hne g (by have := h.on g hg; omega), h.on, fun k hk => by rw [upd_size]; exact h.lt k hk⟩
def TrS (own : Nat → Nat) (w : World) (p : Nat) (s' : Md) (w' : World) : Prop := ∃ own', RsI own' w' p s' ∧ Sw own w own' w'
theorem TrS.of_ext (h : RsI own w p s) (hE : Ext w w') : TrS own w p s w' := ⟨own, h.ext hE, Sw.of_ext hE⟩
theorem stN_ord2 {p : Nat} {sc oc : Array Value} {E : TypeId} {w : World} (hs : sc.size = 10) (ho : oc.size = 8) : stN Try.prog p 2 (vcs (.agg oc)) w (some (.cells sc E (0, 0))) = .ok () (upd w p (.cells (wrN sc 2 oc.toList) E (0, 0))) :=
  stN_cells (by show 2 + oc.toList.length ≤ sc.size; rw [Array.length_toList]; omega)
end
theorem nd_equal {a b c a' b' c' : Int} {w : World} : (Op.equal 39 (.agg #[.int .i64 a, .int .i64 b, .int .i64 c]) (.agg #[.int .i64 a', .int .i64 b', .int .i64 c'])).run Try.prog w = .ok (decide ((a, b, c) = ((a', b', c') : Nd))) w := by
  show (Op.equalIn (9999 + 1) _ _ _).run _ _ = _
  have hf : Try.prog.fieldsOf 39 = #[{ name := "Var", type := 3, offset := 0, embedded := false, tag := "", pkgPath := "", byteOffset := 0 }, { name := "Lo", type := 3, offset := 1, embedded := false, tag := "", pkgPath := "", byteOffset := 8 }, { name := "Hi", type := 3, offset := 2, embedded := false, tag := "", pkgPath := "", byteOffset := 16 }] := by kernel_rfl
  rw [run_equalIn_struct w 9999 39 _ _ (by kernel_rfl) (by kernel_rfl), hf]
  have p1 : ∀ (x y z : Int), (part 3 #[.int .i64 x, .int .i64 y, .int .i64 z] 0).run Try.prog w = .ok (.int .i64 x) w := fun x y z => part_one T3 rfl rfl
  have p2 : ∀ (x y z : Int), (part 3 #[.int .i64 x, .int .i64 y, .int .i64 z] 1).run Try.prog w = .ok (.int .i64 y) w := fun x y z => part_one T3 rfl rfl
  have p4 : ∀ (x y z : Int), (part 3 #[.int .i64 x, .int .i64 y, .int .i64 z] 2).run Try.prog w = .ok (.int .i64 z) w := fun x y z => part_one T3 rfl rfl
  have p3 : ∀ (x y : Int), (Op.equalIn 9999 3 (.int .i64 x) (.int .i64 y)).run Try.prog w = .ok (x == y) w := fun x y => run_equalIn_int w 9998 3 .i64 .i64 x y T3.und
  have n1 : ("Var" ≠ "_") = True := by decide
  have n2 : ("Lo" ≠ "_") = True := by decide
  have n3 : ("Hi" ≠ "_") = True := by decide
  simp only [Op.eqFields, n1, n2, n3, if_true, Sem.run_bind, p1, p2, p3, p4, Result.andThen_ok, Sem.run_ite, Sem.run_pure]
  by_cases h1 : a = a'
  · by_cases h2 : b = b'
    · by_cases h3 : c = c'
      · simp [h1, h2, h3]
      · have hb : (c == c') = false := by simpa using h3
        simp [h1, h2, h3, hb]
    · have hb : (b == b') = false := by simpa using h2
      simp [h1, h2, hb]
  · have ha : (a == a') = false := by simpa using h1
    simp [h1, ha]
theorem nd_eql {x y : Operand} {a b c a' b' c' : Int} {w : World} : binR Try.prog .eql 39 x y (.agg #[.int .i64 a, .int .i64 b, .int .i64 c]) (.agg #[.int .i64 a', .int .i64 b', .int .i64 c']) w = .ok (.bool (decide ((a, b, c) = ((a', b', c') : Nd)))) w :=
  binR_eqlA (by kernel_rfl) nd_equal
theorem nd_neq {x y : Operand} {a b c a' b' c' : Int} {w : World} : binR Try.prog .neq 39 x y (.agg #[.int .i64 a, .int .i64 b, .int .i64 c]) (.agg #[.int .i64 a', .int .i64 b', .int .i64 c']) w = .ok (.bool (!decide ((a, b, c) = ((a', b', c') : Nd)))) w :=
  binR_neqA (by kernel_rfl) nd_equal
attribute [push_cast] nd_eql nd_neq eq_self
end Go.Proofs.Ytpeindhocndmnaa

/- Walks of layer 7's reference: what is asked. -/
namespace Go.Proofs.Ytpeindhocndmnaa
open Go Go.Bx
set_option linter.unusedSimpArgs false
set_option linter.unusedVariables false
set_option maxRecDepth 100000
set_option maxHeartbeats 4000000
attribute [local irreducible] X XO XE XF XD XW thenX inX retX kN CallsR
section
variable {own own1 own2 : Nat → Nat} {w w' w1 w2 : World} {p : Nat} {s : Md} {n v x y : Int}
theorem refLevel_oc {ord : List Int} {oc : Array Value} (h : OrdC ord oc) (v : Int) : Sure Try.prog 25 #[.agg oc, .int .i64 v] (.int .i64 (lvl ord v)) := by
  have := refLevel_calls ord h.len v
  rw [h.agg] at this; exact this
theorem wf_N (W : s.WF) : s.N.length ≤ 20000 := by
  have h1 := W.len
  have h2 := W.ar.lim
  have h3 := W.ar.most
  omega
theorem rsHas_calls (h : RsI own w p s) (W : s.WF) (n : Int) (hn : n ≤ 9223372036854775807) : Quiet Try.prog 133 #[.pointer (some ⟨p, 0, none⟩), .int .i64 n] w (.bool (s.has n)) := by
  intro u hu
  obtain ⟨pa, na, nc, sc, oc, h⟩ := h.ext hu
  clear hu
  have hp := h.at_
  have c1 := h.rc.c0
  have hsz := h.rc.size
  have c2 := raHas_calls h.ar W.ar (n - 2)
  have hm : (decide (2 ≤ n) && s.a.has (n - 2)) = s.has n := rfl
  by_cases h2 : 2 ≤ n
  · have hm : s.a.has (n - 2) = s.has n := by rw [← hm]; simp [h2]
    rw [hm] at c2
    clear h hm W
    refine en2 Try.func133 Try.results133 mixed [] ?_
    intro e0 h0 h1
    refine w_ fun d => ?_
    refine qq c2 fun w1 hE1 hs1 => ?_
    refine w_ fun d => ?_
    exact ⟨rfl, ext_⟩
  · have hm : s.has n = false := by rw [← hm]; simp [h2]
    rw [hm]
    clear h hm W c2
    refine en2 Try.func133 Try.results133 mixed [] ?_
    intro e0 h0 h1
    refine w_ fun d => ?_
    exact ⟨rfl, ext_⟩
theorem rsNode_calls (h : RsI own w p s) (W : s.WF) (n : Int) (hn : n ≤ 9223372036854775807) : Quiet Try.prog 88 #[.pointer (some ⟨p, 0, none⟩), .int .i64 n] w (.tuple #[ndV (s.node n).1, .bool (s.node n).2]) := by
  intro u hu
  have h := h.ext hu
  clear hu
  have c1 := rsHas_calls h W n hn
  obtain ⟨pa, na, nc, sc, oc, h⟩ := h
  unfold Md.node
  cases hh : s.has n
  · rw [hh] at c1
    simp only [Bool.false_eq_true, ↓reduceIte]
    clear h W hh
    refine en2 Try.func88 Try.results88 mixed [] ?_
    intro e0 h0 h1
    refine w_ fun d => ?_
    refine qq c1 fun w1 hE1 hs1 => ?_
    refine w_ fun d => ?_
    refine rcuA ?_
    exact ⟨rfl, ext_⟩
  · rw [hh] at c1
    simp only [↓reduceIte]
    have hx := W.get hh
    have hl := W.lt hh
    obtain ⟨x, hxx⟩ : ∃ x, s.nd n = x := ⟨_, rfl⟩
    rw [hxx] at hx ⊢
    obtain ⟨v, lo, hi⟩ := x
    obtain ⟨g, cur, rfl, hg, hc, hlt, x0, x1, x2, hsz3, hex⟩ := h.no.at hx
    have hp := h.at_
    have c2 := h.rc.c1
    have hsz := h.rc.size
    have hpl := lt_of_heap hp
    have hgl := lt_of_heap hg
    have hl1 := hl.2
    have hl0 : 0 ≤ n - 2 := by omega
    clear h W hh hxx hx hl
    refine en2 Try.func88 Try.results88 mixed [] ?_
    intro e0 h0 h1
    refine w_ fun d => ?_
    refine qq c1 fun w1 hE1 hs1 => ?_
    have hs2 := sz_ hE1
    refine w_ fun d => ?_
    refine rcuA ?_
    exact ⟨rfl, ext_⟩
theorem rsAll_calls (h : RsI own w p s) (W : s.WF) : CallsR Try.prog 90 #[.pointer (some ⟨p, 0, none⟩)] w fun r w' => ∃ a' cap', r = .slice a' s.all.length cap' ∧ SlC w' 3 a' cap' (ints s.all) ∧ (∀ g, blk a' = some g → w.heap.size ≤ g) ∧ Ext w w' := by
  have hN := wf_N W
  have hh := fun k : Nat => rsHas_calls h W ((k : Int) + 2)
  obtain ⟨pa, na, nc, sc, oc, h⟩ := h
  have hp := h.at_
  have c2 := h.rc.c1
  have hsz := h.rc.size
  have hpl := lt_of_heap hp
  clear h W
  refine en1 Try.func90 Try.results90 mixed [] ?_
  intro e0 h0
  refine w_ fun d => ?_
  refine lo_ (fun W e w' => ∃ (k : Nat) (a' : Option Addr) (cap' : Nat) (m : List Int), k ≤ s.N.length ∧ e 4 = .int .i64 ((k : Int) + 2) ∧ e 3 = .slice a' m.length cap' ∧ SlC w' 3 a' cap' (ints m) ∧ (∀ g, blk a' = some g → w.heap.size ≤ g) ∧ Box (m = s.allTo k) ∧ Ext w w') (fun e _ => s.N.length + 2 - nat (e 4)) ?_ ?_
  · exact ⟨0, none, 0, [], by omega, eA rfl, eA rfl, SlC.nil _ _, (fun g h => by cases h), ⟨rfl⟩, ext_⟩
  rintro e w1 hf ⟨k, a', cap', m, hk, h4, h3, hS, hn, ⟨hi⟩, hE⟩
  have hs1 := sz_ hE
  have hml : m.length ≤ k := by rw [hi]; exact allTo_len
  have hpE := hE.at hp
  by_cases hlt : k < s.N.length
  · have hsc := allTo_succ (s := s) (k := k)
    have hq := (hh k (by omega)).at hE
    have e1 : (k : Int) + 2 + 1 = ((k + 1 : Nat) : Int) + 2 := by omega
    have e2 : (k : Int) + 2 + 1 - 2 = (k : Int) + 1 := by omega
    cases hb : s.has ((k : Int) + 2)
    · rw [hb] at hq hsc
      have hi' : Box (m = s.allTo (k + 1)) := ⟨by rw [hsc, hi]; rfl⟩
      clear hi hsc hh hb
      refine w_ fun d => ?_
      refine qq hq fun w2 hE2 hs2 => ?_
      have hEw2 := hE.trans hE2
      have hS2 := hS.ext hE2
      refine w_ fun d => ?_
      exact ⟨⟨k + 1, a', cap', m, by omega, by rw [← e1]; exact eA rfl, eA rfl, hS2, hn, hi', hEw2⟩, mA⟩
    · rw [hb] at hq hsc
      have hi' : Box (m ++ [(k : Int) + 2] = s.allTo (k + 1)) := ⟨by rw [hsc, hi]; rfl⟩
      clear hi hsc hh hb
      refine w_ fun d => ?_
      refine qq hq fun w2 hE2 hs2 => ?_
      have hEw2 := hE.trans hE2
      have hS2 := hS.ext hE2
      obtain ⟨a3, c3, w3, hr, hS3, hC3, hs3, hB3⟩ := pushI hS2 (by omega) ((k : Int) + 2)
      have hE3 : Ext w w3 := hC3.toExt hEw2 fun g hg hb => by have := hn g hb; omega
      have hn3 : ∀ g, blk a3 = some g → w.heap.size ≤ g := fun g hg => by
        rcases hB3 g hg with h | ⟨h, _⟩
        · exact hn g h
        · omega
      clear hS hS2 hC3 hB3 hn
      refine w_ fun d => ?_
      exact ⟨⟨k + 1, a3, c3, m ++ [(k : Int) + 2], by omega, by rw [← e1]; exact eA rfl, by rw [List.length_append]; exact eA rfl, hS3, hn3, hi', hE3⟩, mA⟩
  · obtain rfl : k = s.N.length := by omega
    rw [allTo_all] at hi
    subst hi
    clear hh
    refine w_ fun d => ?_
    exact ⟨a', cap', rfl, hS, hn, ext_⟩
theorem rsRoom_calls (h : RsI own w p s) (W : s.WF) : Quiet Try.prog 91 #[.pointer (some ⟨p, 0, none⟩)] w (.int .i64 s.room) := by
  intro u hu
  obtain ⟨pa, na, nc, sc, oc, h⟩ := h.ext hu
  clear hu
  have hp := h.at_
  have c1 := h.rc.c0
  have hsz := h.rc.size
  obtain ⟨K, ta, tc, fa, fc, hA⟩ := h.ar
  have hKl := hA.len W.ar
  have hpa := hA.at_
  have hm := W.ar.many_le
  have hmo := W.ar.most
  have hr : s.a.most - K.length = s.room := by rw [hKl]; rfl
  have hk : (K.length : Int) ≤ 20000 := by omega
  have hr0 : -20000 ≤ s.room ∧ s.room ≤ 20000 := by unfold Md.room; omega
  clear h W hA hKl
  refine en1 Try.func91 Try.results91 mixed [] ?_
  intro e0 h0
  refine w_ fun d => ?_
  exact ⟨rfl, ext_⟩
theorem rsBehind_calls (h : RsI own w p s) (W : s.WF) (n v : Int) (hn : n ≤ 9223372036854775807) : Quiet Try.prog 146 #[.pointer (some ⟨p, 0, none⟩), .int .i64 n, .int .i64 v] w (.bool (s.below n v)) := by
  intro u hu
  have h := h.ext hu
  clear hu
  have c1 := rsNode_calls h W n hn
  obtain ⟨pa, na, nc, sc, oc, h⟩ := h
  have hbd : s.below n v = (decide (n = 0) || (decide (n = 1) || (s.has n && decide (lvl s.ord v < lvl s.ord (s.nd n).1)))) := rfl
  unfold Md.node at c1
  cases hh : s.has n
  · rw [hh] at c1 hbd
    simp only [Bool.false_eq_true, ↓reduceIte, ndV] at c1
    have : s.below n v = ((n == 0) || (n == 1)) := by rw [hbd]; simp; rfl
    rw [this]
    clear h W hh hbd this
    by_cases e0 : n = 0
    · subst e0
      refine en3 Try.func146 Try.results146 mixed [] ?_
      intro e0 h0 h1 h2
      refine w_ fun d => ?_
      refine qq c1 fun w1 hE1 hs1 => ?_
      refine w_ fun d => ?_
      exact ⟨rfl, ext_⟩
    · have b0 : (n == 0) = false := by simpa using e0
      rw [b0]
      clear e0
      refine en3 Try.func146 Try.results146 mixed [] ?_
      intro e0 h0 h1 h2
      refine w_ fun d => ?_
      refine qq c1 fun w1 hE1 hs1 => ?_
      refine w_ fun d => ?_
      exact ⟨rfl, ext_⟩
  · rw [hh] at c1 hbd
    simp only [↓reduceIte, ndV] at c1
    have h2' := Md.has_ge hh
    obtain ⟨z, hz⟩ : ∃ z, s.nd n = z := ⟨_, rfl⟩
    rw [hz] at c1 hbd
    obtain ⟨x, lo, hi⟩ := z
    have : s.below n v = decide (lvl s.ord v < lvl s.ord x) := by
      rw [hbd]
      have e0 : ¬ n = 0 := by omega
      have e1 : ¬ n = 1 := by omega
      simp [e0, e1]
    rw [this]
    have hp := h.at_
    have co := h.rc.co
    have hsz := h.rc.size
    have hpl := lt_of_heap hp
    have l1 := refLevel_oc h.oc x
    have l2 := refLevel_oc h.oc v
    dsimp only at c1
    clear h W hh hbd this hz
    refine en3 Try.func146 Try.results146 mixed [] ?_
    intro e0 h0 h1 h2
    refine w_ fun d => ?_
    refine qq c1 fun w1 hE1 hs1 => ?_
    have hpE := hE1.at hp
    have hpl1 := lt_of_heap hpE
    refine w_ fun d => ?_
    intro w2 hE2 hs2
    refine w_ fun d => ?_
    exact ⟨rfl, ext_⟩
theorem rsOf_calls (h : RsI own w p s) (W : s.WF) (n v : Int) (hn : n ≤ 9223372036854775807) : Quiet Try.prog 108 #[.pointer (some ⟨p, 0, none⟩), .int .i64 n, .int .i64 v] w (.bool (s.of n v)) := by
  intro u hu
  have h := h.ext hu
  clear hu
  have c1 := rsNode_calls h W n hn
  unfold Md.node at c1
  unfold Md.of
  cases hh : s.has n
  · rw [hh] at c1
    simp only [Bool.false_eq_true, ↓reduceIte, ndV, Bool.false_and] at c1 ⊢
    clear h W hh
    refine en3 Try.func108 Try.results108 mixed [] ?_
    intro e0 h0 h1 h2
    refine w_ fun d => ?_
    refine qq c1 fun w1 hE1 hs1 => ?_
    refine w_ fun d => ?_
    exact ⟨rfl, ext_⟩
  · rw [hh] at c1
    simp only [↓reduceIte, ndV, Bool.true_and] at c1 ⊢
    obtain ⟨z, hz⟩ : ∃ z, s.nd n = z := ⟨_, rfl⟩
    rw [hz] at c1 ⊢
    obtain ⟨x, lo, hi⟩ := z
    have e : decide (x = v) = (x == v) := rfl
    dsimp only at c1 ⊢
    rw [e]
    clear h W hh hz e
    refine en3 Try.func108 Try.results108 mixed [] ?_
    intro e0 h0 h1 h2
    refine w_ fun d => ?_
    refine qq c1 fun w1 hE1 hs1 => ?_
    refine w_ fun d => ?_
    exact ⟨rfl, ext_⟩
theorem rsSide_calls (h : RsI own w p s) (W : s.WF) (n y b : Int) (hn : n ≤ 9223372036854775807) : Quiet Try.prog 111 #[.pointer (some ⟨p, 0, none⟩), .int .i64 n, .int .i64 y, .int .i64 b] w (.int .i64 (s.side n y (b != 0))) := by
  intro u hu
  have h := h.ext hu
  clear hu
  have c1 := rsOf_calls h W n y hn
  obtain ⟨pa, na, nc, sc, oc, h⟩ := h
  unfold Md.side
  cases hh : s.of n y
  · rw [hh] at c1
    simp only [Bool.false_eq_true, ↓reduceIte]
    clear h W hh
    refine en4 Try.func111 Try.results111 mixed [] ?_
    intro e0 h0 h1 h2 h3
    refine w_ fun d => ?_
    refine qq c1 fun w1 hE1 hs1 => ?_
    refine w_ fun d => ?_
    exact ⟨rfl, ext_⟩
  · rw [hh] at c1
    have hhas := (Md.of_iff.1 hh).1
    have hx := W.get hhas
    have hl := W.lt hhas
    obtain ⟨z, hz⟩ : ∃ z, s.nd n = z := ⟨_, rfl⟩
    rw [hz] at hx ⊢
    obtain ⟨v, lo, hi⟩ := z
    obtain ⟨g, cur, rfl, hg, hc, hlt, x0, x1, x2, hsz3, hex⟩ := h.no.at hx
    have hp := h.at_
    have c2 := h.rc.c1
    have hsz := h.rc.size
    have hpl := lt_of_heap hp
    have hgl := lt_of_heap hg
    have hl1 := hl.2
    have hl0 : 0 ≤ n - 2 := by omega
    simp only [↓reduceIte]
    clear h W hh hz hx hl hhas
    by_cases e : b = 0
    · subst e
      refine en4 Try.func111 Try.results111 mixed [] ?_
      intro e0 h0 h1 h2 h3
      refine w_ fun d => ?_
      refine qq c1 fun w1 hE1 hs1 => ?_
      refine w_ fun d => ?_
      exact ⟨rfl, ext_⟩
    · have e' : (b == 0) = false := by simpa using e
      have e2 : (b != 0) = true := by simpa using e
      rw [e2]
      simp only [↓reduceIte]
      clear e
      refine en4 Try.func111 Try.results111 mixed [] ?_
      intro e0 h0 h1 h2 h3
      refine w_ fun d => ?_
      refine qq c1 fun w1 hE1 hs1 => ?_
      refine w_ fun d => ?_
      exact ⟨rfl, ext_⟩
end
end Go.Proofs.Ytpeindhocndmnaa

/- Walks of layer 7's reference: a node is made, and freed. -/
namespace Go.Proofs.Ytpeindhocndmnaa
open Go Go.Bx
set_option linter.unusedSimpArgs false
set_option linter.unusedVariables false
set_option maxRecDepth 100000
set_option maxHeartbeats 4000000
attribute [local irreducible] X XO XE XF XD XW thenX inX retX kN CallsR
theorem rin7_calls {w : World} {a : Option Addr} {c : Nat} {l : List Int} (hI : InI w a l) (hl : l.length ≤ 1099511627776) (n : Int) : Quiet Try.prog 119 #[.slice a l.length c, .int .i64 n] w (.bool (decide (n ∈ l))) := by
  intro u hu
  have hI := Inp.ext hI hu
  clear hu
  refine en2 Try.func119 Try.results119 mixed [] ?_
  intro e0 h0 h1
  refine w_ fun d => ?_
  refine lo_ (fun W e w' => ∃ k : Nat, k ≤ l.length ∧ e 5 = .int .i64 k ∧ Box (∀ j, j < k → l[j]? ≠ some n) ∧ Ext W w') (fun e _ => l.length - nat (e 5)) ?_ ?_
  · exact ⟨0, by omega, eA rfl, ⟨fun j hj => by omega⟩, ext_⟩
  rintro e w1 hf ⟨k, hk, h5, ⟨hi⟩, hE⟩
  have hs1 := sz_ hE
  have hI1 := Inp.ext hI hE
  clear hI
  by_cases hlt : k < l.length
  · obtain ⟨x, hx⟩ : ∃ x, l[k]? = some x := ⟨l[k], List.getElem?_eq_getElem (by omega)⟩
    rcases InI.at hI1 with rfl | ⟨b, o, cs, E, fz, rfl, hb, hat⟩
    · simp at hlt
    have hat := hat k x hx
    clear hI1
    by_cases e : x = n
    · subst e
      have hm : decide (x ∈ l) = true := decide_eq_true (List.mem_of_getElem? hx)
      clear hx hi
      refine w_ fun d => ?_
      exact ⟨by rw [hm], ext_⟩
    · have hi' : Box (∀ j, j < k + 1 → l[j]? ≠ some n) := ⟨fun j h => by
        by_cases e2 : j = k
        · subst e2; rw [hx]; simpa using e
        · exact hi j (by omega)⟩
      have e' : (x == n) = false := by simpa using e
      clear hx hi
      refine w_ fun d => ?_
      exact ⟨⟨k + 1, by omega, eA rfl, hi', ext_⟩, mA⟩
  · have hm := mem_not (by omega) hi
    obtain rfl : k = l.length := by omega
    clear hi hI1
    refine w_ fun d => ?_
    exact ⟨by rw [hm], ext_⟩

section
variable {own own1 own2 : Nat → Nat} {w w' w1 w2 : World} {p : Nat} {s : Md} {n v x y lo hi : Int} {but : List Int}
def findP (s : Md) (but : List Int) (x : Nd) (k : Nat) : Bool := decide (s.N[k]? = some x) && (s.a.has (k : Nat) && !decide (((k : Nat) : Int) + 2 ∈ but))
theorem find_first {x : Nd} {k : Nat} (hk : k < s.N.length) (h : findP s but x k = true) (hno : ∀ j, j < k → findP s but x j = false) : s.find but x = some ((k : Int) + 2) := by
  unfold Md.find
  have : (List.range s.N.length).find? (findP s but x) = some k := by
    rw [List.find?_range_eq_some]
    exact ⟨h, by simpa using hk, fun j hj => by rw [hno j hj]; rfl⟩
  unfold findP at this
  rw [this]; rfl
theorem find_no {x : Nd} (hno : ∀ j, j < s.N.length → findP s but x j = false) : s.find but x = none := by
  unfold Md.find
  have : (List.range s.N.length).find? (findP s but x) = none := by
    rw [List.find?_eq_none]
    intro j hj
    rw [hno j (by simpa using hj)]; simp
  unfold findP at this
  rw [this]; rfl
theorem SlN.app1 {a b0 : Option Addr} {cap c : Nat} {N : List Nd} (h : SlN w a cap N) (hm : N.length ≤ 1000000) (x : Nd) (hI : Inp w 3 b0 [rowN x]) :
    ∃ a' cap' w', apR Try.prog 116 (.slice a N.length cap) (.slice b0 1 c) w = .ok (.slice a' (N.length + 1) cap') w' ∧
      SlN w' a' cap' (N ++ [x]) ∧ Chg (fun k => blk a = some k) w w' ∧ (∀ g, blk a' = some g → blk a = some g ∨ (w.heap.size ≤ g ∧ g < w'.heap.size)) := by
  obtain ⟨a2, c2, w2, hr, hS2, hC2, hB2⟩ := Sl.append (news := [rowN x]) (c := c) h T116 (TI.mk' (sz := 3) (by_ := 24) (z := Value.agg #[Value.int IntKind.i64 0, Value.int IntKind.i64 0, Value.int IntKind.i64 0]) Try.underlying39 (by kernel_rfl)) rfl (by decide) hI (fun r hr => by rw [List.mem_singleton] at hr; subst hr; rfl) rfl (by rw [List.length_map]; simp; omega) (by decide)
  rw [List.length_map, show ((N.map rowN) ++ [rowN x]).length = N.length + 1 by simp] at hr
  exact ⟨a2, c2, w2, hr, by unfold SlN; rw [List.map_append]; exact hS2, hC2, hB2⟩
theorem rsMk_calls {aB : Option Addr} {cB : Nat} (h : RsI own w p s) (W : s.WF) (hI : InI w aB but) (hbl : but.length ≤ 1000000) (hlo : lo ≤ 9223372036854775807) (hhi : hi ≤ 9223372036854775807) :
    CallsR Try.prog 110 #[.pointer (some ⟨p, 0, none⟩), .int .i64 v, .int .i64 lo, .int .i64 hi, .slice aB but.length cB] w fun r w' => r = .tuple #[.int .i64 (s.mk' but v lo hi).1.1, .int .i64 (s.mk' but v lo hi).1.2] ∧ TrS own w p (s.mk' but v lo hi).2 w' := by
  have b0 := rsBehind_calls h W lo v hlo
  have b1 := rsBehind_calls h W hi v hhi
  by_cases hv : 0 ≤ v ∧ v < 8
  rotate_left
  · have e : s.mk' but v lo hi = ((0, 1), s) := by unfold Md.mk'; rw [if_pos (by simp; omega)]
    rw [e]
    clear b0 b1 hI W e
    by_cases hv0 : 0 ≤ v
    · have hv1 : ¬ v < 8 := fun h => hv ⟨hv0, h⟩
      clear hv
      refine en5 Try.func110 Try.results110 mixed [(1015, [4, 1010])] ?_
      intro e0 h0 h1 h2 h3 h4
      refine w_ fun d => ?_
      exact ⟨rfl, TrS.of_ext h ext_⟩
    · clear hv
      refine en5 Try.func110 Try.results110 mixed [(1015, [4, 1010])] ?_
      intro e0 h0 h1 h2 h3 h4
      refine w_ fun d => ?_
      exact ⟨rfl, TrS.of_ext h ext_⟩
  obtain ⟨hv0, hv1⟩ := hv
  cases e0 : s.below lo v
  · have e : s.mk' but v lo hi = ((0, 1), s) := by unfold Md.mk'; rw [if_pos (by simp [e0])]
    rw [e]
    rw [e0] at b0
    clear hI W e e0 b1
    refine en5 Try.func110 Try.results110 mixed [(1015, [4, 1010])] ?_
    intro e0 h0 h1 h2 h3 h4
    refine w_ fun d => ?_
    refine qq b0 fun w1 hE1 hs1 => ?_
    refine w_ fun d => ?_
    exact ⟨rfl, TrS.of_ext h ext_⟩
  cases e1 : s.below hi v
  · have e : s.mk' but v lo hi = ((0, 1), s) := by unfold Md.mk'; rw [if_pos (by simp [e1])]
    rw [e]
    rw [e0] at b0
    rw [e1] at b1
    clear hI W e e0 e1
    refine en5 Try.func110 Try.results110 mixed [(1015, [4, 1010])] ?_
    intro e0 h0 h1 h2 h3 h4
    refine w_ fun d => ?_
    refine qq b0 fun w1 hE1 hs1 => ?_
    refine w_ fun d => ?_
    refine qq b1 fun w2 hE2 hs2 => ?_
    refine w_ fun d => ?_
    exact ⟨rfl, TrS.of_ext h ext_⟩
  rw [e0] at b0
  rw [e1] at b1
  by_cases elh : lo = hi
  · have e : s.mk' but v lo hi = ((lo, 0), s) := by unfold Md.mk'; rw [if_neg (by simp [e0, e1]; omega), if_pos elh]
    rw [e]
    subst elh
    clear hI W e e0 e1
    refine en5 Try.func110 Try.results110 mixed [(1015, [4, 1010])] ?_
    intro e0 h0 h1 h2 h3 h4
    refine w_ fun d => ?_
    refine qq b0 fun w1 hE1 hs1 => ?_
    refine w_ fun d => ?_
    refine qq b1 fun w2 hE2 hs2 => ?_
    refine w_ fun d => ?_
    exact ⟨rfl, TrS.of_ext h ext_⟩
  have elh' : (lo == hi) = false := by simpa using elh
  have hmk : s.mk' but v lo hi = match s.find but (v, lo, hi) with
      | some n => ((n, 0), s)
      | none => match s.a.take with
        | none => ((0, 2), s)
        | some (k, b) => ((k + 2, 0), s.add k b (v, lo, hi)) := by
    unfold Md.mk'; rw [if_neg (by simp [e0, e1]; omega), if_neg elh]; rfl
  have hN := wf_N W
  have hh := fun u (hu : Ext w u) (k : Nat) (hk : k < 30000) => rsHas_calls (h.ext hu) W ((k : Int) + 2) (by omega)
  have hin := fun u (hu : Ext w u) (k : Nat) => rin7_calls (c := cB) (Inp.ext hI hu) (by omega) ((k : Int) + 2)
  clear e0 e1 elh
  refine en5 Try.func110 Try.results110 mixed [(1015, [4, 1010])] ?_
  intro e0 h0 h1 h2 h3 h4
  refine w_ fun d => ?_
  refine qq b0 fun w1 hE1 hs1 => ?_
  refine w_ fun d => ?_
  refine qq b1 fun w2 hE2 hs2 => ?_
  have hE2w := hE1.trans hE2
  refine w_ fun d => ?_
  refine at_w fun W0 hW0 => ?_
  have hEW : Ext w W0 := by rw [hW0]; exact ext_
  have hbx : W0.heap[w2.heap.size]? = some (.cells #[.int .i64 v, .int .i64 lo, .int .i64 hi] 39) := by rw [hW0]; exact hA rfl
  have hbo : own w2.heap.size = 0 := by
    cases ho : own w2.heap.size with
    | zero => rfl
    | succ m => have := h.lt w2.heap.size (by omega); have := hE2w.size; omega
  have hw2 := hE2w.size
  clear hW0 hE2 hE1 hs1 hs2
  clear w1
  refine lo_ (fun _ e w' => ∃ k : Nat, k ≤ s.N.length ∧ e 13 = .int .i64 ((k : Int) + 2) ∧ Box (∀ j, j < k → findP s but (v, lo, hi) j = false) ∧ Ext W0 w') (fun e _ => s.N.length + 2 - nat (e 13)) ?_ ?_
  · exact ⟨0, by omega, eA rfl, ⟨fun j hj => by omega⟩, ext_⟩
  rintro e u hf ⟨k, hk, h13, ⟨hno⟩, hEu⟩
  have hEwu := hEW.trans hEu
  have hbu := hEu.at hbx
  have hblu := lt_of_heap hbu
  obtain ⟨pa, na, nc, sc, oc, hX⟩ := h.ext hEwu
  have hp := hX.at_
  have cn := hX.rc.c1
  have ca := hX.rc.c0
  have hsz := hX.rc.size
  have hpl := lt_of_heap hp
  by_cases hlt : k < s.N.length
  · obtain ⟨z, hz⟩ : ∃ z, s.N[k]? = some z := ⟨s.N[k], List.getElem?_eq_getElem hlt⟩
    obtain ⟨a, b, c⟩ := z
    have q1 := (hh _ hEwu k (by omega))
    have q2 := (hin _ hEwu k)
    have hfp : findP s but (v, lo, hi) k = (decide ((a, b, c) = ((v, lo, hi) : Nd)) && (s.has ((k : Int) + 2) && !decide (((k : Nat) : Int) + 2 ∈ but))) := by
      unfold findP; rw [hz, Md.has_add]; simp
    have hno1 : findP s but (v, lo, hi) k = false → Box (∀ j, j < k + 1 → findP s but (v, lo, hi) j = false) := fun hb => ⟨fun j hj => by
      by_cases e2 : j = k
      · subst e2; exact hb
      · exact hno j (by omega)⟩
    obtain ⟨g, cur, rfl, hg, hc, _, x0, x1, x2, hsz3, hex⟩ := hX.no.at hz
    have hgl := lt_of_heap hg
    have e1 : (k : Int) + 2 + 1 = ((k + 1 : Nat) : Int) + 2 := by omega
    have e2 : (k : Int) + 2 - 2 = k := by omega
    by_cases eN : (a, b, c) = ((v, lo, hi) : Nd)
    · cases hhk : s.has ((k : Int) + 2)
      · rw [hhk] at q1
        have hno2 := hno1 (by rw [hfp, hhk]; simp)
        cases eN
        clear hno hno1 hfp hX hh hin hI W hz hmk
        refine w_ fun d => ?_
        intro u2 hE2' hs2'
        refine w_ fun d => ?_
        exact ⟨⟨k + 1, by omega, by rw [← e1]; exact eA rfl, hno2, ext_⟩, mA⟩
      · rw [hhk] at q1
        cases hib : decide (((k : Nat) : Int) + 2 ∈ but)
        · rw [hib] at q2
          have hfd := find_first hlt (by rw [hfp, hhk, hib, eN]; simp) hno
          rw [hfd] at hmk
          rw [hmk]
          cases eN
          clear hno hno1 hfp hX hh hin hI W hz hmk hib
          refine w_ fun d => ?_
          intro u2 hE2' hs2'
          refine w_ fun d => ?_
          exact ⟨rfl, TrS.of_ext h ext_⟩
        · rw [hib] at q2
          have hno2 := hno1 (by rw [hfp, hhk, hib]; simp)
          cases eN
          clear hno hno1 hfp hX hh hin hI W hz hmk hib
          refine w_ fun d => ?_
          intro u2 hE2' hs2'
          refine w_ fun d => ?_
          exact ⟨⟨k + 1, by omega, by rw [← e1]; exact eA rfl, hno2, ext_⟩, mA⟩
    · have hno2 := hno1 (by rw [hfp]; simp [eN])
      clear hno hno1 hfp hX hh hin hI W hz hmk
      refine w_ fun d => ?_
      exact ⟨⟨k + 1, by omega, by rw [← e1]; exact eA rfl, hno2, ext_⟩, mA⟩
  obtain rfl : k = s.N.length := by omega
  rw [find_no hno] at hmk
  have tk := raTake_calls hX.ar W.ar
  have htk := fun k b => W.ar.taken (n := k) (b := b)
  have hlen := W.len
  clear hh hin hI b0 b1 hno
  refine w_ fun d => ?_
  refine tk.mono ?_
  rintro _ u2 ⟨b, hres, hA, hC⟩
  have hX2 := hX.setAr hA hC
  have hSw2 : Sw own w (ownUp own u u2 2) u2 := (Sw.of_ext hEwu).trans ⟨fun k hk => ownUp_old hk, Chg.foot hC (by decide)⟩
  have hbx2 : u2.heap[w2.heap.size]? = some (.cells #[.int .i64 v, .int .i64 lo, .int .i64 hi] 39) := by
    rw [hC.heap _ (by omega) (by unfold owns; omega)]; exact hbu
  have hbo2 : ownUp own u u2 2 w2.heap.size = 0 := by rw [ownUp_old (by omega)]; exact hbo
  have hbl2 := lt_of_heap hbx2
  have hp2 := hX2.at_
  have hpl2 := lt_of_heap hp2
  generalize ownUp own u u2 2 = own2 at hX2 hSw2 hbo2
  rcases hres with ⟨k, hk1, rfl⟩ | ⟨hk1, rfl, rfl⟩
  rotate_left
  · rw [hk1] at hmk
    replace hmk : s.mk' but v lo hi = ((0, 2), s) := hmk
    rw [hmk]
    clear hX hA hC tk htk hmk
    refine w_ fun d => ?_
    exact ⟨rfl, own2, ⟨_, _, _, _, _, hX2⟩, hSw2⟩
  rw [hk1] at hmk
  replace hmk : s.mk' but v lo hi = ((k + 2, 0), s.add k b (v, lo, hi)) := hmk
  rw [hmk]
  obtain ⟨hb1, _, _, _, hk0, hkl, _, hbl'⟩ := htk k b hk1
  have hkN : k ≤ (s.N.length : Int) := by omega
  have hk0' : 0 ≤ k := hk0
  have hadd : s.add k b (v, lo, hi) = ⟨b, if k = s.N.length then s.N ++ [(v, lo, hi)] else s.N.set k.toNat (v, lo, hi), s.ord⟩ := rfl
  clear hX hA hC tk htk hmk hp hpl hbu hblu hb1 hbl' hlen hkl
  by_cases hkn : k = s.N.length
  · rw [hadd, if_pos hkn]
    subst hkn
    refine w_ fun d => ?_
    have cn2 := hX2.rc.c1
    have hsz2' := hX2.rc.size
    refine s_wide (XW_ext (D := fun u => u.heap[p]? = some (.cells sc 124)) (fun u hu => hu.at hp2) ?_)
    refine dw_ ?_
    refine xf3 (v := .slice na s.N.length nc) (fun u hu => by have hu' : u.heap[p]? = some (.cells sc 124) := hu; clear hu; exact rgA) ?_
    refine dw_ ?_
    refine xf2 fun u3 hE3 => ?_
    have hp3 := hE3.at hp2
    have hpl3 := lt_of_heap hp3
    have hs3 := sz_ hE3
    refine krA ?_
    refine kv ?_
    refine ⟨fun u hu => hu.at (hA rfl), ?_⟩
    refine xf2 fun u4 hE4 => ?_
    have hE24 : Ext u2 u4 := Ext.trans (by exact ext_) hE4
    have hX4 := hX2.ext hE24
    have hb4 : u4.heap[u3.heap.size]? = some (.cells #[.int .i64 v, .int .i64 lo, .int .i64 hi] 39) := hE4.at (hA rfl)
    have hI4 : Inp u4 3 (some ⟨u3.heap.size, 0, none⟩) [rowN (v, lo, hi)] := .inr ⟨u3.heap.size, 0, _, _, _, rfl, hb4, fun i x hx j y hj => by
      match i, hx with
      | 0, hx => cases hx; simpa [rowN] using hj⟩
    obtain ⟨a5, c5, u5, hr5, hS5, hC5, hB5⟩ := SlN.app1 (c := 1) hX4.no (by show s.N.length ≤ 1000000; omega) (v, lo, hi) hI4
    dsimp only at hr5
    obtain ⟨hp5, hX6, hC6⟩ := hX4.pushN hS5 hC5 hB5
    refine krA ?_
    refine kv ?_
    refine ⟨fun u hu => hu.at hp5, ?_⟩
    refine dw_ ?_
    refine xf4 fun u6 hE6 => ?_
    have hE56 : Ext u5 u6 := hE6
    have hp6 := hE56.at hp5
    have hpl6 := lt_of_heap hp6
    have hpl5 := lt_of_heap hp5
    dsimp only at hX6 hC6
    have hsz2 := hX2.rc.size
    have hX7 : RsX (ownUp own2 u4 u5 3) (upd u6 p (.cells (sc.setIfInBounds 1 (.slice a5 (s.N.length + 1) c5)) 124)) p _ _ _ _ _ _ := hX6.keep (fun k hk => by
      have hkl := hX6.lt k hk
      rw [upd_size] at hkl
      by_cases e : p = k
      · subst e; rw [upd_same hpl6, upd_same hpl5]
      · rw [upd_other e, upd_other e, hE56.heap k hkl]) (by simp only [upd_size]; exact hE56.size)
    have hb6 : (upd u6 p (.cells (sc.setIfInBounds 1 (.slice a5 (s.N.length + 1) c5)) 124)).heap[w2.heap.size]? = some (.cells #[.int .i64 v, .int .i64 lo, .int .i64 hi] 39) := by
      have hob : own2 p = 1 := hX2.op
      have hne : p ≠ w2.heap.size := fun e => by rw [e, hbo2] at hob; cases hob
      have h4 := hE24.at hbx2
      have hl4 := lt_of_heap h4
      rw [upd_other hne, hE56.heap _ (by have := hC5.size; omega), hC5.heap _ hl4 (fun hb => by have := hX4.on _ hb; omega)]; exact h4
    have hSw7 : Sw own w (ownUp own2 u4 u5 3) (upd u6 p (.cells (sc.setIfInBounds 1 (.slice a5 (s.N.length + 1) c5)) 124)) := by
      have h1 : Sw own2 u4 (ownUp own2 u4 u5 3) u5 := ⟨fun k hk => ownUp_old hk, Chg.foot (hC5.mono fun k _ hk => hX4.on k hk) (by decide)⟩
      have h2 := ((hSw2.ext hE24).trans h1).ext hE56
      refine ⟨h2.ho, h2.ch.upd (fun hl => ?_) _⟩
      have h3 := h2.ho p hl
      have h4 := hX6.op
      unfold foot; omega
    refine krA ?_
    refine ks ?_
    refine xf_nil fun u8 hE8 => ?_
    have hX8 := hX7.ext hE8
    have hb8 := hE8.at hb6
    have hSw8 := hSw7.ext hE8
    clear hX7 hb6 hSw7 hE8 hE6 hE56 hp6 hpl6 hC6 hX6 hp5 hpl5 hr5 hS5 hC5 hB5 hI4 hb4 hX4 hE24 hE4 hE3 hs3 hp3 hpl3 hp2 hpl2 hbx2 hbl2 hX2 hSw2 hbo2
    obtain ⟨g, cur, rfl, hg, hc, _, _, _, _, hsz3, _⟩ := hX8.no.at (k := s.N.length) (v := v) (lo := lo) (hi := hi) (by simp)
    obtain ⟨hX9, hC9⟩ := hX8.setNode hg (k := s.N.length) (by simp) (v, lo, hi)
    have hset : (s.N ++ [(v, lo, hi)]).set s.N.length (v, lo, hi) = s.N ++ [(v, lo, hi)] := by
      rw [List.set_append_right _ _ (Nat.le_refl _), Nat.sub_self]; rfl
    dsimp only at hX9 hc
    rw [hset] at hX9
    have hSw9 := hSw8.trans ⟨fun _ _ => rfl, Chg.foot hC9 (by decide)⟩
    have hp8 := hX8.at_
    have cn8 := hX8.rc.c1
    have hsz8 := hX8.rc.size
    have hpl8 := lt_of_heap hp8
    have hgl8 := lt_of_heap hg
    have hbl8 := lt_of_heap hb8
    have hlN : (s.N ++ [(v, lo, hi)]).length = s.N.length + 1 := by simp
    dsimp only at cn8
    rw [hlN] at cn8 hc
    have hk3 : (s.N.length : Int) < ((s.N.length + 1 : Nat) : Int) := by omega
    have hk4 : (s.N.length : Int) < (s.N.length : Int) + 1 := by omega
    clear hX8 hC9 hset hadd
    refine w_ fun d => ?_
    exact ⟨rfl, _, ⟨_, _, _, _, _, hX9.ext ext_⟩, hSw9.ext ext_⟩
  · rw [hadd, if_neg hkn]
    have hkb : (k == (s.N.length : Int)) = false := by simpa using hkn
    have hkt : k.toNat < s.N.length := by omega
    obtain ⟨z, hz⟩ : ∃ z, s.N[k.toNat]? = some z := ⟨s.N[k.toNat], List.getElem?_eq_getElem hkt⟩
    obtain ⟨g, cur, rfl, hg, hc, _, _, _, _, hsz3, _⟩ := hX2.no.at (v := z.1) (lo := z.2.1) (hi := z.2.2) hz
    have hgl := lt_of_heap hg
    obtain ⟨hX3, hC3⟩ := hX2.setNode hg hkt (v, lo, hi)
    have hSw3 := hSw2.trans ⟨fun _ _ => rfl, Chg.foot hC3 (by decide)⟩
    have hkl3 : k < s.N.length := by omega
    dsimp only at hc
    clear hX2 hC3 hSw2 hz hadd hkn
    refine w_ fun d => ?_
    exact ⟨rfl, own2, ⟨_, _, _, _, _, hX3.ext ext_⟩, hSw3.ext ext_⟩
end
end Go.Proofs.Ytpeindhocndmnaa

/- Walks of layer 7's reference: a node is made, and freed. -/
namespace Go.Proofs.Ytpeindhocndmnaa
open Go Go.Bx
set_option linter.unusedSimpArgs false
set_option linter.unusedVariables false
set_option maxRecDepth 100000
set_option maxHeartbeats 4000000
attribute [local irreducible] X XO XE XF XD XW thenX inX retX kN CallsR
section
variable {own own1 own2 : Nat → Nat} {w w' w1 w2 : World} {p : Nat} {s : Md} {n v x y lo hi : Int} {but : List Int}
theorem rsMkP_calls (h : RsI own w p s) (W : s.WF) (hlo : lo ≤ 9223372036854775807) (hhi : hi ≤ 9223372036854775807) :
    CallsR Try.prog 89 #[.pointer (some ⟨p, 0, none⟩), .int .i64 v, .int .i64 lo, .int .i64 hi] w fun r w' => r = .tuple #[.int .i64 (s.mk' [] v lo hi).1.1, .int .i64 (s.mk' [] v lo hi).1.2] ∧ TrS own w p (s.mk' [] v lo hi).2 w' := by
  have c1 := fun u (hu : Ext w u) => rsMk_calls (v := v) (but := []) (aB := none) (cB := 0) (h.ext hu) W (.inl rfl) (by simp) hlo hhi
  rw [List.length_nil] at c1
  refine en4 Try.func89 Try.results89 mixed [] ?_
  intro e0 h0 h1 h2 h3
  refine w_ fun d => ?_
  refine (c1 _ ext_).mono ?_
  rintro _ w1 ⟨rfl, own1, h1', hSw⟩
  refine w_ fun d => ?_
  exact ⟨rfl, own1, h1', ⟨hSw.ho, hSw.ch⟩⟩
def pB (s : Md) (n : Int) (k : Nat) : Bool := (decide ((s.nd ((k : Int) + 2)).2.1 = n) || decide ((s.nd ((k : Int) + 2)).2.2 = n)) && s.has ((k : Int) + 2)
theorem pointed_yes {k : Nat} (hk : k < s.N.length) (h : pB s n k = true) (W : s.WF) : s.pointed n = true := by
  unfold pB at h
  rw [Bool.and_eq_true] at h
  unfold Md.pointed
  exact List.any_eq_true.2 ⟨(k : Int) + 2, W.mem_all.2 h.2, h.1⟩
theorem pointed_not (W : s.WF) (h : ∀ k, k < s.N.length → pB s n k = false) : s.pointed n = false := by
  unfold Md.pointed
  rw [List.any_eq_false]
  intro m hm
  have hh := W.mem_all.1 hm
  have hl := W.lt hh
  have := h (m - 2).toNat (by omega)
  unfold pB at this
  rw [show (((m - 2).toNat : Nat) : Int) + 2 = m by omega, hh, Bool.and_true] at this
  rw [this]; simp
theorem rsFree_calls (h : RsI own w p s) (W : s.WF) (hn : n ≤ 9223372036854775807) :
    CallsR Try.prog 87 #[.pointer (some ⟨p, 0, none⟩), .int .i64 n] w fun r w' => r = .int .i64 (s.free n).1 ∧ TrS own w p (s.free n).2 w' := by
  have c1 := rsHas_calls h W n hn
  have hN := wf_N W
  unfold Md.free
  cases hh : s.has n
  · rw [hh] at c1
    rw [if_pos (.inl rfl)]
    clear W hh
    refine en2 Try.func87 Try.results87 mixed [] ?_
    intro e0 h0 h1
    refine w_ fun d => ?_
    refine qq c1 fun w1 hE1 hs1 => ?_
    refine w_ fun d => ?_
    exact ⟨rfl, TrS.of_ext h ext_⟩
  rw [hh] at c1
  have hl := W.lt hh
  have hq := fun u (hu : Ext w u) (k : Nat) (hk : k < 30000) => rsHas_calls (h.ext hu) W ((k : Int) + 2) (by omega)
  refine en2 Try.func87 Try.results87 mixed [] ?_
  intro e0 h0 h1
  refine w_ fun d => ?_
  refine qq c1 fun w1 hE1 hs1 => ?_
  refine w_ fun d => ?_
  refine lo_ (fun _ e w' => ∃ k : Nat, k ≤ s.N.length ∧ e 5 = .int .i64 ((k : Int) + 2) ∧ Box (∀ j, j < k → pB s n j = false) ∧ Ext w w') (fun e _ => s.N.length + 2 - nat (e 5)) ?_ ?_
  · exact ⟨0, by omega, eA rfl, ⟨fun j hj => by omega⟩, ext_⟩
  rintro e u hf ⟨k, hk, h5, ⟨hno⟩, hE⟩
  obtain ⟨pa, na, nc, sc, oc, hX⟩ := h.ext hE
  have hp := hX.at_
  have cn := hX.rc.c1
  have ca := hX.rc.c0
  have hsz := hX.rc.size
  have hpl := lt_of_heap hp
  by_cases hlt : k < s.N.length
  · obtain ⟨z, hz⟩ : ∃ z, s.N[k]? = some z := ⟨s.N[k], List.getElem?_eq_getElem hlt⟩
    have hnd : s.nd ((k : Int) + 2) = z := by unfold Md.nd; rw [show ((k : Int) + 2 - 2).toNat = k by omega, List.getD, hz]; rfl
    obtain ⟨a, b, c⟩ := z
    have q1 := hq _ hE k (by omega)
    have hpb : pB s n k = ((b == n || c == n) && s.has ((k : Int) + 2)) := by unfold pB; rw [hnd]; rfl
    have hno1 : pB s n k = false → Box (∀ j, j < k + 1 → pB s n j = false) := fun hb => ⟨fun j hj => by
      by_cases e2 : j = k
      · subst e2; exact hb
      · exact hno j (by omega)⟩
    obtain ⟨g, cur, rfl, hg, hc, _, x0, x1, x2, hsz3, hex⟩ := hX.no.at hz
    have hgl := lt_of_heap hg
    have e1 : (k : Int) + 2 + 1 = ((k + 1 : Nat) : Int) + 2 := by omega
    have e2 : (k : Int) + 2 - 2 = k := by omega
    have hn0 := fun hyes => pointed_yes (s := s) (n := n) hlt hyes W
    cases eb : (b == n)
    · cases ec : (c == n)
      · have hno2 := hno1 (by rw [hpb, eb, ec]; rfl)
        clear hno hno1 hpb hX hq W hz hnd hn0 hl
        refine w_ fun d => ?_
        exact ⟨⟨k + 1, by omega, by rw [← e1]; exact eA rfl, hno2, ext_⟩, mA⟩
      · cases hhk : s.has ((k : Int) + 2)
        · rw [hhk] at q1
          have hno2 := hno1 (by rw [hpb, hhk]; simp)
          clear hno hno1 hpb hX hq W hz hnd hn0 hl hhk
          refine w_ fun d => ?_
          refine qq q1 fun u2 hE2 hs2 => ?_
          refine w_ fun d => ?_
          exact ⟨⟨k + 1, by omega, by rw [← e1]; exact eA rfl, hno2, ext_⟩, mA⟩
        · rw [hhk] at q1
          have hpt := hn0 (by rw [hpb, eb, ec, hhk]; rfl)
          rw [if_pos (.inr hpt)]
          clear hno hno1 hpb hX hq W hz hnd hn0 hl hhk hpt
          refine w_ fun d => ?_
          refine qq q1 fun u2 hE2 hs2 => ?_
          refine w_ fun d => ?_
          exact ⟨rfl, TrS.of_ext h ext_⟩
    · cases hhk : s.has ((k : Int) + 2)
      · rw [hhk] at q1
        have hno2 := hno1 (by rw [hpb, hhk]; simp)
        clear hno hno1 hpb hX hq W hz hnd hn0 hl hhk
        refine w_ fun d => ?_
        refine qq q1 fun u2 hE2 hs2 => ?_
        refine w_ fun d => ?_
        exact ⟨⟨k + 1, by omega, by rw [← e1]; exact eA rfl, hno2, ext_⟩, mA⟩
      · rw [hhk] at q1
        have hpt := hn0 (by rw [hpb, eb, hhk]; rfl)
        rw [if_pos (.inr hpt)]
        clear hno hno1 hpb hX hq W hz hnd hn0 hl hhk hpt
        refine w_ fun d => ?_
        refine qq q1 fun u2 hE2 hs2 => ?_
        refine w_ fun d => ?_
        exact ⟨rfl, TrS.of_ext h ext_⟩
  obtain rfl : k = s.N.length := by omega
  have hpt := pointed_not W hno
  rw [if_neg (by rw [hpt]; simp)]
  have gv := raGive_calls hX.ar W.ar (n - 2)
  rw [Md.has_ar hh] at gv
  simp only [↓reduceIte] at gv
  have hl0 : 0 ≤ n - 2 := by omega
  have hn6 : n ≤ 1000000 := by omega
  clear hno hq hpt hh
  refine w_ fun d => ?_
  refine gv.mono ?_
  rintro _ u2 ⟨⟨rfl, hA⟩, hC⟩
  have hX2 := hX.setAr hA hC
  have hSw2 : Sw own w (ownUp own u u2 2) u2 := (Sw.of_ext hE).trans ⟨fun k hk => ownUp_old hk, Chg.foot hC (by decide)⟩
  clear gv hX hA hC
  refine w_ fun d => ?_
  exact ⟨rfl, _, ⟨_, _, _, _, _, hX2⟩, hSw2⟩
theorem inp_drop {w : World} {a : Option Addr} {l : List Int} {i cap : Nat} (h : InI w a l) (hc : l.length ≤ cap) : InI w (cutAddr a 1 i cap) (l.drop i) := by
  by_cases hi : l.length ≤ i
  · rw [List.drop_of_length_le hi]; exact .inl rfl
  · rcases h with h | ⟨b, o, c, E, fz, rfl, h2, h3⟩
    · rw [List.map_eq_nil_iff.1 (List.map_eq_nil_iff.1 h)]; exact .inl (by simp)
    · refine .inr ⟨b, o + i, c, E, fz, ?_, h2, fun j x hx k u hk => ?_⟩
      · unfold cutAddr
        rw [if_neg (by omega), Option.map_some, add_none, Nat.mul_one]
      · have hx' : (one1 (ints l))[i + j]? = some x := by
          rw [List.getElem?_map, List.getElem?_map] at hx ⊢
          rw [List.getElem?_drop] at hx; exact hx
        have := h3 (i + j) x hx' k u hk
        rw [← this]; congr 1; omega
end
end Go.Proofs.Ytpeindhocndmnaa

/- Walks of layer 7's reference: two levels change places. -/
namespace Go.Proofs.Ytpeindhocndmnaa
open Go Go.Bx
set_option linter.unusedSimpArgs false
set_option linter.unusedVariables false
set_option maxRecDepth 100000
set_option maxHeartbeats 4000000
attribute [local irreducible] X XO XE XF XD XW thenX inX retX kN CallsR
section
variable {own own1 own2 : Nat → Nat} {w w' w1 w2 : World} {p : Nat} {s s0 s1 : Md} {n v x y lo hi : Int} {but : List Int}
theorem rsSwap_calls (h : RsI own w p s) (G : s.Good []) (l : Int) :
    CallsR Try.prog 57 #[.pointer (some ⟨p, 0, none⟩), .int .i64 l] w fun r w' => r = .int .i64 (s.swap l).1 ∧ TrS own w p (s.swap l).2 w' := by
  have W := G.wf
  by_cases hl : 0 ≤ l ∧ l < 7
  rotate_left
  · have e : s.swap l = (1, s) := by unfold Md.swap; rw [if_pos (by omega)]
    rw [e]
    clear G W e
    by_cases h0' : 0 ≤ l
    · have h1' : ¬ l ≤ 6 := fun h => hl ⟨h0', by omega⟩
      clear hl
      refine en2 Try.func57 Try.results57 mixed [(1020, [3, 7, 10]), (21, [15]), (22, [15])] ?_
      intro e0 h0 h1
      refine w_ fun d => ?_
      exact ⟨rfl, TrS.of_ext h ext_⟩
    · clear hl
      refine en2 Try.func57 Try.results57 mixed [(1020, [3, 7, 10]), (21, [15]), (22, [15])] ?_
      intro e0 h0 h1
      refine w_ fun d => ?_
      exact ⟨rfl, TrS.of_ext h ext_⟩
  obtain ⟨k, rfl⟩ := Int.eq_ofNat_of_zero_le hl.1
  have hk : k < 7 := by omega
  have hol := W.ord.len
  obtain ⟨x, hx⟩ : ∃ x, s.ord[k]? = some x := ⟨s.ord[k], List.getElem?_eq_getElem (by omega)⟩
  obtain ⟨y, hy⟩ : ∃ y, s.ord[k + 1]? = some y := ⟨s.ord[k + 1], List.getElem?_eq_getElem (by omega)⟩
  have gx : s.ord.getD k 0 = x := by rw [List.getD, hx]; rfl
  have gy : s.ord.getD (k + 1) 0 = y := by rw [List.getD, hy]; rfl
  have L : LvXY s k x y := ⟨hk, hx, hy⟩
  have hN := wf_N W
  have hal : s.all.length ≤ s.N.length := allTo_len (s := s) (k := s.N.length)
  have hchl : (s.change x y).length ≤ 20000 := by
    have h1 := List.length_filter_le (fun n => decide ((s.nd n).1 = x) && (s.of (s.nd n).2.1 y || s.of (s.nd n).2.2 y)) s.all
    unfold Md.change; omega
  have hm0 := W.ar.many_le
  have hmo := W.ar.most
  have hroom : s.room = s.a.most - s.a.many := rfl
  have al := fun u (hu : Ext w u) => rsAll_calls (h.ext hu) W
  have rm := fun u (hu : Ext w u) => rsRoom_calls (h.ext hu) W
  have hR := h
  obtain ⟨pa, na, nc, sc, oc, hX⟩ := id hR
  have hp := hX.at_
  have hsz := hX.rc.size
  have ox := hX.rc.at_ord hX.oc hx
  have oy := hX.rc.at_ord hX.oc hy
  have hpl := lt_of_heap hp
  have hk1 : ((k : Int) + 1).toNat = k + 1 := by omega
  have hk6 : (k : Int) ≤ 6 := by omega
  have e : s.swap k = if s.room < 2 * ((s.change x y).length : Int) then (2, s) else (0, Md.swapGo x y (s.ordS k) (s.change x y)) := by
    unfold Md.swap
    rw [if_neg (by omega), show ((k : Nat) : Int).toNat = k by omega, gx, gy]
  rw [e]
  clear e gx gy hx hy hX
  refine en2 Try.func57 Try.results57 mixed [(1020, [3, 7, 10]), (21, [15]), (22, [15])] ?_
  intro e0 h0 h1
  refine w_ fun d => ?_
  refine (al _ ext_).mono ?_
  rintro _ w2 ⟨aA, cA, rfl, hSA, hnA, hEA⟩
  have hE : Ext w w2 := Ext.trans (by exact ext_) hEA
  have hszw := hE.size
  have hI := h.ext hE
  clear hEA hnA al hp ox oy
  refine w_ fun d => ?_
  refine lo_ (fun _ e w' => ∃ (i : Nat) (a' : Option Addr) (cap' : Nat) (m : List Int), i ≤ s.all.length ∧ e 9 = .int .i64 i ∧ e 7 = .slice a' m.length cap' ∧ SlC w' 3 a' cap' (ints m) ∧ (∀ g, blk a' = some g → w2.heap.size ≤ g) ∧ Box (m = (s.all.take i).filter (chgB s x y)) ∧ Ext w2 w') (fun e _ => s.all.length - nat (e 9)) ?_ ?_
  · exact ⟨0, none, 0, [], by omega, eA rfl, eA rfl, SlC.nil _ _, (fun g h => by cases h), ⟨rfl⟩, ext_⟩
  rintro e w1 hf ⟨i, a', cap', m, hi, h9, h7, hS, hn, ⟨hm⟩, hE2⟩
  have hs1 := sz_ hE2
  have hml : m.length ≤ i := by rw [hm]; exact Nat.le_trans (List.length_filter_le _ _) (by rw [List.length_take]; omega)
  by_cases hlt : i < s.all.length
  · obtain ⟨n, hn0⟩ : ∃ n, s.all[i]? = some n := ⟨s.all[i], List.getElem?_eq_getElem hlt⟩
    have hsc := take_filter (f := chgB s x y) hn0
    have hhas := W.mem_all.1 (List.mem_of_getElem? hn0)
    have hx := W.get hhas
    have hl := W.lt hhas
    have ok := G.node n hhas (by simp)
    obtain ⟨z, hz⟩ : ∃ z, s.nd n = z := ⟨_, rfl⟩
    have hcb : chgB s x y n = (decide (z.1 = x) && (s.of z.2.1 y || s.of z.2.2 y)) := by unfold chgB; rw [hz]
    have okl := (Md.below_lt W ok.lo).1
    have okh := (Md.below_lt W ok.hi).1
    rw [hz] at hx okl okh
    obtain ⟨v, lo, hi'⟩ := z
    dsimp only at hcb okl okh
    have il := rsOf_calls (hI.ext hE2) W lo y (by omega)
    have ih := rsOf_calls (hI.ext hE2) W hi' y (by omega)
    obtain ⟨gA, curA, rfl, hgA, hcA, _, hatA⟩ := (hSA.ext hE2).at (i := i) (v := .int .i64 n) (by rw [List.getElem?_map, hn0]; rfl)
    rw [List.length_map] at hcA
    obtain ⟨pa, na, nc, sc, oc, hX⟩ := hI.ext hE2
    obtain ⟨g, cur, rfl, hg, hc, hlt2, x0, x1, x2, hsz3, hex⟩ := hX.no.at hx
    have hp := hX.at_
    have c2 := hX.rc.c1
    have hscs := hX.rc.size
    have hpl := lt_of_heap hp
    have hgl := lt_of_heap hg
    have hglA := lt_of_heap hgA
    have hl1 := hl.2
    have hl0 : 0 ≤ n - 2 := by omega
    have hN' : n ≤ 1000000 := by omega
    have hltA : (i : Int) < s.all.length := by omega
    have grow : ∀ u, Ext w1 u → ∃ a3 c3 w3, apR Try.prog 34 (.slice a' m.length cap') (.slice (some ⟨u.heap.size, 0, none⟩) 1 1) (u.alloc (.cells #[.int .i64 n] 3)) = .ok (.slice a3 (m.length + 1) c3) w3 ∧ SlC w3 3 a3 c3 (ints (m ++ [n])) ∧ (∀ g, blk a3 = some g → w2.heap.size ≤ g) ∧ Ext w2 w3 := fun u hu => by
      obtain ⟨a3, c3, w3, hr, hS3, hC3, hs3, hB3⟩ := pushI (hS.ext hu) (by omega) n
      refine ⟨a3, c3, w3, hr, hS3, fun g hg => ?_, hC3.toExt (hE2.trans hu) fun g hg hb => by have := hn g hb; omega⟩
      have := (hE2.trans hu).size
      rcases hB3 g hg with h | ⟨h, _⟩
      · exact hn g h
      · omega
    have e' : decide (v = x) = (v == x) := rfl
    rw [e'] at hcb
    clear hX hx hl ok okl okh hz hn0 W G h hhas hSA hE e' hI hR
    cases hl' : s.of lo y
    · rw [hl'] at il hcb
      cases hh' : s.of hi' y
      · rw [hh'] at ih hcb
        cases hv : (v == x)
        · rw [hv] at hcb
          have hi2 : Box (m = (s.all.take (i + 1)).filter (chgB s x y)) := ⟨by rw [hsc, hcb, hm]; rfl⟩
          clear hm hsc hcb hl' hh' grow
          refine w_ fun d => ?_
          intro w4 hE4 hs4
          have ih4 := ih.at hE4
          refine w_ fun d => ?_
          intro w5 hE5 hs5
          have hE15 := hE4.trans hE5
          have hp5 := hE15.at hp
          have hg5 := hE15.at hg
          have hgA5 := hE15.at hgA
          have hS5 := hS.ext hE15
          have hE25 := hE2.trans hE15
          refine w_ fun d => ?_
          exact ⟨⟨i + 1, a', cap', m, by omega, eA rfl, eA rfl, hS5.ext ext_, hn, hi2, ext_⟩, mA⟩
        · rw [hv] at hcb
          have hi2 : Box (m = (s.all.take (i + 1)).filter (chgB s x y)) := ⟨by rw [hsc, hcb, hm]; rfl⟩
          clear hm hsc hcb hl' hh' grow
          refine w_ fun d => ?_
          intro w4 hE4 hs4
          have ih4 := ih.at hE4
          refine w_ fun d => ?_
          intro w5 hE5 hs5
          have hE15 := hE4.trans hE5
          have hp5 := hE15.at hp
          have hg5 := hE15.at hg
          have hgA5 := hE15.at hgA
          have hS5 := hS.ext hE15
          have hE25 := hE2.trans hE15
          refine w_ fun d => ?_
          exact ⟨⟨i + 1, a', cap', m, by omega, eA rfl, eA rfl, hS5.ext ext_, hn, hi2, ext_⟩, mA⟩
      · rw [hh'] at ih hcb
        cases hv : (v == x)
        · rw [hv] at hcb
          have hi2 : Box (m = (s.all.take (i + 1)).filter (chgB s x y)) := ⟨by rw [hsc, hcb, hm]; rfl⟩
          clear hm hsc hcb hl' hh' grow
          refine w_ fun d => ?_
          intro w4 hE4 hs4
          have ih4 := ih.at hE4
          refine w_ fun d => ?_
          intro w5 hE5 hs5
          have hE15 := hE4.trans hE5
          have hp5 := hE15.at hp
          have hg5 := hE15.at hg
          have hgA5 := hE15.at hgA
          have hS5 := hS.ext hE15
          have hE25 := hE2.trans hE15
          refine w_ fun d => ?_
          exact ⟨⟨i + 1, a', cap', m, by omega, eA rfl, eA rfl, hS5.ext ext_, hn, hi2, ext_⟩, mA⟩
        · rw [hv] at hcb
          have hi2 : Box (m ++ [n] = (s.all.take (i + 1)).filter (chgB s x y)) := ⟨by rw [hsc, hcb, hm]; rfl⟩
          clear hm hsc hcb hl' hh'
          refine w_ fun d => ?_
          intro w4 hE4 hs4
          have ih4 := ih.at hE4
          refine w_ fun d => ?_
          intro w5 hE5 hs5
          have hE15 := hE4.trans hE5
          have hp5 := hE15.at hp
          have hg5 := hE15.at hg
          have hgA5 := hE15.at hgA
          refine w_ fun d => ?_
          obtain ⟨a3, c3, w3, hr, hS3, hn3, hE3⟩ := grow (dr w5 d) (hE15.dr d)
          clear grow
          simp only [alloc_dr, dr_heap] at hr
          refine w_ fun d => ?_
          exact ⟨⟨i + 1, a3, c3, m ++ [n], by omega, eA rfl, by rw [List.length_append]; exact eA rfl, hS3, hn3, hi2, hE3⟩, mA⟩
    · rw [hl'] at il hcb
      cases hh' : s.of hi' y
      · rw [hh'] at ih hcb
        cases hv : (v == x)
        · rw [hv] at hcb
          have hi2 : Box (m = (s.all.take (i + 1)).filter (chgB s x y)) := ⟨by rw [hsc, hcb, hm]; rfl⟩
          clear hm hsc hcb hl' hh' grow
          refine w_ fun d => ?_
          intro w4 hE4 hs4
          have ih4 := ih.at hE4
          refine w_ fun d => ?_
          intro w5 hE5 hs5
          have hE15 := hE4.trans hE5
          have hp5 := hE15.at hp
          have hg5 := hE15.at hg
          have hgA5 := hE15.at hgA
          have hS5 := hS.ext hE15
          have hE25 := hE2.trans hE15
          refine w_ fun d => ?_
          exact ⟨⟨i + 1, a', cap', m, by omega, eA rfl, eA rfl, hS5.ext ext_, hn, hi2, ext_⟩, mA⟩
        · rw [hv] at hcb
          have hi2 : Box (m ++ [n] = (s.all.take (i + 1)).filter (chgB s x y)) := ⟨by rw [hsc, hcb, hm]; rfl⟩
          clear hm hsc hcb hl' hh'
          refine w_ fun d => ?_
          intro w4 hE4 hs4
          have ih4 := ih.at hE4
          refine w_ fun d => ?_
          intro w5 hE5 hs5
          have hE15 := hE4.trans hE5
          have hp5 := hE15.at hp
          have hg5 := hE15.at hg
          have hgA5 := hE15.at hgA
          refine w_ fun d => ?_
          obtain ⟨a3, c3, w3, hr, hS3, hn3, hE3⟩ := grow (dr w5 d) (hE15.dr d)
          clear grow
          simp only [alloc_dr, dr_heap] at hr
          refine w_ fun d => ?_
          exact ⟨⟨i + 1, a3, c3, m ++ [n], by omega, eA rfl, by rw [List.length_append]; exact eA rfl, hS3, hn3, hi2, hE3⟩, mA⟩
      · rw [hh'] at ih hcb
        cases hv : (v == x)
        · rw [hv] at hcb
          have hi2 : Box (m = (s.all.take (i + 1)).filter (chgB s x y)) := ⟨by rw [hsc, hcb, hm]; rfl⟩
          clear hm hsc hcb hl' hh' grow
          refine w_ fun d => ?_
          intro w4 hE4 hs4
          have ih4 := ih.at hE4
          refine w_ fun d => ?_
          intro w5 hE5 hs5
          have hE15 := hE4.trans hE5
          have hp5 := hE15.at hp
          have hg5 := hE15.at hg
          have hgA5 := hE15.at hgA
          have hS5 := hS.ext hE15
          have hE25 := hE2.trans hE15
          refine w_ fun d => ?_
          exact ⟨⟨i + 1, a', cap', m, by omega, eA rfl, eA rfl, hS5.ext ext_, hn, hi2, ext_⟩, mA⟩
        · rw [hv] at hcb
          have hi2 : Box (m ++ [n] = (s.all.take (i + 1)).filter (chgB s x y)) := ⟨by rw [hsc, hcb, hm]; rfl⟩
          clear hm hsc hcb hl' hh'
          refine w_ fun d => ?_
          intro w4 hE4 hs4
          have ih4 := ih.at hE4
          refine w_ fun d => ?_
          intro w5 hE5 hs5
          have hE15 := hE4.trans hE5
          have hp5 := hE15.at hp
          have hg5 := hE15.at hg
          have hgA5 := hE15.at hgA
          refine w_ fun d => ?_
          obtain ⟨a3, c3, w3, hr, hS3, hn3, hE3⟩ := grow (dr w5 d) (hE15.dr d)
          clear grow
          simp only [alloc_dr, dr_heap] at hr
          refine w_ fun d => ?_
          exact ⟨⟨i + 1, a3, c3, m ++ [n], by omega, eA rfl, by rw [List.length_append]; exact eA rfl, hS3, hn3, hi2, hE3⟩, mA⟩
  · obtain rfl : i = s.all.length := by omega
    rw [List.take_length] at hm
    have hEw1 := hE.trans hE2
    have rm1 := rm _ hEw1
    have hI1 := hI.ext hE2
    have hCH : m = s.change x y := hm
    have hC0 : ∀ g, blk a' = some g → own g = 0 := fun g hg => by
      have := hn g hg
      cases ho : own g with
      | zero => rfl
      | succ q => have := h.lt g (by omega); omega
    clear hm rm hSA hI hn hE
    rw [← hCH] at hchl ⊢
    by_cases hfull : s.room < 2 * (m.length : Int)
    · rw [if_pos hfull]
      clear W G L hCH hR hml
      refine w_ fun d => ?_
      refine qq rm1 fun w3 hE3 hs3 => ?_
      refine w_ fun d => ?_
      exact ⟨rfl, TrS.of_ext h ext_⟩
    rw [if_neg hfull]
    have I0 := SwI.start G L (by rw [← hCH]; omega)
    rw [← hCH] at I0
    have hmem : ∀ n ∈ m, s.has n = true := fun n hn => by rw [hCH] at hn; exact (W.mem_change.1 hn).1
    obtain ⟨oc2, hoc2⟩ := ordC (ord := swp s.ord k) (by rw [swp_length]; exact hol)
    have hsw := refSwap_calls s.ord hol k
    rw [hoc2.agg] at hsw
    have hoz := hoc2.size
    have ho8 := hoc2.len8
    have hoce := hoc2.cell
    obtain ⟨pa, na, nc, sc, oc, hX⟩ := hI1
    have hp := hX.at_
    have hsz := hX.rc.size
    have co := hX.rc.co
    have hag := hX.oc.agg
    rw [hag] at hsw
    have hX2 := fun u' (hE : Ext w1 u') => (hX.ext hE).setOrd hoc2
    have stn := fun u' : World => stN_ord2 (p := p) (E := 124) (w := u') hsz hoz
    have hpl := lt_of_heap hp
    have hfl : ¬ s.room < 2 * (m.length : Int) := hfull
    have hfd : decide (s.room < 2 * (m.length : Int)) = false := decide_eq_false hfull
    clear hag hml hroom hfull hCH
    refine w_ fun d => ?_
    refine qq rm1 fun w3 hE3 hs3 => ?_
    refine w_ fun d => ?_
    refine qq hsw.quiet fun w4 hE4 hs4 => ?_
    have hE14 : Ext w1 w4 := hE3.trans hE4
    have hp4 := hE14.at hp
    refine w_ fun d => ?_
    refine at_w fun u4 hu4 => ?_
    have hX4 := hX2 w4 hE14
    rw [← hu4] at hX4
    have hI4 : RsI own u4 p (s.ordS k) := ⟨_, _, _, _, _, hX4⟩
    have hop : own p = 1 := h.op
    have hSww : Sw own w own u4 := by
      have h1 : Sw own w own w4 := Sw.of_ext (hEw1.trans hE14)
      refine ⟨h1.ho, ?_⟩
      rw [hu4]
      exact h1.ch.upd (fun _ => by unfold foot; omega) _
    have hSC4 : SlC u4 3 a' cap' (ints m) := by
      rw [hu4]
      exact (hS.ext hE14).upd fun g hg e => by have := hC0 g hg; rw [e, hop] at this; cases this
    obtain ⟨fin, hfin⟩ : ∃ z, Md.swapGo x y (s.ordS k) m = z := ⟨_, rfl⟩
    rw [hfin]
    have hcap := hSC4.le
    rw [List.length_map] at hcap
    obtain ⟨rx, ry, nxy⟩ := L.rng G
    clear hu4 hX4 hX2 hX hp4 hp hE14 hE4 hE3 hs4 hs3 hS stn hsz co hpl hsw hfl hfd rm1 hE2 hEw1 hR hs1
    clear w4 w3
    refine lo_ (fun _ e u => ∃ (i : Nat) (own2 : Nat → Nat) (si : Md), i ≤ m.length ∧ e 12 = .int .i64 i ∧ RsI own2 u p si ∧ Sw own u4 own2 u ∧ Box (SwI s k x y si (m.drop i) ∧ Md.swapGo x y si (m.drop i) = fin)) (fun e _ => m.length - nat (e 12)) ?_ ?_
    · exact ⟨0, own, s.ordS k, by omega, eA rfl, hI4, Sw.of_ext ext_, ⟨by rw [List.drop_zero]; exact ⟨I0, hfin⟩⟩⟩
    rintro e u hf ⟨i, own2, si, hi, h12, hIu, hSw, ⟨I, hgo⟩⟩
    by_cases hlt : i < m.length
    · obtain ⟨n, hn⟩ : ∃ n, m[i]? = some n := ⟨m[i], List.getElem?_eq_getElem hlt⟩
      have hdr : m.drop i = n :: m.drop (i + 1) := by
        rw [List.drop_eq_getElem_cons hlt]
        rw [List.getElem?_eq_getElem hlt] at hn
        rw [Option.some.inj hn]
      have hdl : (m.drop i).length = m.length - i := List.length_drop
      have hbox0 := I
      rw [hdr] at I hgo
      have S := I.step G L
      obtain ⟨hn0, hvx, _, hnd'⟩ := I.rem n (by simp)
      have ok := G.node n hn0 (by simp)
      obtain ⟨z, hz⟩ : ∃ z, s.nd n = z := ⟨_, rfl⟩
      have bl := (Md.below_lt W ok.lo).1
      have bh := (Md.below_lt W ok.hi).1
      rw [hz] at hvx bl bh hnd'
      have okl := ok.lo
      have okh := ok.hi
      rw [hz] at okl okh
      obtain ⟨v, Lo, Hi⟩ := z
      dsimp only at hvx bl bh okl okh
      subst hvx
      have sL := fun b => I.side G L okl b
      have sH := fun b => I.side G L okh b
      have Wi := I.good.wf
      have a1 := (Md.below_lt Wi (sL false).1).1
      have a2 := (Md.below_lt Wi (sH false).1).1
      have a3 := (Md.below_lt Wi (sL true).1).1
      have a4 := (Md.below_lt Wi (sH true).1).1
      have e3 := (Md.side_le (y := y) S.l1 (sL true).2.2.1 true).1
      have e4 := (Md.side_le (y := y) S.l1 (sH true).2.2.1 true).1
      have hni := I.good.sub n (by simp)
      have hxi := Wi.get hni
      have hli := Wi.lt hni
      rw [hnd'] at hxi
      have q1 : si.mk' (m.drop i) v (si.side Lo y false) (si.side Hi y false) = si.step1 (n :: m.drop (i + 1)) v y n := by rw [hdr]; unfold Md.step1; rw [hnd']
      have q2 : (si.step1 (n :: m.drop (i + 1)) v y n).2.mk' (m.drop i) v ((si.step1 (n :: m.drop (i + 1)) v y n).2.side Lo y true) ((si.step1 (n :: m.drop (i + 1)) v y n).2.side Hi y true) = si.step2 (n :: m.drop (i + 1)) v y n := by
        rw [hdr]; unfold Md.step2; rw [hnd']
      have sd1 := fun u' (hE : Ext u u') => rsSide_calls (hIu.ext hE) Wi Lo y 0 (by omega)
      have sd2 := fun u' (hE : Ext u u') => rsSide_calls (hIu.ext hE) Wi Hi y 0 (by omega)
      have sd3 := fun u' o (hh : RsI o u' p (si.step1 (n :: m.drop (i + 1)) v y n).2) => rsSide_calls hh S.g1.wf Lo y 1 (by omega)
      have sd4 := fun u' o (hh : RsI o u' p (si.step1 (n :: m.drop (i + 1)) v y n).2) => rsSide_calls hh S.g1.wf Hi y 1 (by omega)
      rw [show ((0 : Int) != 0) = false from rfl] at sd1 sd2
      rw [show ((1 : Int) != 0) = true from rfl] at sd3 sd4
      have hInS : ∀ u', SlC u' 3 a' cap' (ints m) → InI u' (cutAddr a' 1 i cap') (m.drop i) := fun u' hh => inp_drop hh.inp hcap
      have mk1 := fun u' (hE : Ext u u') (hh : SlC u' 3 a' cap' (ints m)) => rsMk_calls (v := v) (cB := cap' - i) (hIu.ext hE) Wi (hInS u' hh) (by omega) (lo := si.side Lo y false) (hi := si.side Hi y false) (by omega) (by omega)
      have mk2 := fun u' o (h1 : RsI o u' p (si.step1 (n :: m.drop (i + 1)) v y n).2) (hh : SlC u' 3 a' cap' (ints m)) => rsMk_calls (v := v) (cB := cap' - i) h1 S.g1.wf (hInS u' hh) (by omega) (lo := (si.step1 (n :: m.drop (i + 1)) v y n).2.side Lo y true) (hi := (si.step1 (n :: m.drop (i + 1)) v y n).2.side Hi y true) (by omega) (by omega)
      rw [q1, hdl] at mk1
      rw [q2, hdl] at mk2
      have hgo' : Md.swapGo v y (si.swapStep (n :: m.drop (i + 1)) v y n) (m.drop (i + 1)) = fin := hgo
      have hbox : Box (SwI s k v y (si.swapStep (n :: m.drop (i + 1)) v y n) (m.drop (i + 1)) ∧ Md.swapGo v y (si.swapStep (n :: m.drop (i + 1)) v y n) (m.drop (i + 1)) = fin) := ⟨S.next, hgo'⟩
      have hst : si.swapStep (n :: m.drop (i + 1)) v y n = (si.step2 (n :: m.drop (i + 1)) v y n).2.lay n (y, (si.step1 (n :: m.drop (i + 1)) v y n).1.1, (si.step2 (n :: m.drop (i + 1)) v y n).1.1) := rfl
      have S2 := S.g2
      generalize si.swapStep (n :: m.drop (i + 1)) v y n = sn at hst hbox hgo'
      generalize si.step2 (n :: m.drop (i + 1)) v y n = r2 at mk2 hst S2
      generalize si.step1 (n :: m.drop (i + 1)) v y n = r1 at mk1 mk2 hst sd3 sd4
      obtain ⟨⟨o1, z1⟩, t1⟩ := r1
      obtain ⟨⟨o2, z2⟩, t2⟩ := r2
      dsimp only at mk1 mk2 hst S2 sd3 sd4
      have W2 := S2.wf
      have hhas2 : t2.has n = true := S2.sub n (by simp)
      have hl2 := W2.lt hhas2
      have hl0 : 0 ≤ n - 2 := by omega
      have hn6 : n ≤ 1000000 := by have := wf_N Wi; omega
      have hSCu : SlC u 3 a' cap' (ints m) := hSC4.keep fun g hg => (hSw.out (hSC4.lt hg) (hC0 g hg)).2
      have hCu0 : ∀ g, blk a' = some g → own2 g = 0 := fun g hg => (hSw.out (hSC4.lt hg) (hC0 g hg)).1
      clear S I q1 q2 ok okl okh hz hnd' hn0 Wi a1 a2 a3 a4 hgo hgo' hbox0 sL sH e3 e4 hni hInS
      obtain ⟨gC, curC, rfl, hgC, hcC, _, hatC⟩ := hSCu.at (i := i) (v := .int .i64 n) (by rw [List.getElem?_map, hn]; rfl)
      rw [List.length_map] at hcC
      have hltC : (i : Int) < m.length := by omega
      obtain ⟨pa, na, nc, sc, oc, hX⟩ := id hIu
      obtain ⟨g, cur, rfl, hg, hc, hlt2, x0, x1, x2, hsz3, hex⟩ := hX.no.at hxi
      have hp := hX.at_
      have c2 := hX.rc.c1
      have hsz := hX.rc.size
      have hpl := lt_of_heap hp
      have hgl := lt_of_heap hg
      have hglC := lt_of_heap hgC
      have hli1 := hli.2
      refine w_ fun d => ?_
      refine s_wide (xw_ ?_)
      refine dw_ ?_
      refine xf2A fun v1 hF1 hw1 => ?_
      have hs1 := sz_ hF1
      refine krA ?_
      refine kv ?_
      refine ⟨ext_, ?_⟩
      refine dw_ ?_
      refine xf2A fun v2 hF2 hw2 => ?_
      have hs2 := sz_ hw2
      have hz2 := hw2.at (alloc_new (w := v1) (o := .cells #[.int .i64 0, .int .i64 0, .int .i64 0] 39))
      refine krA ?_
      refine ks ?_
      refine ⟨ext_, ?_⟩
      refine dw_ ?_
      refine xf_nil fun v3 hF3 => ?_
      have hE3 : Ext u v3 := Ext.trans (by exact ext_) hF3
      have hb3 : v3.heap[v1.heap.size]? = some (.cells #[.int .i64 v, .int .i64 Lo, .int .i64 Hi] 39) := hF3.at (hA rfl)
      obtain ⟨bk, hbk⟩ : ∃ bk, v1.heap.size = bk := ⟨_, rfl⟩
      rw [hbk] at hb3
      have hub : u.heap.size ≤ bk := by omega
      have hbl3 := lt_of_heap hb3
      rw [hbk]
      clear hF3 hz2 hw2 hF2 hw1 hs2 hs1 hF1 hbk
      clear v2 v1
      have hbo3 : own2 bk = 0 := by
        cases ho : own2 bk with
        | zero => rfl
        | succ q => have := hIu.lt bk (by omega); omega
      have hSC3 := hSCu.ext hE3
      have s1 := sd1 _ hE3
      have s2 := sd2 _ hE3
      clear sd1 sd2 hp hg hgC x0 x1 x2 hsz3 hex hatC hX c2 hxi
      refine s_draw (XD_ext ?_)
      refine de_ ?_
      refine xe2w fun v4 hE4 => ?_
      have hE4u := hE3.trans hE4
      have hb4 := hE4.at hb3
      have hbl4 := lt_of_heap hb4
      have hSC4' := hSC3.ext hE4
      refine krA ?_
      refine ke ?_
      refine (mk1 _ hE4u hSC4').mono ?_
      rintro _ v5 ⟨rfl, own5, hR5, hSw5⟩
      refine de_ ?_
      refine xn_ fun v6 hE6 hs6 => ?_
      have hb6 := hE6.at (((hSw5.out hbl4 hbo3).2).trans hb4)
      have hbo5 := (hSw5.out hbl4 hbo3).1
      have hbl6 := lt_of_heap hb6
      have hC5 : ∀ g, blk (some (⟨gC, 0, none⟩ : Addr)) = some g → own5 g = 0 := fun g hg => (hSw5.out (hSC4'.lt hg) (hCu0 g hg)).1
      have hSC6 : SlC v6 3 (some ⟨gC, 0, none⟩) cap' (ints m) := SlC.ext (hSC4'.keep fun g hg => (hSw5.out (hSC4'.lt hg) (hCu0 g hg)).2) hE6
      have hSw6 := ((hSw.ext hE4u).trans hSw5).ext hE6
      have hR6 := hR5.ext hE6
      have s3 := sd3 _ _ hR6
      have s4 := sd4 _ _ hR6
      clear s1 s2 mk1 sd3 sd4 hE3 hE4 hE4u hb3 hbl3 hb4 hbl4 hSC3 hSC4' hR5 hSw5 hE6 hs6 hbo3
      refine w_ fun d => ?_
      refine s_draw (XD_ext ?_)
      refine de_ ?_
      refine xe2w fun v7 hE7 => ?_
      have hb7 := hE7.at hb6
      have hbl7 := lt_of_heap hb7
      have hSC7 := hSC6.ext hE7
      refine krA ?_
      refine ke ?_
      refine (mk2 _ _ (hR6.ext hE7) hSC7).mono ?_
      rintro _ v8 ⟨rfl, own8, hR8, hSw8⟩
      refine de_ ?_
      refine xn_ fun v9 hE9 hs9 => ?_
      have hSC9 : SlC v9 3 (some ⟨gC, 0, none⟩) cap' (ints m) := SlC.ext (hSC7.keep fun g hg => (hSw8.out (hSC7.lt hg) (hC5 g hg)).2) hE9
      have hSw9 := ((hSw6.ext hE7).trans hSw8).ext hE9
      have hR9 := hR8.ext hE9
      clear s3 s4 mk2 hR6 hE7 hb7 hbl7 hSC7 hR8 hSw8 hE9 hs9 hb6 hbl6 hSC6 hSw6 hbo5
      obtain ⟨gC', curC', hgCe, hgC9, _, _, hatC9⟩ := hSC9.at (i := i) (v := .int .i64 n) (by rw [List.getElem?_map, hn]; rfl)
      cases hgCe
      obtain ⟨pa9, na9, nc9, sc9, oc9, hX9⟩ := hR9
      have hk9 : (n - 2).toNat < t2.N.length := by omega
      obtain ⟨z9, hz9⟩ : ∃ z, t2.N[(n - 2).toNat]? = some z := ⟨t2.N[(n - 2).toNat], List.getElem?_eq_getElem hk9⟩
      obtain ⟨g9, cur9, rfl, hg9, hc9, _, _, _, _, hsz9, _⟩ := hX9.no.at (v := z9.1) (lo := z9.2.1) (hi := z9.2.2) hz9
      have hp9 := hX9.at_
      have c9 := hX9.rc.c1
      have hscz9 := hX9.rc.size
      have hgl9 := lt_of_heap hg9
      have hgC9l := lt_of_heap hgC9
      have hl29 := hl2.2
      obtain ⟨hX10, hC10⟩ := hX9.setNode hg9 hk9 (y, o1, o2)
      have hSw10 := hSw9.trans ⟨fun _ _ => rfl, Chg.foot hC10 (by decide)⟩
      have hlay : sn = ⟨t2.a, t2.N.set (n - 2).toNat (y, o1, o2), t2.ord⟩ := hst
      rw [← hlay] at hX10
      clear hX9 hC10 hSw9 hst hlay hz9 hk9 hn hSCu hIu hI4
      refine w_ fun d => ?_
      exact ⟨⟨i + 1, own8, sn, by omega, eA rfl, ⟨_, _, _, _, _, hX10.ext ext_⟩, hSw10.ext ext_, hbox⟩, mA⟩
    · obtain rfl : i = m.length := by omega
      rw [List.drop_length] at hgo
      have hff : si = fin := hgo
      subst hff
      have hSwf := hSww.trans hSw
      clear I hgo
      refine w_ fun d => ?_
      exact ⟨rfl, own2, hIu, hSwf⟩
end
end Go.Proofs.Ytpeindhocndmnaa
