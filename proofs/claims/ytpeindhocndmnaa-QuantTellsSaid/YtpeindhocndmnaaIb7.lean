/- IteC, IteT, ReadB, IteI, IteI2, SizeP2, SizeP3, FullP, IteP, Oper, IteP2, RchP, SiP, Rs8, BxAny, ReadB2, BxRel, BxRel2, ReadT, CaI, PcO, Law09, BxCut: texts of this work, one behind the other. -/
import Derived.Test.YtpeindhocndmnaaIb6
namespace Go.Proofs.Ytpeindhocndmnaa
open Go Go.Bx
set_option linter.unusedSimpArgs false
set_option linter.unusedVariables false
set_option maxRecDepth 100000
set_option maxHeartbeats 4000000
attribute [local irreducible] X XO XE XF XD XW thenX inX retX kN CallsR
section
variable {own : Nat → Nat} {w w' w1 : World} {p : Nat} {s : Md} {n v : Int} {but : List Int}
theorem node_has (hh : s.has n = true) : s.node n = (s.nd n, true) := by unfold Md.node; rw [hh]; rfl
theorem node_no (hh : s.has n = false) : s.node n = ((0, 0, 0), false) := by unfold Md.node; rw [hh]; rfl
theorem iteThere_calls (h : StI own w p s []) (W : s.WF) (n : Int) (hn : n ≤ 9223372036854775807) : Quiet Try.prog 112 #[.pointer (some ⟨p, 0, none⟩), .int .i64 n] w (.bool (decide (n = 0) || (decide (n = 1) || s.has n))) := by
  intro u hu
  have n1 := (stNode_calls h W n hn).at hu
  cases hh : s.has n
  · rw [node_no hh] at n1
    simp only [ndV] at n1
    clear h W
    by_cases h0 : n = 0
    · subst h0
      refine en2 Try.func112 Try.results112 mixed [] ?_
      intro e0 h0 h1
      refine w_ fun d => ?_
      refine qq n1 fun w1 hE1 hs1 => ?_
      refine w_ fun d => ?_
      exact ⟨rfl, ext_⟩
    · have e0 : (n == 0) = false := by simpa using h0
      have d0 : decide (n = 0) = false := decide_eq_false h0
      by_cases h1 : n = 1
      · subst h1
        refine en2 Try.func112 Try.results112 mixed [] ?_
        intro e0 h0 h1
        refine w_ fun d => ?_
        refine qq n1 fun w1 hE1 hs1 => ?_
        refine w_ fun d => ?_
        exact ⟨rfl, ext_⟩
      · have e1 : (n == 1) = false := by simpa using h1
        have d1 : decide (n = 1) = false := decide_eq_false h1
        rw [d0, d1]
        clear d0 d1
        refine en2 Try.func112 Try.results112 mixed [] ?_
        intro e0 h0 h1
        refine w_ fun d => ?_
        refine qq n1 fun w1 hE1 hs1 => ?_
        refine w_ fun d => ?_
        exact ⟨rfl, ext_⟩
  · rw [node_has hh] at n1
    rw [Bool.or_true, Bool.or_true]
    obtain ⟨⟨a, b, c⟩, hz⟩ : ∃ z, s.nd n = z := ⟨_, rfl⟩
    rw [hz] at n1
    simp only [ndV] at n1
    clear h W hz hh
    refine en2 Try.func112 Try.results112 mixed [] ?_
    intro e0 h0 h1
    refine w_ fun d => ?_
    refine qq n1 fun w1 hE1 hs1 => ?_
    refine w_ fun d => ?_
    exact ⟨rfl, ext_⟩
theorem iteSide_calls (h : StI own w p s []) (W : s.WF) (n v : Int) (hn : n ≤ 9223372036854775807) (b : Bool) : Quiet Try.prog 150 #[.pointer (some ⟨p, 0, none⟩), .int .i64 n, .int .i64 v, .int .i64 (if b then 1 else 0)] w (.int .i64 (s.side n v b)) := by
  intro u hu
  have n1 := (stNode_calls h W n hn).at hu
  cases hh : s.has n
  · rw [node_no hh] at n1
    simp only [ndV] at n1
    have e : s.side n v b = n := by unfold Md.side Md.of; rw [hh]; rfl
    rw [e]
    clear h W hh e
    refine en4 Try.func150 Try.results150 mixed [] ?_
    intro e0 h0 h1 h2 h3
    refine w_ fun d => ?_
    refine qq n1 fun w1 hE1 hs1 => ?_
    refine w_ fun d => ?_
    exact ⟨rfl, ext_⟩
  · rw [node_has hh] at n1
    have e : s.side n v b = if (s.nd n).1 = v then (if b then (s.nd n).2.2 else (s.nd n).2.1) else n := by
      unfold Md.side Md.of; rw [hh]; simp
    rw [e]
    obtain ⟨⟨x, lo, hi⟩, hz⟩ : ∃ z, s.nd n = z := ⟨_, rfl⟩
    rw [hz] at n1 ⊢
    simp only [ndV] at n1
    dsimp only
    clear h W hz hh e
    by_cases hx : x = v
    · subst hx
      rw [if_pos rfl]
      cases b
      · refine en4 Try.func150 Try.results150 mixed [] ?_
        intro e0 h0 h1 h2 h3
        refine w_ fun d => ?_
        refine qq n1 fun w1 hE1 hs1 => ?_
        refine w_ fun d => ?_
        exact ⟨rfl, ext_⟩
      · refine en4 Try.func150 Try.results150 mixed [] ?_
        intro e0 h0 h1 h2 h3
        refine w_ fun d => ?_
        refine qq n1 fun w1 hE1 hs1 => ?_
        refine w_ fun d => ?_
        exact ⟨rfl, ext_⟩
    · rw [if_neg hx]
      have e0 : (x == v) = false := by simpa using hx
      refine en4 Try.func150 Try.results150 mixed [] ?_
      intro e0 h0 h1 h2 h3
      refine w_ fun d => ?_
      refine qq n1 fun w1 hE1 hs1 => ?_
      refine w_ fun d => ?_
      exact ⟨rfl, ext_⟩
theorem iteEasy_calls (f g h : Int) : Sure Try.prog 148 #[.int .i64 f, .int .i64 g, .int .i64 h] (.tuple #[.int .i64 ((easyN f g h).getD 0), .bool (easyN f g h).isSome]) := by
  intro w
  unfold easyN
  by_cases h1 : f = 1
  · subst h1
    rw [if_pos (.inl rfl)]
    refine en3 Try.func148 Try.results148 mixed [] ?_
    intro e0 h0 h1 h2
    refine w_ fun d => ?_
    exact ⟨rfl, ext_⟩
  · have e1 : (f == 1) = false := by simpa using h1
    by_cases h2 : g = h
    · subst h2
      rw [if_pos (.inr rfl)]
      refine en3 Try.func148 Try.results148 mixed [] ?_
      intro e0 h0 h1 h2
      refine w_ fun d => ?_
      exact ⟨rfl, ext_⟩
    · have e2 : (g == h) = false := by simpa using h2
      rw [if_neg (by rintro (h | h); exact h1 h; exact h2 h)]
      by_cases h3 : f = 0
      · subst h3
        rw [if_pos rfl]
        refine en3 Try.func148 Try.results148 mixed [] ?_
        intro e0 h0 h1 h2
        refine w_ fun d => ?_
        exact ⟨rfl, ext_⟩
      · have e3 : (f == 0) = false := by simpa using h3
        rw [if_neg h3]
        by_cases h4 : g = 1
        · subst h4
          by_cases h5 : h = 0
          · subst h5
            rw [if_pos ⟨rfl, rfl⟩]
            refine en3 Try.func148 Try.results148 mixed [] ?_
            intro e0 h0 h1 h2
            refine w_ fun d => ?_
            exact ⟨rfl, ext_⟩
          · have e5 : (h == 0) = false := by simpa using h5
            rw [if_neg fun h => h5 h.2]
            refine en3 Try.func148 Try.results148 mixed [] ?_
            intro e0 h0 h1 h2
            refine w_ fun d => ?_
            exact ⟨rfl, ext_⟩
        · have e4 : (g == 1) = false := by simpa using h4
          rw [if_neg fun h => h4 h.1]
          refine en3 Try.func148 Try.results148 mixed [] ?_
          intro e0 h0 h1 h2
          refine w_ fun d => ?_
          exact ⟨rfl, ext_⟩
end
end Go.Proofs.Ytpeindhocndmnaa

namespace Go.Proofs.Ytpeindhocndmnaa
open Go Go.Bx
set_option linter.unusedSimpArgs false
set_option linter.unusedVariables false
set_option maxRecDepth 100000
set_option maxHeartbeats 4000000
attribute [local irreducible] X XO XE XF XD XW thenX inX retX kN CallsR
section
variable {own : Nat → Nat} {w w' w1 : World} {p b : Nat} {s : Md} {n v : Int} {l : List Int}
theorem iteTop_calls (h : StI own w p s []) (W : s.WF) (hb : w.heap[b]? = some (.cells (ints l).toArray 3)) (hl : l.length ≤ 100) (hn : ∀ n ∈ l, n ≤ 9223372036854775807) : Quiet Try.prog 149 #[.pointer (some ⟨p, 0, none⟩), .slice (some ⟨b, 0, none⟩) l.length l.length] w (.int .i64 (topN s l)) := by
  intro u hu
  have hS := h.ext hu
  have hbu := hu.at hb
  have lbu := lt_of_heap hbu
  obtain ⟨oc, hoc⟩ := ordC (ord := s.ord) W.ord.len
  have od := stOrder_calls hS
  rw [hoc.agg] at od
  have hoz := hoc.size
  have hol := W.ord.len
  have hlz : ((ints l).toArray).size = l.length := by simp
  clear h hu hb
  refine en2 Try.func149 Try.results149 mixed [] ?_
  intro e0 h0 h1
  refine w_ fun d => ?_
  refine qq od fun u1 hE1 hs1 => ?_
  refine w_ fun d => ?_
  refine lo_ (fun _ e w' => ∃ k : Nat, k ≤ 8 ∧ e 13 = .int .i64 k ∧ (∀ i x, i < k → s.ord[i]? = some x → (l.any fun n => s.of n x) = false) ∧ Ext u1 w') (fun e _ => 8 - nat (e 13)) ?_ ?_
  · exact ⟨0, by omega, eA rfl, fun i x hi => by omega, ext_⟩
  rintro e v1 hf ⟨k, hk, h13, hno, hEv⟩
  have hEuv := hE1.trans hEv
  by_cases hk8 : k < 8
  · obtain ⟨x, hx⟩ : ∃ x, s.ord[k]? = some x := ⟨s.ord[k], List.getElem?_eq_getElem (by omega)⟩
    have hxc := hoc.at_ k x hx
    refine w_ fun d => ?_
    refine lo_ (fun _ e w' => ∃ j : Nat, j ≤ l.length ∧ e 18 = .int .i64 j ∧ (∀ i n, i < j → l[i]? = some n → s.of n x = false) ∧ Ext v1 w') (fun e _ => l.length - nat (e 18)) ?_ ?_
    · exact ⟨0, by omega, eA rfl, fun i n hi => by omega, ext_⟩
    rintro e2 v2 hf2 ⟨j, hj, h18, hnj, hE2⟩
    have hEv2 := hEuv.trans hE2
    have hb2 := hEv2.at hbu
    have lb2 := lt_of_heap hb2
    by_cases hjl : j < l.length
    · obtain ⟨n, hnn⟩ : ∃ n, l[j]? = some n := ⟨l[j], List.getElem?_eq_getElem hjl⟩
      have hcn : ((ints l).toArray)[j]? = some (.int .i64 n) := by simp [hnn]
      have n1 := stNode_calls hS W n (hn n (List.mem_of_getElem? hnn))
      have hltj : (j : Int) < l.length := by omega
      have next : s.of n x = false → ∀ i m, i < j + 1 → l[i]? = some m → s.of m x = false := fun ho i m hi hm => by
        rcases Nat.lt_or_ge i j with h | h
        · exact hnj i m h hm
        · obtain rfl : i = j := by omega
          rw [hnn] at hm; cases hm; exact ho
      cases hh : s.has n
      · have nx := next (by unfold Md.of; rw [hh]; rfl)
        rw [node_no hh] at n1
        simp only [ndV] at n1
        clear next hnj hno hh hnn hx
        refine w_ fun d => ?_
        refine qq n1 fun v3 hE3 hs3 => ?_
        refine w_ fun d => ?_
        exact ⟨⟨j + 1, by omega, eA rfl, nx, ext_⟩, mA⟩
      · rw [node_has hh] at n1
        obtain ⟨⟨a, lo, hi⟩, hz⟩ : ∃ z, s.nd n = z := ⟨_, rfl⟩
        rw [hz] at n1
        simp only [ndV] at n1
        by_cases hax : a = x
        · subst hax
          have htp : topN s l = a := by
            have hall : (l.any fun n => s.of n a) = true := List.any_eq_true.2 ⟨n, List.mem_of_getElem? hnn, by unfold Md.of; rw [hh, hz]; simp⟩
            unfold topN
            have hfd : (s.ord.find? fun v => l.any fun n => s.of n v) = some a := List.find?_eq_some_iff_getElem.2 ⟨hall, k, by omega, (List.getElem?_eq_some_iff.1 hx).2, fun i hi => by rw [hno i _ hi (List.getElem?_eq_getElem (by omega))]; rfl⟩
            rw [hfd]; rfl
          clear next hnj hno hh hnn hx hz
          refine w_ fun d => ?_
          refine qq n1 fun v3 hE3 hs3 => ?_
          refine w_ fun d => ?_
          exact ⟨by rw [htp], ext_⟩
        · have nx := next (by unfold Md.of; rw [hh, hz]; simp [hax])
          have hne : (a == x) = false := by simpa using hax
          clear next hnj hno hh hnn hx hz
          refine w_ fun d => ?_
          refine qq n1 fun v3 hE3 hs3 => ?_
          refine w_ fun d => ?_
          exact ⟨⟨j + 1, by omega, eA rfl, nx, ext_⟩, mA⟩
    · obtain rfl : j = l.length := by omega
      have nx : ∀ i y, i < k + 1 → s.ord[i]? = some y → (l.any fun n => s.of n y) = false := fun i y hi hy => by
        rcases Nat.lt_or_ge i k with h | h
        · exact hno i y h hy
        · obtain rfl : i = k := by omega
          rw [hx] at hy; cases hy
          rw [List.any_eq_false]
          intro m hm
          obtain ⟨q, hq, rfl⟩ := List.getElem_of_mem hm
          rw [hnj q _ hq (List.getElem?_eq_getElem hq)]; simp
      clear hnj hno hx
      refine w_ fun d => ?_
      exact ⟨⟨k + 1, by omega, eA rfl, nx, hEv.trans hE2⟩, mA⟩
  · obtain rfl : k = 8 := by omega
    have htp : topN s l = -1 := by
      unfold topN
      rw [List.find?_eq_none.2 fun x hx => ?_]; rfl
      obtain ⟨i, hi, rfl⟩ := List.getElem_of_mem hx
      rw [hno i _ (by omega) (List.getElem?_eq_getElem hi)]; simp
    clear hno
    refine w_ fun d => ?_
    exact ⟨by rw [htp], ext_⟩
end
end Go.Proofs.Ytpeindhocndmnaa

namespace Go.Proofs.Ytpeindhocndmnaa
open Go Go.Bx
set_option linter.unusedSimpArgs false
set_option linter.unusedVariables false
set_option maxRecDepth 100000
set_option maxHeartbeats 4000000
attribute [local irreducible] X XO XE XF XD XW thenX inX retX kN CallsR
structure KnF (s : Md) (es : List (Ent Fun8)) : Prop where
  den : ∀ e ∈ es, ∃ n : Int, e.2.1 = .int .i64 n ∧ Den s n e.1
  con : ∀ b, mget es (constF b) ≠ none
theorem KnF.mono {s s' : Md} {es : List (Ent Fun8)} (h : KnF s es) (hl : s.Le s') : KnF s' es := ⟨fun e he => by obtain ⟨n, h1, h2⟩ := h.den e he; exact ⟨n, h1, h2.mono hl⟩, h.con⟩
theorem KnF.put {s : Md} {es : List (Ent Fun8)} {ck : Nat} {f : Fun8} {n : Int} (h : KnF s es) (hI : MInv es ck) (d : Den s n f) : KnF s (mput es f (.int .i64 n) ck) := by
  refine ⟨fun e he => ?_, fun b => ?_⟩
  · rcases mput_mem hI.keys he with ⟨h1, _⟩ | ⟨h1, h2, _⟩
    · exact h.den e h1
    · exact ⟨n, h2, by rw [h1]; exact d⟩
  · rw [mget_put hI.keys]
    split
    · simp
    · exact h.con b
theorem KnF.get {s : Md} {es : List (Ent Fun8)} {f : Fun8} {v : Value} (h : KnF s es) (hg : mget es f = some v) : ∃ n : Int, v = .int .i64 n ∧ Den s n f := by
  obtain ⟨bb, hb⟩ := mget_some hg
  exact h.den _ hb
structure BtI (own : Nat → Nat) (w : World) (p : Nat) (s : Md) (bb bm : Nat) (es : List (Ent Fun8)) (ck : Nat) : Prop where
  sti : StI own w p s []
  hb : w.heap[bb]? = some (.cells #[.pointer (some ⟨p, 0, none⟩), .map (some bm)] 139)
  hm : w.heap[bm]? = some (mObj fv es ck)
  inv : MInv es ck
  kn : KnF s es
  ob : own bb = 0
  om : own bm = 0
section
variable {own own' : Nat → Nat} {w w' w1 w2 : World} {p bb bm ck : Nat} {s s' s2 : Md} {es : List (Ent Fun8)} {f : Fun8} {n : Int}
theorem BtI.ext (h : BtI own w p s bb bm es ck) (hE : Ext w w') : BtI own w' p s bb bm es ck := ⟨h.sti.ext hE, hE.at h.hb, hE.at h.hm, h.inv, h.kn, h.ob, h.om⟩
def BtT (own : Nat → Nat) (w : World) (p : Nat) (s' : Md) (bb bm : Nat) (w' : World) : Prop := ∃ own' es' ck', BtI own' w' p s' bb bm es' ck' ∧ (∀ k, k < w.heap.size → own' k = own k) ∧ Chg (fun k => own k ≠ 0 ∨ k = bm) w w'
theorem BtT.of_ext (h : BtI own w p s bb bm es ck) (hE : Ext w w') : BtT own w p s bb bm w' := ⟨own, es, ck, h.ext hE, fun _ _ => rfl, hE.chg _⟩
theorem bt_foot (ho : ∀ k, k < w.heap.size → own' k = own k) {k : Nat} (hk : k < w.heap.size) (h : own' k ≠ 0 ∨ k = bm) : own k ≠ 0 ∨ k = bm := h.imp (fun h => by rw [← ho k hk]; exact h) id
theorem BtT.ext (k : BtT own w p s bb bm w1) (hE : Ext w1 w2) : BtT own w p s bb bm w2 := by
  obtain ⟨o2, e2, c2, h1, h2, h3⟩ := k
  exact ⟨o2, e2, c2, h1.ext hE, h2, h3.transE hE⟩
theorem BtI.turn (h : BtI own w p s bb bm es ck) (hl : s.Le s') (hT : TrI own w p s' [] w') : ∃ own', BtI own' w' p s' bb bm es ck ∧ (∀ k, k < w.heap.size → own' k = own k) ∧ Chg (fun k => own k ≠ 0 ∨ k = bm) w w' := by
  obtain ⟨o, h1, h2, h3⟩ := hT
  have hk : ∀ k, k < w.heap.size → own k = 0 → w'.heap[k]? = w.heap[k]? := fun k hk h0 => h3.heap k hk fun hf => hf h0
  have lb := lt_of_heap h.hb
  have lm := lt_of_heap h.hm
  refine ⟨o, ⟨h1, (hk _ lb h.ob).trans h.hb, (hk _ lm h.om).trans h.hm, h.inv, h.kn.mono hl, (h2 _ lb).trans h.ob, (h2 _ lm).trans h.om⟩, h2, h3.mono fun k _ hk => .inl hk⟩
theorem BtI.put (h : BtI own w p s bb bm es ck) (d : Den s n f) : BtI own (upd w bm (mObj fv (mput es f (.int .i64 n) ck) (mclock es f ck))) p s bb bm (mput es f (.int .i64 n) ck) (mclock es f ck) := by
  have lm := lt_of_heap h.hm
  have hne : bb ≠ bm := fun e => by have h1 := h.hb; rw [e, h.hm] at h1; cases h1
  have hC : Chg (fun k => k = bm) w (upd w bm (mObj fv (mput es f (.int .i64 n) ck) (mclock es f ck))) := chg_
  exact ⟨h.sti.chg0 hC fun k hk => hk ▸ h.om, (hC.heap _ (lt_of_heap h.hb) hne).trans h.hb, upd_same lm, h.inv.put _ _, h.kn.put h.inv d, h.ob, h.om⟩
theorem bt_rng (W : s.WF) (d : Den s n f) : n ≤ 9223372036854775807 := by
  have := wf_N W
  rcases d.there with e | e | e
  · omega
  · omega
  · have := W.lt e; omega
structure BtS (own : Nat → Nat) (w : World) (bm : Nat) (own' : Nat → Nat) (w' : World) : Prop where
  ho : ∀ k, k < w.heap.size → own' k = own k
  ch : Chg (fun k => own k ≠ 0 ∨ k = bm) w w'
theorem BtS.of_ext (hE : Ext w w') : BtS own w bm own w' := ⟨fun _ _ => rfl, hE.chg _⟩
theorem BtS.trans {own1 own2 : Nat → Nat} (h : BtS own w bm own1 w1) (k : BtS own1 w1 bm own2 w2) : BtS own w bm own2 w2 :=
  ⟨fun j hj => (k.ho j (Nat.lt_of_lt_of_le hj h.ch.size)).trans (h.ho j hj), h.ch.trans k.ch fun b hb hf => bt_foot h.ho hb hf⟩
theorem BtS.ext {own1 : Nat → Nat} (h : BtS own w bm own1 w1) (hE : Ext w1 w2) : BtS own w bm own1 w2 := ⟨h.ho, h.ch.transE hE⟩
theorem BtS.out {own1 : Nat → Nat} (h : BtS own w bm own1 w1) {k : Nat} {o : Obj} (hk : w.heap[k]? = some o) (h0 : own k = 0) (hm : k ≠ bm) : own1 k = 0 ∧ w1.heap[k]? = some o :=
  ⟨(h.ho k (lt_of_heap hk)).trans h0, (h.ch.heap k (lt_of_heap hk) fun hf => hf.elim (fun h => h h0) hm).trans hk⟩
theorem BtS.to (h : BtS own w bm own' w') (hI : BtI own' w' p s' bb bm es ck) : BtT own w p s' bb bm w' := ⟨own', es, ck, hI, h.ho, h.ch⟩
theorem BtT.parts (h : BtT own w p s' bb bm w') : ∃ own' es' ck', BtI own' w' p s' bb bm es' ck' ∧ BtS own w bm own' w' := by
  obtain ⟨o, e, c, h1, h2, h3⟩ := h
  exact ⟨o, e, c, h1, h2, h3⟩
theorem rdBuild_found (h : BtI own w p s bb bm es ck) (hg : mget es f = some (.int .i64 n)) (l : Nat) : CallsR Try.prog 100 #[.pointer (some ⟨bb, 0, none⟩), fv f, .int .i64 l] w fun r w' => r = .tuple #[.int .i64 n, errV 0] ∧ Ext w w' := by
  obtain ⟨hI, hb, hm, _, _, _, _⟩ := h
  have lb := lt_of_heap hb
  have lm := lt_of_heap hm
  have g1 : (mget es f).isSome = true := by rw [hg]; rfl
  have g2 : (mget es f).getD (.int .i64 0) = .int .i64 n := by rw [hg]; rfl
  clear hI hg
  refine en3 Try.func100 Try.results100 mixed [(7, [8]), (10, [8]), (13, [9])] ?_
  intro e0 h0 h1 h2
  refine w_ fun d => ?_
  exact ⟨by rw [errV0], ext_⟩
theorem rdBuild_calls {p bb bm : Nat} : ∀ (k : Nat) (own : Nat → Nat) (w : World) (s : Md) (es : List (Ent Fun8)) (ck : Nat) (f : Fun8) (l : Nat), BtI own w p s bb bm es ck → s.Good [] → nv f ≤ k → l ≤ 8 → (∀ u, depF f u = true → (l : Int) ≤ lvl s.ord u) →
    CallsR Try.prog 100 #[.pointer (some ⟨bb, 0, none⟩), fv f, .int .i64 l] w fun r w' => r = .tuple #[.int .i64 (s.bld f).1.1, errV (s.bld f).1.2] ∧ BtT own w p (s.bld f).2 bb bm w' := by
  intro k
  induction k with
  | zero =>
    intro own w s es ck f l h G hk hl hd
    have hf : f = constF (f.getLsbD 0) := flat_const fun v => by
      cases hd : depF f v
      · rfl
      · have := nv_cof (b := false) hd; omega
    cases hg : mget es f with
    | none => exact absurd hg (by rw [hf]; exact h.kn.con _)
    | some v =>
      obtain ⟨n, rfl, d⟩ := h.kn.get hg
      rw [G.bld_ex d]
      refine (rdBuild_found h hg l).mono ?_
      rintro r w' ⟨rfl, hE⟩
      exact ⟨rfl, BtT.of_ext h hE⟩
  | succ k ih =>
    intro own w s es ck f l h G hk hl hd
    cases hg : mget es f with
    | some v =>
      obtain ⟨n, rfl, d⟩ := h.kn.get hg
      rw [G.bld_ex d]
      refine (rdBuild_found h hg l).mono ?_
      rintro r w' ⟨rfl, hE⟩
      exact ⟨rfl, BtT.of_ext h hE⟩
    | none =>
    have ht0 : 0 ≤ topF s.ord f := by
      by_cases h' : topF s.ord f < 0
      · exact absurd hg (by rw [top_flat G.wf.ord h']; exact h.kn.con _)
      · omega
    have hgo := bld_top G ht0
    have hdt := topF_dep ht0
    have hrt := top_rng ht0
    have htf := fun u hu => (top_first (f := f) (u := u) G.wf.ord hu).2
    have hbe := fun b u hu => cof_behind (f := f) (b := b) (u := u) G.wf.ord ht0 hu
    have nv0 := nv_cof (b := false) hdt
    have nv1 := nv_cof (b := true) hdt
    generalize topF s.ord f = v at hgo hdt hrt htf hbe nv0 nv1
    obtain ⟨m, hm8, hmo, hml⟩ := G.wf.ord.at hrt.1 hrt.2
    have hlm : l ≤ m := by have := hd v hdt; omega
    have O := G.wf.ord
    have W := G.wf
    have g1 : (mget es f).isSome = false := by rw [hg]; rfl
    have od := stOrder_calls h.sti
    obtain ⟨oc, hoc⟩ := ordC (ord := s.ord) O.len
    rw [hoc.agg] at od
    have ho8 := hoc.len8
    have hoe := hoc.cell
    have hoz := hoc.size
    have hoa := hoc.all
    have hb := h.hb
    have hm := h.hm
    have lb := lt_of_heap hb
    have lm := lt_of_heap hm
    clear hg hd
    refine en3 Try.func100 Try.results100 mixed [(7, [8]), (10, [8]), (13, [9])] ?_
    intro e0 h0 h1 h2
    refine w_ fun d => ?_
    refine qq od fun w1 hE1 hs1 => ?_
    refine w_ fun d => ?_
    refine at_w fun u hu => ?_
    have hEu : Ext w u := by rw [hu]; exact ext_
    have h4 : u.heap[w.heap.size]? = some (.cells #[vU (word f 0), vU (word f 1), vU (word f 2), vU (word f 3)] 54) := by rw [hu]; exact hA rfl
    have h10 : u.heap[w1.heap.size]? = some (.cells oc 36) := by rw [hu]; exact hA rfl
    have hbu := h.ext hEu
    obtain ⟨b10, hb10⟩ : ∃ b, w1.heap.size = b := ⟨_, rfl⟩
    obtain ⟨b4, hb4⟩ : ∃ b, w.heap.size = b := ⟨_, rfl⟩
    rw [hb10] at h10 ⊢
    rw [hb4] at h4 ⊢
    have o4 : own b4 = 0 := by
      cases ho : own b4 with
      | zero => rfl
      | succ q => have := h.sti.lt b4 (by omega); omega
    have o10 : own b10 = 0 := by
      cases ho : own b10 with
      | zero => rfl
      | succ q => have := h.sti.lt b10 (by omega); omega
    have hb := hbu.hb
    have hm := hbu.hm
    have lb := lt_of_heap hb
    have lm := lt_of_heap hm
    have l4 := lt_of_heap h4
    have l10 := lt_of_heap h10
    have m4 : b4 ≠ bm := by have := lt_of_heap h.hm; omega
    have m10 : b10 ≠ bm := by have := lt_of_heap h.hm; omega
    clear hu od hE1 hs1 hb4 hb10 h
    refine lo_ (fun _ e w' => ∃ i : Nat, i ≤ m ∧ e 2 = .int .i64 i ∧ Ext u w') (fun e _ => m - nat (e 2)) ?_ ?_
    · exact ⟨l, hlm, eA rfl, ext_⟩
    rintro e v1 hf ⟨i, him, h2, hEv⟩
    have hbv := hbu.ext hEv
    have h4v := hEv.at h4
    have h10v := hEv.at h10
    have l4v := lt_of_heap h4v
    have l10v := lt_of_heap h10v
    obtain ⟨x, hx⟩ : ∃ x, s.ord[i]? = some x := ⟨s.ord[i]'(by have := O.len; omega), List.getElem?_eq_getElem _⟩
    have hxc := hoc.at_ i x hx
    have hxl := O.lvl hx
    have dp : Sure Try.prog 140 #[fv f, .int .i64 x] (.bool (depF f x)) := depends_calls f x
    by_cases hi : i < m
    · have hnd : depF f x = false := by
        cases hdx : depF f x
        · rfl
        · have := htf x hdx; omega
      rw [hnd] at dp
      clear ih hgo hbu h4 h10
      refine w_ fun d => ?_
      intro v2 hE2 hs2
      refine w_ fun d => ?_
      exact ⟨⟨i + 1, by omega, eA rfl, ext_⟩, mA⟩
    obtain rfl : i = m := by omega
    obtain rfl : x = v := by rw [hmo] at hx; exact (Option.some.inj hx).symm
    rw [hdt] at dp
    have c0 : Sure Try.prog 141 #[fv f, .int .i64 x, .bool false] (fv (cofF f x false)) := cof_calls f x false
    have c1 : Sure Try.prog 141 #[fv f, .int .i64 x, .bool true] (fv (cofF f x true)) := cof_calls f x true
    have hbl := G.bld f
    have hEwv := hEu.trans hEv
    obtain ⟨R, hR⟩ : ∃ R, s.bld f = R := ⟨_, rfl⟩
    unfold SplB at hgo
    rw [hR] at hgo hbl ⊢
    have lo1 : ∀ u, depF (cofF f x false) u = true → ((i + 1 : Nat) : Int) ≤ lvl s.ord u := fun u hu => by have := hbe false u hu; omega
    have hi1 : ∀ u, depF (cofF f x true) u = true → ((i + 1 : Nat) : Int) ≤ lvl s.ord u := fun u hu => by have := hbe true u hu; omega
    clear htf hbe hbu h4 h10 hx hmo hml hxl l4 l10 hb hm lb lm hEu hEv
    clear hR
    refine w_ fun d => ?_
    intro v2 hE2 hs2
    have hbv2 := hbv.ext hE2
    have h42 := hE2.at h4v
    have h102 := hE2.at h10v
    have l42 := lt_of_heap h42
    have l102 := lt_of_heap h102
    have hEw2 := hEwv.trans hE2
    clear hbv h4v h10v l4v l10v hE2 hs2 hEwv dp
    refine w_ fun d => ?_
    refine s_draw (XD_ext ?_)
    refine de_ ?_
    refine xe2w fun v3 hE3 => ?_
    have hbv3 := hbv2.ext hE3
    have h43 := hE3.at h42
    have h103 := hE3.at h102
    have hEw3 := hEw2.trans hE3
    refine krA ?_
    refine ke ?_
    rw [show (i : Int) + 1 = ((i + 1 : Nat) : Int) by omega]
    refine (ih own v3 s es ck (cofF f x false) (i + 1) hbv3 G (by omega) (by omega) lo1).mono ?_
    rintro r v4 ⟨hr, hT⟩
    obtain ⟨own1, es1, ck1, hB1, hS1⟩ := BtT.parts hT
    have hT1 := (BtS.of_ext (own := own) (bm := bm) hEw3).trans hS1
    obtain ⟨o41, h44⟩ := hS1.out h43 o4 m4
    obtain ⟨o101, h104⟩ := hS1.out h103 o10 m10
    rcases hgo with ⟨e0, eR⟩ | ⟨n0, s0, e0, G0, L0, D0, hgo⟩
    · rw [eR, e0]
      rw [e0] at hr
      dsimp only at hr
      subst hr
      rw [errV2]
      clear ih hbv2 hbv3
      refine de_ ?_
      refine xn_ fun v5 hE5 hs5 => ?_
      refine w_ fun d => ?_
      exact ⟨rfl, (hT1.to hB1).ext ext_⟩
    rw [e0] at hr hB1
    dsimp only at hr hB1
    subst hr
    rw [errV0]
    refine de_ ?_
    refine xn_ fun v5 hE5 hs5 => ?_
    have hB5 := hB1.ext hE5
    have h45 := hE5.at h44
    have h105 := hE5.at h104
    have l45 := lt_of_heap h45
    have l105 := lt_of_heap h105
    have hT5 := hT1.ext hE5
    clear hbv2 hbv3 h42 h102 l42 l102 h43 h103 hEw2 hEw3 hE3 hB1 hT1 hS1 hT h44 h104 hE5 hs5
    refine w_ fun d => ?_
    refine s_draw (XD_ext ?_)
    refine de_ ?_
    refine xe2w fun v6 hE6 => ?_
    have hB6 := hB5.ext hE6
    have h46 := hE6.at h45
    have h106 := hE6.at h105
    refine krA ?_
    refine ke ?_
    rw [show (i : Int) + 1 = ((i + 1 : Nat) : Int) by omega]
    rw [← L0.ord] at hi1
    refine (ih own1 v6 s0 es1 ck1 (cofF f x true) (i + 1) hB6 G0 (by omega) (by omega) hi1).mono ?_
    rintro r v7 ⟨hr, hT⟩
    obtain ⟨own2, es2, ck2, hB2, hS2⟩ := BtT.parts hT
    have hT2 := (hT5.ext hE6).trans hS2
    obtain ⟨o42, h47⟩ := hS2.out h46 o41 m4
    obtain ⟨o102, h107⟩ := hS2.out h106 o101 m10
    rcases hgo with ⟨e1, eR⟩ | ⟨n1, s1, e1, G1, L1, D1, hgo⟩
    · rw [eR, e1]
      rw [e1] at hr
      dsimp only at hr
      subst hr
      rw [errV2]
      clear ih hB5 hB6
      refine de_ ?_
      refine xn_ fun v8 hE8 hs8 => ?_
      refine w_ fun d => ?_
      exact ⟨rfl, (hT2.to hB2).ext ext_⟩
    rw [e1] at hr hB2
    dsimp only at hr hB2
    subst hr
    rw [errV0]
    refine de_ ?_
    refine xn_ fun v8 hE8 hs8 => ?_
    have hB8 := hB2.ext hE8
    have h48 := hE8.at h47
    have h108 := hE8.at h107
    have l48 := lt_of_heap h48
    have l108 := lt_of_heap h108
    have hT8 := hT2.ext hE8
    have hb8 := hB8.hb
    have lb8 := lt_of_heap hb8
    have L01 := L0.trans L1
    have hmk := fun u (hu : Ext v8 u) => stMk_calls (v := x) ((hB8.ext hu).sti) G1 (bt_rng G1.wf (D0.mono L1)) (bt_rng G1.wf D1)
    rw [← hgo] at hmk
    have hLR : s1.Le R.2 := by rw [hgo]; exact (G1.mks _ _ _).2.1
    clear hB5 h45 h105 l45 l105 h46 h106 hB2 hT2 hS2 hT h47 h107 hE8 hs8 hE6 hT5 hB6 ih hgo e0 e1
    refine w_ fun d => ?_
    refine s_draw (XD_ext ?_)
    refine de_ ?_
    refine xe2w fun v9 hE9 => ?_
    have hB9 := hB8.ext hE9
    have h49 := hE9.at h48
    refine krA ?_
    refine ke ?_
    refine (hmk v9 hE9).mono ?_
    rintro _ v10 ⟨rfl, hTr⟩
    obtain ⟨own3, hB3, ho3, hC3⟩ := hB9.turn hLR hTr
    have hS3 : BtS own2 v9 bm own3 v10 := ⟨ho3, hC3⟩
    have hT3 := (hT8.ext hE9).trans hS3
    obtain ⟨o43, h410⟩ := hS3.out h49 o42 m4
    clear hmk
    refine de_ ?_
    refine xn_ fun va hEa hsa => ?_
    have hBa := hB3.ext hEa
    have hTa := hT3.ext hEa
    have h4a := hEa.at h410
    have hba := hBa.hb
    have hma := hBa.hm
    have l4a := lt_of_heap h4a
    have lba := lt_of_heap hba
    have lma := lt_of_heap hma
    obtain ⟨⟨Rn, Re⟩, R2⟩ := R
    dsimp only at hBa hTa hLR ⊢
    clear hB8 h48 h108 l48 l108 hb8 lb8 hE9 hB9 h49 hTr hB3 ho3 hC3 hS3 hT3 h410 hEa hsa hT8
    rcases hbl.res with ⟨e2, D2⟩ | ⟨e2, _⟩
    · dsimp only at e2 D2
      subst e2
      rw [errV0]
      have hput := hBa.put D2
      have hTp : BtS own3 va bm own3 (upd va bm (mObj fv (mput es2 f (.int .i64 Rn) ck2) (mclock es2 f ck2))) := ⟨fun _ _ => rfl, chg_⟩
      refine w_ fun d => ?_
      exact ⟨rfl, ((hTa.trans hTp).to hput).ext ext_⟩
    · cases e2
      rw [errV2]
      refine w_ fun d => ?_
      exact ⟨rfl, (hTa.to hBa).ext ext_⟩
end
end Go.Proofs.Ytpeindhocndmnaa

namespace Go.Proofs.Ytpeindhocndmnaa
open Go Go.Bx
set_option linter.unusedSimpArgs false
set_option linter.unusedVariables false
set_option maxRecDepth 100000
set_option maxHeartbeats 4000000
attribute [local irreducible] X XO XE XF XD XW thenX inX retX kN CallsR
def KnI (s : Md) (es : List (Ent (Int × Int × Int))) : Prop := ∀ x ∈ es, ∃ (n : Int) (f g h : Fun8), x.2.1 = .int .i64 n ∧ Den s x.1.1 f ∧ Den s x.1.2.1 g ∧ Den s x.1.2.2 h ∧ Den s n (iteF f g h)
theorem KnI.den {s s' : Md} {es : List (Ent (Int × Int × Int))} (h : KnI s es) (hd : ∀ n f, Den s n f → Den s' n f) : KnI s' es := fun x hx => by
  obtain ⟨n, f, g, k, h1, h2, h3, h4, h5⟩ := h x hx
  exact ⟨n, f, g, k, h1, hd _ _ h2, hd _ _ h3, hd _ _ h4, hd _ _ h5⟩
theorem KnI.put {s : Md} {es : List (Ent (Int × Int × Int))} {ck : Nat} {a b c n : Int} {f g k : Fun8} (h : KnI s es) (hI : MInv es ck) (d1 : Den s a f) (d2 : Den s b g) (d3 : Den s c k) (d : Den s n (iteF f g k)) : KnI s (mput es (a, b, c) (.int .i64 n) ck) := by
  intro x hx
  rcases mput_mem hI.keys hx with ⟨h1, _⟩ | ⟨h1, h2, _⟩
  · exact h x h1
  · refine ⟨n, f, g, k, h2, ?_, ?_, ?_, d⟩
    · rw [h1]; exact d1
    · rw [h1]; exact d2
    · rw [h1]; exact d3
theorem KnI.get {s : Md} {es : List (Ent (Int × Int × Int))} {a b c : Int} {f g k : Fun8} {v : Value} (h : KnI s es) (hg : mget es (a, b, c) = some v) (d1 : Den s a f) (d2 : Den s b g) (d3 : Den s c k) : ∃ n : Int, v = .int .i64 n ∧ Den s n (iteF f g k) := by
  obtain ⟨bb, hb⟩ := mget_some hg
  obtain ⟨n, f', g', k', h1, h2, h3, h4, h5⟩ := h _ hb
  dsimp only at h1 h2 h3 h4
  rw [h2.fn d1, h3.fn d2, h4.fn d3] at h5
  exact ⟨n, h1, h5⟩
structure IcI (own : Nat → Nat) (w : World) (p : Nat) (s : Md) (pc bm : Nat) (es : List (Ent (Int × Int × Int))) (ck : Nat) : Prop where
  sti : StI own w p s []
  hb : w.heap[pc]? = some (.cells #[.map (some bm)] 134)
  hm : w.heap[bm]? = some (mObj k3 es ck)
  inv : MInv es ck
  kn : KnI s es
  ob : own pc = 0
  om : own bm = 0
section
variable {own own' own1 : Nat → Nat} {w w' w1 w2 : World} {p pc bm ck : Nat} {s s' s2 : Md} {es : List (Ent (Int × Int × Int))} {n a b c : Int} {f g k : Fun8}
theorem IcI.ext (h : IcI own w p s pc bm es ck) (hE : Ext w w') : IcI own w' p s pc bm es ck := ⟨h.sti.ext hE, hE.at h.hb, hE.at h.hm, h.inv, h.kn, h.ob, h.om⟩
def IcT (own : Nat → Nat) (w : World) (p : Nat) (s' : Md) (pc bm : Nat) (w' : World) : Prop := ∃ own' es' ck', IcI own' w' p s' pc bm es' ck' ∧ BtS own w bm own' w'
theorem IcT.of_ext (h : IcI own w p s pc bm es ck) (hE : Ext w w') : IcT own w p s pc bm w' := ⟨own, es, ck, h.ext hE, BtS.of_ext hE⟩
theorem IcT.ext (k : IcT own w p s pc bm w1) (hE : Ext w1 w2) : IcT own w p s pc bm w2 := by
  obtain ⟨o2, e2, c2, h1, h2⟩ := k
  exact ⟨o2, e2, c2, h1.ext hE, h2.ext hE⟩
theorem IcT.trans (h : BtS own w bm own1 w1) (k : IcT own1 w1 p s pc bm w2) : IcT own w p s pc bm w2 := by
  obtain ⟨o2, e2, c2, h1, h2⟩ := k
  exact ⟨o2, e2, c2, h1, h.trans h2⟩
theorem IcI.turn (h : IcI own w p s pc bm es ck) (hd : ∀ n f, Den s n f → Den s' n f) (hT : TrI own w p s' [] w') : ∃ own', IcI own' w' p s' pc bm es ck ∧ BtS own w bm own' w' := by
  obtain ⟨o, h1, h2, h3⟩ := hT
  have hk : ∀ k, k < w.heap.size → own k = 0 → w'.heap[k]? = w.heap[k]? := fun k hk h0 => h3.heap k hk fun hf => hf h0
  have lb := lt_of_heap h.hb
  have lm := lt_of_heap h.hm
  refine ⟨o, ⟨h1, (hk _ lb h.ob).trans h.hb, (hk _ lm h.om).trans h.hm, h.inv, h.kn.den hd, (h2 _ lb).trans h.ob, (h2 _ lm).trans h.om⟩, h2, h3.mono fun k _ hk => .inl hk⟩
theorem IcI.put (h : IcI own w p s pc bm es ck) (d1 : Den s a f) (d2 : Den s b g) (d3 : Den s c k) (d : Den s n (iteF f g k)) : IcI own (upd w bm (mObj k3 (mput es (a, b, c) (.int .i64 n) ck) (mclock es (a, b, c) ck))) p s pc bm (mput es (a, b, c) (.int .i64 n) ck) (mclock es (a, b, c) ck) := by
  have lm := lt_of_heap h.hm
  have hne : pc ≠ bm := fun e => by have h1 := h.hb; rw [e, h.hm] at h1; cases h1
  have hC : Chg (fun k => k = bm) w (upd w bm (mObj k3 (mput es (a, b, c) (.int .i64 n) ck) (mclock es (a, b, c) ck))) := chg_
  exact ⟨h.sti.chg0 hC fun k hk => hk ▸ h.om, (hC.heap _ (lt_of_heap h.hb) hne).trans h.hb, upd_same lm, h.inv.put _ _, h.kn.put h.inv d1 d2 d3 d, h.ob, h.om⟩
theorem ite_easy (he : easyN a b c = some n) (w : World) : CallsR Try.prog 113 #[.pointer (some ⟨pc, 0, none⟩), .pointer (some ⟨p, 0, none⟩), .int .i64 a, .int .i64 b, .int .i64 c] w fun r w' => r = .tuple #[.int .i64 n, errV 0] ∧ Ext w w' := by
  have e1 := iteEasy_calls a b c
  rw [he] at e1
  simp only [Option.getD_some, Option.isSome_some] at e1
  refine en5 Try.func113 Try.results113 mixed [] ?_
  intro e0 h0 h1 h2 h3 h4
  refine w_ fun d => ?_
  refine qq (e1.quiet (w := w)) fun w1 hE1 hs1 => ?_
  refine w_ fun d => ?_
  exact ⟨by rw [errV0], ext_⟩
theorem ite_found (h : IcI own w p s pc bm es ck) (he : easyN a b c = none) (hg : mget es (a, b, c) = some (.int .i64 n)) : CallsR Try.prog 113 #[.pointer (some ⟨pc, 0, none⟩), .pointer (some ⟨p, 0, none⟩), .int .i64 a, .int .i64 b, .int .i64 c] w fun r w' => r = .tuple #[.int .i64 n, errV 0] ∧ Ext w w' := by
  have e1 := iteEasy_calls a b c
  rw [he] at e1
  simp only [Option.getD_none, Option.isSome_none] at e1
  obtain ⟨_, hb, hm, _, _, _, _⟩ := h
  have g1 : (mget es (a, b, c)).isSome = true := by rw [hg]; rfl
  have g2 : (mget es (a, b, c)).getD (.int .i64 0) = .int .i64 n := by rw [hg]; rfl
  clear hg he
  refine en5 Try.func113 Try.results113 mixed [] ?_
  intro e0 h0 h1 h2 h3 h4
  refine w_ fun d => ?_
  refine qq (e1.quiet (w := w)) fun w1 hE1 hs1 => ?_
  have hb1 := hE1.at hb
  have hm1 := hE1.at hm
  have lb := lt_of_heap hb1
  have lm := lt_of_heap hm1
  refine w_ fun d => ?_
  exact ⟨by rw [errV0], ext_⟩
end
end Go.Proofs.Ytpeindhocndmnaa

namespace Go.Proofs.Ytpeindhocndmnaa
open Go Go.Bx
set_option linter.unusedSimpArgs false
set_option linter.unusedVariables false
set_option maxRecDepth 100000
set_option maxHeartbeats 4000000
attribute [local irreducible] X XO XE XF XD XW thenX inX retX kN CallsR
theorem IcI.chg0 {own : Nat → Nat} {w w' : World} {p pc bm ck : Nat} {s : Md} {es : List (Ent (Int × Int × Int))} {F : Nat → Prop} (h : IcI own w p s pc bm es ck) (hC : Chg F w w') (hF : ∀ k, F k → own k = 0) (h1 : ¬ F pc) (h2 : ¬ F bm) : IcI own w' p s pc bm es ck :=
  ⟨h.sti.chg0 hC hF, (hC.heap _ (lt_of_heap h.hb) h1).trans h.hb, (hC.heap _ (lt_of_heap h.hm) h2).trans h.hm, h.inv, h.kn, h.ob, h.om⟩
theorem BtS.loc {own own1 : Nat → Nat} {w w1 w2 : World} {bm : Nat} {F : Nat → Prop} (h : BtS own w bm own1 w1) (hC : Chg F w1 w2) (hF : ∀ k, F k → w.heap.size ≤ k) : BtS own w bm own1 w2 := ⟨h.ho, h.ch.trans hC fun b hb hf => absurd (hF b hf) (by omega)⟩
theorem iteGo_calls {p pc bm : Nat} : ∀ (m : Nat) (own : Nat → Nat) (w : World) (s : Md) (es : List (Ent (Int × Int × Int))) (ck : Nat) (a b c : Int) (f g k : Fun8), IcI own w p s pc bm es ck → s.Good [] → Den s a f → Den s b g → Den s c k → nv f + nv g + nv k ≤ m →
    CallsR Try.prog 113 #[.pointer (some ⟨pc, 0, none⟩), .pointer (some ⟨p, 0, none⟩), .int .i64 a, .int .i64 b, .int .i64 c] w fun r w' => r = .tuple #[.int .i64 (s.bld (iteF f g k)).1.1, errV (s.bld (iteF f g k)).1.2] ∧ IcT own w p (s.bld (iteF f g k)).2 pc bm w' := by
  intro m
  induction m using Nat.strongRecOn with
  | _ m ih =>
  intro own w s es ck a b c f g k h G da db dc hme
  cases he : easyN a b c with
  | some n =>
    rw [G.bld_ex (easy_den G da db dc he)]
    refine (ite_easy he w).mono ?_
    rintro r w' ⟨rfl, hE⟩
    exact ⟨rfl, IcT.of_ext h hE⟩
  | none =>
  cases hg : mget es (a, b, c) with
  | some v =>
    obtain ⟨n, rfl, d⟩ := h.kn.get hg da db dc
    rw [G.bld_ex d]
    refine (ite_found h he hg).mono ?_
    rintro r w' ⟨rfl, hE⟩
    exact ⟨rfl, IcT.of_ext h hE⟩
  | none =>
  obtain ⟨hv, hd, hms⟩ := ite_step G da db dc he
  have ra := bt_rng G.wf da
  have rb := bt_rng G.wf db
  have rc := bt_rng G.wf dc
  have tp : ∀ u bb, Ext w u → u.heap[bb]? = some (.cells #[.int .i64 a, .int .i64 b, .int .i64 c] 3) → CallsR Try.prog 149 #[.pointer (some ⟨p, 0, none⟩), .slice (some ⟨bb, 0, none⟩) 3 3] u fun r u' => r = .int .i64 (topN s [a, b, c]) ∧ Ext u u' :=
    fun u bb hE hb => (iteTop_calls (l := [a, b, c]) (h.sti.ext hE) G.wf hb (by simp) (fun n hn => by
      simp only [List.mem_cons, List.not_mem_nil, or_false] at hn
      rcases hn with rfl | rfl | rfl
      · exact ra
      · exact rb
      · exact rc)).call
  generalize topN s [a, b, c] = v at hv hd hms tp
  have hsp := bld_split (f := iteF f g k) G hv (fun u hu => hd u (dep_iteF hu))
  unfold SplB at hsp
  simp only [cof_iteF] at hsp
  have hbl := G.bld (iteF f g k)
  obtain ⟨R, hR⟩ : ∃ R, s.bld (iteF f g k) = R := ⟨_, rfl⟩
  rw [hR] at hsp hbl ⊢
  clear hR
  have fa := G.side da (fun u hu => hd u (.inl hu)) hv false
  have fb := G.side db (fun u hu => hd u (.inr (.inl hu))) hv false
  have fc := G.side dc (fun u hu => hd u (.inr (.inr hu))) hv false
  have e1 := iteEasy_calls a b c
  rw [he] at e1
  simp only [Option.getD_none, Option.isSome_none] at e1
  have g1 : (mget es (a, b, c)).isSome = false := by rw [hg]; rfl
  have hb := h.hb
  have hm := h.hm
  clear hg he
  refine en5 Try.func113 Try.results113 mixed [] ?_
  intro e0 h0 h1 h2 h3 h4
  refine w_ fun d => ?_
  refine qq (e1.quiet (w := w)) fun w1 hE1 hs1 => ?_
  have hb1 := hE1.at hb
  have hm1 := hE1.at hm
  have lb := lt_of_heap hb1
  have lm := lt_of_heap hm1
  refine w_ fun d => ?_
  refine callQ (tp _ _ ext_ (hA rfl)) fun w2 hE2 hs2 => ?_
  refine w_ fun d => ?_
  refine at_w fun u hu => ?_
  have h14 : u.heap[w1.heap.size]? = some (.cells #[.int .i64 a, .int .i64 b, .int .i64 c] 182) := by rw [hu]; exact Ext.at (w := w2) ext_ (hE2.at (hA rfl))
  have h18 : u.heap[w2.heap.size]? = some (.cells #[.int .i64 0, .int .i64 0] 184) := by rw [hu]; exact hA rfl
  have hE12 : Ext w1 w2 := Ext.trans (by exact ext_) hE2
  have hE2u : Ext w2 u := by rw [hu]; exact ext_
  have hEu : Ext w u := (hE1.trans hE12).trans hE2u
  have hIu := h.ext hEu
  have z1 := hE1.size
  have z2 := (hE1.trans hE12).size
  have own0 : ∀ k, w.heap.size ≤ k → own k = 0 := fun k hk => by
    cases ho : own k with
    | zero => rfl
    | succ q => have := h.sti.lt k (by omega); omega
  obtain ⟨b14, hb14⟩ : ∃ b, w1.heap.size = b := ⟨_, rfl⟩
  obtain ⟨b18, hb18⟩ : ∃ b, w2.heap.size = b := ⟨_, rfl⟩
  rw [hb14] at h14 z1 ⊢
  rw [hb18] at h18 z2 ⊢
  have o14 := own0 _ z1
  have o18 := own0 _ z2
  have lbm := lt_of_heap hm
  have lpc := lt_of_heap hb
  have n14 : b14 ≠ bm := by omega
  have n18 : b18 ≠ bm := by omega
  have p18 : ¬ pc = b18 := by omega
  have m18 : ¬ bm = b18 := by omega
  have q18 : b14 ≠ b18 := fun e => by rw [e, h18] at h14; cases h14
  have l18 := lt_of_heap h18
  have sa : Quiet Try.prog 150 #[.pointer (some ⟨p, 0, none⟩), .int .i64 a, .int .i64 v, .int .i64 0] u (.int .i64 (s.side a v false)) := iteSide_calls hIu.sti G.wf a v ra false
  have sb : Quiet Try.prog 150 #[.pointer (some ⟨p, 0, none⟩), .int .i64 b, .int .i64 v, .int .i64 0] u (.int .i64 (s.side b v false)) := iteSide_calls hIu.sti G.wf b v rb false
  have sc : Quiet Try.prog 150 #[.pointer (some ⟨p, 0, none⟩), .int .i64 c, .int .i64 v, .int .i64 0] u (.int .i64 (s.side c v false)) := iteSide_calls hIu.sti G.wf c v rc false
  clear hu tp hE1 hE2 hs1 hs2 hb1 hm1 lb lm e1 g1 hE12 hE2u hb14 hb18 own0 hb hm h
  refine un_ 3 ?_
  refine w_ fun d => ?_
  refine qq sa fun w3 hE3 hs3 => ?_
  refine w_ fun d => ?_
  refine qq sb fun w4 hE4 hs4 => ?_
  refine w_ fun d => ?_
  refine qq sc fun w5 hE5 hs5 => ?_
  have hEu5 : Ext u w5 := (hE3.trans hE4).trans hE5
  refine w_ fun d => ?_
  refine (ih _ (Nat.lt_of_lt_of_le (hms false) hme) own w5 s es ck _ _ _ _ _ _ (hIu.ext hEu5) G fa fb fc (Nat.le_refl _)).mono ?_
  rintro r w6 ⟨hr, own1, es1, ck1, hI1, hS1⟩
  obtain ⟨o141, h146⟩ := hS1.out (hEu5.at h14) o14 n14
  obtain ⟨o181, h186⟩ := hS1.out (hEu5.at h18) o18 n18
  have hT6 := (BtS.of_ext (own := own) (bm := bm) (hEu.trans hEu5)).trans hS1
  have l186 := lt_of_heap h186
  rcases hsp with ⟨e0, eR⟩ | ⟨n0, s0, e0, G0, L0, D0, hsp⟩
  · rw [eR, e0]
    rw [e0] at hr
    dsimp only at hr
    subst hr
    rw [errV2]
    clear ih
    refine w_ fun d => ?_
    exact ⟨rfl, _, _, _, hI1, hT6⟩
  rw [e0] at hr hI1
  dsimp only at hr hI1
  subst hr
  rw [errV0]
  have hC7 : Chg (fun k => k = b18) w6 (upd w6 b18 (.cells #[.int .i64 n0, .int .i64 0] 184)) := chg_
  have hI7 := hI1.chg0 hC7 (fun k hk => hk ▸ o181) p18 m18
  have h147 := (hC7.heap _ (lt_of_heap h146) q18).trans h146
  have h187 : (upd w6 b18 (.cells #[.int .i64 n0, .int .i64 0] 184)).heap[b18]? = some (.cells #[.int .i64 n0, .int .i64 0] 184) := upd_same l186
  have hT7 := hT6.loc hC7 fun k hk => hk ▸ z2
  have ga := G0.side (da.mono L0) (fun u hu => by rw [L0.ord]; exact hd u (.inl hu)) hv true
  have gb := G0.side (db.mono L0) (fun u hu => by rw [L0.ord]; exact hd u (.inr (.inl hu))) hv true
  have gc := G0.side (dc.mono L0) (fun u hu => by rw [L0.ord]; exact hd u (.inr (.inr hu))) hv true
  have sa2 : Quiet Try.prog 150 #[.pointer (some ⟨p, 0, none⟩), .int .i64 a, .int .i64 v, .int .i64 1] _ (.int .i64 (s0.side a v true)) := iteSide_calls hI7.sti G0.wf a v ra true
  have sb2 : Quiet Try.prog 150 #[.pointer (some ⟨p, 0, none⟩), .int .i64 b, .int .i64 v, .int .i64 1] _ (.int .i64 (s0.side b v true)) := iteSide_calls hI7.sti G0.wf b v rb true
  have sc2 : Quiet Try.prog 150 #[.pointer (some ⟨p, 0, none⟩), .int .i64 c, .int .i64 v, .int .i64 1] _ (.int .i64 (s0.side c v true)) := iteSide_calls hI7.sti G0.wf c v rc true
  clear sa sb sc hI1 hS1 hC7 hT6 h14 h18 hIu hE3 hE4 hE5 hEu5 hs3 hs4 hs5 h146
  refine w_ fun d => ?_
  refine qq sa2 fun w7 hE7 hs7 => ?_
  refine w_ fun d => ?_
  refine qq sb2 fun w8 hE8 hs8 => ?_
  refine w_ fun d => ?_
  refine qq sc2 fun w9 hE9 hs9 => ?_
  have hE69 := (hE7.trans hE8).trans hE9
  refine w_ fun d => ?_
  refine (ih _ (Nat.lt_of_lt_of_le (hms true) hme) own1 w9 s0 es1 ck1 _ _ _ _ _ _ (hI7.ext hE69) G0 ga gb gc (Nat.le_refl _)).mono ?_
  rintro r wa ⟨hr, own2, es2, ck2, hI2, hS2⟩
  obtain ⟨o142, h14a⟩ := hS2.out (hE69.at h147) o141 n14
  obtain ⟨o182, h18a⟩ := hS2.out (hE69.at h187) o181 n18
  have hTa := (hT7.ext hE69).trans hS2
  have l18a := lt_of_heap h18a
  rcases hsp with ⟨e1, eR⟩ | ⟨n1, s1, e1, G1, L1, D1, hsp⟩
  · rw [eR, e1]
    rw [e1] at hr
    dsimp only at hr
    subst hr
    rw [errV2]
    clear ih
    refine w_ fun d => ?_
    exact ⟨rfl, _, _, _, hI2, hTa⟩
  rw [e1] at hr hI2
  dsimp only at hr hI2
  subst hr
  rw [errV0]
  have hCb : Chg (fun k => k = b18) wa (upd wa b18 (.cells #[.int .i64 n0, .int .i64 n1] 184)) := chg_
  have hIb := hI2.chg0 hCb (fun k hk => hk ▸ o182) p18 m18
  have h14b := (hCb.heap _ (lt_of_heap h14a) q18).trans h14a
  have h18b : (upd wa b18 (.cells #[.int .i64 n0, .int .i64 n1] 184)).heap[b18]? = some (.cells #[.int .i64 n0, .int .i64 n1] 184) := upd_same l18a
  have l18b := lt_of_heap h18b
  have hTb := hTa.loc hCb fun k hk => hk ▸ z2
  have mk := stMk_calls (v := v) hIb.sti G1 (bt_rng G1.wf (D0.mono L1)) (bt_rng G1.wf D1)
  rw [← hsp] at mk
  have hLR : s1.Le R.2 := by rw [hsp]; exact (G1.mks _ _ _).2.1
  have L01 := (L0.trans L1).trans hLR
  clear ih sa2 sb2 sc2 hI2 hS2 hCb hTa hI7 hT7 h147 h187 hE7 hE8 hE9 hE69 hs7 hs8 hs9 h14a h186 l186 hsp e0 e1
  refine w_ fun d => ?_
  refine mk.mono ?_
  rintro _ wc ⟨rfl, hTr⟩
  obtain ⟨own3, hI3, hS3⟩ := hIb.turn (fun n f d => d.mono hLR) hTr
  have hTc := hTb.trans hS3
  obtain ⟨o143, h14c⟩ := hS3.out h14b o142 n14
  have l14c := lt_of_heap h14c
  have hbc := hI3.hb
  have hmc := hI3.hm
  have lbc := lt_of_heap hbc
  have lmc := lt_of_heap hmc
  obtain ⟨⟨Rn, Re⟩, R2⟩ := R
  dsimp only at hI3 hLR L01 ⊢
  clear mk hTr hIb hTb hS3 h14b h18b l18b
  rcases hbl.res with ⟨e2, D2⟩ | ⟨e2, _⟩
  · dsimp only at e2 D2
    subst e2
    rw [errV0]
    have hput := hI3.put (da.mono L01) (db.mono L01) (dc.mono L01) D2
    have hTp : BtS own3 wc bm own3 (upd wc bm (mObj k3 (mput es2 (a, b, c) (.int .i64 Rn) ck2) (mclock es2 (a, b, c) ck2))) := ⟨fun _ _ => rfl, chg_⟩
    refine w_ fun d => ?_
    exact ⟨rfl, IcT.ext ⟨_, _, _, hput, hTc.trans hTp⟩ ext_⟩
  · cases e2
    rw [errV2]
    refine w_ fun d => ?_
    exact ⟨rfl, IcT.ext ⟨_, _, _, hI3, hTc⟩ ext_⟩
end Go.Proofs.Ytpeindhocndmnaa

namespace Go.Bx
open Go
set_option linter.unusedSimpArgs false
set_option linter.unusedVariables false
section
variable {ord : List Int} {l k ns ms : List Fun8} {f g : Fun8} {v : Int} {b : Bool}
theorem nodes_of : ∀ (n : Nat) {keys work : List Fun8}, wts work = n → Dfs ord l keys work → ∃ ns, IsNodes ord l ns ∧ ns.length ≤ keys.length + n := by
  intro n
  induction n using Nat.strongRecOn with
  | _ n ih =>
    intro keys work hn h
    rcases List.eq_nil_or_concat work with rfl | ⟨ws, f, rfl⟩
    · exact ⟨_, h.done, by omega⟩
    · rw [List.concat_eq_append] at h hn
      have hm := Dfs.meas (ord := ord) (f := f) (ws := ws)
      by_cases hk : f ∈ keys ∨ supF f = 0
      · obtain ⟨ns, h1, h2⟩ := ih _ (by omega) rfl (h.skip hk)
        exact ⟨ns, h1, by omega⟩
      · obtain ⟨ns, h1, h2⟩ := ih _ (by omega) rfl (h.go (fun h => hk (.inl h)) (fun h => hk (.inr h)))
        rw [List.length_append, List.length_singleton] at h2
        exact ⟨ns, h1, by omega⟩
theorem nodes_ex (ord : List Int) (l : List Fun8) : ∃ ns, IsNodes ord l ns := by
  obtain ⟨ns, h, _⟩ := nodes_of (ord := ord) (l := l) _ rfl Dfs.init
  exact ⟨ns, h⟩
theorem Rch.mono (h : Rch ord l f) (hl : ∀ g ∈ l, Rch ord k g) : Rch ord k f := by
  induction h with
  | base h => exact hl _ h
  | step _ h ih => exact .step ih h
theorem Rch.sub (h : Rch ord l f) (hl : ∀ g ∈ l, g ∈ k) : Rch ord k f := h.mono fun g hg => .base (hl g hg)
theorem rch_app : Rch ord (l ++ k) f ↔ Rch ord l f ∨ Rch ord k f := by
  constructor
  · intro h
    induction h with
    | base h => exact (List.mem_append.1 h).imp .base .base
    | step _ h ih => exact ih.imp (fun i => .step i h) (fun i => .step i h)
  · rintro (h | h)
    · exact h.sub fun g hg => by simp [hg]
    · exact h.sub fun g hg => by simp [hg]
theorem size_app : sizeF ord (l ++ k) ≤ sizeF ord l + sizeF ord k := by
  obtain ⟨ns, hn⟩ := nodes_ex ord l
  obtain ⟨ms, hm⟩ := nodes_ex ord k
  obtain ⟨os, ho⟩ := nodes_ex ord (l ++ k)
  rw [← hn.size, ← hm.size, ← ho.size, ← List.length_append]
  refine sub_len ho.nodup fun f hf => ?_
  obtain ⟨h1, h2⟩ := (ho.mem f).1 hf
  rw [List.mem_append]
  exact (rch_app.1 h1).imp (fun h => (hn.mem f).2 ⟨h, h2⟩) (fun h => (hm.mem f).2 ⟨h, h2⟩)
theorem dep_set {n : Nat} (hn : n < 8) (h : depF f n = false) {x : Nat} (hx : x < 256) : f.getLsbD x = f.getLsbD (setB x n b) := by
  have he : cofF f n false = cofF f n true := by rw [depF_def] at h; simpa using h
  have e0 := cofF_bit (f := f) (b := false) hn hx
  have e1 := cofF_bit (f := f) (b := true) hn hx
  rw [he, e1] at e0
  have hs := setB_self_all n hn x hx
  cases ht : x.testBit n <;> rw [ht] at hs <;> cases b
  · rw [hs]
  · rw [e0, hs]
  · rw [← e0, hs]
  · rw [hs]
theorem cof_same (h : depF f v = false) : cofF f v b = f := by
  by_cases hv : 0 ≤ v ∧ v < 8
  · obtain ⟨n, rfl, hn⟩ := nat8 hv
    exact cof_ext fun x hx => by rw [cofF_bit hn hx, ← dep_set hn h hx]
  · exact cofF_out hv
theorem cof_constS {c : Bool} : cofF (constF b) v c = constF b := by
  by_cases hv : 0 ≤ v ∧ v < 8
  · obtain ⟨n, rfl, hn⟩ := nat8 hv
    exact cof_ext fun x hx => by rw [cofF_bit hn hx, bt_const hx, bt_const (setB_lt hx hn)]
  · exact cofF_out hv
theorem sup_constF : supF (constF b) = 0 := supF_zero.2 fun v => by rw [depF_def, cof_constS, cof_constS]; simp
theorem size_zero : sizeF ord [f] = 0 ↔ supF f = 0 := by
  obtain ⟨ns, hn⟩ := nodes_ex ord [f]
  rw [← hn.size]
  constructor
  · intro h
    by_cases hs : supF f = 0
    · exact hs
    · have := (hn.mem f).2 ⟨.base (by simp), hs⟩
      rw [List.eq_nil_of_length_eq_zero h] at this; cases this
  · intro hs
    have key : ∀ g, Rch ord [f] g → g = f := fun g hg => by
      induction hg with
      | base h => simpa using h
      | step _ h ih => subst ih; rw [kids_flat hs] at h; cases h
    cases ns with
    | nil => rfl
    | cons g ns =>
      have := (hn.mem g).1 (by simp)
      rw [key g this.1] at this
      exact absurd hs this.2
theorem cof_not : cofF (notF f) v b = notF (cofF f v b) := by
  by_cases hv : 0 ≤ v ∧ v < 8
  · obtain ⟨n, rfl, hn⟩ := nat8 hv
    exact cof_ext fun x hx => by rw [cofF_bit hn hx, bt_not hx, bt_not (setB_lt hx hn), cofF_bit hn hx]
  · rw [cofF_out hv, cofF_out hv]
theorem not_inj (h : notF f = notF g) : f = g := by rw [← notF_notF (f := f), h, notF_notF]
theorem dep_not : depF (notF f) v = depF f v := by
  rw [depF_def, depF_def, cof_not, cof_not]
  congr 1
  exact decide_eq_decide.2 ⟨not_inj, fun h => by rw [h]⟩
theorem top_not : topF ord (notF f) = topF ord f := by
  unfold topF
  rw [show depF (notF f) = depF f from funext fun v => dep_not]
theorem kids_not : kids ord (notF f) = (kids ord f).map notF := by
  unfold kids
  rw [top_not]
  split
  · simp [cof_not]
  · rfl
theorem sup_not : supF (notF f) = 0 ↔ supF f = 0 := by
  rw [supF_zero, supF_zero]
  exact ⟨fun h v => by rw [← dep_not]; exact h v, fun h v => by rw [dep_not]; exact h v⟩
theorem rch_not (h : Rch ord [f] g) : Rch ord [notF f] (notF g) := by
  induction h with
  | base h => rw [List.mem_singleton] at h; subst h; exact .base (by simp)
  | step _ h ih => exact .step ih (by rw [kids_not]; exact List.mem_map_of_mem h)
theorem size_not : sizeF ord [notF f] = sizeF ord [f] := by
  have key : ∀ f, sizeF ord [f] ≤ sizeF ord [notF f] := fun f => by
    obtain ⟨ns, hn⟩ := nodes_ex ord [f]
    obtain ⟨ms, hm⟩ := nodes_ex ord [notF f]
    rw [← hn.size, ← hm.size]
    have := sub_len (l := ns.map notF) (m := ms) ?_ ?_
    · rwa [List.length_map] at this
    · exact List.pairwise_map.2 (hn.nodup.imp fun h e => h (not_inj e))
    · intro x hx
      obtain ⟨g, hg, rfl⟩ := List.mem_map.1 hx
      have := (hn.mem g).1 hg
      exact (hm.mem _).2 ⟨rch_not this.1, fun h => this.2 (sup_not.1 h)⟩
  refine Nat.le_antisymm ?_ (key f)
  have := key (notF f)
  rwa [notF_notF] at this
theorem nv_rch (h : Rch ord (kids ord f) g) : nv g < nv f := by
  have key : ∀ {a c : Fun8}, c ∈ kids ord a → nv c < nv a := fun {a c} hc => by
    unfold kids at hc
    split at hc
    · rename_i ht
      have hd := topF_dep ht
      simp only [List.mem_cons, List.not_mem_nil, or_false] at hc
      rcases hc with rfl | rfl <;> exact nv_cof hd
    · cases hc
  induction h with
  | base h => exact key h
  | step _ h ih => exact Nat.lt_trans (key h) ih
theorem size_sides (h : 0 ≤ topF ord f) : sizeF ord [f] = sizeF ord (kids ord f) + 1 := by
  obtain ⟨ns, hn⟩ := nodes_ex ord [f]
  have hs : supF f ≠ 0 := fun hs => by
    have := supF_zero.1 hs (topF ord f)
    rw [topF_dep h] at this; cases this
  have hf : f ∈ ns := (hn.mem f).2 ⟨.base (by simp), hs⟩
  have hr : ∀ g, Rch ord [f] g ↔ g = f ∨ Rch ord (kids ord f) g := fun g => by
    constructor
    · intro hg
      induction hg with
      | base h => exact .inl (by simpa using h)
      | step _ hk ih =>
        rcases ih with rfl | ih
        · exact .inr (.base hk)
        · exact .inr (.step ih hk)
    · rintro (rfl | hg)
      · exact .base (by simp)
      · exact hg.mono fun c hc => .step (.base (by simp)) hc
  have hI : IsNodes ord (kids ord f) (ns.erase f) := by
    refine ⟨hn.nodup.erase f, fun g => ?_⟩
    rw [hn.nodup.mem_erase_iff, hn.mem, hr]
    constructor
    · rintro ⟨h1, h2, h3⟩
      exact ⟨h2.resolve_left h1, h3⟩
    · rintro ⟨h1, h2⟩
      exact ⟨fun e => by subst e; have := nv_rch h1; omega, .inr h1, h2⟩
  rw [← hn.size, ← hI.size, List.length_erase_of_mem hf]
  have := List.length_pos_of_mem hf
  omega
end
end Go.Bx

namespace Go.Bx
open Go
set_option linter.unusedSimpArgs false
set_option linter.unusedVariables false
structure AllOnce (ord : List Int) : Prop where
  len : ord.length = 8
  all : ∀ v : Nat, v < 8 → ∃ j, j < 8 ∧ ord[j]? = some (v : Int)
  rng : ∀ j : Nat, j < 8 → ∃ v : Nat, v < 8 ∧ ord[j]? = some (v : Int)
  once : ∀ (i j : Nat) (v : Int), ord[i]? = some v → ord[j]? = some v → i = j
section
variable {ord : List Int} {f g : Fun8} {v : Int} {b : Bool} {i j : Nat}
def ov (ord : List Int) (j : Nat) : Int := ord.getD j 0
def lev (ord : List Int) (f : Fun8) : Nat → List Fun8
  | 0 => [f]
  | j + 1 => (lev ord f j).flatMap fun g => [cofF g (ov ord j) false, cofF g (ov ord j) true]
theorem lev_len : ∀ j, (lev ord f j).length = 2 ^ j
  | 0 => rfl
  | j + 1 => by
    have key : ∀ l : List Fun8, (l.flatMap fun g => [cofF g (ov ord j) false, cofF g (ov ord j) true]).length = l.length * 2 := fun l => by
      induction l with
      | nil => rfl
      | cons a l ih => rw [List.flatMap_cons, List.length_append, ih]; simp; omega
    rw [lev, key, lev_len j, Nat.pow_succ]
theorem lev_dep : ∀ {j : Nat} {g : Fun8}, g ∈ lev ord f j → ∀ i, i < j → depF g (ov ord i) = false
  | 0, _, _, i, hi => by omega
  | j + 1, g, hg, i, hi => by
    rw [lev, List.mem_flatMap] at hg
    obtain ⟨h, hh, hg⟩ := hg
    simp only [List.mem_cons, List.not_mem_nil, or_false] at hg
    by_cases e : i = j
    · subst e
      rcases hg with rfl | rfl <;> exact dep_cof
    · have := lev_dep hh i (by omega)
      rcases hg with rfl | rfl
      · cases hd : depF (cofF h (ov ord j) false) (ov ord i)
        · rfl
        · rw [dep_of_cof hd] at this; cases this
      · cases hd : depF (cofF h (ov ord j) true) (ov ord i)
        · rfl
        · rw [dep_of_cof hd] at this; cases this
theorem lev_stay (h : g ∈ lev ord f j) (hd : depF g (ov ord j) = false) : g ∈ lev ord f (j + 1) := by
  rw [lev, List.mem_flatMap]
  exact ⟨g, h, by rw [cof_same hd]; simp⟩
theorem lev_up (h : g ∈ lev ord f j) : ∀ k, (∀ i, j ≤ i → i < j + k → depF g (ov ord i) = false) → g ∈ lev ord f (j + k)
  | 0, _ => h
  | k + 1, hd => lev_stay (lev_up h k fun i h1 h2 => hd i h1 (by omega)) (hd (j + k) (by omega) (by omega))
theorem find_first {p : Int → Bool} : ∀ {l : List Int} {x : Int}, l.find? p = some x → ∃ i : Nat, l[i]? = some x ∧ ∀ (k : Nat) (y : Int), k < i → l[k]? = some y → p y = false
  | [], _, h => by cases h
  | a :: l, x, h => by
    cases ha : p a
    · rw [List.find?_cons_of_neg (by simp [ha])] at h
      obtain ⟨i, h1, h2⟩ := find_first h
      refine ⟨i + 1, by simpa using h1, fun k y hk hy => ?_⟩
      cases k with
      | zero => simp at hy; subst hy; exact ha
      | succ k => exact h2 k y (by omega) (by simpa using hy)
    · rw [List.find?_cons_of_pos ha] at h
      cases h
      exact ⟨0, rfl, fun k y hk => by omega⟩
theorem top_at (h : 0 ≤ topF ord f) : ∃ i, ord[i]? = some (topF ord f) ∧ ∀ k, k < i → depF f (ov ord k) = false := by
  unfold topF at h ⊢
  cases hf : ord.find? (depF f) with
  | none => rw [hf] at h; simp at h
  | some x =>
    obtain ⟨i, h1, h2⟩ := find_first hf
    refine ⟨i, h1, fun k hk => ?_⟩
    have hi := (List.getElem?_eq_some_iff.1 h1).1
    have hkl : k < ord.length := by omega
    refine h2 k _ hk ?_
    rw [ov, List.getD_eq_getElem?_getD, List.getElem?_eq_getElem hkl]; rfl
theorem rch_lev (ho : ord.length = 8) (h : Rch ord [f] g) : ∃ j, j ≤ 8 ∧ g ∈ lev ord f j := by
  induction h with
  | base h => rw [List.mem_singleton] at h; subst h; exact ⟨0, by omega, by simp [lev]⟩
  | @step g g' _ hk ih =>
    obtain ⟨j, hj, hg⟩ := ih
    unfold kids at hk
    split at hk
    · rename_i ht
      obtain ⟨i, hi, hd⟩ := top_at ht
      have hil := (List.getElem?_eq_some_iff.1 hi).1
      have hov : ov ord i = topF ord g := by rw [ov, List.getD_eq_getElem?_getD, hi]; rfl
      have hji : j ≤ i := by
        refine Nat.le_of_not_lt fun hl => ?_
        have := lev_dep hg i hl
        rw [hov, topF_dep ht] at this; cases this
      have hgi : g ∈ lev ord f i := by
        have := lev_up hg (i - j) fun k h1 h2 => hd k (by omega)
        rwa [show j + (i - j) = i by omega] at this
      refine ⟨i + 1, by omega, ?_⟩
      rw [lev, List.mem_flatMap]
      exact ⟨g, hgi, by rw [hov]; exact hk⟩
    · cases hk
def rep (p q : Nat) (a b : Bool) : Nat := (if a then 2 ^ p else 0) + (if b then 2 ^ q else 0)
theorem rep_all : ∀ p : Nat, p < 8 → ∀ q : Nat, q < 8 → p ≠ q → ∀ a b : Bool, rep p q a b < 256 ∧ (rep p q a b).testBit p = a ∧ (rep p q a b).testBit q = b := by decide +kernel
def tblF (p q : Nat) (n : Nat) : Fun8 := ofRows fun x => n.testBit ((x.testBit p).toNat + 2 * (x.testBit q).toNat)
theorem bits_ext {x y : Nat} (hx : x < 256) (hy : y < 256) (h : ∀ v, v < 8 → x.testBit v = y.testBit v) : x = y := by
  refine Nat.eq_of_testBit_eq fun i => ?_
  by_cases hi : i < 8
  · exact h i hi
  · have hp : 256 ≤ 2 ^ i := by
      have : 2 ^ 8 ≤ 2 ^ i := Nat.pow_le_pow_right (by decide) (by omega)
      exact this
    rw [Nat.testBit_lt_two_pow (by omega), Nat.testBit_lt_two_pow (by omega)]
theorem dep_agree {x y : Nat} (hx : x < 256) (hy : y < 256) (h : ∀ v : Nat, v < 8 → depF f v = true → x.testBit v = y.testBit v) : f.getLsbD x = f.getLsbD y := by
  have key : ∀ k : Nat, k ≤ 8 → ∃ z, z < 256 ∧ f.getLsbD z = f.getLsbD x ∧ (∀ v, v < k → z.testBit v = y.testBit v) ∧ ∀ v, k ≤ v → v < 8 → z.testBit v = x.testBit v := by
    intro k
    induction k with
    | zero => intro _; exact ⟨x, hx, rfl, fun v hv => by omega, fun v _ _ => rfl⟩
    | succ k ih =>
      intro hk
      obtain ⟨z, hz, h1, h2, h3⟩ := ih (by omega)
      cases hd : depF f k
      · refine ⟨setB z k (y.testBit k), setB_lt hz (by omega), by rw [← dep_set (by omega) hd hz, h1], fun v hv => ?_, fun v hv hv8 => ?_⟩
        · by_cases e : v = k
          · subst e; exact setB_bit_all v (by omega) z hz _
          · rw [setB_other_all k (by omega) v (by omega) (Ne.symm e) z hz]; exact h2 v (by omega)
        · rw [setB_other_all k (by omega) v hv8 (by omega) z hz]; exact h3 v (by omega) hv8
      · refine ⟨z, hz, h1, fun v hv => ?_, fun v hv hv8 => h3 v (by omega) hv8⟩
        by_cases e : v = k
        · subst e; rw [h3 v (Nat.le_refl _) (by omega)]; exact h v (by omega) hd
        · exact h2 v (by omega)
  obtain ⟨z, hz, h1, h2, _⟩ := key 8 (by omega)
  rw [← h1, bits_ext hz hy h2]
theorem tbl_bits : ∀ c0 c1 c2 c3 : Bool, ∀ a b : Bool, (c0.toNat + 2 * c1.toNat + 4 * c2.toNat + 8 * c3.toNat).testBit (a.toNat + 2 * b.toNat) = (if a then (if b then c3 else c1) else (if b then c2 else c0)) := by decide
theorem two_var {p q : Nat} (hp : p < 8) (hq : q < 8) (hne : p ≠ q) (h : ∀ v : Nat, v < 8 → v ≠ p → v ≠ q → depF f v = false) (hs : supF f ≠ 0) : ∃ n, 1 ≤ n ∧ n ≤ 14 ∧ f = tblF p q n := by
  have hr := rep_all p hp q hq hne
  have hbit : ∀ x, x < 256 → f.getLsbD x = f.getLsbD (rep p q (x.testBit p) (x.testBit q)) := fun x hx => by
    have := hr (x.testBit p) (x.testBit q)
    refine dep_agree hx this.1 fun v hv hd => ?_
    by_cases e1 : v = p
    · subst e1; exact this.2.1.symm
    · by_cases e2 : v = q
      · subst e2; exact this.2.2.symm
      · rw [h v hv e1 e2] at hd; cases hd
  generalize hc0 : f.getLsbD (rep p q false false) = c0
  generalize hc1 : f.getLsbD (rep p q true false) = c1
  generalize hc2 : f.getLsbD (rep p q false true) = c2
  generalize hc3 : f.getLsbD (rep p q true true) = c3
  have he : f = tblF p q (c0.toNat + 2 * c1.toNat + 4 * c2.toNat + 8 * c3.toNat) := by
    refine cof_ext fun x hx => ?_
    rw [tblF, bt_rows hx, tbl_bits, hbit x hx]
    cases x.testBit p <;> cases x.testBit q <;> simp [hc0, hc1, hc2, hc3]
  refine ⟨_, ?_, ?_, he⟩
  · refine Nat.pos_of_ne_zero fun h0 => hs ?_
    rw [h0] at he
    have : f = constF false := by rw [he]; refine cof_ext fun x hx => ?_; rw [tblF, bt_rows hx, bt_const hx]; simp
    rw [this]; exact sup_constF
  · refine Nat.le_of_not_lt fun h0 => hs ?_
    have h15 : c0.toNat + 2 * c1.toNat + 4 * c2.toNat + 8 * c3.toNat = 15 := by
      exact (by decide : ∀ c0 c1 c2 c3 : Bool, 14 < c0.toNat + 2 * c1.toNat + 4 * c2.toNat + 8 * c3.toNat → c0.toNat + 2 * c1.toNat + 4 * c2.toNat + 8 * c3.toNat = 15) c0 c1 c2 c3 h0
    rw [h15] at he
    have : f = constF true := by
      rw [he]; refine cof_ext fun x hx => ?_; rw [tblF, bt_rows hx, bt_const hx]
      cases x.testBit p <;> cases x.testBit q <;> decide
    rw [this]; exact sup_constF
theorem size_77 (ho : AllOnce ord) : sizeF ord [f] ≤ 77 := by
  obtain ⟨ns, hn⟩ := nodes_ex ord [f]
  obtain ⟨p, hp, hp'⟩ := ho.rng 6 (by decide)
  obtain ⟨q, hq, hq'⟩ := ho.rng 7 (by decide)
  have hne : p ≠ q := fun e => by
    subst e
    exact absurd (ho.once 6 7 _ hp' hq') (by decide)
  rw [← hn.size]
  have hlen : (lev ord f 0 ++ (lev ord f 1 ++ (lev ord f 2 ++ (lev ord f 3 ++ (lev ord f 4 ++ (lev ord f 5 ++ (List.range 14).map fun n => tblF p q (n + 1))))))).length = 77 := by
    simp only [List.length_append, lev_len, List.length_map, List.length_range]
  rw [← hlen]
  refine sub_len hn.nodup fun g hg => ?_
  obtain ⟨h1, h2⟩ := (hn.mem g).1 hg
  obtain ⟨j, hj, hl⟩ := rch_lev ho.len h1
  simp only [List.mem_append]
  by_cases h6 : j ≤ 5
  · rcases (by omega : j = 0 ∨ j = 1 ∨ j = 2 ∨ j = 3 ∨ j = 4 ∨ j = 5) with rfl | rfl | rfl | rfl | rfl | rfl
    · exact .inl hl
    · exact .inr (.inl hl)
    · exact .inr (.inr (.inl hl))
    · exact .inr (.inr (.inr (.inl hl)))
    · exact .inr (.inr (.inr (.inr (.inl hl))))
    · exact .inr (.inr (.inr (.inr (.inr (.inl hl)))))
  · have hd := lev_dep hl
    obtain ⟨n, n1, n2, hgn⟩ := two_var hp hq hne (f := g) (fun v hv e1 e2 => by
      obtain ⟨i, hi, hiv⟩ := ho.all v hv
      have hov : ov ord i = v := by rw [ov, List.getD_eq_getElem?_getD, hiv]; rfl
      have : i < 6 := by
        rcases (by omega : i < 6 ∨ i = 6 ∨ i = 7) with h | rfl | rfl
        · exact h
        · rw [hp'] at hiv; injection hiv with h; omega
        · rw [hq'] at hiv; injection hiv with h; omega
      rw [← hov]; exact hd i (by omega)) h2
    refine .inr (.inr (.inr (.inr (.inr (.inr ?_)))))
    exact List.mem_map.2 ⟨n - 1, List.mem_range.2 (by omega), by rw [hgn]; congr 1; omega⟩
theorem top_none_iff (ho : AllOnce ord) : topF ord f = -1 ↔ supF f = 0 := by
  constructor
  · intro h
    refine supF_zero.2 fun v => ?_
    by_cases hv : 0 ≤ v ∧ v < 8
    · obtain ⟨n, rfl, hn⟩ := nat8 hv
      obtain ⟨j, _, hj⟩ := ho.all n hn
      exact (topF_none (ord := ord) (f := f) (by omega)).1 _ (List.mem_of_getElem? hj)
    · exact depF_out hv
  · intro h
    by_cases ht : 0 ≤ topF ord f
    · have := supF_zero.1 h (topF ord f)
      rw [topF_dep ht] at this; cases this
    · exact (topF_none ht).2
def mayF (ord : List Int) : Bool := (List.range 8).all fun v => ord.count (v : Int) == 1
end
end Go.Bx

namespace Go.Bx
open Go
set_option linter.unusedSimpArgs false
set_option linter.unusedVariables false
section
variable {s s' : Md} {n m v lo hi : Int} {f g h : Fun8} {L K : List Fun8}
theorem OrdOK.once {ord : List Int} (O : OrdOK ord) : AllOnce ord := by
  refine ⟨O.len, fun v hv => ?_, fun j hj => ?_, O.one⟩
  · obtain ⟨k, hk, he⟩ := O.all v (by omega) (by omega)
    exact ⟨k, hk, he⟩
  · have hl := O.len
    obtain ⟨x, hx⟩ : ∃ x, ord[j]? = some x := ⟨ord[j], List.getElem?_eq_getElem (by omega)⟩
    have h := O.rng j x hx
    exact ⟨x.toNat, by omega, by rw [hx]; congr 1; omega⟩
open Classical in
noncomputable def Md.tab (s : Md) (n : Int) : Fun8 := if h : ∃ f, Den s n f then Classical.choose h else constF false
theorem Md.tab_den (d : Den s n f) : s.tab n = f := by
  have h : ∃ f, Den s n f := ⟨f, d⟩
  unfold Md.tab
  rw [dif_pos h]
  exact (Classical.choose_spec h).fn d
def Md.Full (s : Md) (L : List Fun8) : Prop := ∀ n f, s.has n = true → Den s n f → Rch s.ord L f
theorem Md.Full.sub (h : s.Full L) (hl : ∀ f ∈ L, f ∈ K) : s.Full K := fun n f hn d => (h n f hn d).sub hl
theorem node_sup (G : s.Good []) (hn : s.has n = true) (d : Den s n f) : supF f ≠ 0 := fun e => by
  have := G.top hn d
  rw [supF_zero.1 e] at this; cases this
theorem map_nodup {α β : Type} {q : α → β} : ∀ {l : List α}, l.Nodup → (∀ x ∈ l, ∀ y ∈ l, q x = q y → x = y) → (l.map q).Nodup
  | [], _, _ => List.nodup_nil
  | a :: l, hn, hi => by
    have hn' := List.nodup_cons.1 hn
    rw [List.map_cons, List.nodup_cons]
    refine ⟨fun hm => ?_, map_nodup hn'.2 fun x hx y hy => hi x (by simp [hx]) y (by simp [hy])⟩
    obtain ⟨y, hy, he⟩ := List.mem_map.1 hm
    have := hi y (by simp [hy]) a (by simp) he
    subst this; exact hn'.1 hy
theorem Md.Good.tabs (G : s.Good []) : (s.all.map s.tab).Nodup ∧ ∀ f, f ∈ s.all.map s.tab ↔ ∃ n, s.has n = true ∧ Den s n f := by
  have td : ∀ n, s.has n = true → Den s n (s.tab n) := fun n hn => by
    obtain ⟨f, d⟩ := G.has_den (.inr (.inr hn))
    rw [Md.tab_den d]; exact d
  refine ⟨map_nodup Md.nodup_all fun x hx y hy he => ?_, fun f => ?_⟩
  · have dx := td x (G.wf.mem_all.1 hx)
    have dy := td y (G.wf.mem_all.1 hy)
    rw [← he] at dy
    exact G.canon dx dy
  · rw [List.mem_map]
    constructor
    · rintro ⟨n, hn, rfl⟩
      exact ⟨n, G.wf.mem_all.1 hn, td n (G.wf.mem_all.1 hn)⟩
    · rintro ⟨n, hn, d⟩
      exact ⟨n, G.wf.mem_all.2 hn, Md.tab_den d⟩
theorem Md.Full.less (G : s.Good []) (hF : s.Full L) (hg : Rch s.ord L g) (hs : supF g ≠ 0) (hno : ∀ n, ¬ Den s n g) : s.a.many < sizeF s.ord L := by
  obtain ⟨ns, hns⟩ := nodes_ex s.ord L
  have t := G.tabs
  have := sub_len (l := g :: s.all.map s.tab) (List.nodup_cons.2 ⟨fun hm => by obtain ⟨n, _, d⟩ := (t.2 g).1 hm; exact hno n d, t.1⟩) (m := ns) fun f hf => by
    rcases List.mem_cons.1 hf with rfl | hf
    · exact (hns.mem f).2 ⟨hg, hs⟩
    · obtain ⟨n, hn, d⟩ := (t.2 f).1 hf
      exact (hns.mem f).2 ⟨hF n f hn d, node_sup G hn d⟩
  rw [List.length_cons, List.length_map, hns.size] at this
  have := G.wf.len_all
  omega
theorem Md.Full.mk (G : s.Good []) (hF : s.Full L) (hv : 0 ≤ v ∧ v < 8) (h0 : s.below lo v = true) (h1 : s.below hi v = true) (d0 : Den s lo (cofF f v false)) (d1 : Den s hi (cofF f v true)) (hf : Rch s.ord L f) : (s.mk' [] v lo hi).2.Full L := by
  obtain ⟨G2, l2, _⟩ := G.mks v lo hi
  rcases G.mk_err hv h0 h1 with e | ⟨_, e, _⟩
  · obtain ⟨_, hh, hdn⟩ := G.made hv h0 h1 rfl e
    have dn := hdn _ _ d0 d1
    rw [ite_cof] at dn
    intro n f' hn d
    rw [l2.ord]
    rcases hh n hn with h | ⟨rfl, _⟩
    · obtain ⟨f2, d2⟩ := G.has_den (.inr (.inr h))
      rw [d.fn (d2.mono l2)]
      exact hF n f2 h d2
    · rw [d.fn dn]; exact hf
  · rw [e]; exact hF
theorem bld_flat (G : s.Good []) (ht : ¬ 0 ≤ topF s.ord f) : s.bld f = ((if f.getLsbD 0 then 1 else 0, 0), s) := by
  refine G.bld_ex ?_
  have hf := top_flat G.wf.ord (f := f) (by omega)
  have := den_const (s := s) (f.getLsbD 0)
  rwa [← hf] at this
theorem bld_full : ∀ (k : Nat) (s : Md) (f : Fun8), s.Good [] → nv f ≤ k → s.Full L → Rch s.ord L f → (s.bld f).2.Full L ∧ ((s.bld f).1.2 ≠ 0 → s.a.most < sizeF s.ord L) := by
  intro k
  induction k with
  | zero =>
    intro s f G hk hF hr
    have ht : ¬ 0 ≤ topF s.ord f := fun h => by have := nv_cof (b := false) (topF_dep h); omega
    rw [bld_flat G ht]
    exact ⟨hF, fun h => absurd rfl h⟩
  | succ k ih =>
    intro s f G hk hF hr
    by_cases ht : 0 ≤ topF s.ord f
    rotate_left
    · rw [bld_flat G ht]
      exact ⟨hF, fun h => absurd rfl h⟩
    have hd := topF_dep ht
    have hsp := bld_top G ht
    have hrt := top_rng ht
    have hbe := fun b u hu => cof_behind (f := f) (b := b) (u := u) G.wf.ord ht hu
    have n0 := nv_cof (b := false) hd
    have n1 := nv_cof (b := true) hd
    have r0 : Rch s.ord L (cofF f (topF s.ord f) false) := .step hr (by unfold kids; rw [if_pos ht]; simp)
    have r1 : Rch s.ord L (cofF f (topF s.ord f) true) := .step hr (by unfold kids; rw [if_pos ht]; simp)
    generalize topF s.ord f = v at hd hsp hrt hbe n0 n1 r0 r1
    obtain ⟨F0, E0⟩ := ih s (cofF f v false) G (by omega) hF r0
    rcases hsp with ⟨e0, eR⟩ | ⟨a, s0, e0, G0, L0, D0, hsp⟩
    · rw [eR]; exact ⟨F0, E0⟩
    rw [e0] at F0
    obtain ⟨F1, E1⟩ := ih s0 (cofF f v true) G0 (by omega) F0 (by rw [L0.ord]; exact r1)
    rw [L0.ord, L0.most] at E1
    rcases hsp with ⟨e1, eR⟩ | ⟨b, s1, e1, G1, L1, D1, eR⟩
    · rw [eR]; exact ⟨F1, E1⟩
    rw [e1] at F1
    dsimp only at F1
    have o1 : s1.ord = s.ord := (L0.trans L1).ord
    have b0 : s1.below a v = true := G1.belowF (D0.mono L1) fun u hu => by rw [o1]; exact hbe false u hu
    have b1 : s1.below b v = true := G1.belowF D1 fun u hu => by rw [o1]; exact hbe true u hu
    rw [eR]
    refine ⟨F1.mk G1 hrt b0 b1 (D0.mono L1) D1 (by rw [o1]; exact hr), fun he => ?_⟩
    rcases G1.mk_err hrt b0 b1 with e | ⟨_, _, hm⟩
    · exact absurd e he
    have hno : ∀ n, ¬ Den s1 n f := fun n d => by
      have ⟨hn, hl⟩ := G1.dep d hd
      have h2 : lvl s1.ord v ≤ lvl s1.ord (s1.nd n).1 := by
        have hdn := G1.top hn d
        by_cases e : (s1.nd n).1 = v
        · rw [e]; exact Int.le_refl _
        · rw [o1]
          by_cases hc : depF (cofF f v false) (s1.nd n).1 = true
          · have := hbe false _ hc; omega
          · by_cases hc1 : depF (cofF f v true) (s1.nd n).1 = true
            · have := hbe true _ hc1; omega
            · exfalso
              have hf : f = iteF (varF v) (cofF f v true) (cofF f v false) := ite_cof.symm
              rw [hf] at hdn
              rcases dep_node hdn with h | h | h
              · exact e h
              · exact hc1 h
              · exact hc h
      have hv : (s1.nd n).1 = v := G1.wf.ord.inj (G1.node n hn (by simp)).var hrt (by omega)
      have ⟨d0, d1⟩ := G1.sides d hn
      rw [hv] at d0 d1
      have h3 := G1.mk_ex hn
      rw [hv, G1.canon d0 (D0.mono L1), G1.canon d1 D1] at h3
      rw [h3] at he
      exact he rfl
    have := F1.less G1 (by rw [o1]; exact hr) (fun e => by rw [supF_zero.1 e] at hd; cases hd) hno
    rw [o1] at this
    rw [hm, (L0.trans L1).most] at this
    exact this
theorem Md.Good.bld_app (G : s.Good []) (hF : s.Full L) (f : Fun8) : (s.bld f).2.Full (L ++ [f]) := (bld_full (L := L ++ [f]) 8 s f G nv_le (hF.sub fun g hg => by simp [hg]) (.base (by simp))).1
theorem Md.Good.bld_ok (G : s.Good []) (hF : s.Full L) (f : Fun8) (hr : sizeF s.ord (L ++ [f]) ≤ s.a.most) : (s.bld f).1.2 = 0 := by
  by_cases h : (s.bld f).1.2 = 0
  · exact h
  · have := (bld_full (L := L ++ [f]) 8 s f G nv_le (hF.sub fun g hg => by simp [hg]) (.base (by simp))).2 h
    omega
theorem size_77s (ho : AllOnce s.ord) : ∀ L : List Fun8, sizeF s.ord L ≤ 77 * L.length
  | [] => by
    have h : IsNodes s.ord ([] : List Fun8) [] := ⟨List.nodup_nil, fun f => ⟨fun h => (by cases h), fun h => by
      exfalso
      obtain ⟨hr, hs⟩ := h
      clear hs
      induction hr with
      | base h => cases h
      | step _ _ ih => exact ih⟩⟩
    rw [← h.size]; simp
  | f :: L => by
    have h1 := size_77s ho L
    have h2 := size_77 (f := f) ho
    have h3 := size_app (ord := s.ord) (l := [f]) (k := L)
    rw [List.length_cons]
    have : [f] ++ L = f :: L := rfl
    rw [this] at h3
    omega
end
end Go.Bx

namespace Go.Bx
open Go
set_option linter.unusedSimpArgs false
set_option linter.unusedVariables false
def Md.there (s : Md) (n : Int) : Bool := decide (n = 0) || (decide (n = 1) || s.has n)
noncomputable def Md.ite (s : Md) (a b c : Int) : (Int × Int) × Md := if s.there a && (s.there b && s.there c) then s.bld (iteF (s.tab a) (s.tab b) (s.tab c)) else ((0, 1), s)
noncomputable def Md.xor (s : Md) (a b : Int) : (Int × Int) × Md := if s.there a && s.there b then (if (s.ite b 0 1).1.2 = 0 then (s.ite b 0 1).2.ite a (s.ite b 0 1).1.1 b else s.ite b 0 1) else ((0, 1), s)
section
variable {s s' : Md} {n m a b c : Int} {f g h : Fun8} {L : List Fun8}
theorem Den.isThere (d : Den s n f) : s.there n = true := by
  unfold Md.there
  rcases d.there with e | e | e
  · simp [e]
  · simp [e]
  · simp [e]
theorem Md.Good.there_den (G : s.Good []) (h : s.there n = true) : Den s n (s.tab n) := by
  obtain ⟨f, d⟩ := G.has_den (n := n) (by
    unfold Md.there at h
    simpa using h)
  rw [Md.tab_den d]; exact d
theorem ite_den (da : Den s a f) (db : Den s b g) (dc : Den s c h) : s.ite a b c = s.bld (iteF f g h) := by
  unfold Md.ite
  rw [da.isThere, db.isThere, dc.isThere, Md.tab_den da, Md.tab_den db, Md.tab_den dc]; rfl
theorem ite_no (h : (s.there a && (s.there b && s.there c)) = false) : s.ite a b c = ((0, 1), s) := by unfold Md.ite; rw [h]; rfl
structure Itt (s : Md) (r : (Int × Int) × Md) : Prop where
  good : r.2.Good []
  le : s.Le r.2
  err : r.1.2 = 0 ∨ r.1.2 = 1 ∨ r.1.2 = 2
  zero : r.1.2 ≠ 0 → r.1.1 = 0
  there : r.1.2 = 0 → r.2.there r.1.1 = true
theorem Blt.itt {r : (Int × Int) × Md} (b : Blt s f r) : Itt s r := by
  refine ⟨b.good, b.le, ?_, fun h => ?_, fun h => ?_⟩
  · rcases b.res with ⟨e, _⟩ | ⟨e, _⟩
    · exact .inl e
    · rw [e]; simp
  · rcases b.res with ⟨e, _⟩ | ⟨e, _⟩
    · exact absurd e h
    · rw [e]
  · rcases b.res with ⟨_, d⟩ | ⟨e, _⟩
    · exact d.isThere
    · rw [e] at h; cases h
theorem Md.Good.itt (G : s.Good []) (a b c : Int) : Itt s (s.ite a b c) := by
  cases h : s.there a && (s.there b && s.there c)
  · rw [ite_no h]; exact ⟨G, Md.Le.refl s, .inr (.inl rfl), fun _ => rfl, fun h => by cases h⟩
  · unfold Md.ite
    rw [h]
    exact (G.bld _).itt
theorem Itt.trans {r r' : (Int × Int) × Md} (h : Itt s r) (k : Itt r.2 r') : Itt s r' := ⟨k.good, h.le.trans k.le, k.err, k.zero, k.there⟩
theorem Md.Good.xtt (G : s.Good []) (a b : Int) : Itt s (s.xor a b) := by
  unfold Md.xor
  split
  · split
    · exact (G.itt b 0 1).trans ((G.itt b 0 1).good.itt _ _ _)
    · exact G.itt b 0 1
  · exact ⟨G, Md.Le.refl s, .inr (.inl rfl), fun _ => rfl, fun h => by cases h⟩
end
end Go.Bx

namespace Go.Proofs.Ytpeindhocndmnaa
open Go Go.Bx
set_option linter.unusedSimpArgs false
set_option linter.unusedVariables false
set_option maxRecDepth 100000
set_option maxHeartbeats 4000000
attribute [local irreducible] X XO XE XF XD XW thenX inX retX kN CallsR
section
variable {own : Nat → Nat} {w : World} {p pc bm ck : Nat} {s : Md} {es : List (Ent (Int × Int × Int))} {a b c : Int}
theorem iteI_calls (h : IcI own w p s pc bm es ck) (G : s.Good []) (ha : a ≤ 9223372036854775807) (hb : b ≤ 9223372036854775807) (hc : c ≤ 9223372036854775807) :
    CallsR Try.prog 58 #[.pointer (some ⟨pc, 0, none⟩), .pointer (some ⟨p, 0, none⟩), .int .i64 a, .int .i64 b, .int .i64 c] w fun r w' => r = .tuple #[.int .i64 (s.ite a b c).1.1, errV (s.ite a b c).1.2] ∧ IcT own w p (s.ite a b c).2 pc bm w' := by
  have ta : Quiet Try.prog 112 #[.pointer (some ⟨p, 0, none⟩), .int .i64 a] w (.bool (s.there a)) := iteThere_calls h.sti G.wf a ha
  have tb : Quiet Try.prog 112 #[.pointer (some ⟨p, 0, none⟩), .int .i64 b] w (.bool (s.there b)) := iteThere_calls h.sti G.wf b hb
  have tc : Quiet Try.prog 112 #[.pointer (some ⟨p, 0, none⟩), .int .i64 c] w (.bool (s.there c)) := iteThere_calls h.sti G.wf c hc
  cases ea : s.there a
  · rw [ite_no (by rw [ea]; rfl), errV1]
    rw [ea] at ta
    clear tb tc ea G
    refine en5 Try.func58 Try.results58 mixed [] ?_
    intro e0 h0 h1 h2 h3 h4
    refine w_ fun d => ?_
    refine qq ta fun w1 hE1 hs1 => ?_
    refine w_ fun d => ?_
    exact ⟨rfl, IcT.of_ext h ext_⟩
  cases eb : s.there b
  · rw [ite_no (by rw [ea, eb]; rfl), errV1]
    rw [ea] at ta
    rw [eb] at tb
    clear tc ea eb G
    refine en5 Try.func58 Try.results58 mixed [] ?_
    intro e0 h0 h1 h2 h3 h4
    refine w_ fun d => ?_
    refine qq ta fun w1 hE1 hs1 => ?_
    refine w_ fun d => ?_
    refine qq tb fun w2 hE2 hs2 => ?_
    refine w_ fun d => ?_
    exact ⟨rfl, IcT.of_ext h ext_⟩
  cases ec : s.there c
  · rw [ite_no (by rw [ea, eb, ec]; rfl), errV1]
    rw [ea] at ta
    rw [eb] at tb
    rw [ec] at tc
    clear ea eb ec G
    refine en5 Try.func58 Try.results58 mixed [] ?_
    intro e0 h0 h1 h2 h3 h4
    refine w_ fun d => ?_
    refine qq ta fun w1 hE1 hs1 => ?_
    refine w_ fun d => ?_
    refine qq tb fun w2 hE2 hs2 => ?_
    refine w_ fun d => ?_
    refine qq tc fun w3 hE3 hs3 => ?_
    refine w_ fun d => ?_
    exact ⟨rfl, IcT.of_ext h ext_⟩
  have da := G.there_den ea
  have db := G.there_den eb
  have dc := G.there_den ec
  rw [ite_den da db dc]
  rw [ea] at ta
  rw [eb] at tb
  rw [ec] at tc
  have go := fun u (hu : Ext w u) => iteGo_calls _ own u s es ck a b c _ _ _ (h.ext hu) G da db dc (Nat.le_refl _)
  generalize s.bld (iteF (s.tab a) (s.tab b) (s.tab c)) = R at go
  clear ea eb ec G da db dc
  refine en5 Try.func58 Try.results58 mixed [] ?_
  intro e0 h0 h1 h2 h3 h4
  refine w_ fun d => ?_
  refine qq ta fun w1 hE1 hs1 => ?_
  refine w_ fun d => ?_
  refine qq tb fun w2 hE2 hs2 => ?_
  refine w_ fun d => ?_
  refine qq tc fun w3 hE3 hs3 => ?_
  have hE := (hE1.trans hE2).trans hE3
  refine w_ fun d => ?_
  refine (go w3 hE).mono ?_
  rintro _ w4 ⟨rfl, hT⟩
  have hT' := IcT.trans (BtS.of_ext hE) hT
  refine w_ fun d => ?_
  exact ⟨rfl, hT'.ext ext_⟩
theorem operNot_calls (h : IcI own w p s pc bm es ck) (G : s.Good []) (ha : a ≤ 9223372036854775807) :
    CallsR Try.prog 34 #[.pointer (some ⟨p, 0, none⟩), .pointer (some ⟨pc, 0, none⟩), .int .i64 a] w fun r w' => r = .tuple #[.int .i64 (s.ite a 0 1).1.1, errV (s.ite a 0 1).1.2] ∧ IcT own w p (s.ite a 0 1).2 pc bm w' := by
  have go := iteI_calls (b := 0) (c := 1) h G ha (by decide) (by decide)
  generalize s.ite a 0 1 = R at go
  clear h G
  refine en3 Try.func34 Try.results34 mixed [] ?_
  intro e0 h0 h1 h2
  refine w_ fun d => ?_
  refine go.mono ?_
  rintro _ w4 ⟨rfl, hT⟩
  refine w_ fun d => ?_
  exact ⟨rfl, hT.ext ext_⟩
theorem operAnd_calls (h : IcI own w p s pc bm es ck) (G : s.Good []) (ha : a ≤ 9223372036854775807) (hb : b ≤ 9223372036854775807) :
    CallsR Try.prog 35 #[.pointer (some ⟨p, 0, none⟩), .pointer (some ⟨pc, 0, none⟩), .int .i64 a, .int .i64 b] w fun r w' => r = .tuple #[.int .i64 (s.ite a b 0).1.1, errV (s.ite a b 0).1.2] ∧ IcT own w p (s.ite a b 0).2 pc bm w' := by
  have go := iteI_calls (c := 0) h G ha hb (by decide)
  generalize s.ite a b 0 = R at go
  clear h G
  refine en4 Try.func35 Try.results35 mixed [] ?_
  intro e0 h0 h1 h2 h3
  refine w_ fun d => ?_
  refine go.mono ?_
  rintro _ w4 ⟨rfl, hT⟩
  refine w_ fun d => ?_
  exact ⟨rfl, hT.ext ext_⟩
theorem operOr_calls (h : IcI own w p s pc bm es ck) (G : s.Good []) (ha : a ≤ 9223372036854775807) (hb : b ≤ 9223372036854775807) :
    CallsR Try.prog 36 #[.pointer (some ⟨p, 0, none⟩), .pointer (some ⟨pc, 0, none⟩), .int .i64 a, .int .i64 b] w fun r w' => r = .tuple #[.int .i64 (s.ite a 1 b).1.1, errV (s.ite a 1 b).1.2] ∧ IcT own w p (s.ite a 1 b).2 pc bm w' := by
  have go := iteI_calls (b := 1) (c := b) h G ha (by decide) hb
  generalize s.ite a 1 b = R at go
  clear h G
  refine en4 Try.func36 Try.results36 mixed [] ?_
  intro e0 h0 h1 h2 h3
  refine w_ fun d => ?_
  refine go.mono ?_
  rintro _ w4 ⟨rfl, hT⟩
  refine w_ fun d => ?_
  exact ⟨rfl, hT.ext ext_⟩
theorem ite_one (G : s.Good []) (ha : s.there a = true) (hb : s.there b = true) : s.ite 1 a b = ((a, 0), s) := by
  have da := G.there_den ha
  have db := G.there_den hb
  rw [ite_den .c1 da db, ite_const, if_pos rfl, G.bld_ex da]
theorem there_rng (W : s.WF) (h : s.there a = true) : a ≤ 9223372036854775807 := by
  have := wf_N W
  unfold Md.there at h
  simp only [Bool.or_eq_true, decide_eq_true_eq] at h
  rcases h with e | e | e
  · omega
  · omega
  · have := W.lt e; omega
theorem operXor_calls (h : IcI own w p s pc bm es ck) (G : s.Good []) (ha : a ≤ 9223372036854775807) (hb : b ≤ 9223372036854775807) :
    CallsR Try.prog 37 #[.pointer (some ⟨p, 0, none⟩), .pointer (some ⟨pc, 0, none⟩), .int .i64 a, .int .i64 b] w fun r w' => r = .tuple #[.int .i64 (s.xor a b).1.1, errV (s.xor a b).1.2] ∧ IcT own w p (s.xor a b).2 pc bm w' := by
  have g1 := fun u (hu : Ext w u) => iteI_calls (a := 1) (b := a) (c := b) (h.ext hu) G (by decide) ha hb
  cases et : s.there a && s.there b
  · have e1 : s.xor a b = ((0, 1), s) := by unfold Md.xor; rw [et]; rfl
    have e2 : s.ite 1 a b = ((0, 1), s) := ite_no (by rw [et, Bool.and_false])
    rw [e1, errV1]
    rw [e2, errV1] at g1
    clear h G et e1 e2
    refine en4 Try.func37 Try.results37 mixed [] ?_
    intro e0 h0 h1 h2 h3
    refine w_ fun d => ?_
    refine (g1 _ ext_).mono ?_
    rintro _ w4 ⟨rfl, hT⟩
    have hT' := IcT.trans (BtS.of_ext (by exact ext_)) hT
    refine w_ fun d => ?_
    exact ⟨rfl, hT'.ext ext_⟩
  rw [Bool.and_eq_true] at et
  obtain ⟨ea, eb⟩ := et
  rw [ite_one G ea eb, errV0] at g1
  have e1 : s.xor a b = if (s.ite b 0 1).1.2 = 0 then (s.ite b 0 1).2.ite a (s.ite b 0 1).1.1 b else s.ite b 0 1 := by unfold Md.xor; rw [ea, eb]; rfl
  rw [e1]
  have it := G.itt b 0 1
  have g2 := fun own u es ck (h : IcI own u p s pc bm es ck) => operNot_calls h G hb
  obtain ⟨⟨⟨n, e⟩, s2⟩, hR⟩ : ∃ R, s.ite b 0 1 = R := ⟨_, rfl⟩
  rw [hR] at it g2 ⊢
  dsimp only at g2 ⊢
  have iz := it.zero
  have ie := it.err
  have i2 := it.there
  dsimp only at iz ie i2
  clear e1 hR
  by_cases h0 : e = 0
  · subst h0
    rw [if_pos rfl]
    have g3 := fun own u es ck (h : IcI own u p s2 pc bm es ck) => iteI_calls (a := a) (b := n) (c := b) h it.good ha (there_rng it.good.wf (i2 rfl)) hb
    generalize s2.ite a n b = R at g3
    rw [errV0] at g2
    clear iz ie i2 it ea eb h G
    refine en4 Try.func37 Try.results37 mixed [] ?_
    intro e0 h0 h1 h2 h3
    refine w_ fun d => ?_
    refine (g1 _ ext_).mono ?_
    rintro _ w4 ⟨rfl, own1, es1, ck1, hI1, hS1⟩
    have hS1' := (BtS.of_ext (by exact ext_)).trans hS1
    refine w_ fun d => ?_
    refine (g2 _ _ _ _ hI1).mono ?_
    rintro _ w5 ⟨rfl, own2, es2, ck2, hI2, hS2⟩
    have hS2' := hS1'.trans hS2
    refine w_ fun d => ?_
    refine (g3 _ _ _ _ hI2).mono ?_
    rintro _ w6 ⟨rfl, hT⟩
    have hT' := IcT.trans hS2' hT
    refine w_ fun d => ?_
    exact ⟨rfl, hT'.ext ext_⟩
  · rw [if_neg h0]
    have hz := iz h0
    subst hz
    have he : e = 1 ∨ e = 2 := by omega
    clear iz ie i2 it ea eb h G h0
    rcases he with rfl | rfl
    · rw [errV1] at g2 ⊢
      refine en4 Try.func37 Try.results37 mixed [] ?_
      intro e0 h0 h1 h2 h3
      refine w_ fun d => ?_
      refine (g1 _ ext_).mono ?_
      rintro _ w4 ⟨rfl, own1, es1, ck1, hI1, hS1⟩
      have hS1' := (BtS.of_ext (by exact ext_)).trans hS1
      refine w_ fun d => ?_
      refine (g2 _ _ _ _ hI1).mono ?_
      rintro _ w5 ⟨rfl, hT⟩
      have hT' := IcT.trans hS1' hT
      refine w_ fun d => ?_
      exact ⟨rfl, hT'.ext ext_⟩
    · rw [errV2] at g2 ⊢
      refine en4 Try.func37 Try.results37 mixed [] ?_
      intro e0 h0 h1 h2 h3
      refine w_ fun d => ?_
      refine (g1 _ ext_).mono ?_
      rintro _ w4 ⟨rfl, own1, es1, ck1, hI1, hS1⟩
      have hS1' := (BtS.of_ext (by exact ext_)).trans hS1
      refine w_ fun d => ?_
      refine (g2 _ _ _ _ hI1).mono ?_
      rintro _ w5 ⟨rfl, hT⟩
      have hT' := IcT.trans hS1' hT
      refine w_ fun d => ?_
      exact ⟨rfl, hT'.ext ext_⟩
end
end Go.Proofs.Ytpeindhocndmnaa

namespace Go.Bx
open Go
set_option linter.unusedSimpArgs false
set_option linter.unusedVariables false
section
variable {s s' : Md} {n m a b c v : Int} {f g h : Fun8} {L K : List Fun8} {ord : List Int}
theorem iteF_and0 : iteF f g (constF false) = andF f g := fn_ext fun i hi => by rw [bt_ite hi, bt_and, bt_const hi]; cases f.getLsbD i <;> simp
theorem iteF_or1 : iteF f (constF true) g = orF f g := fn_ext fun i hi => by rw [bt_ite hi, bt_or, bt_const hi]; cases f.getLsbD i <;> simp
theorem not_ne : notF f ≠ f := fun e => by
  have := congrArg (fun f : Fun8 => f.getLsbD 0) e
  simp only [bt_not (show 0 < 256 by decide)] at this
  cases h : f.getLsbD 0 <;> rw [h] at this <;> cases this
theorem and_not : andF f (notF f) = constF false := fn_ext fun i hi => by rw [bt_and, bt_not hi, bt_const hi]; cases f.getLsbD i <;> rfl
theorem or_not : orF f (notF f) = constF true := fn_ext fun i hi => by rw [bt_or, bt_not hi, bt_const hi]; cases f.getLsbD i <;> rfl
structure Ro (s : Md) (L : List Fun8) (M : Int) : Prop where
  good : s.Good []
  full : s.Full L
  most : s.a.most = M
theorem Ro.bld {M : Int} (R : Ro s L M) (f : Fun8) (hm : sizeF s.ord (L ++ [f]) ≤ M) : ∃ n s', s.bld f = ((n, 0), s') ∧ Ro s' (L ++ [f]) M ∧ s.Le s' ∧ Den s' n f := by
  have bl := R.good.bld f
  have ok := R.good.bld_ok R.full f (by rw [R.most]; exact hm)
  have F := R.good.bld_app R.full f
  obtain ⟨⟨⟨n, e⟩, s'⟩, hR⟩ : ∃ R, s.bld f = R := ⟨_, rfl⟩
  rw [hR] at bl ok F
  dsimp only at ok F
  subst ok
  rcases bl.res with ⟨_, d⟩ | ⟨e, _⟩
  · exact ⟨n, s', hR, ⟨bl.good, F, bl.le.most.trans R.most⟩, bl.le, d⟩
  · cases e
theorem Ro.size {M : Int} (R : Ro s L M) (h : 77 * ((L.length : Int) + 1) ≤ M) : sizeF s.ord (L ++ [f]) ≤ M := by
  have := size_77s R.good.wf.ord.once (L ++ [f])
  rw [List.length_append, List.length_singleton] at this
  omega
theorem Ro.new {M : Int} (h0 : 0 ≤ M) (h1 : M ≤ 20000) : Ro (Md.new M) [] M := ⟨Md.Good.start h0 h1, fun n f hn => by
  have : (Md.new M).has n = false := by
    cases h : (Md.new M).has n with
    | false => rfl
    | true =>
      have := (Md.Good.start h0 h1).wf.lt h
      have e : (Md.new M).N.length = 0 := rfl
      omega
  rw [this] at hn
  exact absurd hn (by simp), rfl⟩
theorem size_one (ho : AllOnce ord) (h : ∀ u, depF f u = true → u = v) : sizeF ord [f] ≤ 1 := by
  by_cases ht : 0 ≤ topF ord f
  · rw [size_sides ht]
    have hv := h _ (topF_dep ht)
    have z : ∀ b, sizeF ord [cofF f (topF ord f) b] = 0 := fun b => size_zero.2 (supF_zero.2 fun u => by
      cases hd : depF (cofF f (topF ord f) b) u
      · rfl
      · have := h u (dep_of_cof hd)
        rw [this, ← hv, dep_cof] at hd; cases hd)
    unfold kids
    rw [if_pos ht]
    have := size_app (ord := ord) (l := [cofF f (topF ord f) false]) (k := [cofF f (topF ord f) true])
    rw [z, z] at this
    have e : [cofF f (topF ord f) false] ++ [cofF f (topF ord f) true] = [cofF f (topF ord f) false, cofF f (topF ord f) true] := rfl
    rw [e] at this
    omega
  · have := size_zero (ord := ord).2 ((top_none_iff ho).1 (topF_none ht).2)
    omega
theorem dep_var {u : Int} (h : depF (varF v) u = true) : u = v := by
  by_cases e : u = v
  · exact e
  · exfalso
    by_cases hv : 0 ≤ v ∧ v < 8
    · rw [nodep_of (by rw [cof_var_other e, cof_var_other e])] at h; cases h
    · rw [varF_out hv, dep_const] at h; cases h
theorem size_var (ho : AllOnce ord) : sizeF ord [varF v] ≤ 1 := size_one ho fun u hu => dep_var hu
theorem size_c {c : Bool} : sizeF ord [constF c] = 0 := size_zero.2 sup_constF
theorem size_snoc : sizeF ord (L ++ [f]) ≤ sizeF ord L + sizeF ord [f] := size_app
theorem Ro.var0 {M : Int} (h0 : 2 ≤ M) (h1 : M ≤ 20000) : ∃ s', (Md.new M).mk' [] 0 0 1 = ((2, 0), s') ∧ Ro s' [varF 0] M ∧ (Md.new M).Le s' ∧ Den s' 2 (varF 0) := by
  have R0 : Ro (Md.new M) [] M := Ro.new (by omega) h1
  have G := R0.good
  have hb0 : (Md.new M).below 0 0 = true := rfl
  have hb1 : (Md.new M).below 1 0 = true := rfl
  obtain ⟨G2, l2, _⟩ := G.mks 0 0 1
  have key : ((Md.new M).mk' [] 0 0 1).1 = (2, 0) := by
    have hk := G.wf.mks [] 0 0 1
    generalize (Md.new M).mk' [] 0 0 1 = r at hk
    cases hk with
    | bad h => exact absurd ⟨⟨by decide, by decide⟩, hb0, hb1⟩ h
    | same _ _ _ e => cases e
    | found n _ _ _ _ _ hn _ _ =>
      have := G.wf.lt hn
      have e : (Md.new M).N.length = 0 := rfl
      omega
    | full _ _ _ _ _ _ hm =>
      have e1 : (Md.new M).a.many = 0 := rfl
      have e2 : (Md.new M).a.most = M := rfl
      omega
    | new k b _ _ _ _ _ ht =>
      obtain ⟨_, _, _, _, h0, h1, _⟩ := G.wf.ar.taken ht
      have e : (Md.new M).a.T.length = 0 := rfl
      have : k = 0 := by omega
      subst this; rfl
  obtain ⟨s', hs'⟩ : ∃ s', ((Md.new M).mk' [] 0 0 1).2 = s' := ⟨_, rfl⟩
  have hc : ∀ b, cofF (varF 0) 0 b = constF b := fun b => cof_var_same (by decide)
  have F := R0.full.sub (K := [varF 0]) (fun f hf => by cases hf)
  have F2 := F.mk G (v := 0) (lo := 0) (hi := 1) (f := varF 0) (by decide) hb0 hb1 (by rw [hc]; exact .c0) (by rw [hc]; exact .c1) (.base (by simp))
  have dn := (G.made (v := 0) (lo := 0) (hi := 1) (by decide) hb0 hb1 rfl (by rw [key])).2.2 _ _ .c0 .c1
  rw [iteF_10, key] at dn
  rw [hs'] at F2 G2 l2 dn
  exact ⟨s', by rw [← hs', ← key], ⟨G2, F2, l2.most.trans rfl⟩, l2, dn⟩
end
end Go.Bx

namespace Go.Bx
open Go
set_option linter.unusedSimpArgs false
set_option linter.unusedVariables false
inductive Md.Rc (s : Md) (rs : List Int) : Int → Prop
  | root {n : Int} (h : n ∈ rs) (hn : s.has n = true) : Md.Rc s rs n
  | lo {n : Int} (h : Md.Rc s rs n) (hn : s.has (s.nd n).2.1 = true) : Md.Rc s rs (s.nd n).2.1
  | hi {n : Int} (h : Md.Rc s rs n) (hn : s.has (s.nd n).2.2 = true) : Md.Rc s rs (s.nd n).2.2
open Classical in
noncomputable def Md.keep (s : Md) (rs : List Int) (n : Int) : Bool := decide (s.Rc rs n)
noncomputable def Md.reach (s : Md) (rs : List Int) : List Int := s.all.filter (s.keep rs)
section
variable {s s' : Md} {n m c v : Int} {f g : Fun8} {rs l K w w' : List Int}
structure Rdf (s : Md) (rs K w : List Int) : Prop where
  nodup : K.Nodup
  rch : ∀ n ∈ K, s.Rc rs n
  wrk : ∀ n ∈ w, s.has n = true → s.Rc rs n
  root : ∀ n ∈ rs, s.has n = true → n ∈ K ∨ n ∈ w
  lo : ∀ n ∈ K, s.has (s.nd n).2.1 = true → (s.nd n).2.1 ∈ K ∨ (s.nd n).2.1 ∈ w
  hi : ∀ n ∈ K, s.has (s.nd n).2.2 = true → (s.nd n).2.2 ∈ K ∨ (s.nd n).2.2 ∈ w
def Md.drop1 (kp : Int → Bool) (v : Int) (s : Md) (n : Int) : Md := if s.of n v && !kp n then s.drop n else s
def Md.dropV (kp : Int → Bool) (v : Int) (l : List Int) (s : Md) : Md := l.foldl (Md.drop1 kp v) s
def Md.dropO (kp : Int → Bool) (l : List Int) (o : List Int) (s : Md) : Md := o.foldl (fun s v => s.dropV kp v l) s
noncomputable def Md.sweep (s : Md) (rs : List Int) : Md := s.dropO (s.keep rs) s.all s.ord
structure Swp (s0 : Md) (rs : List Int) (s : Md) : Prop where
  good : s.Good []
  ord : s.ord = s0.ord
  most : s.a.most = s0.a.most
  N : s.N = s0.N
  has : ∀ n, s.has n = true → s0.has n = true
  kept : ∀ n, s0.Rc rs n → s.has n = true
def Ahd (s0 : Md) (rs : List Int) (s : Md) (v : Int) : Prop := ∀ n, s.has n = true → lvl s0.ord (s.nd n).1 < lvl s0.ord v → s0.Rc rs n
structure Swept (s : Md) (rs : List Int) (s' : Md) : Prop where
  swp : Swp s rs s'
  only : ∀ n, s'.has n = true ↔ s.Rc rs n
end
end Go.Bx

namespace Go.Bx
open Go
set_option linter.unusedSimpArgs false
set_option linter.unusedVariables false
noncomputable def Md.restr (s : Md) (a v : Int) (b : Bool) : (Int × Int) × Md := if s.there a && (decide (0 ≤ v) && decide (v < 8)) then s.bld (cofF (s.tab a) v b) else ((0, 1), s)
noncomputable def Md.both (s : Md) (a v : Int) (k : Md → Int → Int → (Int × Int) × Md) : (Int × Int) × Md :=
  if (s.restr a v false).1.2 = 0 then
    if ((s.restr a v false).2.restr a v true).1.2 = 0 then k ((s.restr a v false).2.restr a v true).2 (s.restr a v false).1.1 ((s.restr a v false).2.restr a v true).1.1
    else (s.restr a v false).2.restr a v true
  else s.restr a v false
noncomputable def Md.compose (s : Md) (a v g : Int) : (Int × Int) × Md := if s.there g && (decide (0 ≤ v) && decide (v < 8)) then s.both a v fun s lo hi => s.ite g hi lo else ((0, 1), s)
noncomputable def Md.exist (s : Md) (a v : Int) : (Int × Int) × Md := s.both a v fun s lo hi => s.ite lo 1 hi
noncomputable def Md.forall_ (s : Md) (a v : Int) : (Int × Int) × Md := s.both a v fun s lo hi => s.ite lo hi 0
section
variable {s s' : Md} {n m a b c v g : Int} {f h : Fun8} {rs : List Int}
theorem restr_no (h : (s.there a && (decide (0 ≤ v) && decide (v < 8))) = false) (b : Bool) : s.restr a v b = ((0, 1), s) := by unfold Md.restr; rw [h]; rfl
theorem restr_yes (h : (s.there a && (decide (0 ≤ v) && decide (v < 8))) = true) (b : Bool) : s.restr a v b = s.bld (cofF (s.tab a) v b) := by unfold Md.restr; rw [h]; rfl
theorem restr_den (d : Den s a f) (hv : 0 ≤ v ∧ v < 8) (b : Bool) : s.restr a v b = s.bld (cofF f v b) := by
  rw [restr_yes (by rw [d.isThere]; simp [hv]), Md.tab_den d]
theorem Itt.none (G : s.Good []) : Itt s ((0, 1), s) := ⟨G, Md.Le.refl s, .inr (.inl rfl), fun _ => rfl, fun h => by cases h⟩
theorem Md.Good.rtt (G : s.Good []) (a v : Int) (b : Bool) : Itt s (s.restr a v b) := by
  unfold Md.restr
  split
  · exact (G.bld _).itt
  · exact .none G
theorem Md.Good.btt (G : s.Good []) (a v : Int) {k : Md → Int → Int → (Int × Int) × Md} (hk : ∀ s lo hi, s.Good [] → Itt s (k s lo hi)) : Itt s (s.both a v k) := by
  unfold Md.both
  split
  · split
    · exact ((G.rtt a v false).trans ((G.rtt a v false).good.rtt a v true)).trans (hk _ _ _ ((G.rtt a v false).good.rtt a v true).good)
    · exact (G.rtt a v false).trans ((G.rtt a v false).good.rtt a v true)
  · exact G.rtt a v false
theorem Md.Good.ctt (G : s.Good []) (a v g : Int) : Itt s (s.compose a v g) := by
  unfold Md.compose
  split
  · exact G.btt a v fun s lo hi G => G.itt _ _ _
  · exact .none G
theorem Md.Good.ett (G : s.Good []) (a v : Int) : Itt s (s.exist a v) := G.btt a v fun s lo hi G => G.itt _ _ _
theorem Md.Good.ftt (G : s.Good []) (a v : Int) : Itt s (s.forall_ a v) := G.btt a v fun s lo hi G => G.itt _ _ _
noncomputable def Md.step (s : Md) (rs : List Int) (v : Int) (down : Bool) : Bool × Md :=
  if (s.swap (if down then lvl s.ord v else lvl s.ord v - 1)).1 = 0 then (true, (s.swap (if down then lvl s.ord v else lvl s.ord v - 1)).2.sweep rs) else (false, s)
structure Lk where
  s : Md
  best : Int
  few : Int
noncomputable def Lk.go (rs : List Int) (v grow : Int) (down : Bool) : Nat → Lk → Lk
  | 0, x => x
  | k + 1, x =>
    if lvl x.s.ord v = (if down then 7 else 0) then x
    else if (x.s.step rs v down).1 = false then x
    else
      let s' := (x.s.step rs v down).2
      let y : Lk := if s'.a.many < x.few then ⟨s', lvl s'.ord v, s'.a.many⟩ else ⟨s', x.best, x.few⟩
      if grow < s'.a.many then y else Lk.go rs v grow down k y
noncomputable def Md.back (rs : List Int) (v best : Int) : Nat → Md → Md
  | 0, s => s
  | k + 1, s => if lvl s.ord v = best then s else if (s.step rs v (decide (lvl s.ord v < best))).1 = false then s else Md.back rs v best k (s.step rs v (decide (lvl s.ord v < best))).2
noncomputable def Md.sift (s : Md) (rs : List Int) (v grow : Int) : Md :=
  let s1 := s.sweep rs
  let x := Lk.go rs v grow false 8 (Lk.go rs v grow true 8 ⟨s1, lvl s1.ord v, s1.a.many⟩)
  Md.back rs v x.best 8 x.s
noncomputable def Md.siftAll (rs : List Int) (grow : Int) (l : List Int) (s : Md) : Md := l.foldl (fun s v => s.sift rs v grow) s
end
end Go.Bx

namespace Go.Proofs.Ytpeindhocndmnaa
open Go Go.Bx
set_option linter.unusedSimpArgs false
set_option linter.unusedVariables false
set_option maxRecDepth 100000
set_option maxHeartbeats 4000000
attribute [local irreducible] X XO XE XF XD XW thenX inX retX kN CallsR
section
variable {own : Nat → Nat} {w w' w1 : World} {p : Nat} {s : Md} {n v a b c : Int} {f g : Fun8}
theorem rsThere_calls (h : RsI own w p s) (W : s.WF) (n : Int) (hn : n ≤ 9223372036854775807) : Quiet Try.prog 104 #[.pointer (some ⟨p, 0, none⟩), .int .i64 n] w (.bool (s.there n)) := by
  intro u hu
  have c1 := (rsHas_calls h W n hn).at hu
  unfold Md.there
  clear h W
  by_cases h0' : n = 0
  · subst h0'
    refine en2 Try.func104 Try.results104 mixed [] ?_
    intro e0 h0 h1
    refine w_ fun d => ?_
    exact ⟨rfl, ext_⟩
  · have e0 : (n == 0) = false := by simpa using h0'
    have d0 : decide (n = 0) = false := decide_eq_false h0'
    by_cases h1' : n = 1
    · subst h1'
      refine en2 Try.func104 Try.results104 mixed [] ?_
      intro e0 h0 h1
      refine w_ fun d => ?_
      exact ⟨rfl, ext_⟩
    · have e1 : (n == 1) = false := by simpa using h1'
      have d1 : decide (n = 1) = false := decide_eq_false h1'
      rw [d0, d1]
      clear d0 d1
      refine en2 Try.func104 Try.results104 mixed [] ?_
      intro e0 h0 h1
      refine w_ fun d => ?_
      refine qq c1 fun w1 hE1 hs1 => ?_
      refine w_ fun d => ?_
      exact ⟨rfl, ext_⟩
theorem rsTable_none (h : RsI own w p s) (W : s.WF) (hn : n ≤ 9223372036854775807) (hh : s.has n = false) : Quiet Try.prog 105 #[.pointer (some ⟨p, 0, none⟩), .int .i64 n] w (fv (constF (decide (n = 1)))) := by
  intro u hu
  have n1 := (rsNode_calls h W n hn).at hu
  have hnd : s.node n = ((0, 0, 0), false) := by unfold Md.node; rw [hh]; rfl
  rw [hnd] at n1
  simp only [ndV] at n1
  have c1 : Sure Try.prog 102 #[.bool (n == 1)] (fv (constF (decide (n = 1)))) := fun u => by
    have := refConst_calls (decide (n = 1)) u
    rwa [show (n == 1) = decide (n = 1) from rfl]
  generalize constF (decide (n = 1)) = C at c1
  clear h hnd hh W
  refine en2 Try.func105 Try.results105 mixed [] ?_
  intro e0 h0 h1
  refine w_ fun d => ?_
  refine qq n1 fun w1 hE1 hs1 => ?_
  refine w_ fun d => ?_
  refine qq (c1.quiet (w := w1)) fun w2 hE2 hs2 => ?_
  refine w_ fun d => ?_
  exact ⟨rfl, ext_⟩
theorem rsTable_calls (h : RsI own w p s) (G : s.Good []) (d : Den s n f) : Quiet Try.prog 105 #[.pointer (some ⟨p, 0, none⟩), .int .i64 n] w (fv f) := by
  have W := G.wf
  induction d with
  | c0 => exact rsTable_none h W (by decide) (Md.has_no (by decide))
  | c1 => exact rsTable_none h W (by decide) (Md.has_no (by decide))
  | @node n v lo hi f0 f1 hh hx h0 h1 ih0 ih1 =>
    have hN := wf_N W
    have hl := W.lt hh
    have n1 := rsNode_calls h W n (by omega)
    rw [show s.node n = ((v, lo, hi), true) by unfold Md.node; rw [hh, hx]; rfl] at n1
    simp only [ndV] at n1
    have c2 : Sure Try.prog 76 #[.int .i64 v] (fv (varF v)) := refVar_calls v
    have c3 : Sure Try.prog 59 #[fv (varF v), fv f1, fv f0] (fv (iteF (varF v) f1 f0)) := refIte_calls _ _ _
    generalize iteF (varF v) f1 f0 = F at c3
    generalize varF v = V at c2 c3
    clear hx h0 h1 hh hl h G W hN
    intro u hu
    have n1 := n1.at hu
    have i0 := ih0.at hu
    have i1 := ih1.at hu
    clear ih0 ih1 hu
    refine en2 Try.func105 Try.results105 mixed [] ?_
    intro e0 h0 h1
    refine w_ fun d => ?_
    refine qq n1 fun w1 hE1 hs1 => ?_
    refine w_ fun d => ?_
    refine at_w fun u2 hu2 => ?_
    have hE1u : Ext w1 u2 := by rw [hu2]; exact ext_
    have hEu : Ext u u2 := Ext.trans (Ext.trans (by exact ext_) hE1) hE1u
    have h5 : u2.heap[w1.heap.size]? = some (.cells #[.int .i64 v, .int .i64 lo, .int .i64 hi] 39) := by rw [hu2]; exact hA rfl
    have h4 : u2.heap[u.heap.size]? = some (.cells #[.int .u64 0, .int .u64 0, .int .u64 0, .int .u64 0] 54) := hE1u.at (hE1.at (hA rfl))
    have j0 := i0.at hEu
    have j1 := i1.at hEu
    obtain ⟨b5, hb5⟩ : ∃ b, w1.heap.size = b := ⟨_, rfl⟩
    obtain ⟨b4, hb4⟩ : ∃ b, u.heap.size = b := ⟨_, rfl⟩
    rw [hb5] at h5 ⊢
    have hub : u.heap.size ≤ b4 := by omega
    rw [hb4] at h4 ⊢
    have l5 := lt_of_heap h5
    have l4 := lt_of_heap h4
    clear hu2 n1 hE1u hb5 hb4 i0 i1 hE1 hs1
    refine s_draw (XD_ext ?_)
    refine de_ ?_
    refine xn_ fun u3 hE3 hs3 => ?_
    have h43 := hE3.at (upd_same l4)
    have l43 := lt_of_heap h43
    have hE : Ext u u3 := Ext.trans (by exact ext_) hE3
    refine w_ fun d => ?_
    exact ⟨rfl, ext_⟩
theorem rsBuild_flat (h : RsI own w p s) (G : s.Good []) (ht : topF s.ord f < 0) : Quiet Try.prog 103 #[.pointer (some ⟨p, 0, none⟩), fv f] w (.tuple #[.int .i64 (if f.getLsbD 0 then 1 else 0), .int .i64 0]) := by
  intro u hu
  have h := h.ext hu
  clear hu
  obtain ⟨pa, na, nc, sc, oc, hX⟩ := id h
  have hp := hX.at_
  have co := hX.rc.co
  have hsz := hX.rc.size
  have hpl := lt_of_heap hp
  have tp : Sure Try.prog 144 #[fv f, .agg oc] (.int .i64 (topF s.ord f)) := fun u => by
    have := refTop_calls f s.ord G.wf.ord.len u
    rwa [hX.oc.agg] at this
  have at0 := refAt_p f 0 (by decide)
  generalize topF s.ord f = v at ht tp
  clear hX h G
  refine en2 Try.func103 Try.results103 mixed [] ?_
  intro e0 h0 h1
  refine w_ fun d => ?_
  intro w1 hE1 hs1
  have h31 : w1.heap[u.heap.size]? = some (.cells #[vU (word f 0), vU (word f 1), vU (word f 2), vU (word f 3)] 54) := hE1.at (hA rfl)
  have l31 := lt_of_heap h31
  cases hb : f.getLsbD 0
  · rw [hb] at at0
    refine w_ fun d => ?_
    refine qq (at0.quiet (w := w1)) fun w2 hE2 hs2 => ?_
    refine w_ fun d => ?_
    exact ⟨rfl, ext_⟩
  · rw [hb] at at0
    refine w_ fun d => ?_
    refine qq (at0.quiet (w := w1)) fun w2 hE2 hs2 => ?_
    refine w_ fun d => ?_
    exact ⟨rfl, ext_⟩
theorem rsBuild_calls {p : Nat} : ∀ (k : Nat) (own : Nat → Nat) (w : World) (s : Md) (f : Fun8), RsI own w p s → s.Good [] → nv f ≤ k →
    CallsR Try.prog 103 #[.pointer (some ⟨p, 0, none⟩), fv f] w fun r w' => r = .tuple #[.int .i64 (s.bld f).1.1, .int .i64 (s.bld f).1.2] ∧ TrS own w p (s.bld f).2 w' := by
  intro k
  induction k using Nat.strongRecOn with
  | _ k ih =>
  intro own w s f h G hk
  by_cases ht0 : 0 ≤ topF s.ord f
  rotate_left
  · rw [bld_flat G ht0]
    refine (rsBuild_flat h G (by omega)).call.mono ?_
    rintro r w' ⟨rfl, hE⟩
    exact ⟨rfl, TrS.of_ext h hE⟩
  have hgo := bld_top G ht0
  have hdt := topF_dep ht0
  have nv0 := nv_cof (b := false) hdt
  have nv1 := nv_cof (b := true) hdt
  obtain ⟨pa, na, nc, sc, oc, hX⟩ := id h
  have hp := hX.at_
  have co := hX.rc.co
  have hsz := hX.rc.size
  have hpl := lt_of_heap hp
  have tp : Sure Try.prog 144 #[fv f, .agg oc] (.int .i64 (topF s.ord f)) := fun u => by
    have := refTop_calls f s.ord G.wf.ord.len u
    rwa [hX.oc.agg] at this
  clear hX
  generalize topF s.ord f = v at hgo ht0 hdt nv0 nv1 tp
  have c0 : Sure Try.prog 78 #[fv f, .int .i64 v, .bool false] (fv (cofF f v false)) := refCof_calls f v false
  have c1 : Sure Try.prog 78 #[fv f, .int .i64 v, .bool true] (fv (cofF f v true)) := refCof_calls f v true
  obtain ⟨R, hR⟩ : ∃ R, s.bld f = R := ⟨_, rfl⟩
  unfold SplB at hgo
  rw [hR] at hgo ⊢
  clear hR hdt
  have own0 : ∀ k, w.heap.size ≤ k → own k = 0 := fun k hk => by
    cases ho : own k with
    | zero => rfl
    | succ q => have := h.lt k (by omega); omega
  refine en2 Try.func103 Try.results103 mixed [] ?_
  intro e0 h0 h1
  refine w_ fun d => ?_
  intro w1 hE1 hs1
  have h31 : w1.heap[w.heap.size]? = some (.cells #[vU (word f 0), vU (word f 1), vU (word f 2), vU (word f 3)] 54) := hE1.at (hA rfl)
  have hE01 : Ext w w1 := Ext.trans (by exact ext_) hE1
  have h1' := h.ext hE01
  have l31 := lt_of_heap h31
  have o3 := own0 _ (Nat.le_refl w.heap.size)
  have hS1 : Sw own w own w1 := Sw.of_ext hE01
  clear hE1 hs1 hp hpl tp h own0 hE01
  refine w_ fun d => ?_
  refine qq (c0.quiet (w := w1)) fun w2 hE2 hs2 => ?_
  have h32 := hE2.at h31
  have l32 := lt_of_heap h32
  refine w_ fun d => ?_
  refine (ih _ (Nat.lt_of_lt_of_le nv0 hk) own w2 s _ (h1'.ext hE2) G (Nat.le_refl _)).mono ?_
  rintro r w3 ⟨hr, own1, hI1, hSw1⟩
  have hT1 := (hS1.ext hE2).trans hSw1
  obtain ⟨o31, e33⟩ := hSw1.out l32 o3
  have h33 := e33.trans h32
  have l33 := lt_of_heap h33
  rcases hgo with ⟨e0, eR⟩ | ⟨n0, s0, e0, G0, L0, D0, hgo⟩
  · rw [eR, e0]
    rw [e0] at hr
    dsimp only at hr
    subst hr
    clear ih
    refine w_ fun d => ?_
    exact ⟨rfl, own1, hI1, hT1⟩
  rw [e0] at hr hI1
  dsimp only at hr hI1
  subst hr
  clear hE2 hs2 h1' hS1 hSw1 e33 h32 l32 h31 l31
  refine w_ fun d => ?_
  refine qq (c1.quiet (w := w3)) fun w4 hE4 hs4 => ?_
  have h34 := hE4.at h33
  refine w_ fun d => ?_
  refine (ih _ (Nat.lt_of_lt_of_le nv1 hk) own1 w4 s0 _ (hI1.ext hE4) G0 (Nat.le_refl _)).mono ?_
  rintro r w5 ⟨hr, own2, hI2, hSw2⟩
  have hT2 := (hT1.ext hE4).trans hSw2
  rcases hgo with ⟨e1, eR⟩ | ⟨n1, s1, e1, G1, L1, D1, hgo⟩
  · rw [eR, e1]
    rw [e1] at hr
    dsimp only at hr
    subst hr
    clear ih
    refine w_ fun d => ?_
    exact ⟨rfl, own2, hI2, hT2⟩
  rw [e1] at hr hI2
  dsimp only at hr hI2
  subst hr
  have mk := rsMkP_calls (v := v) hI2 G1.wf (bt_rng G1.wf (D0.mono L1)) (bt_rng G1.wf D1)
  rw [← hgo] at mk
  clear ih hgo e0 e1 hI1 hE4 hs4
  refine w_ fun d => ?_
  refine mk.mono ?_
  rintro _ w6 ⟨rfl, own3, hI3, hS3⟩
  refine w_ fun d => ?_
  exact ⟨rfl, own3, hI3, hT2.trans hS3⟩
theorem rsBld_calls (h : RsI own w p s) (G : s.Good []) (f : Fun8) : CallsR Try.prog 103 #[.pointer (some ⟨p, 0, none⟩), fv f] w fun r w' => r = .tuple #[.int .i64 (s.bld f).1.1, .int .i64 (s.bld f).1.2] ∧ TrS own w p (s.bld f).2 w' := rsBuild_calls _ own w s f h G (Nat.le_refl _)
theorem rsIte_calls (h : RsI own w p s) (G : s.Good []) (ha : a ≤ 9223372036854775807) (hb : b ≤ 9223372036854775807) (hc : c ≤ 9223372036854775807) :
    CallsR Try.prog 53 #[.pointer (some ⟨p, 0, none⟩), .int .i64 a, .int .i64 b, .int .i64 c] w fun r w' => r = .tuple #[.int .i64 (s.ite a b c).1.1, .int .i64 (s.ite a b c).1.2] ∧ TrS own w p (s.ite a b c).2 w' := by
  have ta := rsThere_calls h G.wf a ha
  have tb := rsThere_calls h G.wf b hb
  have tc := rsThere_calls h G.wf c hc
  cases ea : s.there a
  · rw [ite_no (by rw [ea]; rfl)]
    rw [ea] at ta
    clear tb tc ea G
    refine en4 Try.func53 Try.results53 mixed [] ?_
    intro e0 h0 h1 h2 h3
    refine w_ fun d => ?_
    refine qq ta fun w1 hE1 hs1 => ?_
    refine w_ fun d => ?_
    exact ⟨rfl, TrS.of_ext h ext_⟩
  cases eb : s.there b
  · rw [ite_no (by rw [ea, eb]; rfl)]
    rw [ea] at ta
    rw [eb] at tb
    clear tc ea eb G
    refine en4 Try.func53 Try.results53 mixed [] ?_
    intro e0 h0 h1 h2 h3
    refine w_ fun d => ?_
    refine qq ta fun w1 hE1 hs1 => ?_
    refine w_ fun d => ?_
    refine qq tb fun w2 hE2 hs2 => ?_
    refine w_ fun d => ?_
    exact ⟨rfl, TrS.of_ext h ext_⟩
  cases ec : s.there c
  · rw [ite_no (by rw [ea, eb, ec]; rfl)]
    rw [ea] at ta
    rw [eb] at tb
    rw [ec] at tc
    clear ea eb ec G
    refine en4 Try.func53 Try.results53 mixed [] ?_
    intro e0 h0 h1 h2 h3
    refine w_ fun d => ?_
    refine qq ta fun w1 hE1 hs1 => ?_
    refine w_ fun d => ?_
    refine qq tb fun w2 hE2 hs2 => ?_
    refine w_ fun d => ?_
    refine qq tc fun w3 hE3 hs3 => ?_
    refine w_ fun d => ?_
    exact ⟨rfl, TrS.of_ext h ext_⟩
  have da := G.there_den ea
  have db := G.there_den eb
  have dc := G.there_den ec
  rw [ite_den da db dc]
  rw [ea] at ta
  rw [eb] at tb
  rw [ec] at tc
  have qa := rsTable_calls h G da
  have qb := rsTable_calls h G db
  have qc := rsTable_calls h G dc
  have ci : Sure Try.prog 59 #[fv (s.tab a), fv (s.tab b), fv (s.tab c)] (fv (iteF (s.tab a) (s.tab b) (s.tab c))) := refIte_calls _ _ _
  have go := fun u (hu : Ext w u) => rsBld_calls (h.ext hu) G (iteF (s.tab a) (s.tab b) (s.tab c))
  generalize iteF (s.tab a) (s.tab b) (s.tab c) = F at go ci
  generalize s.bld F = R at go
  generalize s.tab a = A at *
  generalize s.tab b = B at *
  generalize s.tab c = C at *
  clear ea eb ec da db dc
  refine en4 Try.func53 Try.results53 mixed [] ?_
  intro e0 h0 h1 h2 h3
  refine w_ fun d => ?_
  refine qq ta fun w1 hE1 hs1 => ?_
  refine w_ fun d => ?_
  refine qq tb fun w2 hE2 hs2 => ?_
  refine w_ fun d => ?_
  refine qq tc fun w3 hE3 hs3 => ?_
  refine w_ fun d => ?_
  refine qq qa fun w4 hE4 hs4 => ?_
  refine w_ fun d => ?_
  refine qq qb fun w5 hE5 hs5 => ?_
  refine w_ fun d => ?_
  refine qq qc fun w6 hE6 hs6 => ?_
  refine w_ fun d => ?_
  refine qq (ci.quiet (w := w6)) fun w7 hE7 hs7 => ?_
  have hE : Ext w w7 := ((((((hE1.trans hE2).trans hE3).trans hE4).trans hE5).trans hE6).trans hE7)
  refine w_ fun d => ?_
  refine (go _ hE).mono ?_
  rintro _ w8 ⟨rfl, own1, hI1, hS1⟩
  refine w_ fun d => ?_
  exact ⟨rfl, own1, hI1, (Sw.of_ext hE).trans hS1⟩
theorem rsXor_calls (h : RsI own w p s) (G : s.Good []) (ha : a ≤ 9223372036854775807) (hb : b ≤ 9223372036854775807) :
    CallsR Try.prog 54 #[.pointer (some ⟨p, 0, none⟩), .int .i64 a, .int .i64 b] w fun r w' => r = .tuple #[.int .i64 (s.xor a b).1.1, .int .i64 (s.xor a b).1.2] ∧ TrS own w p (s.xor a b).2 w' := by
  have ta := rsThere_calls h G.wf a ha
  have tb := rsThere_calls h G.wf b hb
  cases ea : s.there a
  · rw [show s.xor a b = ((0, 1), s) by unfold Md.xor; rw [ea]; rfl]
    rw [ea] at ta
    clear tb ea G
    refine en3 Try.func54 Try.results54 mixed [] ?_
    intro e0 h0 h1 h2
    refine w_ fun d => ?_
    refine qq ta fun w1 hE1 hs1 => ?_
    refine w_ fun d => ?_
    exact ⟨rfl, TrS.of_ext h ext_⟩
  cases eb : s.there b
  · rw [show s.xor a b = ((0, 1), s) by unfold Md.xor; rw [ea, eb]; rfl]
    rw [ea] at ta
    rw [eb] at tb
    clear ea eb G
    refine en3 Try.func54 Try.results54 mixed [] ?_
    intro e0 h0 h1 h2
    refine w_ fun d => ?_
    refine qq ta fun w1 hE1 hs1 => ?_
    refine w_ fun d => ?_
    refine qq tb fun w2 hE2 hs2 => ?_
    refine w_ fun d => ?_
    exact ⟨rfl, TrS.of_ext h ext_⟩
  have e1 : s.xor a b = if (s.ite b 0 1).1.2 = 0 then (s.ite b 0 1).2.ite a (s.ite b 0 1).1.1 b else s.ite b 0 1 := by unfold Md.xor; rw [ea, eb]; rfl
  rw [e1]
  rw [ea] at ta
  rw [eb] at tb
  have it := G.itt b 0 1
  have g2 := fun u (hu : Ext w u) => rsIte_calls (a := b) (b := 0) (c := 1) (h.ext hu) G hb (by decide) (by decide)
  obtain ⟨⟨⟨n, e⟩, s2⟩, hR⟩ : ∃ R, s.ite b 0 1 = R := ⟨_, rfl⟩
  rw [hR] at it g2 ⊢
  dsimp only at g2 ⊢
  have iz := it.zero
  have i2 := it.there
  dsimp only at iz i2
  clear e1 hR
  by_cases h0' : e = 0
  · subst h0'
    rw [if_pos rfl]
    have g3 := fun own u (h : RsI own u p s2) => rsIte_calls (a := a) (b := n) (c := b) h it.good ha (there_rng it.good.wf (i2 rfl)) hb
    generalize s2.ite a n b = R at g3
    clear iz i2 it ea eb G
    refine en3 Try.func54 Try.results54 mixed [] ?_
    intro e0 h0 h1 h2
    refine w_ fun d => ?_
    refine qq ta fun w1 hE1 hs1 => ?_
    refine w_ fun d => ?_
    refine qq tb fun w2 hE2 hs2 => ?_
    have hE := hE1.trans hE2
    refine w_ fun d => ?_
    refine (g2 _ hE).mono ?_
    rintro _ w4 ⟨rfl, own1, hI1, hS1⟩
    refine w_ fun d => ?_
    refine (g3 _ _ hI1).mono ?_
    rintro _ w5 ⟨rfl, own2, hI2, hS2⟩
    refine w_ fun d => ?_
    exact ⟨rfl, own2, hI2, ((Sw.of_ext hE).trans hS1).trans hS2⟩
  · rw [if_neg h0']
    have hz := iz h0'
    subst hz
    have he : (e != 0) = true := by simpa using h0'
    clear iz i2 it ea eb G
    refine en3 Try.func54 Try.results54 mixed [] ?_
    intro e0 h0 h1 h2
    refine w_ fun d => ?_
    refine qq ta fun w1 hE1 hs1 => ?_
    refine w_ fun d => ?_
    refine qq tb fun w2 hE2 hs2 => ?_
    have hE := hE1.trans hE2
    refine w_ fun d => ?_
    refine (g2 _ hE).mono ?_
    rintro _ w4 ⟨rfl, own1, hI1, hS1⟩
    refine w_ fun d => ?_
    exact ⟨rfl, own1, hI1, (Sw.of_ext hE).trans hS1⟩
theorem rsRestrict_calls (h : RsI own w p s) (G : s.Good []) (ha : a ≤ 9223372036854775807) (b : Bool) :
    CallsR Try.prog 62 #[.pointer (some ⟨p, 0, none⟩), .int .i64 a, .int .i64 v, .bool b] w fun r w' => r = .tuple #[.int .i64 (s.restr a v b).1.1, .int .i64 (s.restr a v b).1.2] ∧ TrS own w p (s.restr a v b).2 w' := by
  have ta := rsThere_calls h G.wf a ha
  cases ea : s.there a
  · rw [restr_no (by rw [ea]; rfl)]
    rw [ea] at ta
    clear ea G
    refine en4 Try.func62 Try.results62 mixed [] ?_
    intro e0 h0 h1 h2 h3
    refine w_ fun d => ?_
    refine qq ta fun w1 hE1 hs1 => ?_
    refine w_ fun d => ?_
    exact ⟨rfl, TrS.of_ext h ext_⟩
  rw [ea] at ta
  by_cases hv0 : v < 0
  · rw [restr_no (by rw [decide_eq_false (show ¬ 0 ≤ v by omega)]; simp)]
    clear ea G
    refine en4 Try.func62 Try.results62 mixed [] ?_
    intro e0 h0 h1 h2 h3
    refine w_ fun d => ?_
    refine qq ta fun w1 hE1 hs1 => ?_
    refine w_ fun d => ?_
    exact ⟨rfl, TrS.of_ext h ext_⟩
  by_cases hv1 : 7 < v
  · rw [restr_no (by rw [decide_eq_false (show ¬ v < 8 by omega)]; simp)]
    clear ea G
    refine en4 Try.func62 Try.results62 mixed [] ?_
    intro e0 h0 h1 h2 h3
    refine w_ fun d => ?_
    refine qq ta fun w1 hE1 hs1 => ?_
    refine w_ fun d => ?_
    exact ⟨rfl, TrS.of_ext h ext_⟩
  rw [restr_yes (by rw [ea, decide_eq_true (show 0 ≤ v by omega), decide_eq_true (show v < 8 by omega)]; rfl)]
  have qa := rsTable_calls h G (G.there_den ea)
  have ci : Sure Try.prog 78 #[fv (s.tab a), .int .i64 v, .bool b] (fv (cofF (s.tab a) v b)) := refCof_calls _ _ _
  have go := fun u (hu : Ext w u) => rsBld_calls (h.ext hu) G (cofF (s.tab a) v b)
  generalize cofF (s.tab a) v b = F at go ci
  generalize s.bld F = R at go
  generalize s.tab a = A at *
  clear ea
  refine en4 Try.func62 Try.results62 mixed [] ?_
  intro e0 h0 h1 h2 h3
  refine w_ fun d => ?_
  refine qq ta fun w1 hE1 hs1 => ?_
  refine w_ fun d => ?_
  refine qq qa fun w4 hE4 hs4 => ?_
  refine w_ fun d => ?_
  refine qq (ci.quiet (w := w4)) fun w7 hE7 hs7 => ?_
  have hE : Ext w w7 := (hE1.trans hE4).trans hE7
  refine w_ fun d => ?_
  refine (go _ hE).mono ?_
  rintro _ w8 ⟨rfl, own1, hI1, hS1⟩
  refine w_ fun d => ?_
  exact ⟨rfl, own1, hI1, (Sw.of_ext hE).trans hS1⟩
theorem rsThree_calls (h : RsI own w p s) (G : s.Good []) (what g : Int) (hw : what = 0 ∨ what = 1 ∨ what = 2) (ha : a ≤ 9223372036854775807) (hg : g ≤ 9223372036854775807) {R : (Int × Int) × Md}
    (hR : R = if what = 0 then s.compose a v g else if what = 1 then s.exist a v else s.forall_ a v) :
    CallsR Try.prog 64 #[.pointer (some ⟨p, 0, none⟩), .int .i64 what, .int .i64 a, .int .i64 v, .int .i64 g] w fun r w' => r = .tuple #[.int .i64 R.1.1, .int .i64 R.1.2] ∧ TrS own w p R.2 w' := by
  have tg := rsThere_calls h G.wf g hg
  by_cases hno : what = 0 ∧ s.there g = false
  · obtain ⟨rfl, hng⟩ := hno
    rw [if_pos rfl] at hR
    rw [hR, show s.compose a v g = ((0, 1), s) by unfold Md.compose; rw [hng]; rfl]
    rw [hng] at tg
    clear hR hng G
    refine en5 Try.func64 Try.results64 mixed [] ?_
    intro e0 h0 h1 h2 h3 h4
    refine w_ fun d => ?_
    refine qq tg fun w1 hE1 hs1 => ?_
    refine w_ fun d => ?_
    exact ⟨rfl, TrS.of_ext h ext_⟩
  have hR' : ∃ k : Md → Int → Int → (Int × Int) × Md, R = s.both a v k ∧ k = fun s lo hi => if what = 0 then s.ite g hi lo else if what = 1 then s.ite lo 1 hi else s.ite lo hi 0 := by
    refine ⟨_, ?_, rfl⟩
    rw [hR]
    rcases hw with rfl | rfl | rfl
    · have hy : s.there g = true := by
        cases hh : s.there g with
        | true => rfl
        | false => exact absurd ⟨rfl, hh⟩ hno
      rw [if_pos rfl]
      have key : s.compose a v g = s.both a v fun s lo hi => s.ite g hi lo := by
        unfold Md.compose
        cases hv : decide (0 ≤ v) && decide (v < 8)
        · rw [hy, show (true && false) = false from rfl, if_neg (by simp)]
          unfold Md.both
          rw [restr_no (by rw [hv, Bool.and_false])]
          rfl
        · rw [hy]; rfl
      rw [key]; rfl
    · rfl
    · rfl
  obtain ⟨k, hRk, hk⟩ := hR'
  clear hR
  have r0 := fun u (hu : Ext w u) => rsRestrict_calls (v := v) (h.ext hu) G ha false
  have i0 := G.rtt a v false
  have key : R = if (s.restr a v false).1.2 = 0 then
    if ((s.restr a v false).2.restr a v true).1.2 = 0 then k ((s.restr a v false).2.restr a v true).2 (s.restr a v false).1.1 ((s.restr a v false).2.restr a v true).1.1
    else (s.restr a v false).2.restr a v true
  else s.restr a v false := hRk
  clear hRk
  obtain ⟨⟨⟨n0, e0⟩, s0⟩, hR⟩ : ∃ R, s.restr a v false = R := ⟨_, rfl⟩
  rw [hR] at r0 i0 key
  dsimp only at r0 key
  have z0 := i0.zero
  have th0 := i0.there
  have g0 := i0.good
  dsimp only at z0 th0 g0
  -- the beginning, whatever is asked
  by_cases h0' : e0 = 0
  rotate_left
  · have z := z0 h0'
    subst z
    rw [if_neg h0'] at key
    subst key
    have he : (e0 != 0) = true := by simpa using h0'
    clear z0 i0 hR G hk th0 g0
    rcases hw with rfl | rfl | rfl
    · have hy : s.there g = true := by
        cases hh : s.there g with
        | true => rfl
        | false => exact absurd ⟨rfl, hh⟩ hno
      rw [hy] at tg
      clear hno hy
      refine en5 Try.func64 Try.results64 mixed [] ?_
      intro e0 h0 h1 h2 h3 h4
      refine w_ fun d => ?_
      refine qq tg fun w1 hE1 hs1 => ?_
      refine w_ fun d => ?_
      refine (r0 _ hE1).mono ?_
      rintro _ w2 ⟨rfl, own1, hI1, hS1⟩
      refine w_ fun d => ?_
      exact ⟨rfl, own1, hI1, (Sw.of_ext hE1).trans hS1⟩
    · refine en5 Try.func64 Try.results64 mixed [] ?_
      intro e0 h0 h1 h2 h3 h4
      refine w_ fun d => ?_
      refine (r0 _ ext_).mono ?_
      rintro _ w2 ⟨rfl, own1, hI1, hS1⟩
      refine w_ fun d => ?_
      exact ⟨rfl, own1, hI1, (Sw.of_ext ext_).trans hS1⟩
    · refine en5 Try.func64 Try.results64 mixed [] ?_
      intro e0 h0 h1 h2 h3 h4
      refine w_ fun d => ?_
      refine (r0 _ ext_).mono ?_
      rintro _ w2 ⟨rfl, own1, hI1, hS1⟩
      refine w_ fun d => ?_
      exact ⟨rfl, own1, hI1, (Sw.of_ext ext_).trans hS1⟩
  subst h0'
  rw [if_pos rfl] at key
  have r1 := fun own u (h : RsI own u p s0) => rsRestrict_calls (v := v) h g0 ha true
  have i1 := g0.rtt a v true
  obtain ⟨⟨⟨n1, e1⟩, s1⟩, hR1⟩ : ∃ R, s0.restr a v true = R := ⟨_, rfl⟩
  rw [hR1] at i1 key
  simp only [hR1] at r1
  dsimp only at r1 key
  have z1 := i1.zero
  have th1 := i1.there
  have g1 := i1.good
  dsimp only at z1 th1 g1
  by_cases h1' : e1 = 0
  rotate_left
  · have z := z1 h1'
    subst z
    rw [if_neg h1'] at key
    subst key
    have he : (e1 != 0) = true := by simpa using h1'
    clear z0 i0 hR G hk th0 g0 i1 z1 th1 g1 hR1
    rcases hw with rfl | rfl | rfl
    · have hy : s.there g = true := by
        cases hh : s.there g with
        | true => rfl
        | false => exact absurd ⟨rfl, hh⟩ hno
      rw [hy] at tg
      clear hno hy
      refine en5 Try.func64 Try.results64 mixed [] ?_
      intro e0 h0 h1 h2 h3 h4
      refine w_ fun d => ?_
      refine qq tg fun w1 hE1 hs1 => ?_
      refine w_ fun d => ?_
      refine (r0 _ hE1).mono ?_
      rintro _ w2 ⟨rfl, own1, hI1, hS1⟩
      refine w_ fun d => ?_
      refine (r1 _ _ hI1).mono ?_
      rintro _ w3 ⟨rfl, own2, hI2, hS2⟩
      refine w_ fun d => ?_
      exact ⟨rfl, own2, hI2, ((Sw.of_ext hE1).trans hS1).trans hS2⟩
    · refine en5 Try.func64 Try.results64 mixed [] ?_
      intro e0 h0 h1 h2 h3 h4
      refine w_ fun d => ?_
      refine (r0 _ ext_).mono ?_
      rintro _ w2 ⟨rfl, own1, hI1, hS1⟩
      refine w_ fun d => ?_
      refine (r1 _ _ hI1).mono ?_
      rintro _ w3 ⟨rfl, own2, hI2, hS2⟩
      refine w_ fun d => ?_
      exact ⟨rfl, own2, hI2, ((Sw.of_ext ext_).trans hS1).trans hS2⟩
    · refine en5 Try.func64 Try.results64 mixed [] ?_
      intro e0 h0 h1 h2 h3 h4
      refine w_ fun d => ?_
      refine (r0 _ ext_).mono ?_
      rintro _ w2 ⟨rfl, own1, hI1, hS1⟩
      refine w_ fun d => ?_
      refine (r1 _ _ hI1).mono ?_
      rintro _ w3 ⟨rfl, own2, hI2, hS2⟩
      refine w_ fun d => ?_
      exact ⟨rfl, own2, hI2, ((Sw.of_ext ext_).trans hS1).trans hS2⟩
  subst h1'
  rw [if_pos rfl] at key
  have t0 : s1.there n0 = true := ((g0.there_den (th0 rfl)).mono i1.le).isThere
  have b0 := there_rng g1.wf t0
  have b1 := there_rng g1.wf (th1 rfl)
  clear z0 i0 hR G th0 g0 i1 z1 th1 hR1 t0
  rw [hk] at key
  dsimp only at key
  rcases hw with rfl | rfl | rfl
  · have hy : s.there g = true := by
      cases hh : s.there g with
      | true => rfl
      | false => exact absurd ⟨rfl, hh⟩ hno
    rw [hy] at tg
    rw [if_pos rfl] at key
    have g3 := fun own u (h : RsI own u p s1) => rsIte_calls (a := g) (b := n1) (c := n0) h g1 hg b1 b0
    rw [← key] at g3
    clear hno hy hk key
    refine en5 Try.func64 Try.results64 mixed [] ?_
    intro e0 h0 h1 h2 h3 h4
    refine w_ fun d => ?_
    refine qq tg fun w1 hE1 hs1 => ?_
    refine w_ fun d => ?_
    refine (r0 _ hE1).mono ?_
    rintro _ w2 ⟨rfl, own1, hI1, hS1⟩
    refine w_ fun d => ?_
    refine (r1 _ _ hI1).mono ?_
    rintro _ w3 ⟨rfl, own2, hI2, hS2⟩
    refine w_ fun d => ?_
    refine (g3 _ _ hI2).mono ?_
    rintro _ w4 ⟨rfl, own3, hI3, hS3⟩
    refine w_ fun d => ?_
    exact ⟨rfl, own3, hI3, (((Sw.of_ext hE1).trans hS1).trans hS2).trans hS3⟩
  · rw [if_neg (by decide), if_pos rfl] at key
    have g3 := fun own u (h : RsI own u p s1) => rsIte_calls (a := n0) (b := 1) (c := n1) h g1 b0 (by decide) b1
    rw [← key] at g3
    clear hk key
    refine en5 Try.func64 Try.results64 mixed [] ?_
    intro e0 h0 h1 h2 h3 h4
    refine w_ fun d => ?_
    refine (r0 _ ext_).mono ?_
    rintro _ w2 ⟨rfl, own1, hI1, hS1⟩
    refine w_ fun d => ?_
    refine (r1 _ _ hI1).mono ?_
    rintro _ w3 ⟨rfl, own2, hI2, hS2⟩
    refine w_ fun d => ?_
    refine (g3 _ _ hI2).mono ?_
    rintro _ w4 ⟨rfl, own3, hI3, hS3⟩
    refine w_ fun d => ?_
    exact ⟨rfl, own3, hI3, (((Sw.of_ext ext_).trans hS1).trans hS2).trans hS3⟩
  · rw [if_neg (by decide), if_neg (by decide)] at key
    have g3 := fun own u (h : RsI own u p s1) => rsIte_calls (a := n0) (b := n1) (c := 0) h g1 b0 b1 (by decide)
    rw [← key] at g3
    clear hk key
    refine en5 Try.func64 Try.results64 mixed [] ?_
    intro e0 h0 h1 h2 h3 h4
    refine w_ fun d => ?_
    refine (r0 _ ext_).mono ?_
    rintro _ w2 ⟨rfl, own1, hI1, hS1⟩
    refine w_ fun d => ?_
    refine (r1 _ _ hI1).mono ?_
    rintro _ w3 ⟨rfl, own2, hI2, hS2⟩
    refine w_ fun d => ?_
    refine (g3 _ _ hI2).mono ?_
    rintro _ w4 ⟨rfl, own3, hI3, hS3⟩
    refine w_ fun d => ?_
    exact ⟨rfl, own3, hI3, (((Sw.of_ext ext_).trans hS1).trans hS2).trans hS3⟩
end
end Go.Proofs.Ytpeindhocndmnaa

namespace Go.Bx
open Go
set_option linter.unusedSimpArgs false
set_option linter.unusedVariables false
def AnyO (P : Program) (ops : Array Oper) (I : (Nat → Bool) → Env → World → Prop) : Prop :=
  ∀ (S : Nat → Bool) (j : Nat) (o : Oper), ops[j]? = some o → S j = false → (∀ ed ∈ o.after, Region.binds .any ed = true → S ed.on = true) → ∀ e w, I S e w →
    wantG e (gslot ops o.guard) ∧ XV P o.op o.type e w (fun v w' => I (fun i => S i || i == j) (e.put o.dst v) w')
theorem ready_ex {ops : Array Oper} (hb : ∀ (j : Nat) (o : Oper), ops[j]? = some o → ∀ ed ∈ o.after, Region.binds .any ed = true → ed.on < j) {listed : Array Bool} (hs : listed.size = ops.size) :
    ∀ i, i < ops.size → listed.getD i true = false → ∃ k, k ∈ Region.ready .any ops listed := by
  intro i
  induction i using Nat.strongRecOn with
  | _ i ih2 =>
    intro hi hl
    by_cases hx : ∃ k, k < i ∧ listed.getD k true = false
    · obtain ⟨k, hk, hk2⟩ := hx
      exact ih2 k hk (by omega) hk2
    · refine ⟨i, ready_iff.2 ⟨hi, hl, ops[i], Array.getElem?_eq_getElem hi, fun ed he hbd => ?_⟩⟩
      have hlt := hb i _ (Array.getElem?_eq_getElem hi) ed he hbd
      rw [← getD_tf (by rw [hs]; omega)]
      cases hle : listed.getD ed.on true with
      | true => rfl
      | false => exact absurd ⟨ed.on, hlt, hle⟩ hx
theorem wpAny_of_I {P : Program} {ops : Array Oper} {N : Nat} (hN : N ≤ 1000000) {Q : Exit → Act → World → Prop} {K : Env → World → Prop} (hQ : ∀ a e w, Sim N a e → K e w → Q .normal a w)
    (hd : ∀ (j : Nat) (o : Oper), ops[j]? = some o → ∀ x, o.dst = some x → x < N)
    (hb : ∀ (j : Nat) (o : Oper), ops[j]? = some o → ∀ ed ∈ o.after, Region.binds .any ed = true → ed.on < j)
    {I : (Nat → Bool) → Env → World → Prop} (h : AnyO P ops I) (hI : ∀ S e w, (∀ j, j < ops.size → S j = true) → I S e w → K e w) :
    ∀ (fuel : Nat) (listed : Array Bool) (a : Act) (e : Env) (w : World), (un ops.size listed).length ≤ fuel → listed.size = ops.size → Sim N a e → I (fun i => listed.getD i false) e w → wpAny P .any ops Q fuel listed a w := by
  have full : ∀ listed : Array Bool, listed.size = ops.size → un ops.size listed = [] → ∀ j, j < ops.size → listed.getD j false = true := fun listed hs hn j hj => by
    rw [← getD_tf (by omega)]
    cases hl : listed.getD j true with
    | true => rfl
    | false =>
      have : j ∈ un ops.size listed := mem_un.2 ⟨hj, hl⟩
      rw [hn] at this; cases this
  intro fuel
  induction fuel with
  | zero =>
    intro listed a e w hf hs sim hi
    have hnil : un ops.size listed = [] := List.length_eq_zero_iff.1 (by omega)
    refine ⟨List.eq_nil_iff_forall_not_mem.2 fun i hi => ?_, hQ _ _ _ sim (hI _ _ _ (full listed hs hnil) hi)⟩
    obtain ⟨hi1, hi2, _⟩ := ready_iff.1 hi
    have : i ∈ un ops.size listed := mem_un.2 ⟨hi1, hi2⟩
    rw [hnil] at this
    cases this
  | succ f ih =>
    intro listed a e w hf hs sim hi
    refine ⟨fun h0 => ?_, fun j hj => ?_⟩
    · have hnil : un ops.size listed = [] := by
        cases hun : un ops.size listed with
        | nil => rfl
        | cons i r =>
          exfalso
          have hm : i ∈ un ops.size listed := by rw [hun]; simp
          obtain ⟨hi1, hi2⟩ := mem_un.1 hm
          obtain ⟨k, hk⟩ := ready_ex hb hs i hi1 hi2
          rw [h0] at hk
          cases hk
      exact hQ _ _ _ sim (hI _ _ _ (full listed hs hnil) hi)
    · obtain ⟨hjl, hju, y, hy, hallj⟩ := ready_iff.1 hj
      have hSj : listed.getD j false = false := by rw [← getD_tf (by omega)]; exact hju
      obtain ⟨wg, xv⟩ := h (fun i => listed.getD i false) j y hy hSj hallj e w hi
      obtain ⟨r1, r2, hs1, hs2, hs3⟩ := filter_split (fun i => listed.getD i true == false) ops.size j hjl (by simp [hju])
      have hset : un ops.size (listed.setIfInBounds j true) = r1 ++ r2 := by rw [un_set hs hjl, ← hs3]
      have hun : un ops.size listed = r1 ++ j :: r2 := hs1
      rw [hun] at hf
      unfold wpOp
      rw [hy]
      simp only []
      rw [if_pos ((wanted_iff sim hN).2 wg)]
      refine .inl (wp_of_XV sim (fun v w' hk => ?_) xv)
      refine ih _ _ _ w' (by rw [hset]; simp at hf ⊢; omega) (by simpa using hs) (sim.put (hd j y hy) v) ?_
      have e1 : (fun i => (listed.setIfInBounds j true).getD i false) = fun i => listed.getD i false || i == j := by
        funext i
        rw [getD_set]
        by_cases hij : j = i
        · subst hij; rw [if_pos ⟨rfl, by omega⟩]; simp
        · rw [if_neg (fun h => hij h.1)]
          have : (i == j) = false := by simpa using fun h => hij h.symm
          rw [this, Bool.or_false]
      rw [e1]; exact hk
def backOK (ops : Array Oper) : Bool := (List.range ops.size).all fun j => match ops[j]? with | some o => o.after.all fun ed => !Region.binds .any ed || decide (ed.on < j) | none => true
theorem callsS {P : Program} {f : FuncId} {fn : Func} {c0 c2 : Code} {id : Nat} {ops : Array Oper} {args : Array Value} {w : World} {R : Value → World → Prop} {rs : Array ResultVar}
    (hf : P.funcs[f]? = some fn) (hr : fn.results = rs) (hb : fn.body = some (.seq c0 (.seq (.region id ops true) c2))) (hm : P.follows .mixedOrders = true) {bs : Bigs}
    (hk : (okN bs fn.ntmps c0 && okN bs fn.ntmps c2 && dstsOK fn.ntmps ops.toList && decide (fn.ntmps ≤ 1000000) && decide (args.size ≤ fn.ntmps) && backOK ops) = true)
    {I : (Nat → Bool) → Env → World → Prop} (h : X P (comp bs c0) (fun ex e w => ex = .normal ∧ ∀ d, I (fun _ => false) e { w with drawn := d }) (envOf args) w) (hA : AnyO P ops I)
    (h2 : ∀ S e w, (∀ j, j < ops.size → S j = true) → I S e w → X P (comp bs c2) (retX P rs R) e w) : CallsR P f args w R := by
  subst hr
  simp only [Bool.and_eq_true, decide_eq_true_eq] at hk
  obtain ⟨⟨⟨⟨⟨k0, k2⟩, kd⟩, kn⟩, ka⟩, kb⟩ := hk
  have hd : ∀ (j : Nat) (o : Oper), ops[j]? = some o → ∀ x, o.dst = some x → x < fn.ntmps := fun j o ho x hx => by
    have hmem : o ∈ ops.toList := Array.mem_toList_iff.2 (Array.mem_of_getElem? ho)
    have := List.all_eq_true.1 kd o hmem
    rw [hx] at this
    simpa using this
  have hbk : ∀ (j : Nat) (o : Oper), ops[j]? = some o → ∀ ed ∈ o.after, Region.binds .any ed = true → ed.on < j := fun j o ho ed he hbd => by
    have hj := (Array.getElem?_eq_some_iff.1 ho).1
    have := List.all_eq_true.1 kb j (List.mem_range.2 hj)
    rw [ho] at this
    have := Array.all_eq_true'.1 this ed he
    rw [hbd] at this
    simpa using this
  refine calls_of_wp hf hb (wp_seq (wp_of_X hm kn c0 _ _ _ (envOf args) w k0 ⟨by simp; omega, rfl, fun i => ?_⟩ (fun ex a e w hs hq => ?_) h))
  · simp only [envOf, Array.getD_eq_getD_getElem?]
    rcases Nat.lt_or_ge i args.size with h1 | h1
    · simp [Array.getElem?_append_left h1]
    · rw [Array.getElem?_append_right h1, Array.getElem?_eq_none h1]
      rcases Nat.lt_or_ge (i - args.size) (fn.ntmps - args.size) with h2 | h2
      · simp [h2]
      · simp [Nat.not_lt.2 h2]
  · obtain ⟨rfl, hq⟩ := hq
    have hun : un ops.size (Array.replicate ops.size false) = List.range ops.size := by
      unfold un
      refine List.filter_eq_self.2 fun i hi => ?_
      have := List.mem_range.1 hi
      simp [Array.getD_eq_getD_getElem?, this]
    refine wp_seq (wp_region_any hm (wpAny_of_I (K := fun e w => X P (comp bs c2) (retX P fn.results R) e w) kn (fun a e w hs hx => ?_) hd hbk hA h2 _ _ a e _ (by rw [hun]; simp) (by simp) hs ?_))
    · refine wp_of_X hm kn c2 _ _ a e w k2 hs (fun ex a e w hs hq => ?_) hx
      cases ex <;> simp only [retX] at hq <;> try exact hq.elim
      all_goals
        obtain ⟨v, h1, h2⟩ := hq
        refine ⟨hs.defers, v, ?_, ⟨v, rfl, h2⟩⟩
        rw [results_eq hs]
        exact h1
    · have e1 : (fun i => (Array.replicate ops.size false).getD i false) = fun _ => false := by
        funext i
        rw [Array.getD_eq_getD_getElem?]
        by_cases hi : i < ops.size
        · simp [hi]
        · simp [Nat.not_lt.1 hi]
      rw [e1]; exact hq _
end Go.Bx

namespace Go.Proofs.Ytpeindhocndmnaa
open Go Go.Bx
set_option linter.unusedSimpArgs false
set_option linter.unusedVariables false
set_option maxRecDepth 100000
set_option maxHeartbeats 4000000
attribute [local irreducible] X XO XE XF XD XW thenX inX retX kN CallsR
theorem rG_insert {t ty : TypeId} {e : Env} {w : World} {x y z : Operand} : rG Try.prog (.insert t x y z) ty e w = uR (muR Try.prog t (ev e x) (ev e y) (ev e z) w) := run_u _
attribute [push_cast] rG_insert
theorem sc_ {bs : Bigs} {c : Code} {g : GCode} {Q : Exit → Env → World → Prop} {e : Env} {w : World} (h : X Try.prog g Q e w)
    (hg : cs bs c .skip = g := by (simp only [cs, gop, gslot, dops, bigOf, setK, drawOf, drawOf2, dopsW, setW, dopsR, setR, kindOf, List.lookup, List.map_cons, List.map_nil, Option.bind_some, List.getElem?_toArray, List.getElem?_cons_zero, List.getElem?_cons_succ, Option.getD_some, Option.getD_none, List.contains_nil, List.contains_cons, Bool.false_eq_true, ↓reduceIte, Nat.reduceAdd, Nat.reduceBEq, Bool.or_false, Bool.or_true, Bool.true_or] <;> rfl)) : X Try.prog (comp bs c) Q e w := X_comp (hg ▸ h)
def Nb1 (C0 C1 : Fun8) (p m : Nat) (u : World) (q3 q5 q6 q7 q8 q9 : Bool) (x8 x11 x12 x13 x6 : Value) : Prop :=
  ∃ (b ck : Nat) (es : List (Ent Fun8)), x8 = .map (some b) ∧ m ≤ b ∧ u.heap[b]? = some (mObj fv es ck) ∧ MInv es ck ∧ (∀ x ∈ es, (x.1 = C0 ∧ x.2.1 = .int .i64 0) ∨ (x.1 = C1 ∧ x.2.1 = .int .i64 1)) ∧ (q3 = true → mget es C0 ≠ none) ∧ (q5 = true → mget es C1 ≠ none) ∧
    (q6 = true → x11 = .map (some b)) ∧ (q7 = true → x12 = .agg #[.pointer (some ⟨p, 0, none⟩), .map (some b)]) ∧ (q8 = true → ∃ bb, x13 = .pointer (some ⟨bb, 0, none⟩) ∧ m ≤ bb ∧ u.heap[bb]? = some (.cells #[.pointer (some ⟨p, 0, none⟩), .map (some b)] 139) ∧ (q9 = true → x6 = .pointer (some ⟨bb, 0, none⟩)))
section
variable {C0 C1 : Fun8} {p b3 m : Nat} {w u u' : World} {q3 q5 q6 q7 q8 q9 : Bool} {x8 x11 x12 x13 x6 : Value} {S : Nat → Bool} {e : Env}
theorem Nb1.ext (h : Nb1 C0 C1 p m u q3 q5 q6 q7 q8 q9 x8 x11 x12 x13 x6) (hE : Ext u u') : Nb1 C0 C1 p m u' q3 q5 q6 q7 q8 q9 x8 x11 x12 x13 x6 := by
  obtain ⟨b, ck, es, h1, h2, h3, h4, h5, h6, h7, h8, h9, h10⟩ := h
  exact ⟨b, ck, es, h1, h2, hE.at h3, h4, h5, h6, h7, h8, h9, fun h => by obtain ⟨bb, k1, k2, k3, k4⟩ := h10 h; exact ⟨bb, k1, k2, hE.at k3, k4⟩⟩
structure NbI (C0 C1 : Fun8) (p b3 : Nat) (w : World) (S : Nat → Bool) (e : Env) (u : World) : Prop where
  ext : Ext w u
  e0 : e 0 = .pointer (some ⟨p, 0, none⟩)
  e3 : e 3 = .pointer (some ⟨b3, 0, none⟩)
  s0 : S 0 = true → e 7 = .pointer (some ⟨p, 0, none⟩)
  s1 : S 1 = true → Nb1 C0 C1 p w.heap.size u (S 3) (S 5) (S 6) (S 7) (S 8) (S 9) (e 8) (e 11) (e 12) (e 13) (e 6)
  s2 : S 2 = true → e 9 = fv C0
  s4 : S 4 = true → e 10 = fv C1
  cl : S 1 = false → S 3 = false ∧ S 5 = false ∧ S 6 = false ∧ S 7 = false ∧ S 8 = false ∧ S 9 = false
  c9 : S 8 = false → S 9 = false
theorem Nb1.ins {k : Fun8} {v : Value} {b ck : Nat} {es : List (Ent Fun8)} (h2 : m ≤ b) (h3 : u.heap[b]? = some (mObj fv es ck)) (h4 : MInv es ck) (h5 : ∀ x ∈ es, (x.1 = C0 ∧ x.2.1 = .int .i64 0) ∨ (x.1 = C1 ∧ x.2.1 = .int .i64 1)) (h6 : q3 = true → mget es C0 ≠ none) (h7 : q5 = true → mget es C1 ≠ none)
    (h8 : q6 = true → x11 = .map (some b)) (h9 : q7 = true → x12 = .agg #[.pointer (some ⟨p, 0, none⟩), .map (some b)]) (h10 : q8 = true → ∃ bb, x13 = .pointer (some ⟨bb, 0, none⟩) ∧ m ≤ bb ∧ u.heap[bb]? = some (.cells #[.pointer (some ⟨p, 0, none⟩), .map (some b)] 139) ∧ (q9 = true → x6 = .pointer (some ⟨bb, 0, none⟩)))
    (hv : (k = C0 ∧ v = .int .i64 0) ∨ (k = C1 ∧ v = .int .i64 1)) {r3 r5 : Bool} (hr3 : r3 = true → q3 = true ∨ k = C0) (hr5 : r5 = true → q5 = true ∨ k = C1) :
    Nb1 C0 C1 p m (upd u b (mObj fv (mput es k v ck) (mclock es k ck))) r3 r5 q6 q7 q8 q9 (.map (some b)) x11 x12 x13 x6 := by
  have hb := lt_of_heap h3
  have hg : ∀ j, (mget es j ≠ none ∨ k = j) → mget (mput es k v ck) j ≠ none := fun j hj => by
    rw [mget_put h4.keys]
    by_cases e : j = k
    · rw [if_pos e]; simp
    · rw [if_neg e]; exact hj.elim id fun h => absurd h.symm e
  refine ⟨b, mclock es k ck, mput es k v ck, rfl, h2, upd_same hb, h4.put k v, fun x hx => ?_, fun h => hg C0 ((hr3 h).imp h6 id), fun h => hg C1 ((hr5 h).imp h7 id), h8, h9, fun h => ?_⟩
  · rcases mput_mem h4.keys hx with ⟨h1, _⟩ | ⟨h1, h2, _⟩
    · exact h5 x h1
    · rw [h1, h2]; exact hv
  · obtain ⟨bb, k1, k2, k3, k4⟩ := h10 h
    refine ⟨bb, k1, k2, ?_, k4⟩
    rw [upd_other fun e => by subst e; rw [h3] at k3; cases k3]; exact k3
theorem nbI_any (C0 C1 : Fun8) (p b3 : Nat) (w : World) (c0 : ∀ u, CallsR Try.prog 99 #[.bool false] u fun r u' => r = fv C0 ∧ Ext u u') (c1 : ∀ u, CallsR Try.prog 99 #[.bool true] u fun r u' => r = fv C1 ∧ Ext u u') {c2 : Code} {id : Nat} {ops : Array Oper} {x0 : Code}
    (hb : Try.f33.body = some (.seq x0 (.seq (.region id ops true) c2))) : AnyO Try.prog ops (NbI C0 C1 p b3 w) := by
  cases hb
  intro S j o hj hS haf e u hI
  rcases j with _ | _ | _ | _ | _ | _ | _ | _ | _ | _ | j
  · simp only [List.getElem?_toArray, List.getElem?_cons_succ, List.getElem?_cons_zero, Option.some.injEq, Nat.zero_add, Nat.reduceAdd] at hj
    subst hj
    refine ⟨trivial, ?_⟩
    rw [XV_rG]
    have e0 := hI.e0
    refine krA ?_
    refine kv ?_
    exact ⟨hI.ext, by simpa [Env.put, Env.set] using hI.e0, by simpa [Env.put, Env.set] using hI.e3, fun _ => by simp [Env.put, Env.set], fun hs => by have := hI.s1 (by simpa using hs); simpa [Env.put, Env.set] using this, fun hs => by have := hI.s2 (by simpa using hs); simpa [Env.put, Env.set] using this, fun hs => by have := hI.s4 (by simpa using hs); simpa [Env.put, Env.set] using this, fun hs => by have := hI.cl (by simpa using hs); simpa using this, fun hs => by have := hI.c9 (by simpa using hs); simpa using this⟩
  · simp only [List.getElem?_toArray, List.getElem?_cons_succ, List.getElem?_cons_zero, Option.some.injEq, Nat.zero_add, Nat.reduceAdd] at hj
    subst hj
    refine ⟨trivial, ?_⟩
    rw [XV_rG]
    rw [rG_makeMap]
    refine kv ?_
    have hc := hI.cl hS
    have hE : Ext u (u.alloc (.map #[] 0)) := ext_
    exact ⟨hI.ext.trans hE, by simpa [Env.put, Env.set] using hI.e0, by simpa [Env.put, Env.set] using hI.e3, fun hs => by have := hI.s0 (by simpa using hs); simpa [Env.put, Env.set] using this, fun _ => ⟨u.heap.size, 0, [], by simp [Env.put, Env.set], hI.ext.size, alloc_new, MInv.nil, fun x hx => (by cases hx), fun h => by simp [hc.1] at h, fun h => by simp [hc.2.1] at h, fun h => by simp [hc.2.2.1] at h, fun h => by simp [hc.2.2.2.1] at h, fun h => by simp [hc.2.2.2.2.1] at h⟩, fun hs => by have := hI.s2 (by simpa using hs); simpa [Env.put, Env.set] using this, fun hs => by have := hI.s4 (by simpa using hs); simpa [Env.put, Env.set] using this, fun hs => by simp at hs, fun hs => by have := hI.c9 (by simpa using hs); simpa using this⟩
  · simp only [List.getElem?_toArray, List.getElem?_cons_succ, List.getElem?_cons_zero, Option.some.injEq, Nat.zero_add, Nat.reduceAdd] at hj
    subst hj
    refine ⟨trivial, ?_⟩
    rw [XV_rG]
    refine krA ?_
    refine ke ?_
    refine (c0 u).mono ?_
    rintro _ u' ⟨rfl, hE⟩
    exact ⟨hI.ext.trans hE, by simpa [Env.put, Env.set] using hI.e0, by simpa [Env.put, Env.set] using hI.e3, fun hs => by have := hI.s0 (by simpa using hs); simpa [Env.put, Env.set] using this, fun hs => by have := (hI.s1 (by simpa using hs)).ext hE; simpa [Env.put, Env.set] using this, fun _ => by simp [Env.put, Env.set], fun hs => by have := hI.s4 (by simpa using hs); simpa [Env.put, Env.set] using this, fun hs => by have := hI.cl (by simpa using hs); simpa using this, fun hs => by have := hI.c9 (by simpa using hs); simpa using this⟩
  · simp only [List.getElem?_toArray, List.getElem?_cons_succ, List.getElem?_cons_zero, Option.some.injEq, Nat.zero_add, Nat.reduceAdd] at hj
    subst hj
    refine ⟨trivial, ?_⟩
    rw [XV_rG]
    have h1 : S 1 = true := haf ⟨1, .data⟩ (by simp) rfl
    have h2 : S 2 = true := haf ⟨2, .data⟩ (by simp) rfl
    have hk := hI.s2 h2
    obtain ⟨b, ck, es, k1, k2, k3, k4, k5, k6, k7, k8, k9, k10⟩ := hI.s1 h1
    have hbl := lt_of_heap k3
    refine krA ?_
    refine ks ?_
    refine ⟨hI.ext.upd k2 _, hI.e0, hI.e3, fun hs => hI.s0 (by simpa using hs), fun _ => ?_, fun hs => hI.s2 (by simpa using hs), fun hs => hI.s4 (by simpa using hs), fun hs => ?_, fun hs => ?_⟩
    · have := Nb1.ins (k := C0) (v := .int .i64 0) (r3 := true) (r5 := S 5) k2 k3 k4 k5 k6 k7 k8 k9 k10 (.inl ⟨rfl, rfl⟩) (fun _ => .inr rfl) (fun h => .inl h)
      simpa [Env.put, k1] using this
    · simp [h1] at hs
    · have := hI.c9 (by simpa using hs)
      simpa using this
  · simp only [List.getElem?_toArray, List.getElem?_cons_succ, List.getElem?_cons_zero, Option.some.injEq, Nat.zero_add, Nat.reduceAdd] at hj
    subst hj
    refine ⟨trivial, ?_⟩
    rw [XV_rG]
    refine krA ?_
    refine ke ?_
    refine (c1 u).mono ?_
    rintro _ u' ⟨rfl, hE⟩
    exact ⟨hI.ext.trans hE, by simpa [Env.put, Env.set] using hI.e0, by simpa [Env.put, Env.set] using hI.e3, fun hs => by have := hI.s0 (by simpa using hs); simpa [Env.put, Env.set] using this, fun hs => by have := (hI.s1 (by simpa using hs)).ext hE; simpa [Env.put, Env.set] using this, fun hs => by have := hI.s2 (by simpa using hs); simpa [Env.put, Env.set] using this, fun _ => by simp [Env.put, Env.set], fun hs => by have := hI.cl (by simpa using hs); simpa using this, fun hs => by have := hI.c9 (by simpa using hs); simpa using this⟩
  · simp only [List.getElem?_toArray, List.getElem?_cons_succ, List.getElem?_cons_zero, Option.some.injEq, Nat.zero_add, Nat.reduceAdd] at hj
    subst hj
    refine ⟨trivial, ?_⟩
    rw [XV_rG]
    have h1 : S 1 = true := haf ⟨1, .data⟩ (by simp) rfl
    have h2 : S 4 = true := haf ⟨4, .data⟩ (by simp) rfl
    have hk := hI.s4 h2
    obtain ⟨b, ck, es, k1, k2, k3, k4, k5, k6, k7, k8, k9, k10⟩ := hI.s1 h1
    have hbl := lt_of_heap k3
    refine krA ?_
    refine ks ?_
    refine ⟨hI.ext.upd k2 _, hI.e0, hI.e3, fun hs => hI.s0 (by simpa using hs), fun _ => ?_, fun hs => hI.s2 (by simpa using hs), fun hs => hI.s4 (by simpa using hs), fun hs => ?_, fun hs => ?_⟩
    · have := Nb1.ins (k := C1) (v := .int .i64 1) (r3 := S 3) (r5 := true) k2 k3 k4 k5 k6 k7 k8 k9 k10 (.inr ⟨rfl, rfl⟩) (fun h => .inl h) (fun _ => .inr rfl)
      simpa [Env.put, k1] using this
    · simp [h1] at hs
    · have := hI.c9 (by simpa using hs)
      simpa using this
  · simp only [List.getElem?_toArray, List.getElem?_cons_succ, List.getElem?_cons_zero, Option.some.injEq, Nat.zero_add, Nat.reduceAdd] at hj
    subst hj
    refine ⟨trivial, ?_⟩
    rw [XV_rG]
    have h1 : S 1 = true := haf ⟨1, .data⟩ (by simp) rfl
    obtain ⟨b, ck, es, k1, k2, k3, k4, k5, k6, k7, k8, k9, k10⟩ := hI.s1 h1
    refine krA ?_
    refine kv ?_
    exact ⟨hI.ext, by simpa [Env.put, Env.set] using hI.e0, by simpa [Env.put, Env.set] using hI.e3, fun hs => by have := hI.s0 (by simpa using hs); simpa [Env.put, Env.set] using this, fun _ => ⟨b, ck, es, by simpa [Env.put, Env.set] using k1, k2, k3, k4, k5, fun h => k6 (by simpa using h), fun h => k7 (by simpa using h), fun _ => by simp [Env.put, Env.set], by simpa [Env.put, Env.set] using k9, by simpa [Env.put, Env.set] using k10⟩, fun hs => by have := hI.s2 (by simpa using hs); simpa [Env.put, Env.set] using this, fun hs => by have := hI.s4 (by simpa using hs); simpa [Env.put, Env.set] using this, fun hs => by simp [h1] at hs, fun hs => by have := hI.c9 (by simpa using hs); simpa using this⟩
  · simp only [List.getElem?_toArray, List.getElem?_cons_succ, List.getElem?_cons_zero, Option.some.injEq, Nat.zero_add, Nat.reduceAdd] at hj
    subst hj
    refine ⟨trivial, ?_⟩
    rw [XV_rG]
    have h1 : S 1 = true := by
      cases h1 : S 1 with
      | true => rfl
      | false => have := hI.cl h1; have h6 : S 6 = true := haf ⟨6, .data⟩ (by simp) rfl; simp [this] at h6
    obtain ⟨b, ck, es, k1, k2, k3, k4, k5, k6, k7, k8, k9, k10⟩ := hI.s1 h1
    have e7 := hI.s0 (haf ⟨0, .data⟩ (by simp) rfl)
    have e11 := k8 (haf ⟨6, .data⟩ (by simp) rfl)
    refine krA ?_
    refine kv ?_
    exact ⟨hI.ext, by simpa [Env.put, Env.set] using hI.e0, by simpa [Env.put, Env.set] using hI.e3, fun hs => by have := hI.s0 (by simpa using hs); simpa [Env.put, Env.set] using this, fun _ => ⟨b, ck, es, by simpa [Env.put, Env.set] using k1, k2, k3, k4, k5, fun h => k6 (by simpa using h), fun h => k7 (by simpa using h), by simpa [Env.put, Env.set] using k8, fun _ => by simp [Env.put, Env.set], by simpa [Env.put, Env.set] using k10⟩, fun hs => by have := hI.s2 (by simpa using hs); simpa [Env.put, Env.set] using this, fun hs => by have := hI.s4 (by simpa using hs); simpa [Env.put, Env.set] using this, fun hs => by simp [h1] at hs, fun hs => by have := hI.c9 (by simpa using hs); simpa using this⟩
  · simp only [List.getElem?_toArray, List.getElem?_cons_succ, List.getElem?_cons_zero, Option.some.injEq, Nat.zero_add, Nat.reduceAdd] at hj
    subst hj
    refine ⟨trivial, ?_⟩
    rw [XV_rG]
    have h1 : S 1 = true := by
      cases h1 : S 1 with
      | true => rfl
      | false => have := hI.cl h1; have h6 : S 7 = true := haf ⟨7, .data⟩ (by simp) rfl; simp [this] at h6
    obtain ⟨b, ck, es, k1, k2, k3, k4, k5, k6, k7, k8, k9, k10⟩ := hI.s1 h1
    have e12 := k9 (haf ⟨7, .data⟩ (by simp) rfl)
    have hsu := hI.ext.size
    refine krA ?_
    refine kv ?_
    have hE : Ext u (u.alloc (.cells #[.pointer (some ⟨p, 0, none⟩), .map (some b)] 139)) := ext_
    exact ⟨hI.ext.trans hE, by simpa [Env.put, Env.set] using hI.e0, by simpa [Env.put, Env.set] using hI.e3, fun hs => by have := hI.s0 (by simpa using hs); simpa [Env.put, Env.set] using this, fun _ => ⟨b, ck, es, by simpa [Env.put, Env.set] using k1, k2, hE.at k3, k4, k5, fun h => k6 (by simpa using h), fun h => k7 (by simpa using h), by simpa [Env.put, Env.set] using k8, by simpa [Env.put, Env.set] using k9, fun _ => ⟨u.heap.size, by simp [Env.put, Env.set], hsu, alloc_new, fun h => by have h9 : S 9 = true := (by simpa using h); rw [hI.c9 hS] at h9; cases h9⟩⟩, fun hs => by have := hI.s2 (by simpa using hs); simpa [Env.put, Env.set] using this, fun hs => by have := hI.s4 (by simpa using hs); simpa [Env.put, Env.set] using this, fun hs => by simp [h1] at hs, fun hs => by simp at hs⟩
  · simp only [List.getElem?_toArray, List.getElem?_cons_succ, List.getElem?_cons_zero, Option.some.injEq, Nat.zero_add, Nat.reduceAdd] at hj
    subst hj
    refine ⟨trivial, ?_⟩
    rw [XV_rG]
    have h1 : S 1 = true := by
      cases h1 : S 1 with
      | true => rfl
      | false => have := hI.cl h1; have h6 : S 8 = true := haf ⟨8, .data⟩ (by simp) rfl; simp [this] at h6
    obtain ⟨b, ck, es, k1, k2, k3, k4, k5, k6, k7, k8, k9, k10⟩ := hI.s1 h1
    obtain ⟨bb, m1, m2, m3, m4⟩ := k10 (haf ⟨8, .data⟩ (by simp) rfl)
    refine krA ?_
    refine kv ?_
    exact ⟨hI.ext, by simpa [Env.put, Env.set] using hI.e0, by simpa [Env.put, Env.set] using hI.e3, fun hs => by have := hI.s0 (by simpa using hs); simpa [Env.put, Env.set] using this, fun _ => ⟨b, ck, es, by simpa [Env.put, Env.set] using k1, k2, k3, k4, k5, fun h => k6 (by simpa using h), fun h => k7 (by simpa using h), by simpa [Env.put, Env.set] using k8, by simpa [Env.put, Env.set] using k9, fun _ => ⟨bb, by simpa [Env.put, Env.set] using m1, m2, m3, by simp [Env.put, Env.set]⟩⟩, fun hs => by have := hI.s2 (by simpa using hs); simpa [Env.put, Env.set] using this, fun hs => by have := hI.s4 (by simpa using hs); simpa [Env.put, Env.set] using this, fun hs => by simp [h1] at hs, fun hs => by have h8 : S 8 = true := haf ⟨8, .data⟩ (by simp) rfl; simp [h8] at hs⟩
  · cases hj
theorem rdBuildTop_calls {own : Nat → Nat} {s : Md} (hS : StI own w p s []) (G : s.Good []) (f : Fun8) : CallsR Try.prog 33 #[.pointer (some ⟨p, 0, none⟩), fv f] w fun r w' => r = .tuple #[.int .i64 (s.bld f).1.1, errV (s.bld f).1.2] ∧ TrI own w p (s.bld f).2 [] w' := by
  obtain ⟨C0, hC0⟩ : ∃ C, constF false = C := ⟨_, rfl⟩
  obtain ⟨C1, hC1⟩ : ∃ C, constF true = C := ⟨_, rfl⟩
  have c0 : ∀ u, CallsR Try.prog 99 #[.bool false] u fun r u' => r = fv C0 ∧ Ext u u' := hC0 ▸ const_calls false
  have c1 : ∀ u, CallsR Try.prog 99 #[.bool true] u fun r u' => r = fv C1 ∧ Ext u u' := hC1 ▸ const_calls true
  have hne : C0 ≠ C1 := by rw [← hC0, ← hC1]; exact const_ne
  have own0 : ∀ k, w.heap.size ≤ k → own k = 0 := fun k hk => by
    cases ho : own k with
    | zero => rfl
    | succ q => have := hS.lt k (by omega); omega
  refine callsS (bs := []) (I := NbI C0 C1 p w.heap.size (w.alloc (.cells #[vU (word f 0), vU (word f 1), vU (word f 2), vU (word f 3)] 54))) Try.func33 Try.results33 rfl mixed (by kernel_rfl) ?_ (nbI_any C0 C1 p _ _ c0 c1 rfl) ?_
  · refine sc_ ?_
    have h0 : envOf #[.pointer (some ⟨p, 0, none⟩), fv f] 0 = .pointer (some ⟨p, 0, none⟩) := rfl
    have h1 : envOf #[.pointer (some ⟨p, 0, none⟩), fv f] 1 = fv f := rfl
    generalize envOf #[.pointer (some ⟨p, 0, none⟩), fv f] = e0 at h0 h1
    refine w_ fun d => ?_
    refine ⟨rfl, fun d => ⟨(Ext.refl _).drawn d, by simpa [Env.put, Env.set] using h0, by simp [Env.put, Env.set], fun h => (by cases h), fun h => (by cases h), fun h => (by cases h), fun h => (by cases h), fun _ => ⟨rfl, rfl, rfl, rfl, rfl, rfl⟩, fun _ => rfl⟩⟩
  · intro S e u hAll hN
    have hs : ∀ j, j < 10 → S j = true := hAll
    obtain ⟨b, ck, es, k1, k2, k3, k4, k5, k6, k7, k8, k9, k10⟩ := hN.s1 (hs 1 (by decide))
    obtain ⟨bb, m1, m2, m3, m4⟩ := k10 (hs 8 (by decide))
    have h6 := m4 (hs 9 (by decide))
    have h3 := hN.e3
    have hEu : Ext w u := (by exact ext_ : Ext w (w.alloc _)).trans hN.ext
    have hb3 : u.heap[w.heap.size]? = some (.cells #[vU (word f 0), vU (word f 1), vU (word f 2), vU (word f 3)] 54) := hN.ext.at alloc_new
    have hl3 := lt_of_heap hb3
    have hB : BtI own u p s bb b es ck := ⟨hS.ext hEu, m3, k3, k4, ⟨fun x hx => by
      rcases k5 x hx with ⟨e1, e2⟩ | ⟨e1, e2⟩
      · exact ⟨0, e2, by rw [e1, ← hC0]; exact .c0⟩
      · exact ⟨1, e2, by rw [e1, ← hC1]; exact .c1⟩, fun c => by
      cases c
      · rw [hC0]; exact k6 (hs 3 (by decide))
      · rw [hC1]; exact k7 (hs 5 (by decide))⟩, own0 _ (by rw [alloc_size] at m2; omega), own0 _ (by rw [alloc_size] at k2; omega)⟩
    have hwb : w.heap.size ≤ b := by rw [alloc_size] at k2; omega
    have bd := fun v (hE : Ext u v) => rdBuild_calls 8 own v s es ck f 0 (hB.ext hE) G nv_le (by omega) (fun u hu => (G.wf.ord.lt (dep_range hu)).1)
    clear hAll hs hN k1 k5 k6 k7 k8 k9 k10 m1 m4 m3 k3 k4 hB c0 c1 hne hC0 hC1
    refine sc_ ?_
    refine w_ fun d => ?_
    refine (bd u (Ext.refl u)).mono ?_
    rintro _ u2 ⟨rfl, own', es', ck', hB', ho', hC'⟩
    refine w_ fun d => ?_
    exact ⟨rfl, own', hB'.sti, fun k hk => ho' k (Nat.lt_of_lt_of_le hk hEu.size), (hEu.chg _).trans (hC'.mono fun k _ hf => hf) fun k hk hf => hf.elim id fun h => by omega⟩
end
end Go.Proofs.Ytpeindhocndmnaa

namespace Go.Bx
open Go
set_option linter.unusedSimpArgs false
set_option linter.unusedVariables false
end Go.Bx

namespace Go.Bx
open Go
set_option linter.unusedSimpArgs false
set_option linter.unusedVariables false
section
variable {P : Program} {F : Nat → Value → World → Prop} {K : Env → World → Prop} {C D : World → Prop} {d : Option Tmp} {op : Op} {ty : TypeId} {e : Env} {w w1 : World} {l : List (GOp × Nat)} {v : Value} {n : Nat}
theorem xyD (F : Nat → Value → World → Prop) (hF : ∀ k v u u', F k v u → Ext u u' → F k v u') (D : World → Prop) (hD : ∀ u, Ext w u → D u) (h : XR P F K l (Ext w) D e) : XY P l K e w := ⟨F, Ext w, D, hF, fun d => (Ext.refl w).drawn d, hD, Cl_ext, h⟩
theorem xr4D (h : ∀ u, D u → rG P op ty e u = .ok (.value v) u) (hk : XR P F K l C D (e.put d v)) : XR P F K ((⟨d, op, ty, none⟩, 4) :: l) C D e :=
  .inl ⟨trivial, v, fun u hu => by
    have := h u hu
    unfold rG at this
    unfold WV
    rw [this]
    exact ⟨rfl, rfl⟩, hk⟩
theorem xr4S {f : FuncId} {args : Array Value} (hc : Sure P f args v) (hk : XR P F K l C D (e.put d v)) (h : ∀ u, rG P op ty e u = .ok (.enter f args) u := by (intro w'; (simp (disch := first | assumption | ((try simp only [upd_size, alloc_size, dr_heap, List.size_toArray, List.length_cons, List.length_nil, Nat.reduceAdd]) <;> omega) | (with_unfolding_all (refine Eq.trans rfl ?_; exact rfl)) | exact Nat.le_of_ble_eq_true rfl | fail) only [push_cast, *, Nat.reduceEqDiff, Nat.reduceAdd, Nat.reduceMul, Nat.reduceSub, Int.reduceToNat, Int.reduceAdd, Int.reduceSub, Int.reduceMul, Int.reduceNeg, ↓reduceIte] <;> rfl)))
    (hi : P.inits.idxOf? f = none := by kernel_rfl) : XR P F K ((⟨d, op, ty, none⟩, 4) :: l) C D e :=
  .inl ⟨trivial, v, fun u hu => by
    have := h u
    unfold rG at this
    unfold WV
    rw [this]
    exact ⟨rfl, hi, Calls.mono (hc u) fun en w'' ⟨v', he, hv, hx⟩ => ⟨by rw [he, hv], hx⟩⟩, hk⟩
theorem xr2F (h : ∀ w', C w' → kN P (fun v w'' => (∀ k u, F k u w' → F k u w'') ∧ (∀ u, Ext w'' u → D u) ∧ XR P F K l (Ext w'') D (e.put d v)) (rG P op ty e w')) : XR P F K ((⟨d, op, ty, none⟩, 2) :: l) C D e := by
  refine .inl ⟨trivial, fun w' hw => ?_⟩
  have := h w' hw
  rw [XV_rG]
  generalize rG P op ty e w' = x at *
  have mk : ∀ v w'', ((∀ k u, F k u w' → F k u w'') ∧ (∀ u, Ext w'' u → D u) ∧ XR P F K l (Ext w'') D (e.put d v)) → ∃ C' : World → Prop, C' w'' ∧ (∀ u, C' u → D u) ∧ Cl C' ∧ (∀ k u, F k u w' → F k u w'') ∧ XR P F K l C' D (e.put d v) :=
    fun v w'' ⟨hF, hD, hx⟩ => ⟨Ext w'', Ext.refl w'', hD, Cl_ext, hF, hx⟩
  cases x with
  | ok n w'' =>
    cases n <;> simp only [kN] at this ⊢
    case value => exact mk _ _ this
    case skip => exact mk _ _ this
    case enter => exact this.mono fun v w'' hv => mk _ _ hv
    all_goals exact this
  | halt y w' => exact this
theorem xr5a (h : ∀ u, D u → ∃ v u', rG P op ty e u = .ok (.value v) u' ∧ Ext u u' ∧ F n v u') (hk : ∀ v, (∃ w, C w ∧ F n v w) → XR P F K l (fun w => C w ∧ F n v w) D (e.put d v)) : XR P F K ((⟨d, op, ty, none⟩, n + 5) :: l) C D e :=
  .inl ⟨trivial, fun u hu => by
    obtain ⟨v, u', h1, h2, h3⟩ := h u hu
    unfold rG at h1
    unfold RV
    rw [h1]
    exact ⟨h2, h3⟩, hk⟩
theorem d0_ {A B : Prop} (q : A) (h : Box A → B := by (intro q; (repeat (refine xr0A ?_)); exact q.out)) : B := h ⟨q⟩
end
end Go.Bx

namespace Go.Proofs.Ytpeindhocndmnaa
open Go Go.Bx
set_option linter.unusedSimpArgs false
set_option linter.unusedVariables false
set_option maxRecDepth 100000
set_option maxHeartbeats 4000000
attribute [local irreducible] X XO XE XF XD XW thenX inX retX kN CallsR
def KnT (s : Md) (es : List (Ent Int)) : Prop := ∀ e ∈ es, ∃ f, e.2.1 = fv f ∧ Den s e.1 f
theorem KnT.put {s : Md} {es : List (Ent Int)} {ck : Nat} {f : Fun8} {n : Int} (h : KnT s es) (hI : MInv es ck) (d : Den s n f) : KnT s (mput es n (fv f) ck) := by
  intro e he
  rcases mput_mem hI.keys he with ⟨h1, _⟩ | ⟨h1, h2, _⟩
  · exact h e h1
  · exact ⟨f, h2, by rw [h1]; exact d⟩
section
variable {own : Nat → Nat} {w : World} {p b ck : Nat} {es : List (Ent Int)} {v : Value} {n : Int} {s : Md} {f : Fun8}
theorem intK {kt : TypeId} (hd : Try.prog.underlying kt = some (.int .i64)) : KeyOK Try.prog kt (Value.int .i64) fun _ : Int => True := int_keys hd
theorem luT (h : w.heap[b]? = some (mObj (Value.int .i64) es ck)) : luO Try.prog 142 b (.int .i64 n) true w (some (mObj (Value.int .i64) es ck)) h = .ok (.tuple #[(mget es n).getD (.agg #[.int .u64 0, .int .u64 0, .int .u64 0, .int .u64 0]), .bool (mget es n).isSome]) w := lookup_at h T142 T54 (intK T3.und) trivial (fun _ _ => trivial) true
theorem muT (h : w.heap[b]? = some (mObj (Value.int .i64) es ck)) : muO Try.prog 142 b (.int .i64 n) v w (some (mObj (Value.int .i64) es ck)) h = .ok () (upd w b (mObj (Value.int .i64) (mput es n v ck) (mclock es n ck))) := update_at h T142 (intK T3.und) trivial (fun _ _ => trivial) v
attribute [push_cast] luT muT
def TbT (w : World) (s : Md) (bm : Nat) (w' : World) : Prop := ∃ es' ck', w'.heap[bm]? = some (mObj (Value.int .i64) es' ck') ∧ MInv es' ck' ∧ KnT s es' ∧ Chg (fun k => k = bm) w w'
theorem rdTable_none (hS : StI own w p s []) (W : s.WF) (hn : n ≤ 9223372036854775807) (hh : s.has n = false) (bm : Nat) : CallsR Try.prog 101 #[.pointer (some ⟨p, 0, none⟩), .int .i64 n, .map (some bm)] w fun r w' => r = fv (constF (decide (n = 1))) ∧ Ext w w' := by
  have n1 := stNode_calls hS W n hn
  have hnd : s.node n = ((0, 0, 0), false) := by unfold Md.node; rw [hh]; rfl
  rw [hnd] at n1
  simp only [ndV] at n1
  have c1 : Sure Try.prog 99 #[.bool (n == 1)] (fv (constF (decide (n = 1)))) := fun u => by
    have := const_calls (decide (n = 1)) u
    rwa [show (n == 1) = decide (n = 1) from rfl]
  generalize constF (decide (n = 1)) = C at c1
  clear hS hnd
  refine en3 Try.func101 Try.results101 mixed [(7, [7, 12]), (1007, [1, 2, 5, 10, 13, 1015]), (2007, [14])] ?_
  intro e0 h0 h1 h2
  refine w_ fun d => ?_
  refine qq n1 fun w1 hE1 hs1 => ?_
  refine w_ fun d => ?_
  refine qq (c1.quiet (w := w1)) fun w2 hE2 hs2 => ?_
  refine w_ fun d => ?_
  exact ⟨rfl, ext_⟩
theorem TbT.of_ext {bm : Nat} {w' : World} (hm : w.heap[bm]? = some (mObj (Value.int .i64) es ck)) (hI : MInv es ck) (hk : KnT s es) (hE : Ext w w') : TbT w s bm w' := ⟨es, ck, hE.at hm, hI, hk, hE.chg _⟩
theorem rdTable_calls {bm : Nat} (G : s.Good []) (ho : own bm = 0) (d : Den s n f) : ∀ (w : World) (es : List (Ent Int)) (ck : Nat), StI own w p s [] → w.heap[bm]? = some (mObj (Value.int .i64) es ck) → MInv es ck → KnT s es →
    CallsR Try.prog 101 #[.pointer (some ⟨p, 0, none⟩), .int .i64 n, .map (some bm)] w fun r w' => r = fv f ∧ TbT w s bm w' := by
  have W := G.wf
  induction d with
  | c0 =>
    intro w es ck hS hm hI hk
    refine (rdTable_none hS W (by decide) (Md.has_no (by decide)) bm).mono ?_
    rintro r w' ⟨rfl, hE⟩
    exact ⟨rfl, TbT.of_ext hm hI hk hE⟩
  | c1 =>
    intro w es ck hS hm hI hk
    refine (rdTable_none hS W (by decide) (Md.has_no (by decide)) bm).mono ?_
    rintro r w' ⟨rfl, hE⟩
    exact ⟨rfl, TbT.of_ext hm hI hk hE⟩
  | @node n v lo hi f0 f1 h hx h0 h1 ih0 ih1 =>
    intro w es ck hS hm hI hk
    have hN := wf_N W
    have hl := W.lt h
    have n1 := stNode_calls hS W n (by omega)
    rw [show s.node n = ((v, lo, hi), true) by unfold Md.node; rw [h, hx]; rfl] at n1
    simp only [ndV] at n1
    have dn : Den s n (iteF (varF v) f1 f0) := .node h hx h0 h1
    have c2 : Sure Try.prog 143 #[.int .i64 v] (fv (varF v)) := var_calls v
    have c3 : Sure Try.prog 142 #[fv (varF v), fv f1, fv f0] (fv (iteF (varF v) f1 f0)) := ite_calls _ _ _
    generalize iteF (varF v) f1 f0 = F at dn c3
    generalize varF v = V at c2 c3
    have lm := lt_of_heap hm
    clear hx h0 h1 h hl
    cases hg : mget es n with
    | some val =>
      obtain ⟨bb, hbb⟩ := mget_some hg
      obtain ⟨f', e1, e2⟩ := hk _ hbb
      dsimp only at e1 e2
      obtain rfl := e2.fn dn
      subst e1
      have g1 : (mget es n).isSome = true := by rw [hg]; rfl
      have g2 : (mget es n).getD (.agg #[.int .u64 0, .int .u64 0, .int .u64 0, .int .u64 0]) = fv f' := by rw [hg]; rfl
      clear hg hbb e2 ih0 ih1
      refine en3 Try.func101 Try.results101 mixed [(7, [7, 12]), (1007, [1, 2, 5, 10, 13, 1015]), (2007, [14])] ?_
      intro e0 h0 h1 h2
      refine w_ fun d => ?_
      refine qq n1 fun w1 hE1 hs1 => ?_
      have hm1 := (Ext.trans (by exact ext_) hE1 : Ext w w1).at hm
      have lm1 := lt_of_heap hm1
      refine w_ fun d => ?_
      exact ⟨rfl, TbT.of_ext hm hI hk ext_⟩
    | none =>
      have g1 : (mget es n).isSome = false := by rw [hg]; rfl
      have g2 : (mget es n).getD (.agg #[.int .u64 0, .int .u64 0, .int .u64 0, .int .u64 0]) = .agg #[.int .u64 0, .int .u64 0, .int .u64 0, .int .u64 0] := by rw [hg]; rfl
      clear hg
      refine en3 Try.func101 Try.results101 mixed [(7, [7, 12]), (1007, [1, 2, 5, 10, 13, 1015]), (2007, [14])] ?_
      intro e0 h0 h1 h2
      refine w_ fun d => ?_
      refine qq n1 fun w1 hE1 hs1 => ?_
      have hm1 := (Ext.trans (by exact ext_) hE1 : Ext w w1).at hm
      have lm1 := lt_of_heap hm1
      refine w_ fun d => ?_
      refine at_w fun u hu => ?_
      have hE1u : Ext w1 u := by rw [hu]; exact ext_
      have hE01 : Ext w w1 := Ext.trans (by exact ext_) hE1
      have hEu : Ext w u := hE01.trans hE1u
      have h7 : u.heap[w1.heap.size]? = some (.cells #[.int .i64 v, .int .i64 lo, .int .i64 hi] 39) := by rw [hu]; exact hA rfl
      have h6 : u.heap[w.heap.size]? = some (.cells #[.int .u64 0, .int .u64 0, .int .u64 0, .int .u64 0] 54) := hE1u.at (hE1.at (hA rfl))
      have hmu := hE1u.at hm1
      have hSu := hS.ext hEu
      obtain ⟨b7, hb7⟩ : ∃ b, w1.heap.size = b := ⟨_, rfl⟩
      obtain ⟨b6, hb6⟩ : ∃ b, w.heap.size = b := ⟨_, rfl⟩
      rw [hb7] at h7 ⊢
      rw [hb6] at h6 ⊢
      have lmw : bm < b6 := by omega
      clear hu n1 hE1 hE1u hm1 lm1 hS hb7 hE01
      clear hs1
      have l6 := lt_of_heap h6
      have l7 := lt_of_heap h7
      refine s_rel (xyD (fun _ v' u' => ∃ b, v' = .pointer (some ⟨b, 0, none⟩) ∧ u.heap.size ≤ b ∧ u'.heap[b]? = some (.cells #[.int .u64 0, .int .u64 0, .int .u64 0, .int .u64 0] 54)) (fun _ v' u1 u2 ⟨b, e, hb, hc⟩ hE => ⟨b, e, hb, hE.at hc⟩)
        (fun u' => u.heap.size ≤ u'.heap.size ∧ u'.heap[b7]? = some (.cells #[.int .i64 v, .int .i64 lo, .int .i64 hi] 39)) (fun u' hE => ⟨hE.size, hE.at h7⟩) ?_)
      refine d0_ ?_
      refine xr4D (v := .int .i64 v) (fun u' ⟨_, hu'⟩ => by exact rgA) ?_
      refine xr4S c2 ?_
      refine d0_ ?_
      refine xr4D (v := .int .i64 hi) (fun u' ⟨_, hu'⟩ => by exact rgA) ?_
      refine d0_ ?_
      refine xr2F fun u1 hE1 => ?_
      have hm1 := hE1.at hmu
      have h71 := hE1.at h7
      have h61 := hE1.at h6
      refine krA ?_
      refine ke ?_
      refine (ih1 u1 es ck (hSu.ext hE1) hm1 hI hk).mono ?_
      rintro _ u2 ⟨rfl, es2, ck2, hm2, hI2, hk2, hC2⟩
      have h72 := (hC2.heap b7 (lt_of_heap h71) (fun e => by subst e; rw [hm1] at h71; cases h71)).trans h71
      have h62 := (hC2.heap b6 (lt_of_heap h61) (fun e => by subst e; rw [hm1] at h61; cases h61)).trans h61
      have hs2 : u.heap.size ≤ u2.heap.size := Nat.le_trans hE1.size hC2.size
      have hS2 : StI own u2 p s [] := (hSu.ext hE1).chg0 hC2 fun k hk => hk ▸ ho
      refine ⟨fun _ v' ⟨b, e, hb, hc⟩ => ⟨b, e, hb, (hC2.heap b (lt_of_heap hc) (fun e => by subst e; rw [hm1] at hc; cases hc)).trans hc⟩, fun u' hE' => ⟨Nat.le_trans hs2 hE'.size, hE'.at h72⟩, ?_⟩
      refine d0_ ?_
      refine xr4D (v := .int .i64 lo) (fun u' ⟨_, hu'⟩ => by exact rgA) ?_
      refine d0_ ?_
      refine xr2F fun u3 hE3 => ?_
      have hm3 := hE3.at hm2
      have h73 := hE3.at h72
      have h63 := hE3.at h62
      refine krA ?_
      refine ke ?_
      refine (ih0 u3 es2 ck2 (hS2.ext hE3) hm3 hI2 hk2).mono ?_
      rintro _ u4 ⟨rfl, es4, ck4, hm4, hI4, hk4, hC4⟩
      have h74 := (hC4.heap b7 (lt_of_heap h73) (fun e => by subst e; rw [hm3] at h73; cases h73)).trans h73
      have h64 := (hC4.heap b6 (lt_of_heap h63) (fun e => by subst e; rw [hm3] at h63; cases h63)).trans h63
      have hs4 : u.heap.size ≤ u4.heap.size := Nat.le_trans hs2 (Nat.le_trans hE3.size hC4.size)
      refine ⟨fun _ v' ⟨b, e, hb, hc⟩ => ⟨b, e, hb, (hC4.heap b (lt_of_heap hc) (fun e => by subst e; rw [hm3] at hc; cases hc)).trans hc⟩, fun u' hE' => ⟨Nat.le_trans hs4 hE'.size, hE'.at h74⟩, ?_⟩
      have hC04 : Chg (fun k => k = bm) u u4 := (((hE1.chg _).trans hC2 fun _ _ h => h).transE hE3).trans hC4 fun _ _ h => h
      refine xr4S c3 ?_
      refine xr5a (fun u' ⟨hsz, _⟩ => ⟨_, _, rG_alloc T54, (Ext.refl u').alloc _, u'.heap.size, rfl, hsz, alloc_new⟩) fun v' ⟨u5, hu5, b, hvb, hb, _⟩ => ?_
      subst hvb
      refine xr3 fun u6 hC6 => ?_
      obtain ⟨hE6, b', he, _, hb6'⟩ := hC6
      cases he
      have lb6 := lt_of_heap hb6'
      refine krA ?_
      refine ks ?_
      refine xr_nil fun u7 hE7 => ?_
      obtain ⟨ob, hob⟩ : ∃ o, u7.heap[b]? = some o := ⟨_, hE7.at (upd_same lb6)⟩
      have hob' := hob
      rw [hE7.heap b (by rw [upd_size]; exact lb6), upd_same lb6] at hob'
      cases hob'
      have hm6 := hE6.at hm4
      have h66 := hE6.at h64
      have hne : b ≠ bm := fun e => by subst e; rw [hm6] at hb6'; cases hb6'
      have hne6 : b ≠ b6 := by omega
      have hm7 := hE7.at ((upd_other hne (o := _)).trans hm6)
      have h67 := hE7.at ((upd_other hne6 (o := _)).trans h66)
      have hlm7 := lt_of_heap hm7
      have hl67 := lt_of_heap h67
      have hlb7 := lt_of_heap hob
      have hC07 : Chg (fun k => k = bm) u u7 := ((hC04.transE hE6).upd (fun h => absurd h (by omega)) _).transE hE7
      have hC7 : Chg (fun k => k = bm) w u7 := (hEu.chg _).trans hC07 fun _ _ h => h
      have hwb6 : w.heap.size ≤ b6 := by omega
      have hnb : b6 ≠ bm := by omega
      have hI7 := hI4.put n (fv F)
      have hk7 := hk4.put hI4 dn
      clear hm6 h66 hC07 hC04 hE7 hE6 hb6' lb6 hu5 hm1 h71 h61 hE1 hC2 hE3 hC4 hm2 h72 h62 hm3 h73 h63 hm4 h74 h64 hS2 hSu hmu h7 h6 hEu ih0 ih1 hs2 hs4
      refine w_ fun d => ?_
      exact ⟨rfl, _, _, (upd_other hnb).trans (upd_same hlm7), hI7, hk7, (hC7.upd (fun _ => rfl) _).upd (fun h => absurd h (by omega)) _⟩
theorem rdTop_calls (G : s.Good []) (hS : StI own w p s []) (dn : Den s n f) : Quiet Try.prog 38 #[.pointer (some ⟨p, 0, none⟩), .int .i64 n] w (fv f) := by
  intro u hu
  have hSu := hS.ext hu
  have own0 : ∀ k, u.heap.size ≤ k → own k = 0 := fun k hk => by
    cases ho : own k with
    | zero => rfl
    | succ q => have := hSu.lt k (by omega); omega
  clear hS hu
  refine en2 Try.func38 Try.results38 mixed [] ?_
  intro e0 h0 h1
  refine w_ fun d => ?_
  refine (rdTable_calls (bm := u.heap.size + 1) G (own0 _ (by omega)) dn _ [] 0 (hSu.ext ext_) (hA rfl) MInv.nil (fun e he => by cases he)).mono ?_
  rintro _ u2 ⟨rfl, es, ck, hm, _, _, hC⟩
  have h2 := hC.heap u.heap.size (by simp only [alloc_size]; omega) (fun e => by omega)
  have h3 : u2.heap[u.heap.size]? = some (.cells #[.int .u64 0, .int .u64 0, .int .u64 0, .int .u64 0] 54) := h2.trans (hA rfl)
  have hl3 := lt_of_heap h3
  have hE : Ext u u2 := extc_ hC
  clear h2 hC hm
  refine w_ fun d => ?_
  exact ⟨rfl, ext_⟩
end
end Go.Proofs.Ytpeindhocndmnaa

namespace Go.Proofs.Ytpeindhocndmnaa
open Go Go.Bx
set_option linter.unusedSimpArgs false
set_option linter.unusedVariables false
set_option maxRecDepth 100000
set_option maxHeartbeats 4000000
attribute [local irreducible] X XO XE XF XD XW thenX inX retX kN CallsR
def CaI (W w : World) (ps pc : Nat) (s : Md) : Prop := ∃ own bm es ck, IcI own w ps s pc bm es ck ∧ (∀ k, own k ≠ 0 → W.heap.size ≤ k) ∧ W.heap.size ≤ bm ∧ Ext W w
section
variable {W w w' : World} {ps pc : Nat} {s s' : Md} {a b : Int} {f g : Fun8} {L : List Fun8} {M : Int}
theorem CaI.ext (h : CaI W w ps pc s) (hE : Ext w w') : CaI W w' ps pc s := by
  obtain ⟨o, bm, es, ck, h1, h2, h3, h4⟩ := h
  exact ⟨o, bm, es, ck, h1.ext hE, h2, h3, h4.trans hE⟩
theorem CaI.world (h : CaI W w ps pc s) : Ext W w := by obtain ⟨_, _, _, _, _, _, _, h⟩ := h; exact h
theorem CaI.sti (h : CaI W w ps pc s) : ∃ own, StI own w ps s [] := by obtain ⟨o, _, _, _, h, _⟩ := h; exact ⟨o, h.sti⟩
theorem CaI.turn {fn : FuncId} {args : Array Value} {R : Value → Prop} (h : CaI W w ps pc s) (hc : ∀ own bm es ck, IcI own w ps s pc bm es ck → CallsR Try.prog fn args w fun r w' => R r ∧ IcT own w ps s' pc bm w') :
    CallsR Try.prog fn args w fun r w' => R r ∧ CaI W w' ps pc s' := by
  obtain ⟨o, bm, es, ck, h1, h2, h3, h4⟩ := h
  refine (hc o bm es ck h1).mono ?_
  rintro r w' ⟨hr, o', es', ck', g1, g2⟩
  have hsW := h4.size
  refine ⟨hr, o', bm, es', ck', g1, fun k hk => ?_, h3, g2.ch.toExt h4 fun k hk hf => by
    rcases hf with hf | hf
    · have := h2 k hf; omega
    · omega⟩
  by_cases hl : k < w.heap.size
  · exact h2 k (by rw [← g2.ho k hl]; exact hk)
  · omega
theorem CaI.store {fn : FuncId} {args : Array Value} {R : Value → Prop} (h : CaI W w ps pc s) (hd : ∀ n f, Den s n f → Den s' n f) (hc : ∀ own, StI own w ps s [] → CallsR Try.prog fn args w fun r w' => R r ∧ TrI own w ps s' [] w') :
    CallsR Try.prog fn args w fun r w' => R r ∧ CaI W w' ps pc s' := by
  refine h.turn fun own bm es ck h => (hc own h.sti).mono ?_
  rintro r w' ⟨hr, hT⟩
  obtain ⟨o, h1, h2⟩ := h.turn hd hT
  exact ⟨hr, o, es, ck, h1, h2⟩
theorem iteNew_calls (w : World) : CallsR Try.prog 32 #[] w fun r w' => ∃ pc bm, r = .pointer (some ⟨pc, 0, none⟩) ∧ w'.heap[pc]? = some (.cells #[.map (some bm)] 134) ∧ w'.heap[bm]? = some (mObj k3 [] 0) ∧ w.heap.size ≤ pc ∧ w.heap.size ≤ bm ∧ Ext w w' := by
  refine en0 Try.func32 Try.results32 mixed [] ?_
  intro e0
  refine w_ fun d => ?_
  exact ⟨w.heap.size + 1, w.heap.size, rfl, hA rfl, hA rfl, by omega, by omega, ext_⟩
theorem OneI.cache (h : OneI W w ps s) {bm : Nat} (hE : Ext w w') (h1 : w'.heap[pc]? = some (.cells #[.map (some bm)] 134)) (h2 : w'.heap[bm]? = some (mObj k3 [] 0)) (h3 : w.heap.size ≤ pc) (h4 : w.heap.size ≤ bm) : CaI W w' ps pc s := by
  obtain ⟨o, g1, g2, g3⟩ := h
  have own0 : ∀ k, w.heap.size ≤ k → o k = 0 := fun k hk => by
    cases ho : o k with
    | zero => rfl
    | succ q => have := g1.lt k (by omega); omega
  exact ⟨o, bm, [], 0, ⟨g1.ext hE, h1, h2, MInv.nil, fun x hx => (by cases hx), own0 _ h3, own0 _ h4⟩, g2, by have := g3.size; omega, g3.trans hE⟩
theorem caBuild (h : CaI W w ps pc s) (R : Ro s L M) (f : Fun8) (hm : sizeF s.ord (L ++ [f]) ≤ M) : CallsR Try.prog 33 #[.pointer (some ⟨ps, 0, none⟩), fv f] w fun r w' => ∃ n s', r = .tuple #[.int .i64 n, .nilIface] ∧ CaI W w' ps pc s' ∧ Ro s' (L ++ [f]) M ∧ s.Le s' ∧ Den s' n f := by
  obtain ⟨n, s', e, R', l, d⟩ := R.bld f hm
  refine (h.store (s' := s') (R := fun r => r = .tuple #[.int .i64 n, .nilIface]) (fun _ _ d => d.mono l) fun own ho => ?_).mono ?_
  · have := rdBuildTop_calls ho R.good f
    rw [e, errV0] at this
    exact this
  · rintro r w' ⟨hr, hC⟩
    exact ⟨n, s', hr, hC, R', l, d⟩
theorem caNot (h : CaI W w ps pc s) (R : Ro s L M) (da : Den s a f) (hm : sizeF s.ord (L ++ [notF f]) ≤ M) : CallsR Try.prog 34 #[.pointer (some ⟨ps, 0, none⟩), .pointer (some ⟨pc, 0, none⟩), .int .i64 a] w fun r w' => ∃ n s', r = .tuple #[.int .i64 n, .nilIface] ∧ CaI W w' ps pc s' ∧ Ro s' (L ++ [notF f]) M ∧ s.Le s' ∧ Den s' n (notF f) := by
  obtain ⟨n, s', e, R', l, d⟩ := R.bld (notF f) hm
  refine (h.turn (s' := s') (R := fun r => r = .tuple #[.int .i64 n, .nilIface]) fun own bm es ck ho => ?_).mono ?_
  · have := operNot_calls ho R.good (bt_rng R.good.wf da)
    rw [ite_den da .c0 .c1, iteF_not, e, errV0] at this
    exact this
  · rintro r w' ⟨hr, hC⟩
    exact ⟨n, s', hr, hC, R', l, d⟩
theorem caAnd (h : CaI W w ps pc s) (R : Ro s L M) (da : Den s a f) (db : Den s b g) (hm : sizeF s.ord (L ++ [andF f g]) ≤ M) : CallsR Try.prog 35 #[.pointer (some ⟨ps, 0, none⟩), .pointer (some ⟨pc, 0, none⟩), .int .i64 a, .int .i64 b] w fun r w' => ∃ n s', r = .tuple #[.int .i64 n, .nilIface] ∧ CaI W w' ps pc s' ∧ Ro s' (L ++ [andF f g]) M ∧ s.Le s' ∧ Den s' n (andF f g) := by
  obtain ⟨n, s', e, R', l, d⟩ := R.bld (andF f g) hm
  refine (h.turn (s' := s') (R := fun r => r = .tuple #[.int .i64 n, .nilIface]) fun own bm es ck ho => ?_).mono ?_
  · have := operAnd_calls ho R.good (bt_rng R.good.wf da) (bt_rng R.good.wf db)
    rw [ite_den da db .c0, iteF_and0, e, errV0] at this
    exact this
  · rintro r w' ⟨hr, hC⟩
    exact ⟨n, s', hr, hC, R', l, d⟩
theorem caOr (h : CaI W w ps pc s) (R : Ro s L M) (da : Den s a f) (db : Den s b g) (hm : sizeF s.ord (L ++ [orF f g]) ≤ M) : CallsR Try.prog 36 #[.pointer (some ⟨ps, 0, none⟩), .pointer (some ⟨pc, 0, none⟩), .int .i64 a, .int .i64 b] w fun r w' => ∃ n s', r = .tuple #[.int .i64 n, .nilIface] ∧ CaI W w' ps pc s' ∧ Ro s' (L ++ [orF f g]) M ∧ s.Le s' ∧ Den s' n (orF f g) := by
  obtain ⟨n, s', e, R', l, d⟩ := R.bld (orF f g) hm
  refine (h.turn (s' := s') (R := fun r => r = .tuple #[.int .i64 n, .nilIface]) fun own bm es ck ho => ?_).mono ?_
  · have := operOr_calls ho R.good (bt_rng R.good.wf da) (bt_rng R.good.wf db)
    rw [ite_den da .c1 db, iteF_or1, e, errV0] at this
    exact this
  · rintro r w' ⟨hr, hC⟩
    exact ⟨n, s', hr, hC, R', l, d⟩
theorem caMk0 (h : CaI W w ps pc (Md.new M)) (h0' : 2 ≤ M) (h1' : M ≤ 20000) : CallsR Try.prog 82 #[.pointer (some ⟨ps, 0, none⟩), .int .i64 0, .int .i64 0, .int .i64 1] w fun r w' => ∃ s', r = .tuple #[.int .i64 2, .nilIface] ∧ CaI W w' ps pc s' ∧ Ro s' [varF 0] M ∧ Den s' 2 (varF 0) := by
  obtain ⟨s', e, R', l, d⟩ := Ro.var0 h0' h1'
  refine (h.store (s' := s') (R := fun r => r = .tuple #[.int .i64 2, .nilIface]) (fun _ _ d => d.mono l) fun own ho => ?_).mono ?_
  · have := stMk_calls (v := 0) (lo := 0) (hi := 1) ho (Ro.new (by omega) h1').good (by decide) (by decide)
    rw [e, errV0] at this
    exact this
  · rintro r w' ⟨hr, hC⟩
    exact ⟨s', hr, hC, R', d⟩
theorem caNew (h0' : 0 ≤ M) (h1' : M ≤ 20000) (w : World) : CallsR Try.prog 19 #[.int .i64 M] w fun r w' => ∃ ps, r = .pointer (some ⟨ps, 0, none⟩) ∧ OneI w w' ps (Md.new M) := OneI.new h0' h1' w
end
end Go.Proofs.Ytpeindhocndmnaa

namespace Go.Proofs.Ytpeindhocndmnaa
open Go Go.Bx
set_option linter.unusedSimpArgs false
set_option linter.unusedVariables false
set_option maxRecDepth 100000
set_option maxHeartbeats 4000000
attribute [local irreducible] X XO XE XF XD XW thenX inX retX kN CallsR
section
variable {P : Program} {w : World} {t ty kt et b clock sz by_ : Nat} {z : Value} {e : Env} {x : Operand} {κ : Type} {kf : κ → Value} {es : List (Ent κ)}
def clR (P : Program) (t : TypeId) (a : Value) (w : World) : Result Value := (Builtin.clear_ #[t] 0 #[a]).run P w
def clO (P : Program) (t : TypeId) (b : Nat) (w : World) (ob : Option Obj) (_ : w.heap[b]? = ob) : Result Value := clR P t (.map (some b)) w
theorem rG_clear : rG P (.call { callee := .builtin .clear, args := #[x], argTypes := #[t] }) ty e w = vR (clR P t (ev e x) w) := by
  show (do let d ← resolve (ev e) { callee := .builtin .clear, args := #[x], argTypes := #[t] } ty; invoke d.target d.args : Sem Next).run P w = _
  simp only [Sem.run_bind, resolve, pure, Sem.run, Result.andThen_ok, invoke, builtin]
  simp only [List.map_toArray, List.map_cons, List.map_nil]
  rfl
theorem clR_map : clR P t (.map (some b)) w = clO P t b w (w.heap[b]?) rfl := rfl
theorem clear_at (hb : w.heap[b]? = some (mObj kf es clock)) (ht : TI P t (.map kt et) sz by_ z) : clR P t (.map (some b)) w = .ok (.tuple #[]) (upd w b (.map #[] clock)) := by
  simp only [clR, Builtin.clear_, List.getElem?_toArray, List.getElem?_cons_zero, Sem.run_bind, ht.underlying, Result.andThen_ok, MapKept.run_getObj_map hb, MapKept.run_setObj_map _ hb]
  simp [set_upd, pure, Sem.run]
theorem cl3 {es : List (Ent (Int × Int × Int))} (h : w.heap[b]? = some (mObj k3 es clock)) : clO Try.prog 132 b w (some (mObj k3 es clock)) h = .ok (.tuple #[]) (upd w b (mObj k3 [] clock)) := clear_at h T132
attribute [push_cast] rG_clear clR_map cl3
end
section
variable {own own1 : Nat → Nat} {W w w' w1 w2 : World} {p pc ps pm bm ck : Nat} {s s' sM s2 : Md} {es : List (Ent (Int × Int × Int))} {a b c n v g : Int} {f : Fun8}
theorem iteFlush_calls (h : IcI own w p s pc bm es ck) : CallsR Try.prog 56 #[.pointer (some ⟨pc, 0, none⟩)] w fun r w' => r = .tuple #[] ∧ IcT own w p s pc bm w' := by
  obtain ⟨h1, hb, hm, hI, hk, ob, om⟩ := h
  have lb := lt_of_heap hb
  have lm := lt_of_heap hm
  have hne : pc ≠ bm := fun e => by rw [e, hm] at hb; cases hb
  refine en1 Try.func56 Try.results56 mixed [] ?_
  intro e0 h0
  refine w_ fun d => ?_
  have hC : Chg (fun k => k = bm) w (upd w bm (mObj k3 [] ck)) := chg_
  exact ⟨rfl, IcT.ext ⟨own, [], ck, ⟨h1.chg0 hC fun k hk => hk ▸ om, (hC.heap _ lb hne).trans hb, upd_same lm, ⟨List.nodup_nil, fun _ h => (by cases h), List.nodup_nil⟩, fun x hx => (by cases hx), ob, om⟩, ⟨fun _ _ => rfl, hC.mono fun k _ hk => .inr hk⟩⟩ ext_⟩
def PcK (W w : World) (ps pc pm : Nat) (s sM : Md) (kp : List (Nat × Obj)) : Prop :=
  ∃ own bm es ck ownM, IcI own w ps s pc bm es ck ∧ RsI ownM w pm sM ∧ (∀ k, own k ≠ 0 → ownM k = 0) ∧ ownM pc = 0 ∧ ownM bm = 0 ∧ (∀ k, own k ≠ 0 → W.heap.size ≤ k) ∧ (∀ k, ownM k ≠ 0 → W.heap.size ≤ k) ∧ W.heap.size ≤ bm ∧ Ext W w ∧ (∀ x ∈ kp, w.heap[x.1]? = some x.2 ∧ own x.1 = 0 ∧ ownM x.1 = 0 ∧ x.1 ≠ bm)
abbrev PcI (W w : World) (ps pc pm : Nat) (s sM : Md) : Prop := PcK W w ps pc pm s sM []
variable {kp : List (Nat × Obj)}
theorem PcK.ext (h : PcK W w ps pc pm s sM kp) (hE : Ext w w') : PcK W w' ps pc pm s sM kp := by
  obtain ⟨o, bm, es, ck, oM, h1, h2, h3, h4, h5, h6, h7, h8, h9, hk⟩ := h
  exact ⟨o, bm, es, ck, oM, h1.ext hE, h2.ext hE, h3, h4, h5, h6, h7, h8, h9.trans hE, fun x hx => ⟨hE.at (hk x hx).1, (hk x hx).2⟩⟩
theorem PcK.world (h : PcK W w ps pc pm s sM kp) : Ext W w := by obtain ⟨_, _, _, _, _, _, _, _, _, _, _, _, _, h, _⟩ := h; exact h
theorem PcK.pri (h : PcK W w ps pc pm s sM kp) : PrI W w ps pm s sM := by
  obtain ⟨o, bm, es, ck, oM, h1, h2, h3, h4, h5, h6, h7, h8, h9, _⟩ := h
  exact ⟨o, oM, h1.sti, h2, h3, h6, h7, h9⟩
theorem PcK.m (h : PcK W w ps pc pm s sM kp) : ∃ own, RsI own w pm sM := h.pri.m
theorem PcK.keep (h : PcK W w ps pc pm s sM kp) {b : Nat} {o : Obj} (hE : Ext w w') (hb : w'.heap[b]? = some o) (hn : w.heap.size ≤ b) : PcK W w' ps pc pm s sM ((b, o) :: kp) := by
  obtain ⟨ow, bm, es, ck, oM, h1, h2, h3, h4, h5, h6, h7, h8, h9, hk⟩ := h
  have lm := lt_of_heap h1.hm
  refine ⟨ow, bm, es, ck, oM, h1.ext hE, h2.ext hE, h3, h4, h5, h6, h7, h8, h9.trans hE, fun x hx => ?_⟩
  rcases List.mem_cons.1 hx with rfl | hx
  · refine ⟨hb, ?_, ?_, by dsimp only; omega⟩
    · cases ha : ow b with
      | zero => rfl
      | succ m => have := h1.sti.lt b (by omega); omega
    · cases ha : oM b with
      | zero => rfl
      | succ m => have := h2.lt b (by omega); omega
  · exact ⟨hE.at (hk x hx).1, (hk x hx).2⟩
theorem PcK.at (h : PcK W w ps pc pm s sM kp) {b : Nat} {o : Obj} (hm : (b, o) ∈ kp) : w.heap[b]? = some o := by
  obtain ⟨_, _, _, _, _, _, _, _, _, _, _, _, _, _, hk⟩ := h
  exact (hk _ hm).1
theorem PcK.sub {kq : List (Nat × Obj)} (h : PcK W w ps pc pm s sM kp) (hs : ∀ x ∈ kq, x ∈ kp) : PcK W w ps pc pm s sM kq := by
  obtain ⟨o, bm, es, ck, oM, h1, h2, h3, h4, h5, h6, h7, h8, h9, hk⟩ := h
  exact ⟨o, bm, es, ck, oM, h1, h2, h3, h4, h5, h6, h7, h8, h9, fun x hx => hk x (hs x hx)⟩
theorem PcK.bare (h : PcK W w ps pc pm s sM kp) : PcI W w ps pc pm s sM := h.sub fun x hx => by cases hx
theorem PcK.turnI {fn : FuncId} {args : Array Value} {R : Value → Prop} (h : PcK W w ps pc pm s sM kp) (hc : ∀ own bm es ck, IcI own w ps s pc bm es ck → CallsR Try.prog fn args w fun r w' => R r ∧ IcT own w ps s' pc bm w') :
    CallsR Try.prog fn args w fun r w' => R r ∧ PcK W w' ps pc pm s' sM kp := by
  obtain ⟨o, bm, es, ck, oM, h1, h2, h3, h4, h5, h6, h7, h8, h9, hk⟩ := h
  refine (hc o bm es ck h1).mono ?_
  rintro r w' ⟨hr, o', es', ck', g1, g2⟩
  have hs := g2.ch.size
  have hsW := h9.size
  have cl : ∀ k, o' k ≠ 0 → k < w.heap.size → o k ≠ 0 := fun k hk hl => by rw [← g2.ho k hl]; exact hk
  refine ⟨hr, o', bm, es', ck', oM, g1, h2.keep (fun k hk => g2.ch.heap k (h2.lt k hk) fun hf => hf.elim (fun h => hk (h3 k h)) fun h => hk (h ▸ h5)) hs, fun k hk => ?_, h4, h5, fun k hk => ?_, h7, h8, g2.ch.toExt h9 fun k hk hf => hf.elim (fun h => by have := h6 k h; omega) fun h => by omega, fun x hx => ?_⟩
  · by_cases hl : k < w.heap.size
    · exact h3 k (cl k hk hl)
    · cases hb : oM k with
      | zero => rfl
      | succ m => exact absurd (h2.lt k (by omega)) hl
  · by_cases hl : k < w.heap.size
    · exact h6 k (cl k hk hl)
    · omega
  · obtain ⟨q1, q2, q3, q4⟩ := hk x hx
    obtain ⟨q5, q6⟩ := g2.out q1 q2 q4
    exact ⟨q6, q5, q3, q4⟩
theorem PcK.turnM {fn : FuncId} {args : Array Value} {R : Value → Prop} (h : PcK W w ps pc pm s sM kp) (hc : ∀ own, RsI own w pm sM → CallsR Try.prog fn args w fun r w' => R r ∧ TrS own w pm s' w') :
    CallsR Try.prog fn args w fun r w' => R r ∧ PcK W w' ps pc pm s s' kp := by
  obtain ⟨o, bm, es, ck, oM, h1, h2, h3, h4, h5, h6, h7, h8, h9, hk⟩ := h
  refine (hc oM h2).mono ?_
  rintro r w' ⟨hr, oM', g1, hSw⟩
  have hs := hSw.ch.size
  have hsW := h9.size
  have h3' : ∀ k, oM k ≠ 0 → o k = 0 := fun k hk => by
    cases ha : o k with
    | zero => rfl
    | succ m => exact absurd (h3 k (by omega)) hk
  have lb := lt_of_heap h1.hb
  have lm := lt_of_heap h1.hm
  have st : StI o w' ps s [] := StI.keep h1.sti (fun k hk => hSw.ch.heap k (h1.sti.lt k hk) fun hf => hk (h3' k hf)) hs
  refine ⟨hr, o, bm, es, ck, oM', ⟨st, (hSw.ch.heap _ lb fun hf => hf h4).trans h1.hb, (hSw.ch.heap _ lm fun hf => hf h5).trans h1.hm, h1.inv, h1.kn, h1.ob, h1.om⟩, g1, fun k hk => ?_, (hSw.ho _ lb).trans h4, (hSw.ho _ lm).trans h5, h6, fun k hk => ?_, h8, hSw.ch.toExt h9 fun k hk hf => by have := h7 k hf; omega, fun x hx => ?_⟩
  · have hl := h1.sti.lt k hk
    rw [hSw.ho k hl]; exact h3 k hk
  · by_cases hl : k < w.heap.size
    · exact h7 k (by rw [← hSw.ho k hl]; exact hk)
    · omega
  · obtain ⟨q1, q2, q3, q4⟩ := hk x hx
    obtain ⟨q5, q6⟩ := hSw.out (lt_of_heap q1) q3
    exact ⟨q6.trans q1, q2, q5, q4⟩
theorem PcK.store {fn : FuncId} {args : Array Value} {R : Value → Prop} (h : PcK W w ps pc pm s sM kp) (hd : ∀ n f, Den s n f → Den s' n f) (hc : ∀ own, StI own w ps s [] → CallsR Try.prog fn args w fun r w' => R r ∧ TrI own w ps s' [] w') :
    CallsR Try.prog fn args w fun r w' => R r ∧ PcK W w' ps pc pm s' sM kp := by
  refine h.turnI fun own bm es ck h => (hc own h.sti).mono ?_
  rintro r w' ⟨hr, hT⟩
  obtain ⟨o, h1, h2⟩ := h.turn hd hT
  exact ⟨hr, o, es, ck, h1, h2⟩
theorem PrI.cache (h : PrI W w ps pm s sM) {bm : Nat} (hE : Ext w w') (h1 : w'.heap[pc]? = some (.cells #[.map (some bm)] 134)) (h2 : w'.heap[bm]? = some (mObj k3 [] 0)) (h3 : w.heap.size ≤ pc) (h4 : w.heap.size ≤ bm) : PcI W w' ps pc pm s sM := by
  obtain ⟨o, oM, g1, g2, g3, g4, g5, g6⟩ := h
  have own0 : ∀ k, w.heap.size ≤ k → o k = 0 := fun k hk => by
    cases ho : o k with
    | zero => rfl
    | succ q => have := g1.lt k (by omega); omega
  have ownM0 : ∀ k, w.heap.size ≤ k → oM k = 0 := fun k hk => by
    cases ho : oM k with
    | zero => rfl
    | succ q => have := g2.lt k (by omega); omega
  have := g6.size
  exact ⟨o, bm, [], 0, oM, ⟨g1.ext hE, h1, h2, MInv.nil, fun x hx => (by cases hx), own0 _ h3, own0 _ h4⟩, g2.ext hE, g3, ownM0 _ h3, ownM0 _ h4, g4, g5, by omega, g6.trans hE, fun x hx => (by cases hx)⟩
theorem PcK.flush (h : PcK W w ps pc pm s sM kp) : CallsR Try.prog 56 #[.pointer (some ⟨pc, 0, none⟩)] w fun r w' => r = .tuple #[] ∧ PcK W w' ps pc pm s sM kp := h.turnI fun own bm es ck h => iteFlush_calls h
theorem CaI.flush (h : CaI W w ps pc s) : CallsR Try.prog 56 #[.pointer (some ⟨pc, 0, none⟩)] w fun r w' => r = .tuple #[] ∧ CaI W w' ps pc s := h.turn fun own bm es ck h => iteFlush_calls h
end
end Go.Proofs.Ytpeindhocndmnaa

namespace Go.Proofs.Ytpeindhocndmnaa
open Go Go.Bx
set_option linter.unusedSimpArgs false
set_option linter.unusedVariables false
set_option maxRecDepth 100000
set_option maxHeartbeats 4000000
attribute [local irreducible] X XO XE XF XD XW thenX inX retX kN CallsR
def okL (l : List Int) : Prop := ∀ n ∈ l, okI n
section
variable {W w w' w1 w2 : World} {p ps pm pc : Nat} {s s' sM : Md} {n v x y lo hi : Int}
theorem _root_.Go.Bx.Md.Good.bld_rng (G : s.Good []) (f : Fun8) : 0 ≤ (s.bld f).1.2 ∧ (s.bld f).1.2 ≤ 8 := by
  rcases (G.bld f).itt.err with e | e | e <;> omega
theorem built_none (most : Int) {l : List Fun8} {k : List Int} {a b : Option Addr} {ca cb : Nat} (h : ¬ (0 ≤ most ∧ most ≤ 20000) ∨ 6 < l.length ∨ 30 < k.length) (hl : l.length ≤ 140737488351232) (hk : k.length ≤ 140737488351232) :
    CallsR Try.prog 44 #[.int .i64 most, .slice a l.length ca, .slice b k.length cb] w fun r w' => r = .tuple #[.pointer none, .pointer none, .int .i64 0] ∧ Ext w w' := by
  by_cases hm : 0 ≤ most ∧ most ≤ 20000
  · have b0 := begin_calls most hm.1 hm.2
    have h2 := h.resolve_left fun h => h hm
    clear h hm
    by_cases h6 : 6 < l.length
    · have h6' : (6 : Int) < l.length := by omega
      clear h2
      refine en3 Try.func44 Try.results44 mixed [] ?_
      intro e0 h0 h1 h2
      refine w_ fun d => ?_
      refine (b0 _).mono ?_
      rintro _ w1 ⟨ps, pm, rfl, hP⟩
      have hE := hP.world
      clear hP b0
      refine w_ fun d => ?_
      exact ⟨rfl, ext_⟩
    · have h7 := h2.resolve_left h6
      have h6' : ¬ (6 : Int) < l.length := by omega
      have h7' : (30 : Int) < k.length := by omega
      clear h2 h6
      refine en3 Try.func44 Try.results44 mixed [] ?_
      intro e0 h0 h1 h2
      refine w_ fun d => ?_
      refine (b0 _).mono ?_
      rintro _ w1 ⟨ps, pm, rfl, hP⟩
      have hE := hP.world
      clear hP b0
      refine w_ fun d => ?_
      exact ⟨rfl, ext_⟩
  · have b0 := begin_none most hm
    clear h hm
    refine en3 Try.func44 Try.results44 mixed [] ?_
    intro e0 h0 h1 h2
    refine w_ fun d => ?_
    refine qq (b0.quiet (w := w)) fun w2 hE2 hs2 => ?_
    refine w_ fun d => ?_
    exact ⟨rfl, ext_⟩
theorem funAt {a : Option Addr} {l : List Fun8} (h : Inp w 4 a (l.map rowF)) {i : Nat} {f : Fun8} (hf : l[i]? = some f) :
    ∃ g o cs E fz, a = some ⟨g, o, none⟩ ∧ w.heap[g]? = some (.cells cs E fz) ∧ o + i * 4 + 4 ≤ cs.size ∧ Value.agg (cs.extract (o + i * 4) (o + i * 4 + 4)) = fv f := by
  rcases h with h | ⟨g, o, cs, E, fz, rfl, h2, h3⟩
  · rw [List.map_eq_nil_iff.1 h] at hf; simp at hf
  · have hr := h3 i (rowF f) (by rw [List.getElem?_map, hf]; rfl)
    obtain ⟨k1, k2⟩ := rowF_at (i := o + i * 4) hr
    exact ⟨g, o, cs, E, fz, rfl, h2, k1, k2⟩
theorem built_calls (most : Int) {l : List Fun8} {k : List Int} {a b : Option Addr} {ca cb : Nat} (h0' : 0 ≤ most) (h1' : most ≤ 20000) (hl : l.length ≤ 6) (hk : k.length ≤ 30) (hI : Inp w 4 a (l.map rowF)) (hK : InI w b k) :
    CallsR Try.prog 44 #[.int .i64 most, .slice a l.length ca, .slice b k.length cb] w fun r w' => ∃ ps pm s, r = .tuple #[.pointer (some ⟨ps, 0, none⟩), .pointer (some ⟨pm, 0, none⟩), .int .i64 1] ∧ PrI w w' ps pm s s ∧ s.Good [] := by
  have b0 := begin_calls most h0' h1'
  have G0 : (Md.new most).Good [] := Md.Good.start h0' h1'
  have hl' : ¬ (6 : Int) < l.length := by omega
  have hk' : ¬ (30 : Int) < k.length := by omega
  refine en3 Try.func44 Try.results44 mixed [] ?_
  intro e0 h0 h1 h2
  refine w_ fun d => ?_
  refine (b0 _).mono ?_
  rintro _ w1 ⟨ps, pm, rfl, hP⟩
  have hP : PrI w w1 ps pm (Md.new most) (Md.new most) := by
    obtain ⟨a, b, q1, q2, q3, q4, q5, q6⟩ := hP
    exact ⟨a, b, q1, q2, q3, fun k hk => by have := q4 k hk; simpa only [dr_heap] using this, fun k hk => by have := q5 k hk; simpa only [dr_heap] using this, Ext.trans (by exact ext_) q6⟩
  clear b0
  refine w_ fun d => ?_
  refine lo_ (fun _ e w' => ∃ (i : Nat) (s : Md), i ≤ l.length ∧ e 11 = .int .i64 i ∧ PrI w w' ps pm s s ∧ s.Good []) (fun e _ => l.length - nat (e 11)) ?_ ?_
  · exact ⟨0, _, by omega, eA rfl, hP.ext ext_, G0⟩
  rintro e u hf ⟨i, s, hi, h11, hPu, G⟩
  have hEu := hPu.world
  by_cases hlt : i < l.length
  · obtain ⟨f, hfi⟩ : ∃ f, l[i]? = some f := ⟨l[i], List.getElem?_eq_getElem hlt⟩
    obtain ⟨g, o, ct, E, fz, rfl, hg, hsz, hex⟩ := funAt (Inp.ext hI hEu) hfi
    have hltl : (i : Int) < l.length := by omega
    have gl := lt_of_heap hg
    have bI := fun W u (h : PrI W u ps pm s s) => h.turnI fun own ho => rdBuildTop_calls ho G f
    have bM := fun W u s1 (h : PrI W u ps pm s1 s) => h.turnM fun own ho => rsBld_calls ho G f
    have gb := (G.bld f).good
    have rb := G.bld_rng f
    have cr := code_sure _ rb.1 rb.2
    generalize s.bld f = R at bI bM gb rb cr
    clear hK G0 hP G rb
    refine w_ fun d => ?_
    refine (bI _ _ (hPu.ext ext_)).mono ?_
    rintro _ u2 ⟨rfl, hP2⟩
    obtain ⟨g', o', ct', E', fz', he, hg2, hsz2, hex2⟩ := funAt (Inp.ext hI hP2.world) hfi
    cases he
    have gl2 := lt_of_heap hg2
    clear hg gl bI hI
    refine w_ fun d => ?_
    refine (bM _ _ _ (hP2.ext ext_)).mono ?_
    rintro _ u3 ⟨rfl, hP3⟩
    clear bM
    refine w_ fun d => ?_
    refine qq (cr.quiet (w := u3)) fun u4 hE4 hs4 => ?_
    refine w_ fun d => ?_
    exact ⟨⟨i + 1, R.2, by omega, eA rfl, hP3.ext ext_, gb⟩, mA⟩
  · obtain rfl : i = l.length := by omega
    clear hI hlt hP G0
    refine w_ fun d => ?_
    refine lo_ (fun _ e w' => ∃ (i : Nat) (s : Md), i ≤ k.length ∧ e 16 = .int .i64 i ∧ PrI w w' ps pm s s ∧ s.Good []) (fun e _ => k.length - nat (e 16)) ?_ ?_
    · exact ⟨0, _, by omega, eA rfl, hPu.ext ext_, G⟩
    rintro e2 v hf2 ⟨i, s2, hi2, h16, hPv, G2⟩
    have hEv := hPv.world
    by_cases hlt : i < k.length
    · obtain ⟨x, hx⟩ : ∃ x, k[i]? = some x := ⟨k[i], List.getElem?_eq_getElem hlt⟩
      rcases InI.at (Inp.ext hK hEv) with rfl | ⟨b1, o1, cs1, E1, fz1, rfl, hb1, hat1⟩
      · simp at hlt
      have hat1 := hat1 i x hx
      have pk := pick_sure x 7 (by decide) (by decide)
      have hltk : (i : Int) < k.length := by omega
      generalize x % 7 = y at pk
      have bI := fun W u (h : PrI W u ps pm s2 s2) => h.turnI fun own ho => stSwap_calls ho G2 y
      have bM := fun W u s1 (h : PrI W u ps pm s1 s2) => h.turnM fun own ho => rsSwap_calls ho G2 y
      have gb := (G2.swap y).1.good
      have rb := swap_rng (s := s2) (n := y)
      have cr := code_sure _ rb.1 rb.2
      generalize s2.swap y = R at bI bM gb rb cr
      clear hK G2 G rb hx hPu
      refine w_ fun d => ?_
      refine qq (pk.quiet (w := v)) fun v1 hE1 hs1 => ?_
      refine w_ fun d => ?_
      refine (bI _ _ ((hPv.ext hE1).ext ext_)).mono ?_
      rintro _ u2 ⟨rfl, hP2⟩
      refine w_ fun d => ?_
      refine qq (cr.quiet (w := u2)) fun u4 hE4 hs4 => ?_
      refine w_ fun d => ?_
      refine (bM _ _ _ ((hP2.ext hE4).ext ext_)).mono ?_
      rintro _ u3 ⟨rfl, hP3⟩
      clear bM bI
      refine w_ fun d => ?_
      exact ⟨⟨i + 1, R.2, by omega, eA rfl, hP3.ext ext_, gb⟩, mA⟩
    · obtain rfl : i = k.length := by omega
      clear hK hlt hPu G
      refine w_ fun d => ?_
      refine (same_calls (hPv.ext ext_) G2).mono ?_
      rintro _ u3 ⟨rfl, hE3⟩
      have hP3 := (hPv.ext (by exact ext_)).ext hE3
      refine w_ fun d => ?_
      exact ⟨ps, pm, s2, rfl, hP3.ext ext_, G2⟩
end
end Go.Proofs.Ytpeindhocndmnaa

namespace Go.Bx
open Go
set_option linter.unusedSimpArgs false
set_option linter.unusedVariables false
section
variable {P : Program} {Q : Exit → Env → World → Prop} {e : Env} {w : World} {a b c k : GCode} {D : List Nat}
theorem seq_skip_k {a : GCode} {K : Env → World → Prop} {B B' : GCode} (h : X P B (thenX K Q) = X P B' Q) : X P (.seq a B) (thenX K Q) = X P (.seq a B') Q := by
  funext e w
  show X P a (thenX (X P B (thenX K Q)) (thenX K Q)) e w = X P a (thenX (X P B' Q) Q) e w
  rw [then_then, h]
variable {a1 a2 a3 a4 a5 a6 a7 : GCode}
theorem cu4_ (M : World → Env → World → Prop) (h : X P (.seq a1 (.seq a2 (.seq a3 (.seq a4 .skip)))) (thenX (M w) Q) e w) (h2 : ∀ e' w', (∀ i, D.contains i = false → e' i = e i) → M w e' w' → X P k Q e' w')
    (hD : dG (.seq a1 (.seq a2 (.seq a3 (.seq a4 .skip)))) = D := by (simp only [dG, List.filterMap_cons, List.filterMap_nil, List.cons_append, List.nil_append, List.append_nil] <;> rfl)) : X P (.seq a1 (.seq a2 (.seq a3 (.seq a4 k)))) Q e w := by
  have hf := X_frame (P := P) (D := D) _ (fun x hx => by rw [hD] at hx; exact hx) h
  have h3 := X_mono _ (Q' := thenX (X P k Q) Q) (fun ex e' w' hq => by
    cases ex with
    | normal => exact h2 e' w' hq.2 hq.1
    | _ => exact hq.1) hf
  have e0 : X P .skip (thenX (X P k Q) Q) = X P k Q := rfl
  rw [seq_skip_k (seq_skip_k (seq_skip_k (seq_skip_k e0)))] at h3
  exact h3
theorem cu6_ (M : World → Env → World → Prop) (h : X P (.seq a1 (.seq a2 (.seq a3 (.seq a4 (.seq a5 (.seq a6 .skip)))))) (thenX (M w) Q) e w) (h2 : ∀ e' w', (∀ i, D.contains i = false → e' i = e i) → M w e' w' → X P k Q e' w')
    (hD : dG (.seq a1 (.seq a2 (.seq a3 (.seq a4 (.seq a5 (.seq a6 .skip)))))) = D := by (simp only [dG, List.filterMap_cons, List.filterMap_nil, List.cons_append, List.nil_append, List.append_nil] <;> rfl)) : X P (.seq a1 (.seq a2 (.seq a3 (.seq a4 (.seq a5 (.seq a6 k)))))) Q e w := by
  have hf := X_frame (P := P) (D := D) _ (fun x hx => by rw [hD] at hx; exact hx) h
  have h3 := X_mono _ (Q' := thenX (X P k Q) Q) (fun ex e' w' hq => by
    cases ex with
    | normal => exact h2 e' w' hq.2 hq.1
    | _ => exact hq.1) hf
  have e0 : X P .skip (thenX (X P k Q) Q) = X P k Q := rfl
  rw [seq_skip_k (seq_skip_k (seq_skip_k (seq_skip_k (seq_skip_k (seq_skip_k e0)))))] at h3
  exact h3
theorem cu1_ (M : World → Env → World → Prop) (h : X P (.seq a1 .skip) (thenX (M w) Q) e w) (h2 : ∀ e' w', (∀ i, D.contains i = false → e' i = e i) → M w e' w' → X P k Q e' w')
    (hD : dG (.seq a1 .skip) = D := by (simp only [dG, List.filterMap_cons, List.filterMap_nil, List.cons_append, List.nil_append, List.append_nil] <;> rfl)) : X P (.seq a1 k) Q e w := by
  have hf := X_frame (P := P) (D := D) _ (fun x hx => by rw [hD] at hx; exact hx) h
  have h3 := X_mono _ (Q' := thenX (X P k Q) Q) (fun ex e' w' hq => by
    cases ex with
    | normal => exact h2 e' w' hq.2 hq.1
    | _ => exact hq.1) hf
  have e0 : X P .skip (thenX (X P k Q) Q) = X P k Q := rfl
  rw [seq_skip_k e0] at h3
  exact h3
end
end Go.Bx

