/- ReadB, BxAny, ReadB2, BxRel, BxRel2, ReadT, SizeP2, SizeP3, FullP, IteP, IteP2, OneT, MpI, BxCut, SoI, SoI2, SoI3, SoI4, SoI5, SoI6, SoI7, RchP, RdR, SwP, SwW, SwP2, Law12, CanP, CanW, EmpP, IteK, IteC, IteT, IteI, IteI2, Oper, SiP, Rs8, CaI, PcO, Law09, Law12b, Law14, Law14b, RsC, NodesW, Law14c: texts of this work, one behind the other. -/
import Derived.Test.YtpeindhocndmnaaCc6
import Derived.Shelf.Small.Bits
namespace Go.Proofs.Ytpeindhocndmnaa
open Go Go.Bx
set_option linter.unusedSimpArgs false
set_option linter.unusedVariables false
set_option maxRecDepth 100000
set_option maxHeartbeats 4000000
attribute [local irreducible] X XO XE XF XD XW thenX inX retX kN CallsR
structure KnF (s : Md) (es : List (Ent Fun8)) : Prop where
  den : ∀ e ∈ es, ∃ n : Int, e.2.1 = .int .i64 n ∧ Den s n e.1
  con : ∀ b, mget es (constF b) ≠ none
theorem KnF.mono {s s' : Md} {es : List (Ent Fun8)} (h : KnF s es) (hl : s.Le s') : KnF s' es := ⟨fun e he => by obtain ⟨n, h1, h2⟩ := h.den e he; exact ⟨n, h1, h2.mono hl⟩, h.con⟩
theorem KnF.put {s : Md} {es : List (Ent Fun8)} {ck : Nat} {f : Fun8} {n : Int} (h : KnF s es) (hI : MInv es ck) (d : Den s n f) : KnF s (mput es f (.int .i64 n) ck) := by
  refine ⟨fun e he => ?_, fun b => ?_⟩
  · rcases mput_mem hI.keys he with ⟨h1, _⟩ | ⟨h1, h2, _⟩
    · exact h.den e h1
    · exact ⟨n, h2, by rw [h1]; exact d⟩
  · rw [mget_put hI.keys]
    split
    · simp
    · exact h.con b
theorem KnF.get {s : Md} {es : List (Ent Fun8)} {f : Fun8} {v : Value} (h : KnF s es) (hg : mget es f = some v) : ∃ n : Int, v = .int .i64 n ∧ Den s n f := by
  obtain ⟨bb, hb⟩ := mget_some hg
  exact h.den _ hb
structure BtI (own : Nat → Nat) (w : World) (p : Nat) (s : Md) (bb bm : Nat) (es : List (Ent Fun8)) (ck : Nat) : Prop where
  sti : StI own w p s []
  hb : w.heap[bb]? = some (.cells #[.pointer (some ⟨p, 0, none⟩), .map (some bm)] 139)
  hm : w.heap[bm]? = some (mObj fv es ck)
  inv : MInv es ck
  kn : KnF s es
  ob : own bb = 0
  om : own bm = 0
section
variable {own own' : Nat → Nat} {w w' w1 w2 : World} {p bb bm ck : Nat} {s s' s2 : Md} {es : List (Ent Fun8)} {f : Fun8} {n : Int}
theorem BtI.ext (h : BtI own w p s bb bm es ck) (hE : Ext w w') : BtI own w' p s bb bm es ck := ⟨h.sti.ext hE, hE.at h.hb, hE.at h.hm, h.inv, h.kn, h.ob, h.om⟩
def BtT (own : Nat → Nat) (w : World) (p : Nat) (s' : Md) (bb bm : Nat) (w' : World) : Prop := ∃ own' es' ck', BtI own' w' p s' bb bm es' ck' ∧ (∀ k, k < w.heap.size → own' k = own k) ∧ Chg (fun k => own k ≠ 0 ∨ k = bm) w w'
theorem BtT.of_ext (h : BtI own w p s bb bm es ck) (hE : Ext w w') : BtT own w p s bb bm w' := ⟨own, es, ck, h.ext hE, fun _ _ => rfl, hE.chg _⟩
theorem bt_foot (ho : ∀ k, k < w.heap.size → own' k = own k) {k : Nat} (hk : k < w.heap.size) (h : own' k ≠ 0 ∨ k = bm) : own k ≠ 0 ∨ k = bm := h.imp (fun h => by rw [← ho k hk]; exact h) id
theorem BtT.ext (k : BtT own w p s bb bm w1) (hE : Ext w1 w2) : BtT own w p s bb bm w2 := by
  obtain ⟨o2, e2, c2, h1, h2, h3⟩ := k
  exact ⟨o2, e2, c2, h1.ext hE, h2, h3.transE hE⟩
theorem BtI.turn (h : BtI own w p s bb bm es ck) (hl : s.Le s') (hT : TrI own w p s' [] w') : ∃ own', BtI own' w' p s' bb bm es ck ∧ (∀ k, k < w.heap.size → own' k = own k) ∧ Chg (fun k => own k ≠ 0 ∨ k = bm) w w' := by
  obtain ⟨o, h1, h2, h3⟩ := hT
  have hk : ∀ k, k < w.heap.size → own k = 0 → w'.heap[k]? = w.heap[k]? := fun k hk h0 => h3.heap k hk fun hf => hf h0
  have lb := lt_of_heap h.hb
  have lm := lt_of_heap h.hm
  refine ⟨o, ⟨h1, (hk _ lb h.ob).trans h.hb, (hk _ lm h.om).trans h.hm, h.inv, h.kn.mono hl, (h2 _ lb).trans h.ob, (h2 _ lm).trans h.om⟩, h2, h3.mono fun k _ hk => .inl hk⟩
theorem BtI.put (h : BtI own w p s bb bm es ck) (d : Den s n f) : BtI own (upd w bm (mObj fv (mput es f (.int .i64 n) ck) (mclock es f ck))) p s bb bm (mput es f (.int .i64 n) ck) (mclock es f ck) := by
  have lm := lt_of_heap h.hm
  have hne : bb ≠ bm := fun e => by have h1 := h.hb; rw [e, h.hm] at h1; cases h1
  have hC : Chg (fun k => k = bm) w (upd w bm (mObj fv (mput es f (.int .i64 n) ck) (mclock es f ck))) := chg_
  exact ⟨h.sti.chg0 hC fun k hk => hk ▸ h.om, (hC.heap _ (lt_of_heap h.hb) hne).trans h.hb, upd_same lm, h.inv.put _ _, h.kn.put h.inv d, h.ob, h.om⟩
theorem bt_rng (W : s.WF) (d : Den s n f) : n ≤ 9223372036854775807 := by
  have := wf_N W
  rcases d.there with e | e | e
  · omega
  · omega
  · have := W.lt e; omega
structure BtS (own : Nat → Nat) (w : World) (bm : Nat) (own' : Nat → Nat) (w' : World) : Prop where
  ho : ∀ k, k < w.heap.size → own' k = own k
  ch : Chg (fun k => own k ≠ 0 ∨ k = bm) w w'
theorem BtS.of_ext (hE : Ext w w') : BtS own w bm own w' := ⟨fun _ _ => rfl, hE.chg _⟩
theorem BtS.trans {own1 own2 : Nat → Nat} (h : BtS own w bm own1 w1) (k : BtS own1 w1 bm own2 w2) : BtS own w bm own2 w2 :=
  ⟨fun j hj => (k.ho j (Nat.lt_of_lt_of_le hj h.ch.size)).trans (h.ho j hj), h.ch.trans k.ch fun b hb hf => bt_foot h.ho hb hf⟩
theorem BtS.ext {own1 : Nat → Nat} (h : BtS own w bm own1 w1) (hE : Ext w1 w2) : BtS own w bm own1 w2 := ⟨h.ho, h.ch.transE hE⟩
theorem BtS.out {own1 : Nat → Nat} (h : BtS own w bm own1 w1) {k : Nat} {o : Obj} (hk : w.heap[k]? = some o) (h0 : own k = 0) (hm : k ≠ bm) : own1 k = 0 ∧ w1.heap[k]? = some o :=
  ⟨(h.ho k (lt_of_heap hk)).trans h0, (h.ch.heap k (lt_of_heap hk) fun hf => hf.elim (fun h => h h0) hm).trans hk⟩
theorem BtS.to (h : BtS own w bm own' w') (hI : BtI own' w' p s' bb bm es ck) : BtT own w p s' bb bm w' := ⟨own', es, ck, hI, h.ho, h.ch⟩
theorem BtT.parts (h : BtT own w p s' bb bm w') : ∃ own' es' ck', BtI own' w' p s' bb bm es' ck' ∧ BtS own w bm own' w' := by
  obtain ⟨o, e, c, h1, h2, h3⟩ := h
  exact ⟨o, e, c, h1, h2, h3⟩
theorem rdBuild_found (h : BtI own w p s bb bm es ck) (hg : mget es f = some (.int .i64 n)) (l : Nat) : CallsR Try.prog 100 #[.pointer (some ⟨bb, 0, none⟩), fv f, .int .i64 l] w fun r w' => r = .tuple #[.int .i64 n, errV 0] ∧ Ext w w' := by
  obtain ⟨hI, hb, hm, _, _, _, _⟩ := h
  have lb := lt_of_heap hb
  have lm := lt_of_heap hm
  have g1 : (mget es f).isSome = true := by rw [hg]; rfl
  have g2 : (mget es f).getD (.int .i64 0) = .int .i64 n := by rw [hg]; rfl
  clear hI hg
  refine en3 Try.func100 Try.results100 mixed [(7, [8]), (10, [8]), (13, [9])] ?_
  intro e0 h0 h1 h2
  refine w_ fun d => ?_
  exact ⟨by rw [errV0], ext_⟩
theorem rdBuild_calls {p bb bm : Nat} : ∀ (k : Nat) (own : Nat → Nat) (w : World) (s : Md) (es : List (Ent Fun8)) (ck : Nat) (f : Fun8) (l : Nat), BtI own w p s bb bm es ck → s.Good [] → nv f ≤ k → l ≤ 8 → (∀ u, depF f u = true → (l : Int) ≤ lvl s.ord u) →
    CallsR Try.prog 100 #[.pointer (some ⟨bb, 0, none⟩), fv f, .int .i64 l] w fun r w' => r = .tuple #[.int .i64 (s.bld f).1.1, errV (s.bld f).1.2] ∧ BtT own w p (s.bld f).2 bb bm w' := by
  intro k
  induction k with
  | zero =>
    intro own w s es ck f l h G hk hl hd
    have hf : f = constF (f.getLsbD 0) := flat_const fun v => by
      cases hd : depF f v
      · rfl
      · have := nv_cof (b := false) hd; omega
    cases hg : mget es f with
    | none => exact absurd hg (by rw [hf]; exact h.kn.con _)
    | some v =>
      obtain ⟨n, rfl, d⟩ := h.kn.get hg
      rw [G.bld_ex d]
      refine (rdBuild_found h hg l).mono ?_
      rintro r w' ⟨rfl, hE⟩
      exact ⟨rfl, BtT.of_ext h hE⟩
  | succ k ih =>
    intro own w s es ck f l h G hk hl hd
    cases hg : mget es f with
    | some v =>
      obtain ⟨n, rfl, d⟩ := h.kn.get hg
      rw [G.bld_ex d]
      refine (rdBuild_found h hg l).mono ?_
      rintro r w' ⟨rfl, hE⟩
      exact ⟨rfl, BtT.of_ext h hE⟩
    | none =>
    have ht0 : 0 ≤ topF s.ord f := by
      by_cases h' : topF s.ord f < 0
      · exact absurd hg (by rw [top_flat G.wf.ord h']; exact h.kn.con _)
      · omega
    have hgo := bld_top G ht0
    have hdt := topF_dep ht0
    have hrt := top_rng ht0
    have htf := fun u hu => (top_first (f := f) (u := u) G.wf.ord hu).2
    have hbe := fun b u hu => cof_behind (f := f) (b := b) (u := u) G.wf.ord ht0 hu
    have nv0 := nv_cof (b := false) hdt
    have nv1 := nv_cof (b := true) hdt
    generalize topF s.ord f = v at hgo hdt hrt htf hbe nv0 nv1
    obtain ⟨m, hm8, hmo, hml⟩ := G.wf.ord.at hrt.1 hrt.2
    have hlm : l ≤ m := by have := hd v hdt; omega
    have O := G.wf.ord
    have W := G.wf
    have g1 : (mget es f).isSome = false := by rw [hg]; rfl
    have od := stOrder_calls h.sti
    obtain ⟨oc, hoc⟩ := ordC (ord := s.ord) O.len
    rw [hoc.agg] at od
    have ho8 := hoc.len8
    have hoe := hoc.cell
    have hoz := hoc.size
    have hoa := hoc.all
    have hb := h.hb
    have hm := h.hm
    have lb := lt_of_heap hb
    have lm := lt_of_heap hm
    clear hg hd
    refine en3 Try.func100 Try.results100 mixed [(7, [8]), (10, [8]), (13, [9])] ?_
    intro e0 h0 h1 h2
    refine w_ fun d => ?_
    refine qq od fun w1 hE1 hs1 => ?_
    refine w_ fun d => ?_
    refine at_w fun u hu => ?_
    have hEu : Ext w u := by rw [hu]; exact ext_
    have h4 : u.heap[w.heap.size]? = some (.cells #[vU (word f 0), vU (word f 1), vU (word f 2), vU (word f 3)] 54) := by rw [hu]; exact hA rfl
    have h10 : u.heap[w1.heap.size]? = some (.cells oc 36) := by rw [hu]; exact hA rfl
    have hbu := h.ext hEu
    obtain ⟨b10, hb10⟩ : ∃ b, w1.heap.size = b := ⟨_, rfl⟩
    obtain ⟨b4, hb4⟩ : ∃ b, w.heap.size = b := ⟨_, rfl⟩
    rw [hb10] at h10 ⊢
    rw [hb4] at h4 ⊢
    have o4 : own b4 = 0 := by
      cases ho : own b4 with
      | zero => rfl
      | succ q => have := h.sti.lt b4 (by omega); omega
    have o10 : own b10 = 0 := by
      cases ho : own b10 with
      | zero => rfl
      | succ q => have := h.sti.lt b10 (by omega); omega
    have hb := hbu.hb
    have hm := hbu.hm
    have lb := lt_of_heap hb
    have lm := lt_of_heap hm
    have l4 := lt_of_heap h4
    have l10 := lt_of_heap h10
    have m4 : b4 ≠ bm := by have := lt_of_heap h.hm; omega
    have m10 : b10 ≠ bm := by have := lt_of_heap h.hm; omega
    clear hu od hE1 hs1 hb4 hb10 h
    refine lo_ (fun _ e w' => ∃ i : Nat, i ≤ m ∧ e 2 = .int .i64 i ∧ Ext u w') (fun e _ => m - nat (e 2)) ?_ ?_
    · exact ⟨l, hlm, eA rfl, ext_⟩
    rintro e v1 hf ⟨i, him, h2, hEv⟩
    have hbv := hbu.ext hEv
    have h4v := hEv.at h4
    have h10v := hEv.at h10
    have l4v := lt_of_heap h4v
    have l10v := lt_of_heap h10v
    obtain ⟨x, hx⟩ : ∃ x, s.ord[i]? = some x := ⟨s.ord[i]'(by have := O.len; omega), List.getElem?_eq_getElem _⟩
    have hxc := hoc.at_ i x hx
    have hxl := O.lvl hx
    have dp : Sure Try.prog 140 #[fv f, .int .i64 x] (.bool (depF f x)) := depends_calls f x
    by_cases hi : i < m
    · have hnd : depF f x = false := by
        cases hdx : depF f x
        · rfl
        · have := htf x hdx; omega
      rw [hnd] at dp
      clear ih hgo hbu h4 h10
      refine w_ fun d => ?_
      intro v2 hE2 hs2
      refine w_ fun d => ?_
      exact ⟨⟨i + 1, by omega, eA rfl, ext_⟩, mA⟩
    obtain rfl : i = m := by omega
    obtain rfl : x = v := by rw [hmo] at hx; exact (Option.some.inj hx).symm
    rw [hdt] at dp
    have c0 : Sure Try.prog 141 #[fv f, .int .i64 x, .bool false] (fv (cofF f x false)) := cof_calls f x false
    have c1 : Sure Try.prog 141 #[fv f, .int .i64 x, .bool true] (fv (cofF f x true)) := cof_calls f x true
    have hbl := G.bld f
    have hEwv := hEu.trans hEv
    obtain ⟨R, hR⟩ : ∃ R, s.bld f = R := ⟨_, rfl⟩
    unfold SplB at hgo
    rw [hR] at hgo hbl ⊢
    have lo1 : ∀ u, depF (cofF f x false) u = true → ((i + 1 : Nat) : Int) ≤ lvl s.ord u := fun u hu => by have := hbe false u hu; omega
    have hi1 : ∀ u, depF (cofF f x true) u = true → ((i + 1 : Nat) : Int) ≤ lvl s.ord u := fun u hu => by have := hbe true u hu; omega
    clear htf hbe hbu h4 h10 hx hmo hml hxl l4 l10 hb hm lb lm hEu hEv
    clear hR
    refine w_ fun d => ?_
    intro v2 hE2 hs2
    have hbv2 := hbv.ext hE2
    have h42 := hE2.at h4v
    have h102 := hE2.at h10v
    have l42 := lt_of_heap h42
    have l102 := lt_of_heap h102
    have hEw2 := hEwv.trans hE2
    clear hbv h4v h10v l4v l10v hE2 hs2 hEwv dp
    refine w_ fun d => ?_
    refine s_draw (XD_ext ?_)
    refine de_ ?_
    refine xe2w fun v3 hE3 => ?_
    have hbv3 := hbv2.ext hE3
    have h43 := hE3.at h42
    have h103 := hE3.at h102
    have hEw3 := hEw2.trans hE3
    refine krA ?_
    refine ke ?_
    rw [show (i : Int) + 1 = ((i + 1 : Nat) : Int) by omega]
    refine (ih own v3 s es ck (cofF f x false) (i + 1) hbv3 G (by omega) (by omega) lo1).mono ?_
    rintro r v4 ⟨hr, hT⟩
    obtain ⟨own1, es1, ck1, hB1, hS1⟩ := BtT.parts hT
    have hT1 := (BtS.of_ext (own := own) (bm := bm) hEw3).trans hS1
    obtain ⟨o41, h44⟩ := hS1.out h43 o4 m4
    obtain ⟨o101, h104⟩ := hS1.out h103 o10 m10
    rcases hgo with ⟨e0, eR⟩ | ⟨n0, s0, e0, G0, L0, D0, hgo⟩
    · rw [eR, e0]
      rw [e0] at hr
      dsimp only at hr
      subst hr
      rw [errV2]
      clear ih hbv2 hbv3
      refine de_ ?_
      refine xn_ fun v5 hE5 hs5 => ?_
      refine w_ fun d => ?_
      exact ⟨rfl, (hT1.to hB1).ext ext_⟩
    rw [e0] at hr hB1
    dsimp only at hr hB1
    subst hr
    rw [errV0]
    refine de_ ?_
    refine xn_ fun v5 hE5 hs5 => ?_
    have hB5 := hB1.ext hE5
    have h45 := hE5.at h44
    have h105 := hE5.at h104
    have l45 := lt_of_heap h45
    have l105 := lt_of_heap h105
    have hT5 := hT1.ext hE5
    clear hbv2 hbv3 h42 h102 l42 l102 h43 h103 hEw2 hEw3 hE3 hB1 hT1 hS1 hT h44 h104 hE5 hs5
    refine w_ fun d => ?_
    refine s_draw (XD_ext ?_)
    refine de_ ?_
    refine xe2w fun v6 hE6 => ?_
    have hB6 := hB5.ext hE6
    have h46 := hE6.at h45
    have h106 := hE6.at h105
    refine krA ?_
    refine ke ?_
    rw [show (i : Int) + 1 = ((i + 1 : Nat) : Int) by omega]
    rw [← L0.ord] at hi1
    refine (ih own1 v6 s0 es1 ck1 (cofF f x true) (i + 1) hB6 G0 (by omega) (by omega) hi1).mono ?_
    rintro r v7 ⟨hr, hT⟩
    obtain ⟨own2, es2, ck2, hB2, hS2⟩ := BtT.parts hT
    have hT2 := (hT5.ext hE6).trans hS2
    obtain ⟨o42, h47⟩ := hS2.out h46 o41 m4
    obtain ⟨o102, h107⟩ := hS2.out h106 o101 m10
    rcases hgo with ⟨e1, eR⟩ | ⟨n1, s1, e1, G1, L1, D1, hgo⟩
    · rw [eR, e1]
      rw [e1] at hr
      dsimp only at hr
      subst hr
      rw [errV2]
      clear ih hB5 hB6
      refine de_ ?_
      refine xn_ fun v8 hE8 hs8 => ?_
      refine w_ fun d => ?_
      exact ⟨rfl, (hT2.to hB2).ext ext_⟩
    rw [e1] at hr hB2
    dsimp only at hr hB2
    subst hr
    rw [errV0]
    refine de_ ?_
    refine xn_ fun v8 hE8 hs8 => ?_
    have hB8 := hB2.ext hE8
    have h48 := hE8.at h47
    have h108 := hE8.at h107
    have l48 := lt_of_heap h48
    have l108 := lt_of_heap h108
    have hT8 := hT2.ext hE8
    have hb8 := hB8.hb
    have lb8 := lt_of_heap hb8
    have L01 := L0.trans L1
    have hmk := fun u (hu : Ext v8 u) => stMk_calls (v := x) ((hB8.ext hu).sti) G1 (bt_rng G1.wf (D0.mono L1)) (bt_rng G1.wf D1)
    rw [← hgo] at hmk
    have hLR : s1.Le R.2 := by rw [hgo]; exact (G1.mks _ _ _).2.1
    clear hB5 h45 h105 l45 l105 h46 h106 hB2 hT2 hS2 hT h47 h107 hE8 hs8 hE6 hT5 hB6 ih hgo e0 e1
    refine w_ fun d => ?_
    refine s_draw (XD_ext ?_)
    refine de_ ?_
    refine xe2w fun v9 hE9 => ?_
    have hB9 := hB8.ext hE9
    have h49 := hE9.at h48
    refine krA ?_
    refine ke ?_
    refine (hmk v9 hE9).mono ?_
    rintro _ v10 ⟨rfl, hTr⟩
    obtain ⟨own3, hB3, ho3, hC3⟩ := hB9.turn hLR hTr
    have hS3 : BtS own2 v9 bm own3 v10 := ⟨ho3, hC3⟩
    have hT3 := (hT8.ext hE9).trans hS3
    obtain ⟨o43, h410⟩ := hS3.out h49 o42 m4
    clear hmk
    refine de_ ?_
    refine xn_ fun va hEa hsa => ?_
    have hBa := hB3.ext hEa
    have hTa := hT3.ext hEa
    have h4a := hEa.at h410
    have hba := hBa.hb
    have hma := hBa.hm
    have l4a := lt_of_heap h4a
    have lba := lt_of_heap hba
    have lma := lt_of_heap hma
    obtain ⟨⟨Rn, Re⟩, R2⟩ := R
    dsimp only at hBa hTa hLR ⊢
    clear hB8 h48 h108 l48 l108 hb8 lb8 hE9 hB9 h49 hTr hB3 ho3 hC3 hS3 hT3 h410 hEa hsa hT8
    rcases hbl.res with ⟨e2, D2⟩ | ⟨e2, _⟩
    · dsimp only at e2 D2
      subst e2
      rw [errV0]
      have hput := hBa.put D2
      have hTp : BtS own3 va bm own3 (upd va bm (mObj fv (mput es2 f (.int .i64 Rn) ck2) (mclock es2 f ck2))) := ⟨fun _ _ => rfl, chg_⟩
      refine w_ fun d => ?_
      exact ⟨rfl, ((hTa.trans hTp).to hput).ext ext_⟩
    · cases e2
      rw [errV2]
      refine w_ fun d => ?_
      exact ⟨rfl, (hTa.to hBa).ext ext_⟩
end
end Go.Proofs.Ytpeindhocndmnaa

namespace Go.Bx
open Go
set_option linter.unusedSimpArgs false
set_option linter.unusedVariables false
def AnyO (P : Program) (ops : Array Oper) (I : (Nat → Bool) → Env → World → Prop) : Prop :=
  ∀ (S : Nat → Bool) (j : Nat) (o : Oper), ops[j]? = some o → S j = false → (∀ ed ∈ o.after, Region.binds .any ed = true → S ed.on = true) → ∀ e w, I S e w →
    wantG e (gslot ops o.guard) ∧ XV P o.op o.type e w (fun v w' => I (fun i => S i || i == j) (e.put o.dst v) w')
theorem ready_ex {ops : Array Oper} (hb : ∀ (j : Nat) (o : Oper), ops[j]? = some o → ∀ ed ∈ o.after, Region.binds .any ed = true → ed.on < j) {listed : Array Bool} (hs : listed.size = ops.size) :
    ∀ i, i < ops.size → listed.getD i true = false → ∃ k, k ∈ Region.ready .any ops listed := by
  intro i
  induction i using Nat.strongRecOn with
  | _ i ih2 =>
    intro hi hl
    by_cases hx : ∃ k, k < i ∧ listed.getD k true = false
    · obtain ⟨k, hk, hk2⟩ := hx
      exact ih2 k hk (by omega) hk2
    · refine ⟨i, ready_iff.2 ⟨hi, hl, ops[i], Array.getElem?_eq_getElem hi, fun ed he hbd => ?_⟩⟩
      have hlt := hb i _ (Array.getElem?_eq_getElem hi) ed he hbd
      rw [← getD_tf (by rw [hs]; omega)]
      cases hle : listed.getD ed.on true with
      | true => rfl
      | false => exact absurd ⟨ed.on, hlt, hle⟩ hx
theorem wpAny_of_I {P : Program} {ops : Array Oper} {N : Nat} (hN : N ≤ 1000000) {Q : Exit → Act → World → Prop} {K : Env → World → Prop} (hQ : ∀ a e w, Sim N a e → K e w → Q .normal a w)
    (hd : ∀ (j : Nat) (o : Oper), ops[j]? = some o → ∀ x, o.dst = some x → x < N)
    (hb : ∀ (j : Nat) (o : Oper), ops[j]? = some o → ∀ ed ∈ o.after, Region.binds .any ed = true → ed.on < j)
    {I : (Nat → Bool) → Env → World → Prop} (h : AnyO P ops I) (hI : ∀ S e w, (∀ j, j < ops.size → S j = true) → I S e w → K e w) :
    ∀ (fuel : Nat) (listed : Array Bool) (a : Act) (e : Env) (w : World), (un ops.size listed).length ≤ fuel → listed.size = ops.size → Sim N a e → I (fun i => listed.getD i false) e w → wpAny P .any ops Q fuel listed a w := by
  have full : ∀ listed : Array Bool, listed.size = ops.size → un ops.size listed = [] → ∀ j, j < ops.size → listed.getD j false = true := fun listed hs hn j hj => by
    rw [← getD_tf (by omega)]
    cases hl : listed.getD j true with
    | true => rfl
    | false =>
      have : j ∈ un ops.size listed := mem_un.2 ⟨hj, hl⟩
      rw [hn] at this; cases this
  intro fuel
  induction fuel with
  | zero =>
    intro listed a e w hf hs sim hi
    have hnil : un ops.size listed = [] := List.length_eq_zero_iff.1 (by omega)
    refine ⟨List.eq_nil_iff_forall_not_mem.2 fun i hi => ?_, hQ _ _ _ sim (hI _ _ _ (full listed hs hnil) hi)⟩
    obtain ⟨hi1, hi2, _⟩ := ready_iff.1 hi
    have : i ∈ un ops.size listed := mem_un.2 ⟨hi1, hi2⟩
    rw [hnil] at this
    cases this
  | succ f ih =>
    intro listed a e w hf hs sim hi
    refine ⟨fun h0 => ?_, fun j hj => ?_⟩
    · have hnil : un ops.size listed = [] := by
        cases hun : un ops.size listed with
        | nil => rfl
        | cons i r =>
          exfalso
          have hm : i ∈ un ops.size listed := by rw [hun]; simp
          obtain ⟨hi1, hi2⟩ := mem_un.1 hm
          obtain ⟨k, hk⟩ := ready_ex hb hs i hi1 hi2
          rw [h0] at hk
          cases hk
      exact hQ _ _ _ sim (hI _ _ _ (full listed hs hnil) hi)
    · obtain ⟨hjl, hju, y, hy, hallj⟩ := ready_iff.1 hj
      have hSj : listed.getD j false = false := by rw [← getD_tf (by omega)]; exact hju
      obtain ⟨wg, xv⟩ := h (fun i => listed.getD i false) j y hy hSj hallj e w hi
      obtain ⟨r1, r2, hs1, hs2, hs3⟩ := filter_split (fun i => listed.getD i true == false) ops.size j hjl (by simp [hju])
      have hset : un ops.size (listed.setIfInBounds j true) = r1 ++ r2 := by rw [un_set hs hjl, ← hs3]
      have hun : un ops.size listed = r1 ++ j :: r2 := hs1
      rw [hun] at hf
      unfold wpOp
      rw [hy]
      simp only []
      rw [if_pos ((wanted_iff sim hN).2 wg)]
      refine .inl (wp_of_XV sim (fun v w' hk => ?_) xv)
      refine ih _ _ _ w' (by rw [hset]; simp at hf ⊢; omega) (by simpa using hs) (sim.put (hd j y hy) v) ?_
      have e1 : (fun i => (listed.setIfInBounds j true).getD i false) = fun i => listed.getD i false || i == j := by
        funext i
        rw [getD_set]
        by_cases hij : j = i
        · subst hij; rw [if_pos ⟨rfl, by omega⟩]; simp
        · rw [if_neg (fun h => hij h.1)]
          have : (i == j) = false := by simpa using fun h => hij h.symm
          rw [this, Bool.or_false]
      rw [e1]; exact hk
def backOK (ops : Array Oper) : Bool := (List.range ops.size).all fun j => match ops[j]? with | some o => o.after.all fun ed => !Region.binds .any ed || decide (ed.on < j) | none => true
theorem callsS {P : Program} {f : FuncId} {fn : Func} {c0 c2 : Code} {id : Nat} {ops : Array Oper} {args : Array Value} {w : World} {R : Value → World → Prop} {rs : Array ResultVar}
    (hf : P.funcs[f]? = some fn) (hr : fn.results = rs) (hb : fn.body = some (.seq c0 (.seq (.region id ops true) c2))) (hm : P.follows .mixedOrders = true) {bs : Bigs}
    (hk : (okN bs fn.ntmps c0 && okN bs fn.ntmps c2 && dstsOK fn.ntmps ops.toList && decide (fn.ntmps ≤ 1000000) && decide (args.size ≤ fn.ntmps) && backOK ops) = true)
    {I : (Nat → Bool) → Env → World → Prop} (h : X P (comp bs c0) (fun ex e w => ex = .normal ∧ ∀ d, I (fun _ => false) e { w with drawn := d }) (envOf args) w) (hA : AnyO P ops I)
    (h2 : ∀ S e w, (∀ j, j < ops.size → S j = true) → I S e w → X P (comp bs c2) (retX P rs R) e w) : CallsR P f args w R := by
  subst hr
  simp only [Bool.and_eq_true, decide_eq_true_eq] at hk
  obtain ⟨⟨⟨⟨⟨k0, k2⟩, kd⟩, kn⟩, ka⟩, kb⟩ := hk
  have hd : ∀ (j : Nat) (o : Oper), ops[j]? = some o → ∀ x, o.dst = some x → x < fn.ntmps := fun j o ho x hx => by
    have hmem : o ∈ ops.toList := Array.mem_toList_iff.2 (Array.mem_of_getElem? ho)
    have := List.all_eq_true.1 kd o hmem
    rw [hx] at this
    simpa using this
  have hbk : ∀ (j : Nat) (o : Oper), ops[j]? = some o → ∀ ed ∈ o.after, Region.binds .any ed = true → ed.on < j := fun j o ho ed he hbd => by
    have hj := (Array.getElem?_eq_some_iff.1 ho).1
    have := List.all_eq_true.1 kb j (List.mem_range.2 hj)
    rw [ho] at this
    have := Array.all_eq_true'.1 this ed he
    rw [hbd] at this
    simpa using this
  refine calls_of_wp hf hb (wp_seq (wp_of_X hm kn c0 _ _ _ (envOf args) w k0 ⟨by simp; omega, rfl, fun i => ?_⟩ (fun ex a e w hs hq => ?_) h))
  · simp only [envOf, Array.getD_eq_getD_getElem?]
    rcases Nat.lt_or_ge i args.size with h1 | h1
    · simp [Array.getElem?_append_left h1]
    · rw [Array.getElem?_append_right h1, Array.getElem?_eq_none h1]
      rcases Nat.lt_or_ge (i - args.size) (fn.ntmps - args.size) with h2 | h2
      · simp [h2]
      · simp [Nat.not_lt.2 h2]
  · obtain ⟨rfl, hq⟩ := hq
    have hun : un ops.size (Array.replicate ops.size false) = List.range ops.size := by
      unfold un
      refine List.filter_eq_self.2 fun i hi => ?_
      have := List.mem_range.1 hi
      simp [Array.getD_eq_getD_getElem?, this]
    refine wp_seq (wp_region_any hm (wpAny_of_I (K := fun e w => X P (comp bs c2) (retX P fn.results R) e w) kn (fun a e w hs hx => ?_) hd hbk hA h2 _ _ a e _ (by rw [hun]; simp) (by simp) hs ?_))
    · refine wp_of_X hm kn c2 _ _ a e w k2 hs (fun ex a e w hs hq => ?_) hx
      cases ex <;> simp only [retX] at hq <;> try exact hq.elim
      all_goals
        obtain ⟨v, h1, h2⟩ := hq
        refine ⟨hs.defers, v, ?_, ⟨v, rfl, h2⟩⟩
        rw [results_eq hs]
        exact h1
    · have e1 : (fun i => (Array.replicate ops.size false).getD i false) = fun _ => false := by
        funext i
        rw [Array.getD_eq_getD_getElem?]
        by_cases hi : i < ops.size
        · simp [hi]
        · simp [Nat.not_lt.1 hi]
      rw [e1]; exact hq _
end Go.Bx

namespace Go.Proofs.Ytpeindhocndmnaa
open Go Go.Bx
set_option linter.unusedSimpArgs false
set_option linter.unusedVariables false
set_option maxRecDepth 100000
set_option maxHeartbeats 4000000
attribute [local irreducible] X XO XE XF XD XW thenX inX retX kN CallsR
theorem rG_insert {t ty : TypeId} {e : Env} {w : World} {x y z : Operand} : rG Try.prog (.insert t x y z) ty e w = uR (muR Try.prog t (ev e x) (ev e y) (ev e z) w) := run_u _
attribute [push_cast] rG_insert
theorem sc_ {bs : Bigs} {c : Code} {g : GCode} {Q : Exit → Env → World → Prop} {e : Env} {w : World} (h : X Try.prog g Q e w)
    (hg : cs bs c .skip = g := by (simp only [cs, gop, gslot, dops, bigOf, setK, drawOf, drawOf2, dopsW, setW, dopsR, setR, kindOf, List.lookup, List.map_cons, List.map_nil, Option.bind_some, List.getElem?_toArray, List.getElem?_cons_zero, List.getElem?_cons_succ, Option.getD_some, Option.getD_none, List.contains_nil, List.contains_cons, Bool.false_eq_true, ↓reduceIte, Nat.reduceAdd, Nat.reduceBEq, Bool.or_false, Bool.or_true, Bool.true_or] <;> rfl)) : X Try.prog (comp bs c) Q e w := X_comp (hg ▸ h)
def Nb1 (C0 C1 : Fun8) (p m : Nat) (u : World) (q3 q5 q6 q7 q8 q9 : Bool) (x8 x11 x12 x13 x6 : Value) : Prop :=
  ∃ (b ck : Nat) (es : List (Ent Fun8)), x8 = .map (some b) ∧ m ≤ b ∧ u.heap[b]? = some (mObj fv es ck) ∧ MInv es ck ∧ (∀ x ∈ es, (x.1 = C0 ∧ x.2.1 = .int .i64 0) ∨ (x.1 = C1 ∧ x.2.1 = .int .i64 1)) ∧ (q3 = true → mget es C0 ≠ none) ∧ (q5 = true → mget es C1 ≠ none) ∧
    (q6 = true → x11 = .map (some b)) ∧ (q7 = true → x12 = .agg #[.pointer (some ⟨p, 0, none⟩), .map (some b)]) ∧ (q8 = true → ∃ bb, x13 = .pointer (some ⟨bb, 0, none⟩) ∧ m ≤ bb ∧ u.heap[bb]? = some (.cells #[.pointer (some ⟨p, 0, none⟩), .map (some b)] 139) ∧ (q9 = true → x6 = .pointer (some ⟨bb, 0, none⟩)))
section
variable {C0 C1 : Fun8} {p b3 m : Nat} {w u u' : World} {q3 q5 q6 q7 q8 q9 : Bool} {x8 x11 x12 x13 x6 : Value} {S : Nat → Bool} {e : Env}
theorem Nb1.ext (h : Nb1 C0 C1 p m u q3 q5 q6 q7 q8 q9 x8 x11 x12 x13 x6) (hE : Ext u u') : Nb1 C0 C1 p m u' q3 q5 q6 q7 q8 q9 x8 x11 x12 x13 x6 := by
  obtain ⟨b, ck, es, h1, h2, h3, h4, h5, h6, h7, h8, h9, h10⟩ := h
  exact ⟨b, ck, es, h1, h2, hE.at h3, h4, h5, h6, h7, h8, h9, fun h => by obtain ⟨bb, k1, k2, k3, k4⟩ := h10 h; exact ⟨bb, k1, k2, hE.at k3, k4⟩⟩
structure NbI (C0 C1 : Fun8) (p b3 : Nat) (w : World) (S : Nat → Bool) (e : Env) (u : World) : Prop where
  ext : Ext w u
  e0 : e 0 = .pointer (some ⟨p, 0, none⟩)
  e3 : e 3 = .pointer (some ⟨b3, 0, none⟩)
  s0 : S 0 = true → e 7 = .pointer (some ⟨p, 0, none⟩)
  s1 : S 1 = true → Nb1 C0 C1 p w.heap.size u (S 3) (S 5) (S 6) (S 7) (S 8) (S 9) (e 8) (e 11) (e 12) (e 13) (e 6)
  s2 : S 2 = true → e 9 = fv C0
  s4 : S 4 = true → e 10 = fv C1
  cl : S 1 = false → S 3 = false ∧ S 5 = false ∧ S 6 = false ∧ S 7 = false ∧ S 8 = false ∧ S 9 = false
  c9 : S 8 = false → S 9 = false
theorem Nb1.ins {k : Fun8} {v : Value} {b ck : Nat} {es : List (Ent Fun8)} (h2 : m ≤ b) (h3 : u.heap[b]? = some (mObj fv es ck)) (h4 : MInv es ck) (h5 : ∀ x ∈ es, (x.1 = C0 ∧ x.2.1 = .int .i64 0) ∨ (x.1 = C1 ∧ x.2.1 = .int .i64 1)) (h6 : q3 = true → mget es C0 ≠ none) (h7 : q5 = true → mget es C1 ≠ none)
    (h8 : q6 = true → x11 = .map (some b)) (h9 : q7 = true → x12 = .agg #[.pointer (some ⟨p, 0, none⟩), .map (some b)]) (h10 : q8 = true → ∃ bb, x13 = .pointer (some ⟨bb, 0, none⟩) ∧ m ≤ bb ∧ u.heap[bb]? = some (.cells #[.pointer (some ⟨p, 0, none⟩), .map (some b)] 139) ∧ (q9 = true → x6 = .pointer (some ⟨bb, 0, none⟩)))
    (hv : (k = C0 ∧ v = .int .i64 0) ∨ (k = C1 ∧ v = .int .i64 1)) {r3 r5 : Bool} (hr3 : r3 = true → q3 = true ∨ k = C0) (hr5 : r5 = true → q5 = true ∨ k = C1) :
    Nb1 C0 C1 p m (upd u b (mObj fv (mput es k v ck) (mclock es k ck))) r3 r5 q6 q7 q8 q9 (.map (some b)) x11 x12 x13 x6 := by
  have hb := lt_of_heap h3
  have hg : ∀ j, (mget es j ≠ none ∨ k = j) → mget (mput es k v ck) j ≠ none := fun j hj => by
    rw [mget_put h4.keys]
    by_cases e : j = k
    · rw [if_pos e]; simp
    · rw [if_neg e]; exact hj.elim id fun h => absurd h.symm e
  refine ⟨b, mclock es k ck, mput es k v ck, rfl, h2, upd_same hb, h4.put k v, fun x hx => ?_, fun h => hg C0 ((hr3 h).imp h6 id), fun h => hg C1 ((hr5 h).imp h7 id), h8, h9, fun h => ?_⟩
  · rcases mput_mem h4.keys hx with ⟨h1, _⟩ | ⟨h1, h2, _⟩
    · exact h5 x h1
    · rw [h1, h2]; exact hv
  · obtain ⟨bb, k1, k2, k3, k4⟩ := h10 h
    refine ⟨bb, k1, k2, ?_, k4⟩
    rw [upd_other fun e => by subst e; rw [h3] at k3; cases k3]; exact k3
theorem nbI_any (C0 C1 : Fun8) (p b3 : Nat) (w : World) (c0 : ∀ u, CallsR Try.prog 99 #[.bool false] u fun r u' => r = fv C0 ∧ Ext u u') (c1 : ∀ u, CallsR Try.prog 99 #[.bool true] u fun r u' => r = fv C1 ∧ Ext u u') {c2 : Code} {id : Nat} {ops : Array Oper} {x0 : Code}
    (hb : Try.f33.body = some (.seq x0 (.seq (.region id ops true) c2))) : AnyO Try.prog ops (NbI C0 C1 p b3 w) := by
  cases hb
  intro S j o hj hS haf e u hI
  rcases j with _ | _ | _ | _ | _ | _ | _ | _ | _ | _ | j
  · simp only [List.getElem?_toArray, List.getElem?_cons_succ, List.getElem?_cons_zero, Option.some.injEq, Nat.zero_add, Nat.reduceAdd] at hj
    subst hj
    refine ⟨trivial, ?_⟩
    rw [XV_rG]
    have e0 := hI.e0
    refine krA ?_
    refine kv ?_
    exact ⟨hI.ext, by simpa [Env.put, Env.set] using hI.e0, by simpa [Env.put, Env.set] using hI.e3, fun _ => by simp [Env.put, Env.set], fun hs => by have := hI.s1 (by simpa using hs); simpa [Env.put, Env.set] using this, fun hs => by have := hI.s2 (by simpa using hs); simpa [Env.put, Env.set] using this, fun hs => by have := hI.s4 (by simpa using hs); simpa [Env.put, Env.set] using this, fun hs => by have := hI.cl (by simpa using hs); simpa using this, fun hs => by have := hI.c9 (by simpa using hs); simpa using this⟩
  · simp only [List.getElem?_toArray, List.getElem?_cons_succ, List.getElem?_cons_zero, Option.some.injEq, Nat.zero_add, Nat.reduceAdd] at hj
    subst hj
    refine ⟨trivial, ?_⟩
    rw [XV_rG]
    rw [rG_makeMap]
    refine kv ?_
    have hc := hI.cl hS
    have hE : Ext u (u.alloc (.map #[] 0)) := ext_
    exact ⟨hI.ext.trans hE, by simpa [Env.put, Env.set] using hI.e0, by simpa [Env.put, Env.set] using hI.e3, fun hs => by have := hI.s0 (by simpa using hs); simpa [Env.put, Env.set] using this, fun _ => ⟨u.heap.size, 0, [], by simp [Env.put, Env.set], hI.ext.size, alloc_new, MInv.nil, fun x hx => (by cases hx), fun h => by simp [hc.1] at h, fun h => by simp [hc.2.1] at h, fun h => by simp [hc.2.2.1] at h, fun h => by simp [hc.2.2.2.1] at h, fun h => by simp [hc.2.2.2.2.1] at h⟩, fun hs => by have := hI.s2 (by simpa using hs); simpa [Env.put, Env.set] using this, fun hs => by have := hI.s4 (by simpa using hs); simpa [Env.put, Env.set] using this, fun hs => by simp at hs, fun hs => by have := hI.c9 (by simpa using hs); simpa using this⟩
  · simp only [List.getElem?_toArray, List.getElem?_cons_succ, List.getElem?_cons_zero, Option.some.injEq, Nat.zero_add, Nat.reduceAdd] at hj
    subst hj
    refine ⟨trivial, ?_⟩
    rw [XV_rG]
    refine krA ?_
    refine ke ?_
    refine (c0 u).mono ?_
    rintro _ u' ⟨rfl, hE⟩
    exact ⟨hI.ext.trans hE, by simpa [Env.put, Env.set] using hI.e0, by simpa [Env.put, Env.set] using hI.e3, fun hs => by have := hI.s0 (by simpa using hs); simpa [Env.put, Env.set] using this, fun hs => by have := (hI.s1 (by simpa using hs)).ext hE; simpa [Env.put, Env.set] using this, fun _ => by simp [Env.put, Env.set], fun hs => by have := hI.s4 (by simpa using hs); simpa [Env.put, Env.set] using this, fun hs => by have := hI.cl (by simpa using hs); simpa using this, fun hs => by have := hI.c9 (by simpa using hs); simpa using this⟩
  · simp only [List.getElem?_toArray, List.getElem?_cons_succ, List.getElem?_cons_zero, Option.some.injEq, Nat.zero_add, Nat.reduceAdd] at hj
    subst hj
    refine ⟨trivial, ?_⟩
    rw [XV_rG]
    have h1 : S 1 = true := haf ⟨1, .data⟩ (by simp) rfl
    have h2 : S 2 = true := haf ⟨2, .data⟩ (by simp) rfl
    have hk := hI.s2 h2
    obtain ⟨b, ck, es, k1, k2, k3, k4, k5, k6, k7, k8, k9, k10⟩ := hI.s1 h1
    have hbl := lt_of_heap k3
    refine krA ?_
    refine ks ?_
    refine ⟨hI.ext.upd k2 _, hI.e0, hI.e3, fun hs => hI.s0 (by simpa using hs), fun _ => ?_, fun hs => hI.s2 (by simpa using hs), fun hs => hI.s4 (by simpa using hs), fun hs => ?_, fun hs => ?_⟩
    · have := Nb1.ins (k := C0) (v := .int .i64 0) (r3 := true) (r5 := S 5) k2 k3 k4 k5 k6 k7 k8 k9 k10 (.inl ⟨rfl, rfl⟩) (fun _ => .inr rfl) (fun h => .inl h)
      simpa [Env.put, k1] using this
    · simp [h1] at hs
    · have := hI.c9 (by simpa using hs)
      simpa using this
  · simp only [List.getElem?_toArray, List.getElem?_cons_succ, List.getElem?_cons_zero, Option.some.injEq, Nat.zero_add, Nat.reduceAdd] at hj
    subst hj
    refine ⟨trivial, ?_⟩
    rw [XV_rG]
    refine krA ?_
    refine ke ?_
    refine (c1 u).mono ?_
    rintro _ u' ⟨rfl, hE⟩
    exact ⟨hI.ext.trans hE, by simpa [Env.put, Env.set] using hI.e0, by simpa [Env.put, Env.set] using hI.e3, fun hs => by have := hI.s0 (by simpa using hs); simpa [Env.put, Env.set] using this, fun hs => by have := (hI.s1 (by simpa using hs)).ext hE; simpa [Env.put, Env.set] using this, fun hs => by have := hI.s2 (by simpa using hs); simpa [Env.put, Env.set] using this, fun _ => by simp [Env.put, Env.set], fun hs => by have := hI.cl (by simpa using hs); simpa using this, fun hs => by have := hI.c9 (by simpa using hs); simpa using this⟩
  · simp only [List.getElem?_toArray, List.getElem?_cons_succ, List.getElem?_cons_zero, Option.some.injEq, Nat.zero_add, Nat.reduceAdd] at hj
    subst hj
    refine ⟨trivial, ?_⟩
    rw [XV_rG]
    have h1 : S 1 = true := haf ⟨1, .data⟩ (by simp) rfl
    have h2 : S 4 = true := haf ⟨4, .data⟩ (by simp) rfl
    have hk := hI.s4 h2
    obtain ⟨b, ck, es, k1, k2, k3, k4, k5, k6, k7, k8, k9, k10⟩ := hI.s1 h1
    have hbl := lt_of_heap k3
    refine krA ?_
    refine ks ?_
    refine ⟨hI.ext.upd k2 _, hI.e0, hI.e3, fun hs => hI.s0 (by simpa using hs), fun _ => ?_, fun hs => hI.s2 (by simpa using hs), fun hs => hI.s4 (by simpa using hs), fun hs => ?_, fun hs => ?_⟩
    · have := Nb1.ins (k := C1) (v := .int .i64 1) (r3 := S 3) (r5 := true) k2 k3 k4 k5 k6 k7 k8 k9 k10 (.inr ⟨rfl, rfl⟩) (fun h => .inl h) (fun _ => .inr rfl)
      simpa [Env.put, k1] using this
    · simp [h1] at hs
    · have := hI.c9 (by simpa using hs)
      simpa using this
  · simp only [List.getElem?_toArray, List.getElem?_cons_succ, List.getElem?_cons_zero, Option.some.injEq, Nat.zero_add, Nat.reduceAdd] at hj
    subst hj
    refine ⟨trivial, ?_⟩
    rw [XV_rG]
    have h1 : S 1 = true := haf ⟨1, .data⟩ (by simp) rfl
    obtain ⟨b, ck, es, k1, k2, k3, k4, k5, k6, k7, k8, k9, k10⟩ := hI.s1 h1
    refine krA ?_
    refine kv ?_
    exact ⟨hI.ext, by simpa [Env.put, Env.set] using hI.e0, by simpa [Env.put, Env.set] using hI.e3, fun hs => by have := hI.s0 (by simpa using hs); simpa [Env.put, Env.set] using this, fun _ => ⟨b, ck, es, by simpa [Env.put, Env.set] using k1, k2, k3, k4, k5, fun h => k6 (by simpa using h), fun h => k7 (by simpa using h), fun _ => by simp [Env.put, Env.set], by simpa [Env.put, Env.set] using k9, by simpa [Env.put, Env.set] using k10⟩, fun hs => by have := hI.s2 (by simpa using hs); simpa [Env.put, Env.set] using this, fun hs => by have := hI.s4 (by simpa using hs); simpa [Env.put, Env.set] using this, fun hs => by simp [h1] at hs, fun hs => by have := hI.c9 (by simpa using hs); simpa using this⟩
  · simp only [List.getElem?_toArray, List.getElem?_cons_succ, List.getElem?_cons_zero, Option.some.injEq, Nat.zero_add, Nat.reduceAdd] at hj
    subst hj
    refine ⟨trivial, ?_⟩
    rw [XV_rG]
    have h1 : S 1 = true := by
      cases h1 : S 1 with
      | true => rfl
      | false => have := hI.cl h1; have h6 : S 6 = true := haf ⟨6, .data⟩ (by simp) rfl; simp [this] at h6
    obtain ⟨b, ck, es, k1, k2, k3, k4, k5, k6, k7, k8, k9, k10⟩ := hI.s1 h1
    have e7 := hI.s0 (haf ⟨0, .data⟩ (by simp) rfl)
    have e11 := k8 (haf ⟨6, .data⟩ (by simp) rfl)
    refine krA ?_
    refine kv ?_
    exact ⟨hI.ext, by simpa [Env.put, Env.set] using hI.e0, by simpa [Env.put, Env.set] using hI.e3, fun hs => by have := hI.s0 (by simpa using hs); simpa [Env.put, Env.set] using this, fun _ => ⟨b, ck, es, by simpa [Env.put, Env.set] using k1, k2, k3, k4, k5, fun h => k6 (by simpa using h), fun h => k7 (by simpa using h), by simpa [Env.put, Env.set] using k8, fun _ => by simp [Env.put, Env.set], by simpa [Env.put, Env.set] using k10⟩, fun hs => by have := hI.s2 (by simpa using hs); simpa [Env.put, Env.set] using this, fun hs => by have := hI.s4 (by simpa using hs); simpa [Env.put, Env.set] using this, fun hs => by simp [h1] at hs, fun hs => by have := hI.c9 (by simpa using hs); simpa using this⟩
  · simp only [List.getElem?_toArray, List.getElem?_cons_succ, List.getElem?_cons_zero, Option.some.injEq, Nat.zero_add, Nat.reduceAdd] at hj
    subst hj
    refine ⟨trivial, ?_⟩
    rw [XV_rG]
    have h1 : S 1 = true := by
      cases h1 : S 1 with
      | true => rfl
      | false => have := hI.cl h1; have h6 : S 7 = true := haf ⟨7, .data⟩ (by simp) rfl; simp [this] at h6
    obtain ⟨b, ck, es, k1, k2, k3, k4, k5, k6, k7, k8, k9, k10⟩ := hI.s1 h1
    have e12 := k9 (haf ⟨7, .data⟩ (by simp) rfl)
    have hsu := hI.ext.size
    refine krA ?_
    refine kv ?_
    have hE : Ext u (u.alloc (.cells #[.pointer (some ⟨p, 0, none⟩), .map (some b)] 139)) := ext_
    exact ⟨hI.ext.trans hE, by simpa [Env.put, Env.set] using hI.e0, by simpa [Env.put, Env.set] using hI.e3, fun hs => by have := hI.s0 (by simpa using hs); simpa [Env.put, Env.set] using this, fun _ => ⟨b, ck, es, by simpa [Env.put, Env.set] using k1, k2, hE.at k3, k4, k5, fun h => k6 (by simpa using h), fun h => k7 (by simpa using h), by simpa [Env.put, Env.set] using k8, by simpa [Env.put, Env.set] using k9, fun _ => ⟨u.heap.size, by simp [Env.put, Env.set], hsu, alloc_new, fun h => by have h9 : S 9 = true := (by simpa using h); rw [hI.c9 hS] at h9; cases h9⟩⟩, fun hs => by have := hI.s2 (by simpa using hs); simpa [Env.put, Env.set] using this, fun hs => by have := hI.s4 (by simpa using hs); simpa [Env.put, Env.set] using this, fun hs => by simp [h1] at hs, fun hs => by simp at hs⟩
  · simp only [List.getElem?_toArray, List.getElem?_cons_succ, List.getElem?_cons_zero, Option.some.injEq, Nat.zero_add, Nat.reduceAdd] at hj
    subst hj
    refine ⟨trivial, ?_⟩
    rw [XV_rG]
    have h1 : S 1 = true := by
      cases h1 : S 1 with
      | true => rfl
      | false => have := hI.cl h1; have h6 : S 8 = true := haf ⟨8, .data⟩ (by simp) rfl; simp [this] at h6
    obtain ⟨b, ck, es, k1, k2, k3, k4, k5, k6, k7, k8, k9, k10⟩ := hI.s1 h1
    obtain ⟨bb, m1, m2, m3, m4⟩ := k10 (haf ⟨8, .data⟩ (by simp) rfl)
    refine krA ?_
    refine kv ?_
    exact ⟨hI.ext, by simpa [Env.put, Env.set] using hI.e0, by simpa [Env.put, Env.set] using hI.e3, fun hs => by have := hI.s0 (by simpa using hs); simpa [Env.put, Env.set] using this, fun _ => ⟨b, ck, es, by simpa [Env.put, Env.set] using k1, k2, k3, k4, k5, fun h => k6 (by simpa using h), fun h => k7 (by simpa using h), by simpa [Env.put, Env.set] using k8, by simpa [Env.put, Env.set] using k9, fun _ => ⟨bb, by simpa [Env.put, Env.set] using m1, m2, m3, by simp [Env.put, Env.set]⟩⟩, fun hs => by have := hI.s2 (by simpa using hs); simpa [Env.put, Env.set] using this, fun hs => by have := hI.s4 (by simpa using hs); simpa [Env.put, Env.set] using this, fun hs => by simp [h1] at hs, fun hs => by have h8 : S 8 = true := haf ⟨8, .data⟩ (by simp) rfl; simp [h8] at hs⟩
  · cases hj
theorem rdBuildTop_calls {own : Nat → Nat} {s : Md} (hS : StI own w p s []) (G : s.Good []) (f : Fun8) : CallsR Try.prog 33 #[.pointer (some ⟨p, 0, none⟩), fv f] w fun r w' => r = .tuple #[.int .i64 (s.bld f).1.1, errV (s.bld f).1.2] ∧ TrI own w p (s.bld f).2 [] w' := by
  obtain ⟨C0, hC0⟩ : ∃ C, constF false = C := ⟨_, rfl⟩
  obtain ⟨C1, hC1⟩ : ∃ C, constF true = C := ⟨_, rfl⟩
  have c0 : ∀ u, CallsR Try.prog 99 #[.bool false] u fun r u' => r = fv C0 ∧ Ext u u' := hC0 ▸ const_calls false
  have c1 : ∀ u, CallsR Try.prog 99 #[.bool true] u fun r u' => r = fv C1 ∧ Ext u u' := hC1 ▸ const_calls true
  have hne : C0 ≠ C1 := by rw [← hC0, ← hC1]; exact const_ne
  have own0 : ∀ k, w.heap.size ≤ k → own k = 0 := fun k hk => by
    cases ho : own k with
    | zero => rfl
    | succ q => have := hS.lt k (by omega); omega
  refine callsS (bs := []) (I := NbI C0 C1 p w.heap.size (w.alloc (.cells #[vU (word f 0), vU (word f 1), vU (word f 2), vU (word f 3)] 54))) Try.func33 Try.results33 rfl mixed (by kernel_rfl) ?_ (nbI_any C0 C1 p _ _ c0 c1 rfl) ?_
  · refine sc_ ?_
    have h0 : envOf #[.pointer (some ⟨p, 0, none⟩), fv f] 0 = .pointer (some ⟨p, 0, none⟩) := rfl
    have h1 : envOf #[.pointer (some ⟨p, 0, none⟩), fv f] 1 = fv f := rfl
    generalize envOf #[.pointer (some ⟨p, 0, none⟩), fv f] = e0 at h0 h1
    refine w_ fun d => ?_
    refine ⟨rfl, fun d => ⟨(Ext.refl _).drawn d, by simpa [Env.put, Env.set] using h0, by simp [Env.put, Env.set], fun h => (by cases h), fun h => (by cases h), fun h => (by cases h), fun h => (by cases h), fun _ => ⟨rfl, rfl, rfl, rfl, rfl, rfl⟩, fun _ => rfl⟩⟩
  · intro S e u hAll hN
    have hs : ∀ j, j < 10 → S j = true := hAll
    obtain ⟨b, ck, es, k1, k2, k3, k4, k5, k6, k7, k8, k9, k10⟩ := hN.s1 (hs 1 (by decide))
    obtain ⟨bb, m1, m2, m3, m4⟩ := k10 (hs 8 (by decide))
    have h6 := m4 (hs 9 (by decide))
    have h3 := hN.e3
    have hEu : Ext w u := (by exact ext_ : Ext w (w.alloc _)).trans hN.ext
    have hb3 : u.heap[w.heap.size]? = some (.cells #[vU (word f 0), vU (word f 1), vU (word f 2), vU (word f 3)] 54) := hN.ext.at alloc_new
    have hl3 := lt_of_heap hb3
    have hB : BtI own u p s bb b es ck := ⟨hS.ext hEu, m3, k3, k4, ⟨fun x hx => by
      rcases k5 x hx with ⟨e1, e2⟩ | ⟨e1, e2⟩
      · exact ⟨0, e2, by rw [e1, ← hC0]; exact .c0⟩
      · exact ⟨1, e2, by rw [e1, ← hC1]; exact .c1⟩, fun c => by
      cases c
      · rw [hC0]; exact k6 (hs 3 (by decide))
      · rw [hC1]; exact k7 (hs 5 (by decide))⟩, own0 _ (by rw [alloc_size] at m2; omega), own0 _ (by rw [alloc_size] at k2; omega)⟩
    have hwb : w.heap.size ≤ b := by rw [alloc_size] at k2; omega
    have bd := fun v (hE : Ext u v) => rdBuild_calls 8 own v s es ck f 0 (hB.ext hE) G nv_le (by omega) (fun u hu => (G.wf.ord.lt (dep_range hu)).1)
    clear hAll hs hN k1 k5 k6 k7 k8 k9 k10 m1 m4 m3 k3 k4 hB c0 c1 hne hC0 hC1
    refine sc_ ?_
    refine w_ fun d => ?_
    refine (bd u (Ext.refl u)).mono ?_
    rintro _ u2 ⟨rfl, own', es', ck', hB', ho', hC'⟩
    refine w_ fun d => ?_
    exact ⟨rfl, own', hB'.sti, fun k hk => ho' k (Nat.lt_of_lt_of_le hk hEu.size), (hEu.chg _).trans (hC'.mono fun k _ hf => hf) fun k hk hf => hf.elim id fun h => by omega⟩
end
end Go.Proofs.Ytpeindhocndmnaa

namespace Go.Bx
open Go
set_option linter.unusedSimpArgs false
set_option linter.unusedVariables false
end Go.Bx

namespace Go.Bx
open Go
set_option linter.unusedSimpArgs false
set_option linter.unusedVariables false
section
variable {P : Program} {F : Nat → Value → World → Prop} {K : Env → World → Prop} {C D : World → Prop} {d : Option Tmp} {op : Op} {ty : TypeId} {e : Env} {w w1 : World} {l : List (GOp × Nat)} {v : Value} {n : Nat}
theorem xyD (F : Nat → Value → World → Prop) (hF : ∀ k v u u', F k v u → Ext u u' → F k v u') (D : World → Prop) (hD : ∀ u, Ext w u → D u) (h : XR P F K l (Ext w) D e) : XY P l K e w := ⟨F, Ext w, D, hF, fun d => (Ext.refl w).drawn d, hD, Cl_ext, h⟩
theorem xr4D (h : ∀ u, D u → rG P op ty e u = .ok (.value v) u) (hk : XR P F K l C D (e.put d v)) : XR P F K ((⟨d, op, ty, none⟩, 4) :: l) C D e :=
  .inl ⟨trivial, v, fun u hu => by
    have := h u hu
    unfold rG at this
    unfold WV
    rw [this]
    exact ⟨rfl, rfl⟩, hk⟩
theorem xr4S {f : FuncId} {args : Array Value} (hc : Sure P f args v) (hk : XR P F K l C D (e.put d v)) (h : ∀ u, rG P op ty e u = .ok (.enter f args) u := by (intro w'; (simp (disch := first | assumption | ((try simp only [upd_size, alloc_size, dr_heap, List.size_toArray, List.length_cons, List.length_nil, Nat.reduceAdd]) <;> omega) | (with_unfolding_all (refine Eq.trans rfl ?_; exact rfl)) | exact Nat.le_of_ble_eq_true rfl | fail) only [push_cast, *, Nat.reduceEqDiff, Nat.reduceAdd, Nat.reduceMul, Nat.reduceSub, Int.reduceToNat, Int.reduceAdd, Int.reduceSub, Int.reduceMul, Int.reduceNeg, ↓reduceIte] <;> rfl)))
    (hi : P.inits.idxOf? f = none := by kernel_rfl) : XR P F K ((⟨d, op, ty, none⟩, 4) :: l) C D e :=
  .inl ⟨trivial, v, fun u hu => by
    have := h u
    unfold rG at this
    unfold WV
    rw [this]
    exact ⟨rfl, hi, Calls.mono (hc u) fun en w'' ⟨v', he, hv, hx⟩ => ⟨by rw [he, hv], hx⟩⟩, hk⟩
theorem xr2F (h : ∀ w', C w' → kN P (fun v w'' => (∀ k u, F k u w' → F k u w'') ∧ (∀ u, Ext w'' u → D u) ∧ XR P F K l (Ext w'') D (e.put d v)) (rG P op ty e w')) : XR P F K ((⟨d, op, ty, none⟩, 2) :: l) C D e := by
  refine .inl ⟨trivial, fun w' hw => ?_⟩
  have := h w' hw
  rw [XV_rG]
  generalize rG P op ty e w' = x at *
  have mk : ∀ v w'', ((∀ k u, F k u w' → F k u w'') ∧ (∀ u, Ext w'' u → D u) ∧ XR P F K l (Ext w'') D (e.put d v)) → ∃ C' : World → Prop, C' w'' ∧ (∀ u, C' u → D u) ∧ Cl C' ∧ (∀ k u, F k u w' → F k u w'') ∧ XR P F K l C' D (e.put d v) :=
    fun v w'' ⟨hF, hD, hx⟩ => ⟨Ext w'', Ext.refl w'', hD, Cl_ext, hF, hx⟩
  cases x with
  | ok n w'' =>
    cases n <;> simp only [kN] at this ⊢
    case value => exact mk _ _ this
    case skip => exact mk _ _ this
    case enter => exact this.mono fun v w'' hv => mk _ _ hv
    all_goals exact this
  | halt y w' => exact this
theorem xr5a (h : ∀ u, D u → ∃ v u', rG P op ty e u = .ok (.value v) u' ∧ Ext u u' ∧ F n v u') (hk : ∀ v, (∃ w, C w ∧ F n v w) → XR P F K l (fun w => C w ∧ F n v w) D (e.put d v)) : XR P F K ((⟨d, op, ty, none⟩, n + 5) :: l) C D e :=
  .inl ⟨trivial, fun u hu => by
    obtain ⟨v, u', h1, h2, h3⟩ := h u hu
    unfold rG at h1
    unfold RV
    rw [h1]
    exact ⟨h2, h3⟩, hk⟩
theorem d0_ {A B : Prop} (q : A) (h : Box A → B := by (intro q; (repeat (refine xr0A ?_)); exact q.out)) : B := h ⟨q⟩
end
end Go.Bx

namespace Go.Proofs.Ytpeindhocndmnaa
open Go Go.Bx
set_option linter.unusedSimpArgs false
set_option linter.unusedVariables false
set_option maxRecDepth 100000
set_option maxHeartbeats 4000000
attribute [local irreducible] X XO XE XF XD XW thenX inX retX kN CallsR
def KnT (s : Md) (es : List (Ent Int)) : Prop := ∀ e ∈ es, ∃ f, e.2.1 = fv f ∧ Den s e.1 f
theorem KnT.put {s : Md} {es : List (Ent Int)} {ck : Nat} {f : Fun8} {n : Int} (h : KnT s es) (hI : MInv es ck) (d : Den s n f) : KnT s (mput es n (fv f) ck) := by
  intro e he
  rcases mput_mem hI.keys he with ⟨h1, _⟩ | ⟨h1, h2, _⟩
  · exact h e h1
  · exact ⟨f, h2, by rw [h1]; exact d⟩
section
variable {own : Nat → Nat} {w : World} {p b ck : Nat} {es : List (Ent Int)} {v : Value} {n : Int} {s : Md} {f : Fun8}
theorem intK {kt : TypeId} (hd : Try.prog.underlying kt = some (.int .i64)) : KeyOK Try.prog kt (Value.int .i64) fun _ : Int => True := int_keys hd
theorem luT (h : w.heap[b]? = some (mObj (Value.int .i64) es ck)) : luO Try.prog 142 b (.int .i64 n) true w (some (mObj (Value.int .i64) es ck)) h = .ok (.tuple #[(mget es n).getD (.agg #[.int .u64 0, .int .u64 0, .int .u64 0, .int .u64 0]), .bool (mget es n).isSome]) w := lookup_at h T142 T54 (intK T3.und) trivial (fun _ _ => trivial) true
theorem muT (h : w.heap[b]? = some (mObj (Value.int .i64) es ck)) : muO Try.prog 142 b (.int .i64 n) v w (some (mObj (Value.int .i64) es ck)) h = .ok () (upd w b (mObj (Value.int .i64) (mput es n v ck) (mclock es n ck))) := update_at h T142 (intK T3.und) trivial (fun _ _ => trivial) v
attribute [push_cast] luT muT
def TbT (w : World) (s : Md) (bm : Nat) (w' : World) : Prop := ∃ es' ck', w'.heap[bm]? = some (mObj (Value.int .i64) es' ck') ∧ MInv es' ck' ∧ KnT s es' ∧ Chg (fun k => k = bm) w w'
theorem rdTable_none (hS : StI own w p s []) (W : s.WF) (hn : n ≤ 9223372036854775807) (hh : s.has n = false) (bm : Nat) : CallsR Try.prog 101 #[.pointer (some ⟨p, 0, none⟩), .int .i64 n, .map (some bm)] w fun r w' => r = fv (constF (decide (n = 1))) ∧ Ext w w' := by
  have n1 := stNode_calls hS W n hn
  have hnd : s.node n = ((0, 0, 0), false) := by unfold Md.node; rw [hh]; rfl
  rw [hnd] at n1
  simp only [ndV] at n1
  have c1 : Sure Try.prog 99 #[.bool (n == 1)] (fv (constF (decide (n = 1)))) := fun u => by
    have := const_calls (decide (n = 1)) u
    rwa [show (n == 1) = decide (n = 1) from rfl]
  generalize constF (decide (n = 1)) = C at c1
  clear hS hnd
  refine en3 Try.func101 Try.results101 mixed [(7, [7, 12]), (1007, [1, 2, 5, 10, 13, 1015]), (2007, [14])] ?_
  intro e0 h0 h1 h2
  refine w_ fun d => ?_
  refine qq n1 fun w1 hE1 hs1 => ?_
  refine w_ fun d => ?_
  refine qq (c1.quiet (w := w1)) fun w2 hE2 hs2 => ?_
  refine w_ fun d => ?_
  exact ⟨rfl, ext_⟩
theorem TbT.of_ext {bm : Nat} {w' : World} (hm : w.heap[bm]? = some (mObj (Value.int .i64) es ck)) (hI : MInv es ck) (hk : KnT s es) (hE : Ext w w') : TbT w s bm w' := ⟨es, ck, hE.at hm, hI, hk, hE.chg _⟩
theorem rdTable_calls {bm : Nat} (G : s.Good []) (ho : own bm = 0) (d : Den s n f) : ∀ (w : World) (es : List (Ent Int)) (ck : Nat), StI own w p s [] → w.heap[bm]? = some (mObj (Value.int .i64) es ck) → MInv es ck → KnT s es →
    CallsR Try.prog 101 #[.pointer (some ⟨p, 0, none⟩), .int .i64 n, .map (some bm)] w fun r w' => r = fv f ∧ TbT w s bm w' := by
  have W := G.wf
  induction d with
  | c0 =>
    intro w es ck hS hm hI hk
    refine (rdTable_none hS W (by decide) (Md.has_no (by decide)) bm).mono ?_
    rintro r w' ⟨rfl, hE⟩
    exact ⟨rfl, TbT.of_ext hm hI hk hE⟩
  | c1 =>
    intro w es ck hS hm hI hk
    refine (rdTable_none hS W (by decide) (Md.has_no (by decide)) bm).mono ?_
    rintro r w' ⟨rfl, hE⟩
    exact ⟨rfl, TbT.of_ext hm hI hk hE⟩
  | @node n v lo hi f0 f1 h hx h0 h1 ih0 ih1 =>
    intro w es ck hS hm hI hk
    have hN := wf_N W
    have hl := W.lt h
    have n1 := stNode_calls hS W n (by omega)
    rw [show s.node n = ((v, lo, hi), true) by unfold Md.node; rw [h, hx]; rfl] at n1
    simp only [ndV] at n1
    have dn : Den s n (iteF (varF v) f1 f0) := .node h hx h0 h1
    have c2 : Sure Try.prog 143 #[.int .i64 v] (fv (varF v)) := var_calls v
    have c3 : Sure Try.prog 142 #[fv (varF v), fv f1, fv f0] (fv (iteF (varF v) f1 f0)) := ite_calls _ _ _
    generalize iteF (varF v) f1 f0 = F at dn c3
    generalize varF v = V at c2 c3
    have lm := lt_of_heap hm
    clear hx h0 h1 h hl
    cases hg : mget es n with
    | some val =>
      obtain ⟨bb, hbb⟩ := mget_some hg
      obtain ⟨f', e1, e2⟩ := hk _ hbb
      dsimp only at e1 e2
      obtain rfl := e2.fn dn
      subst e1
      have g1 : (mget es n).isSome = true := by rw [hg]; rfl
      have g2 : (mget es n).getD (.agg #[.int .u64 0, .int .u64 0, .int .u64 0, .int .u64 0]) = fv f' := by rw [hg]; rfl
      clear hg hbb e2 ih0 ih1
      refine en3 Try.func101 Try.results101 mixed [(7, [7, 12]), (1007, [1, 2, 5, 10, 13, 1015]), (2007, [14])] ?_
      intro e0 h0 h1 h2
      refine w_ fun d => ?_
      refine qq n1 fun w1 hE1 hs1 => ?_
      have hm1 := (Ext.trans (by exact ext_) hE1 : Ext w w1).at hm
      have lm1 := lt_of_heap hm1
      refine w_ fun d => ?_
      exact ⟨rfl, TbT.of_ext hm hI hk ext_⟩
    | none =>
      have g1 : (mget es n).isSome = false := by rw [hg]; rfl
      have g2 : (mget es n).getD (.agg #[.int .u64 0, .int .u64 0, .int .u64 0, .int .u64 0]) = .agg #[.int .u64 0, .int .u64 0, .int .u64 0, .int .u64 0] := by rw [hg]; rfl
      clear hg
      refine en3 Try.func101 Try.results101 mixed [(7, [7, 12]), (1007, [1, 2, 5, 10, 13, 1015]), (2007, [14])] ?_
      intro e0 h0 h1 h2
      refine w_ fun d => ?_
      refine qq n1 fun w1 hE1 hs1 => ?_
      have hm1 := (Ext.trans (by exact ext_) hE1 : Ext w w1).at hm
      have lm1 := lt_of_heap hm1
      refine w_ fun d => ?_
      refine at_w fun u hu => ?_
      have hE1u : Ext w1 u := by rw [hu]; exact ext_
      have hE01 : Ext w w1 := Ext.trans (by exact ext_) hE1
      have hEu : Ext w u := hE01.trans hE1u
      have h7 : u.heap[w1.heap.size]? = some (.cells #[.int .i64 v, .int .i64 lo, .int .i64 hi] 39) := by rw [hu]; exact hA rfl
      have h6 : u.heap[w.heap.size]? = some (.cells #[.int .u64 0, .int .u64 0, .int .u64 0, .int .u64 0] 54) := hE1u.at (hE1.at (hA rfl))
      have hmu := hE1u.at hm1
      have hSu := hS.ext hEu
      obtain ⟨b7, hb7⟩ : ∃ b, w1.heap.size = b := ⟨_, rfl⟩
      obtain ⟨b6, hb6⟩ : ∃ b, w.heap.size = b := ⟨_, rfl⟩
      rw [hb7] at h7 ⊢
      rw [hb6] at h6 ⊢
      have lmw : bm < b6 := by omega
      clear hu n1 hE1 hE1u hm1 lm1 hS hb7 hE01
      clear hs1
      have l6 := lt_of_heap h6
      have l7 := lt_of_heap h7
      refine s_rel (xyD (fun _ v' u' => ∃ b, v' = .pointer (some ⟨b, 0, none⟩) ∧ u.heap.size ≤ b ∧ u'.heap[b]? = some (.cells #[.int .u64 0, .int .u64 0, .int .u64 0, .int .u64 0] 54)) (fun _ v' u1 u2 ⟨b, e, hb, hc⟩ hE => ⟨b, e, hb, hE.at hc⟩)
        (fun u' => u.heap.size ≤ u'.heap.size ∧ u'.heap[b7]? = some (.cells #[.int .i64 v, .int .i64 lo, .int .i64 hi] 39)) (fun u' hE => ⟨hE.size, hE.at h7⟩) ?_)
      refine d0_ ?_
      refine xr4D (v := .int .i64 v) (fun u' ⟨_, hu'⟩ => by exact rgA) ?_
      refine xr4S c2 ?_
      refine d0_ ?_
      refine xr4D (v := .int .i64 hi) (fun u' ⟨_, hu'⟩ => by exact rgA) ?_
      refine d0_ ?_
      refine xr2F fun u1 hE1 => ?_
      have hm1 := hE1.at hmu
      have h71 := hE1.at h7
      have h61 := hE1.at h6
      refine krA ?_
      refine ke ?_
      refine (ih1 u1 es ck (hSu.ext hE1) hm1 hI hk).mono ?_
      rintro _ u2 ⟨rfl, es2, ck2, hm2, hI2, hk2, hC2⟩
      have h72 := (hC2.heap b7 (lt_of_heap h71) (fun e => by subst e; rw [hm1] at h71; cases h71)).trans h71
      have h62 := (hC2.heap b6 (lt_of_heap h61) (fun e => by subst e; rw [hm1] at h61; cases h61)).trans h61
      have hs2 : u.heap.size ≤ u2.heap.size := Nat.le_trans hE1.size hC2.size
      have hS2 : StI own u2 p s [] := (hSu.ext hE1).chg0 hC2 fun k hk => hk ▸ ho
      refine ⟨fun _ v' ⟨b, e, hb, hc⟩ => ⟨b, e, hb, (hC2.heap b (lt_of_heap hc) (fun e => by subst e; rw [hm1] at hc; cases hc)).trans hc⟩, fun u' hE' => ⟨Nat.le_trans hs2 hE'.size, hE'.at h72⟩, ?_⟩
      refine d0_ ?_
      refine xr4D (v := .int .i64 lo) (fun u' ⟨_, hu'⟩ => by exact rgA) ?_
      refine d0_ ?_
      refine xr2F fun u3 hE3 => ?_
      have hm3 := hE3.at hm2
      have h73 := hE3.at h72
      have h63 := hE3.at h62
      refine krA ?_
      refine ke ?_
      refine (ih0 u3 es2 ck2 (hS2.ext hE3) hm3 hI2 hk2).mono ?_
      rintro _ u4 ⟨rfl, es4, ck4, hm4, hI4, hk4, hC4⟩
      have h74 := (hC4.heap b7 (lt_of_heap h73) (fun e => by subst e; rw [hm3] at h73; cases h73)).trans h73
      have h64 := (hC4.heap b6 (lt_of_heap h63) (fun e => by subst e; rw [hm3] at h63; cases h63)).trans h63
      have hs4 : u.heap.size ≤ u4.heap.size := Nat.le_trans hs2 (Nat.le_trans hE3.size hC4.size)
      refine ⟨fun _ v' ⟨b, e, hb, hc⟩ => ⟨b, e, hb, (hC4.heap b (lt_of_heap hc) (fun e => by subst e; rw [hm3] at hc; cases hc)).trans hc⟩, fun u' hE' => ⟨Nat.le_trans hs4 hE'.size, hE'.at h74⟩, ?_⟩
      have hC04 : Chg (fun k => k = bm) u u4 := (((hE1.chg _).trans hC2 fun _ _ h => h).transE hE3).trans hC4 fun _ _ h => h
      refine xr4S c3 ?_
      refine xr5a (fun u' ⟨hsz, _⟩ => ⟨_, _, rG_alloc T54, (Ext.refl u').alloc _, u'.heap.size, rfl, hsz, alloc_new⟩) fun v' ⟨u5, hu5, b, hvb, hb, _⟩ => ?_
      subst hvb
      refine xr3 fun u6 hC6 => ?_
      obtain ⟨hE6, b', he, _, hb6'⟩ := hC6
      cases he
      have lb6 := lt_of_heap hb6'
      refine krA ?_
      refine ks ?_
      refine xr_nil fun u7 hE7 => ?_
      obtain ⟨ob, hob⟩ : ∃ o, u7.heap[b]? = some o := ⟨_, hE7.at (upd_same lb6)⟩
      have hob' := hob
      rw [hE7.heap b (by rw [upd_size]; exact lb6), upd_same lb6] at hob'
      cases hob'
      have hm6 := hE6.at hm4
      have h66 := hE6.at h64
      have hne : b ≠ bm := fun e => by subst e; rw [hm6] at hb6'; cases hb6'
      have hne6 : b ≠ b6 := by omega
      have hm7 := hE7.at ((upd_other hne (o := _)).trans hm6)
      have h67 := hE7.at ((upd_other hne6 (o := _)).trans h66)
      have hlm7 := lt_of_heap hm7
      have hl67 := lt_of_heap h67
      have hlb7 := lt_of_heap hob
      have hC07 : Chg (fun k => k = bm) u u7 := ((hC04.transE hE6).upd (fun h => absurd h (by omega)) _).transE hE7
      have hC7 : Chg (fun k => k = bm) w u7 := (hEu.chg _).trans hC07 fun _ _ h => h
      have hwb6 : w.heap.size ≤ b6 := by omega
      have hnb : b6 ≠ bm := by omega
      have hI7 := hI4.put n (fv F)
      have hk7 := hk4.put hI4 dn
      clear hm6 h66 hC07 hC04 hE7 hE6 hb6' lb6 hu5 hm1 h71 h61 hE1 hC2 hE3 hC4 hm2 h72 h62 hm3 h73 h63 hm4 h74 h64 hS2 hSu hmu h7 h6 hEu ih0 ih1 hs2 hs4
      refine w_ fun d => ?_
      exact ⟨rfl, _, _, (upd_other hnb).trans (upd_same hlm7), hI7, hk7, (hC7.upd (fun _ => rfl) _).upd (fun h => absurd h (by omega)) _⟩
theorem rdTop_calls (G : s.Good []) (hS : StI own w p s []) (dn : Den s n f) : Quiet Try.prog 38 #[.pointer (some ⟨p, 0, none⟩), .int .i64 n] w (fv f) := by
  intro u hu
  have hSu := hS.ext hu
  have own0 : ∀ k, u.heap.size ≤ k → own k = 0 := fun k hk => by
    cases ho : own k with
    | zero => rfl
    | succ q => have := hSu.lt k (by omega); omega
  clear hS hu
  refine en2 Try.func38 Try.results38 mixed [] ?_
  intro e0 h0 h1
  refine w_ fun d => ?_
  refine (rdTable_calls (bm := u.heap.size + 1) G (own0 _ (by omega)) dn _ [] 0 (hSu.ext ext_) (hA rfl) MInv.nil (fun e he => by cases he)).mono ?_
  rintro _ u2 ⟨rfl, es, ck, hm, _, _, hC⟩
  have h2 := hC.heap u.heap.size (by simp only [alloc_size]; omega) (fun e => by omega)
  have h3 : u2.heap[u.heap.size]? = some (.cells #[.int .u64 0, .int .u64 0, .int .u64 0, .int .u64 0] 54) := h2.trans (hA rfl)
  have hl3 := lt_of_heap h3
  have hE : Ext u u2 := extc_ hC
  clear h2 hC hm
  refine w_ fun d => ?_
  exact ⟨rfl, ext_⟩
end
end Go.Proofs.Ytpeindhocndmnaa

namespace Go.Bx
open Go
set_option linter.unusedSimpArgs false
set_option linter.unusedVariables false
section
variable {ord : List Int} {l k ns ms : List Fun8} {f g : Fun8} {v : Int} {b : Bool}
theorem nodes_of : ∀ (n : Nat) {keys work : List Fun8}, wts work = n → Dfs ord l keys work → ∃ ns, IsNodes ord l ns ∧ ns.length ≤ keys.length + n := by
  intro n
  induction n using Nat.strongRecOn with
  | _ n ih =>
    intro keys work hn h
    rcases List.eq_nil_or_concat work with rfl | ⟨ws, f, rfl⟩
    · exact ⟨_, h.done, by omega⟩
    · rw [List.concat_eq_append] at h hn
      have hm := Dfs.meas (ord := ord) (f := f) (ws := ws)
      by_cases hk : f ∈ keys ∨ supF f = 0
      · obtain ⟨ns, h1, h2⟩ := ih _ (by omega) rfl (h.skip hk)
        exact ⟨ns, h1, by omega⟩
      · obtain ⟨ns, h1, h2⟩ := ih _ (by omega) rfl (h.go (fun h => hk (.inl h)) (fun h => hk (.inr h)))
        rw [List.length_append, List.length_singleton] at h2
        exact ⟨ns, h1, by omega⟩
theorem nodes_ex (ord : List Int) (l : List Fun8) : ∃ ns, IsNodes ord l ns := by
  obtain ⟨ns, h, _⟩ := nodes_of (ord := ord) (l := l) _ rfl Dfs.init
  exact ⟨ns, h⟩
theorem Rch.mono (h : Rch ord l f) (hl : ∀ g ∈ l, Rch ord k g) : Rch ord k f := by
  induction h with
  | base h => exact hl _ h
  | step _ h ih => exact .step ih h
theorem Rch.sub (h : Rch ord l f) (hl : ∀ g ∈ l, g ∈ k) : Rch ord k f := h.mono fun g hg => .base (hl g hg)
theorem rch_app : Rch ord (l ++ k) f ↔ Rch ord l f ∨ Rch ord k f := by
  constructor
  · intro h
    induction h with
    | base h => exact (List.mem_append.1 h).imp .base .base
    | step _ h ih => exact ih.imp (fun i => .step i h) (fun i => .step i h)
  · rintro (h | h)
    · exact h.sub fun g hg => by simp [hg]
    · exact h.sub fun g hg => by simp [hg]
theorem size_le (h : ∀ f, Rch ord l f → Rch ord k f) : sizeF ord l ≤ sizeF ord k := by
  obtain ⟨ns, hn⟩ := nodes_ex ord l
  obtain ⟨ms, hm⟩ := nodes_ex ord k
  rw [← hn.size, ← hm.size]
  exact sub_len hn.nodup fun f hf => (hm.mem f).2 ⟨h f ((hn.mem f).1 hf).1, ((hn.mem f).1 hf).2⟩
theorem size_app : sizeF ord (l ++ k) ≤ sizeF ord l + sizeF ord k := by
  obtain ⟨ns, hn⟩ := nodes_ex ord l
  obtain ⟨ms, hm⟩ := nodes_ex ord k
  obtain ⟨os, ho⟩ := nodes_ex ord (l ++ k)
  rw [← hn.size, ← hm.size, ← ho.size, ← List.length_append]
  refine sub_len ho.nodup fun f hf => ?_
  obtain ⟨h1, h2⟩ := (ho.mem f).1 hf
  rw [List.mem_append]
  exact (rch_app.1 h1).imp (fun h => (hn.mem f).2 ⟨h, h2⟩) (fun h => (hm.mem f).2 ⟨h, h2⟩)
theorem dep_set {n : Nat} (hn : n < 8) (h : depF f n = false) {x : Nat} (hx : x < 256) : f.getLsbD x = f.getLsbD (setB x n b) := by
  have he : cofF f n false = cofF f n true := by rw [depF_def] at h; simpa using h
  have e0 := cofF_bit (f := f) (b := false) hn hx
  have e1 := cofF_bit (f := f) (b := true) hn hx
  rw [he, e1] at e0
  have hs := setB_self_all n hn x hx
  cases ht : x.testBit n <;> rw [ht] at hs <;> cases b
  · rw [hs]
  · rw [e0, hs]
  · rw [← e0, hs]
  · rw [hs]
theorem cof_same (h : depF f v = false) : cofF f v b = f := by
  by_cases hv : 0 ≤ v ∧ v < 8
  · obtain ⟨n, rfl, hn⟩ := nat8 hv
    exact cof_ext fun x hx => by rw [cofF_bit hn hx, ← dep_set hn h hx]
  · exact cofF_out hv
theorem cof_constS {c : Bool} : cofF (constF b) v c = constF b := by
  by_cases hv : 0 ≤ v ∧ v < 8
  · obtain ⟨n, rfl, hn⟩ := nat8 hv
    exact cof_ext fun x hx => by rw [cofF_bit hn hx, bt_const hx, bt_const (setB_lt hx hn)]
  · exact cofF_out hv
theorem sup_constF : supF (constF b) = 0 := supF_zero.2 fun v => by rw [depF_def, cof_constS, cof_constS]; simp
end
end Go.Bx

namespace Go.Bx
open Go
set_option linter.unusedSimpArgs false
set_option linter.unusedVariables false
structure AllOnce (ord : List Int) : Prop where
  len : ord.length = 8
  all : ∀ v : Nat, v < 8 → ∃ j, j < 8 ∧ ord[j]? = some (v : Int)
  rng : ∀ j : Nat, j < 8 → ∃ v : Nat, v < 8 ∧ ord[j]? = some (v : Int)
  once : ∀ (i j : Nat) (v : Int), ord[i]? = some v → ord[j]? = some v → i = j
section
variable {ord : List Int} {f g : Fun8} {v : Int} {b : Bool} {i j : Nat}
def ov (ord : List Int) (j : Nat) : Int := ord.getD j 0
def lev (ord : List Int) (f : Fun8) : Nat → List Fun8
  | 0 => [f]
  | j + 1 => (lev ord f j).flatMap fun g => [cofF g (ov ord j) false, cofF g (ov ord j) true]
theorem lev_len : ∀ j, (lev ord f j).length = 2 ^ j
  | 0 => rfl
  | j + 1 => by
    have key : ∀ l : List Fun8, (l.flatMap fun g => [cofF g (ov ord j) false, cofF g (ov ord j) true]).length = l.length * 2 := fun l => by
      induction l with
      | nil => rfl
      | cons a l ih => rw [List.flatMap_cons, List.length_append, ih]; simp; omega
    rw [lev, key, lev_len j, Nat.pow_succ]
theorem lev_dep : ∀ {j : Nat} {g : Fun8}, g ∈ lev ord f j → ∀ i, i < j → depF g (ov ord i) = false
  | 0, _, _, i, hi => by omega
  | j + 1, g, hg, i, hi => by
    rw [lev, List.mem_flatMap] at hg
    obtain ⟨h, hh, hg⟩ := hg
    simp only [List.mem_cons, List.not_mem_nil, or_false] at hg
    by_cases e : i = j
    · subst e
      rcases hg with rfl | rfl <;> exact dep_cof
    · have := lev_dep hh i (by omega)
      rcases hg with rfl | rfl
      · cases hd : depF (cofF h (ov ord j) false) (ov ord i)
        · rfl
        · rw [dep_of_cof hd] at this; cases this
      · cases hd : depF (cofF h (ov ord j) true) (ov ord i)
        · rfl
        · rw [dep_of_cof hd] at this; cases this
theorem lev_stay (h : g ∈ lev ord f j) (hd : depF g (ov ord j) = false) : g ∈ lev ord f (j + 1) := by
  rw [lev, List.mem_flatMap]
  exact ⟨g, h, by rw [cof_same hd]; simp⟩
theorem lev_up (h : g ∈ lev ord f j) : ∀ k, (∀ i, j ≤ i → i < j + k → depF g (ov ord i) = false) → g ∈ lev ord f (j + k)
  | 0, _ => h
  | k + 1, hd => lev_stay (lev_up h k fun i h1 h2 => hd i h1 (by omega)) (hd (j + k) (by omega) (by omega))
theorem find_first {p : Int → Bool} : ∀ {l : List Int} {x : Int}, l.find? p = some x → ∃ i : Nat, l[i]? = some x ∧ ∀ (k : Nat) (y : Int), k < i → l[k]? = some y → p y = false
  | [], _, h => by cases h
  | a :: l, x, h => by
    cases ha : p a
    · rw [List.find?_cons_of_neg (by simp [ha])] at h
      obtain ⟨i, h1, h2⟩ := find_first h
      refine ⟨i + 1, by simpa using h1, fun k y hk hy => ?_⟩
      cases k with
      | zero => simp at hy; subst hy; exact ha
      | succ k => exact h2 k y (by omega) (by simpa using hy)
    · rw [List.find?_cons_of_pos ha] at h
      cases h
      exact ⟨0, rfl, fun k y hk => by omega⟩
theorem top_at (h : 0 ≤ topF ord f) : ∃ i, ord[i]? = some (topF ord f) ∧ ∀ k, k < i → depF f (ov ord k) = false := by
  unfold topF at h ⊢
  cases hf : ord.find? (depF f) with
  | none => rw [hf] at h; simp at h
  | some x =>
    obtain ⟨i, h1, h2⟩ := find_first hf
    refine ⟨i, h1, fun k hk => ?_⟩
    have hi := (List.getElem?_eq_some_iff.1 h1).1
    have hkl : k < ord.length := by omega
    refine h2 k _ hk ?_
    rw [ov, List.getD_eq_getElem?_getD, List.getElem?_eq_getElem hkl]; rfl
theorem rch_lev (ho : ord.length = 8) (h : Rch ord [f] g) : ∃ j, j ≤ 8 ∧ g ∈ lev ord f j := by
  induction h with
  | base h => rw [List.mem_singleton] at h; subst h; exact ⟨0, by omega, by simp [lev]⟩
  | @step g g' _ hk ih =>
    obtain ⟨j, hj, hg⟩ := ih
    unfold kids at hk
    split at hk
    · rename_i ht
      obtain ⟨i, hi, hd⟩ := top_at ht
      have hil := (List.getElem?_eq_some_iff.1 hi).1
      have hov : ov ord i = topF ord g := by rw [ov, List.getD_eq_getElem?_getD, hi]; rfl
      have hji : j ≤ i := by
        refine Nat.le_of_not_lt fun hl => ?_
        have := lev_dep hg i hl
        rw [hov, topF_dep ht] at this; cases this
      have hgi : g ∈ lev ord f i := by
        have := lev_up hg (i - j) fun k h1 h2 => hd k (by omega)
        rwa [show j + (i - j) = i by omega] at this
      refine ⟨i + 1, by omega, ?_⟩
      rw [lev, List.mem_flatMap]
      exact ⟨g, hgi, by rw [hov]; exact hk⟩
    · cases hk
def rep (p q : Nat) (a b : Bool) : Nat := (if a then 2 ^ p else 0) + (if b then 2 ^ q else 0)
theorem rep_all : ∀ p : Nat, p < 8 → ∀ q : Nat, q < 8 → p ≠ q → ∀ a b : Bool, rep p q a b < 256 ∧ (rep p q a b).testBit p = a ∧ (rep p q a b).testBit q = b := by decide +kernel
def tblF (p q : Nat) (n : Nat) : Fun8 := ofRows fun x => n.testBit ((x.testBit p).toNat + 2 * (x.testBit q).toNat)
theorem bits_ext {x y : Nat} (hx : x < 256) (hy : y < 256) (h : ∀ v, v < 8 → x.testBit v = y.testBit v) : x = y := by
  refine Nat.eq_of_testBit_eq fun i => ?_
  by_cases hi : i < 8
  · exact h i hi
  · have hp : 256 ≤ 2 ^ i := by
      have : 2 ^ 8 ≤ 2 ^ i := Nat.pow_le_pow_right (by decide) (by omega)
      exact this
    rw [Nat.testBit_lt_two_pow (by omega), Nat.testBit_lt_two_pow (by omega)]
theorem dep_agree {x y : Nat} (hx : x < 256) (hy : y < 256) (h : ∀ v : Nat, v < 8 → depF f v = true → x.testBit v = y.testBit v) : f.getLsbD x = f.getLsbD y := by
  have key : ∀ k : Nat, k ≤ 8 → ∃ z, z < 256 ∧ f.getLsbD z = f.getLsbD x ∧ (∀ v, v < k → z.testBit v = y.testBit v) ∧ ∀ v, k ≤ v → v < 8 → z.testBit v = x.testBit v := by
    intro k
    induction k with
    | zero => intro _; exact ⟨x, hx, rfl, fun v hv => by omega, fun v _ _ => rfl⟩
    | succ k ih =>
      intro hk
      obtain ⟨z, hz, h1, h2, h3⟩ := ih (by omega)
      cases hd : depF f k
      · refine ⟨setB z k (y.testBit k), setB_lt hz (by omega), by rw [← dep_set (by omega) hd hz, h1], fun v hv => ?_, fun v hv hv8 => ?_⟩
        · by_cases e : v = k
          · subst e; exact setB_bit_all v (by omega) z hz _
          · rw [setB_other_all k (by omega) v (by omega) (Ne.symm e) z hz]; exact h2 v (by omega)
        · rw [setB_other_all k (by omega) v hv8 (by omega) z hz]; exact h3 v (by omega) hv8
      · refine ⟨z, hz, h1, fun v hv => ?_, fun v hv hv8 => h3 v (by omega) hv8⟩
        by_cases e : v = k
        · subst e; rw [h3 v (Nat.le_refl _) (by omega)]; exact h v (by omega) hd
        · exact h2 v (by omega)
  obtain ⟨z, hz, h1, h2, _⟩ := key 8 (by omega)
  rw [← h1, bits_ext hz hy h2]
theorem tbl_bits : ∀ c0 c1 c2 c3 : Bool, ∀ a b : Bool, (c0.toNat + 2 * c1.toNat + 4 * c2.toNat + 8 * c3.toNat).testBit (a.toNat + 2 * b.toNat) = (if a then (if b then c3 else c1) else (if b then c2 else c0)) := by decide
theorem two_var {p q : Nat} (hp : p < 8) (hq : q < 8) (hne : p ≠ q) (h : ∀ v : Nat, v < 8 → v ≠ p → v ≠ q → depF f v = false) (hs : supF f ≠ 0) : ∃ n, 1 ≤ n ∧ n ≤ 14 ∧ f = tblF p q n := by
  have hr := rep_all p hp q hq hne
  have hbit : ∀ x, x < 256 → f.getLsbD x = f.getLsbD (rep p q (x.testBit p) (x.testBit q)) := fun x hx => by
    have := hr (x.testBit p) (x.testBit q)
    refine dep_agree hx this.1 fun v hv hd => ?_
    by_cases e1 : v = p
    · subst e1; exact this.2.1.symm
    · by_cases e2 : v = q
      · subst e2; exact this.2.2.symm
      · rw [h v hv e1 e2] at hd; cases hd
  generalize hc0 : f.getLsbD (rep p q false false) = c0
  generalize hc1 : f.getLsbD (rep p q true false) = c1
  generalize hc2 : f.getLsbD (rep p q false true) = c2
  generalize hc3 : f.getLsbD (rep p q true true) = c3
  have he : f = tblF p q (c0.toNat + 2 * c1.toNat + 4 * c2.toNat + 8 * c3.toNat) := by
    refine cof_ext fun x hx => ?_
    rw [tblF, bt_rows hx, tbl_bits, hbit x hx]
    cases x.testBit p <;> cases x.testBit q <;> simp [hc0, hc1, hc2, hc3]
  refine ⟨_, ?_, ?_, he⟩
  · refine Nat.pos_of_ne_zero fun h0 => hs ?_
    rw [h0] at he
    have : f = constF false := by rw [he]; refine cof_ext fun x hx => ?_; rw [tblF, bt_rows hx, bt_const hx]; simp
    rw [this]; exact sup_constF
  · refine Nat.le_of_not_lt fun h0 => hs ?_
    have h15 : c0.toNat + 2 * c1.toNat + 4 * c2.toNat + 8 * c3.toNat = 15 := by
      exact (by decide : ∀ c0 c1 c2 c3 : Bool, 14 < c0.toNat + 2 * c1.toNat + 4 * c2.toNat + 8 * c3.toNat → c0.toNat + 2 * c1.toNat + 4 * c2.toNat + 8 * c3.toNat = 15) c0 c1 c2 c3 h0
    rw [h15] at he
    have : f = constF true := by
      rw [he]; refine cof_ext fun x hx => ?_; rw [tblF, bt_rows hx, bt_const hx]
      cases x.testBit p <;> cases x.testBit q <;> decide
    rw [this]; exact sup_constF
theorem size_77 (ho : AllOnce ord) : sizeF ord [f] ≤ 77 := by
  obtain ⟨ns, hn⟩ := nodes_ex ord [f]
  obtain ⟨p, hp, hp'⟩ := ho.rng 6 (by decide)
  obtain ⟨q, hq, hq'⟩ := ho.rng 7 (by decide)
  have hne : p ≠ q := fun e => by
    subst e
    exact absurd (ho.once 6 7 _ hp' hq') (by decide)
  rw [← hn.size]
  have hlen : (lev ord f 0 ++ (lev ord f 1 ++ (lev ord f 2 ++ (lev ord f 3 ++ (lev ord f 4 ++ (lev ord f 5 ++ (List.range 14).map fun n => tblF p q (n + 1))))))).length = 77 := by
    simp only [List.length_append, lev_len, List.length_map, List.length_range]
  rw [← hlen]
  refine sub_len hn.nodup fun g hg => ?_
  obtain ⟨h1, h2⟩ := (hn.mem g).1 hg
  obtain ⟨j, hj, hl⟩ := rch_lev ho.len h1
  simp only [List.mem_append]
  by_cases h6 : j ≤ 5
  · rcases (by omega : j = 0 ∨ j = 1 ∨ j = 2 ∨ j = 3 ∨ j = 4 ∨ j = 5) with rfl | rfl | rfl | rfl | rfl | rfl
    · exact .inl hl
    · exact .inr (.inl hl)
    · exact .inr (.inr (.inl hl))
    · exact .inr (.inr (.inr (.inl hl)))
    · exact .inr (.inr (.inr (.inr (.inl hl))))
    · exact .inr (.inr (.inr (.inr (.inr (.inl hl)))))
  · have hd := lev_dep hl
    obtain ⟨n, n1, n2, hgn⟩ := two_var hp hq hne (f := g) (fun v hv e1 e2 => by
      obtain ⟨i, hi, hiv⟩ := ho.all v hv
      have hov : ov ord i = v := by rw [ov, List.getD_eq_getElem?_getD, hiv]; rfl
      have : i < 6 := by
        rcases (by omega : i < 6 ∨ i = 6 ∨ i = 7) with h | rfl | rfl
        · exact h
        · rw [hp'] at hiv; injection hiv with h; omega
        · rw [hq'] at hiv; injection hiv with h; omega
      rw [← hov]; exact hd i (by omega)) h2
    refine .inr (.inr (.inr (.inr (.inr (.inr ?_)))))
    exact List.mem_map.2 ⟨n - 1, List.mem_range.2 (by omega), by rw [hgn]; congr 1; omega⟩
def mayF (ord : List Int) : Bool := (List.range 8).all fun v => ord.count (v : Int) == 1
end
end Go.Bx

namespace Go.Bx
open Go
set_option linter.unusedSimpArgs false
set_option linter.unusedVariables false
section
variable {s s' : Md} {n m v lo hi : Int} {f g h : Fun8} {L K : List Fun8}
theorem OrdOK.once {ord : List Int} (O : OrdOK ord) : AllOnce ord := by
  refine ⟨O.len, fun v hv => ?_, fun j hj => ?_, O.one⟩
  · obtain ⟨k, hk, he⟩ := O.all v (by omega) (by omega)
    exact ⟨k, hk, he⟩
  · have hl := O.len
    obtain ⟨x, hx⟩ : ∃ x, ord[j]? = some x := ⟨ord[j], List.getElem?_eq_getElem (by omega)⟩
    have h := O.rng j x hx
    exact ⟨x.toNat, by omega, by rw [hx]; congr 1; omega⟩
open Classical in
noncomputable def Md.tab (s : Md) (n : Int) : Fun8 := if h : ∃ f, Den s n f then Classical.choose h else constF false
theorem Md.tab_den (d : Den s n f) : s.tab n = f := by
  have h : ∃ f, Den s n f := ⟨f, d⟩
  unfold Md.tab
  rw [dif_pos h]
  exact (Classical.choose_spec h).fn d
def Md.Full (s : Md) (L : List Fun8) : Prop := ∀ n f, s.has n = true → Den s n f → Rch s.ord L f
theorem Md.Full.sub (h : s.Full L) (hl : ∀ f ∈ L, f ∈ K) : s.Full K := fun n f hn d => (h n f hn d).sub hl
theorem node_sup (G : s.Good []) (hn : s.has n = true) (d : Den s n f) : supF f ≠ 0 := fun e => by
  have := G.top hn d
  rw [supF_zero.1 e] at this; cases this
theorem map_nodup {α β : Type} {q : α → β} : ∀ {l : List α}, l.Nodup → (∀ x ∈ l, ∀ y ∈ l, q x = q y → x = y) → (l.map q).Nodup
  | [], _, _ => List.nodup_nil
  | a :: l, hn, hi => by
    have hn' := List.nodup_cons.1 hn
    rw [List.map_cons, List.nodup_cons]
    refine ⟨fun hm => ?_, map_nodup hn'.2 fun x hx y hy => hi x (by simp [hx]) y (by simp [hy])⟩
    obtain ⟨y, hy, he⟩ := List.mem_map.1 hm
    have := hi y (by simp [hy]) a (by simp) he
    subst this; exact hn'.1 hy
theorem Md.Good.tabs (G : s.Good []) : (s.all.map s.tab).Nodup ∧ ∀ f, f ∈ s.all.map s.tab ↔ ∃ n, s.has n = true ∧ Den s n f := by
  have td : ∀ n, s.has n = true → Den s n (s.tab n) := fun n hn => by
    obtain ⟨f, d⟩ := G.has_den (.inr (.inr hn))
    rw [Md.tab_den d]; exact d
  refine ⟨map_nodup Md.nodup_all fun x hx y hy he => ?_, fun f => ?_⟩
  · have dx := td x (G.wf.mem_all.1 hx)
    have dy := td y (G.wf.mem_all.1 hy)
    rw [← he] at dy
    exact G.canon dx dy
  · rw [List.mem_map]
    constructor
    · rintro ⟨n, hn, rfl⟩
      exact ⟨n, G.wf.mem_all.1 hn, td n (G.wf.mem_all.1 hn)⟩
    · rintro ⟨n, hn, d⟩
      exact ⟨n, G.wf.mem_all.2 hn, Md.tab_den d⟩
theorem Md.Full.many (G : s.Good []) (hF : s.Full L) : s.a.many ≤ sizeF s.ord L := by
  obtain ⟨ns, hns⟩ := nodes_ex s.ord L
  have t := G.tabs
  have := sub_len t.1 (m := ns) fun f hf => by
    obtain ⟨n, hn, d⟩ := (t.2 f).1 hf
    exact (hns.mem f).2 ⟨hF n f hn d, node_sup G hn d⟩
  rw [List.length_map, hns.size] at this
  have := G.wf.len_all
  omega
theorem Md.Full.less (G : s.Good []) (hF : s.Full L) (hg : Rch s.ord L g) (hs : supF g ≠ 0) (hno : ∀ n, ¬ Den s n g) : s.a.many < sizeF s.ord L := by
  obtain ⟨ns, hns⟩ := nodes_ex s.ord L
  have t := G.tabs
  have := sub_len (l := g :: s.all.map s.tab) (List.nodup_cons.2 ⟨fun hm => by obtain ⟨n, _, d⟩ := (t.2 g).1 hm; exact hno n d, t.1⟩) (m := ns) fun f hf => by
    rcases List.mem_cons.1 hf with rfl | hf
    · exact (hns.mem f).2 ⟨hg, hs⟩
    · obtain ⟨n, hn, d⟩ := (t.2 f).1 hf
      exact (hns.mem f).2 ⟨hF n f hn d, node_sup G hn d⟩
  rw [List.length_cons, List.length_map, hns.size] at this
  have := G.wf.len_all
  omega
theorem kid_den (G : s.Good []) (d : Den s n f) (hk : g ∈ kids s.ord f) : ∃ m, Den s m g := by
  unfold kids at hk
  by_cases ht : 0 ≤ topF s.ord f
  · rw [if_pos ht] at hk
    have hd := topF_dep ht
    have ⟨hn, hl⟩ := G.dep d hd
    have hl2 := (top_first G.wf.ord (G.top hn d)).2
    have hv : (s.nd n).1 = topF s.ord f := G.wf.ord.inj (G.node n hn (by simp)).var (top_rng ht) (by omega)
    have ⟨d0, d1⟩ := G.sides d hn
    rw [hv] at d0 d1
    simp only [List.mem_cons, List.not_mem_nil, or_false] at hk
    rcases hk with rfl | rfl
    · exact ⟨_, d0⟩
    · exact ⟨_, d1⟩
  · rw [if_neg ht] at hk; cases hk
theorem rch_den (G : s.Good []) (hd : ∀ f ∈ L, ∃ n, Den s n f) (hr : Rch s.ord L g) : ∃ n, Den s n g := by
  induction hr with
  | base h => exact hd _ h
  | step _ hk ih => obtain ⟨n, d⟩ := ih; exact kid_den G d hk
theorem Md.Full.size (G : s.Good []) (hF : s.Full L) (hd : ∀ f ∈ L, ∃ n, Den s n f) : s.a.many = sizeF s.ord L := by
  obtain ⟨ns, hns⟩ := nodes_ex s.ord L
  have t := G.tabs
  have h1 := hF.many G
  have := sub_len hns.nodup (m := s.all.map s.tab) fun f hf => by
    obtain ⟨hr, hs⟩ := (hns.mem f).1 hf
    obtain ⟨n, d⟩ := rch_den G hd hr
    refine (t.2 f).2 ⟨n, ?_, d⟩
    rcases d.there with e | e | e
    · subst e; rw [d.zero] at hs; exact absurd sup_constF hs
    · subst e; rw [d.one] at hs; exact absurd sup_constF hs
    · exact e
  rw [List.length_map, hns.size] at this
  have := G.wf.len_all
  omega
theorem Md.Full.mk (G : s.Good []) (hF : s.Full L) (hv : 0 ≤ v ∧ v < 8) (h0 : s.below lo v = true) (h1 : s.below hi v = true) (d0 : Den s lo (cofF f v false)) (d1 : Den s hi (cofF f v true)) (hf : Rch s.ord L f) : (s.mk' [] v lo hi).2.Full L := by
  obtain ⟨G2, l2, _⟩ := G.mks v lo hi
  rcases G.mk_err hv h0 h1 with e | ⟨_, e, _⟩
  · obtain ⟨_, hh, hdn⟩ := G.made hv h0 h1 rfl e
    have dn := hdn _ _ d0 d1
    rw [ite_cof] at dn
    intro n f' hn d
    rw [l2.ord]
    rcases hh n hn with h | ⟨rfl, _⟩
    · obtain ⟨f2, d2⟩ := G.has_den (.inr (.inr h))
      rw [d.fn (d2.mono l2)]
      exact hF n f2 h d2
    · rw [d.fn dn]; exact hf
  · rw [e]; exact hF
theorem bld_flat (G : s.Good []) (ht : ¬ 0 ≤ topF s.ord f) : s.bld f = ((if f.getLsbD 0 then 1 else 0, 0), s) := by
  refine G.bld_ex ?_
  have hf := top_flat G.wf.ord (f := f) (by omega)
  have := den_const (s := s) (f.getLsbD 0)
  rwa [← hf] at this
theorem bld_full : ∀ (k : Nat) (s : Md) (f : Fun8), s.Good [] → nv f ≤ k → s.Full L → Rch s.ord L f → (s.bld f).2.Full L ∧ ((s.bld f).1.2 ≠ 0 → s.a.most < sizeF s.ord L) := by
  intro k
  induction k with
  | zero =>
    intro s f G hk hF hr
    have ht : ¬ 0 ≤ topF s.ord f := fun h => by have := nv_cof (b := false) (topF_dep h); omega
    rw [bld_flat G ht]
    exact ⟨hF, fun h => absurd rfl h⟩
  | succ k ih =>
    intro s f G hk hF hr
    by_cases ht : 0 ≤ topF s.ord f
    rotate_left
    · rw [bld_flat G ht]
      exact ⟨hF, fun h => absurd rfl h⟩
    have hd := topF_dep ht
    have hsp := bld_top G ht
    have hrt := top_rng ht
    have hbe := fun b u hu => cof_behind (f := f) (b := b) (u := u) G.wf.ord ht hu
    have n0 := nv_cof (b := false) hd
    have n1 := nv_cof (b := true) hd
    have r0 : Rch s.ord L (cofF f (topF s.ord f) false) := .step hr (by unfold kids; rw [if_pos ht]; simp)
    have r1 : Rch s.ord L (cofF f (topF s.ord f) true) := .step hr (by unfold kids; rw [if_pos ht]; simp)
    generalize topF s.ord f = v at hd hsp hrt hbe n0 n1 r0 r1
    obtain ⟨F0, E0⟩ := ih s (cofF f v false) G (by omega) hF r0
    rcases hsp with ⟨e0, eR⟩ | ⟨a, s0, e0, G0, L0, D0, hsp⟩
    · rw [eR]; exact ⟨F0, E0⟩
    rw [e0] at F0
    obtain ⟨F1, E1⟩ := ih s0 (cofF f v true) G0 (by omega) F0 (by rw [L0.ord]; exact r1)
    rw [L0.ord, L0.most] at E1
    rcases hsp with ⟨e1, eR⟩ | ⟨b, s1, e1, G1, L1, D1, eR⟩
    · rw [eR]; exact ⟨F1, E1⟩
    rw [e1] at F1
    dsimp only at F1
    have o1 : s1.ord = s.ord := (L0.trans L1).ord
    have b0 : s1.below a v = true := G1.belowF (D0.mono L1) fun u hu => by rw [o1]; exact hbe false u hu
    have b1 : s1.below b v = true := G1.belowF D1 fun u hu => by rw [o1]; exact hbe true u hu
    rw [eR]
    refine ⟨F1.mk G1 hrt b0 b1 (D0.mono L1) D1 (by rw [o1]; exact hr), fun he => ?_⟩
    rcases G1.mk_err hrt b0 b1 with e | ⟨_, _, hm⟩
    · exact absurd e he
    have hno : ∀ n, ¬ Den s1 n f := fun n d => by
      have ⟨hn, hl⟩ := G1.dep d hd
      have h2 : lvl s1.ord v ≤ lvl s1.ord (s1.nd n).1 := by
        have hdn := G1.top hn d
        by_cases e : (s1.nd n).1 = v
        · rw [e]; exact Int.le_refl _
        · rw [o1]
          by_cases hc : depF (cofF f v false) (s1.nd n).1 = true
          · have := hbe false _ hc; omega
          · by_cases hc1 : depF (cofF f v true) (s1.nd n).1 = true
            · have := hbe true _ hc1; omega
            · exfalso
              have hf : f = iteF (varF v) (cofF f v true) (cofF f v false) := ite_cof.symm
              rw [hf] at hdn
              rcases dep_node hdn with h | h | h
              · exact e h
              · exact hc1 h
              · exact hc h
      have hv : (s1.nd n).1 = v := G1.wf.ord.inj (G1.node n hn (by simp)).var hrt (by omega)
      have ⟨d0, d1⟩ := G1.sides d hn
      rw [hv] at d0 d1
      have h3 := G1.mk_ex hn
      rw [hv, G1.canon d0 (D0.mono L1), G1.canon d1 D1] at h3
      rw [h3] at he
      exact he rfl
    have := F1.less G1 (by rw [o1]; exact hr) (fun e => by rw [supF_zero.1 e] at hd; cases hd) hno
    rw [o1] at this
    rw [hm, (L0.trans L1).most] at this
    exact this
theorem Md.Good.bld_app (G : s.Good []) (hF : s.Full L) (f : Fun8) : (s.bld f).2.Full (L ++ [f]) := (bld_full (L := L ++ [f]) 8 s f G nv_le (hF.sub fun g hg => by simp [hg]) (.base (by simp))).1
theorem Md.Good.bld_ok (G : s.Good []) (hF : s.Full L) (f : Fun8) (hr : sizeF s.ord (L ++ [f]) ≤ s.a.most) : (s.bld f).1.2 = 0 := by
  by_cases h : (s.bld f).1.2 = 0
  · exact h
  · have := (bld_full (L := L ++ [f]) 8 s f G nv_le (hF.sub fun g hg => by simp [hg]) (.base (by simp))).2 h
    omega
theorem size_77s (ho : AllOnce s.ord) : ∀ L : List Fun8, sizeF s.ord L ≤ 77 * L.length
  | [] => by
    have h : IsNodes s.ord ([] : List Fun8) [] := ⟨List.nodup_nil, fun f => ⟨fun h => (by cases h), fun h => by
      exfalso
      obtain ⟨hr, hs⟩ := h
      clear hs
      induction hr with
      | base h => cases h
      | step _ _ ih => exact ih⟩⟩
    rw [← h.size]; simp
  | f :: L => by
    have h1 := size_77s ho L
    have h2 := size_77 (f := f) ho
    have h3 := size_app (ord := s.ord) (l := [f]) (k := L)
    rw [List.length_cons]
    have : [f] ++ L = f :: L := rfl
    rw [this] at h3
    omega
end
end Go.Bx

namespace Go.Bx
open Go
set_option linter.unusedSimpArgs false
set_option linter.unusedVariables false
def Md.there (s : Md) (n : Int) : Bool := decide (n = 0) || (decide (n = 1) || s.has n)
noncomputable def Md.ite (s : Md) (a b c : Int) : (Int × Int) × Md := if s.there a && (s.there b && s.there c) then s.bld (iteF (s.tab a) (s.tab b) (s.tab c)) else ((0, 1), s)
noncomputable def Md.xor (s : Md) (a b : Int) : (Int × Int) × Md := if s.there a && s.there b then (if (s.ite b 0 1).1.2 = 0 then (s.ite b 0 1).2.ite a (s.ite b 0 1).1.1 b else s.ite b 0 1) else ((0, 1), s)
section
variable {s s' : Md} {n m a b c : Int} {f g h : Fun8} {L : List Fun8}
theorem Den.isThere (d : Den s n f) : s.there n = true := by
  unfold Md.there
  rcases d.there with e | e | e
  · simp [e]
  · simp [e]
  · simp [e]
theorem Md.Good.there_den (G : s.Good []) (h : s.there n = true) : Den s n (s.tab n) := by
  obtain ⟨f, d⟩ := G.has_den (n := n) (by
    unfold Md.there at h
    simpa using h)
  rw [Md.tab_den d]; exact d
structure Itt (s : Md) (r : (Int × Int) × Md) : Prop where
  good : r.2.Good []
  le : s.Le r.2
  err : r.1.2 = 0 ∨ r.1.2 = 1 ∨ r.1.2 = 2
  zero : r.1.2 ≠ 0 → r.1.1 = 0
  there : r.1.2 = 0 → r.2.there r.1.1 = true
theorem Blt.itt {r : (Int × Int) × Md} (b : Blt s f r) : Itt s r := by
  refine ⟨b.good, b.le, ?_, fun h => ?_, fun h => ?_⟩
  · rcases b.res with ⟨e, _⟩ | ⟨e, _⟩
    · exact .inl e
    · rw [e]; simp
  · rcases b.res with ⟨e, _⟩ | ⟨e, _⟩
    · exact absurd e h
    · rw [e]
  · rcases b.res with ⟨_, d⟩ | ⟨e, _⟩
    · exact d.isThere
    · rw [e] at h; cases h
end
end Go.Bx

namespace Go.Bx
open Go
set_option linter.unusedSimpArgs false
set_option linter.unusedVariables false
section
variable {s s' : Md} {n m a b c v : Int} {f g h : Fun8} {L K : List Fun8} {ord : List Int}
structure Ro (s : Md) (L : List Fun8) (M : Int) : Prop where
  good : s.Good []
  full : s.Full L
  most : s.a.most = M
theorem Ro.bld {M : Int} (R : Ro s L M) (f : Fun8) (hm : sizeF s.ord (L ++ [f]) ≤ M) : ∃ n s', s.bld f = ((n, 0), s') ∧ Ro s' (L ++ [f]) M ∧ s.Le s' ∧ Den s' n f := by
  have bl := R.good.bld f
  have ok := R.good.bld_ok R.full f (by rw [R.most]; exact hm)
  have F := R.good.bld_app R.full f
  obtain ⟨⟨⟨n, e⟩, s'⟩, hR⟩ : ∃ R, s.bld f = R := ⟨_, rfl⟩
  rw [hR] at bl ok F
  dsimp only at ok F
  subst ok
  rcases bl.res with ⟨_, d⟩ | ⟨e, _⟩
  · exact ⟨n, s', hR, ⟨bl.good, F, bl.le.most.trans R.most⟩, bl.le, d⟩
  · cases e
theorem Ro.size {M : Int} (R : Ro s L M) (h : 77 * ((L.length : Int) + 1) ≤ M) : sizeF s.ord (L ++ [f]) ≤ M := by
  have := size_77s R.good.wf.ord.once (L ++ [f])
  rw [List.length_append, List.length_singleton] at this
  omega
theorem Ro.new {M : Int} (h0 : 0 ≤ M) (h1 : M ≤ 20000) : Ro (Md.new M) [] M := ⟨Md.Good.start h0 h1, fun n f hn => by
  have : (Md.new M).has n = false := by
    cases h : (Md.new M).has n with
    | false => rfl
    | true =>
      have := (Md.Good.start h0 h1).wf.lt h
      have e : (Md.new M).N.length = 0 := rfl
      omega
  rw [this] at hn
  exact absurd hn (by simp), rfl⟩
end
end Go.Bx

namespace Go.Proofs.Ytpeindhocndmnaa
open Go Go.Bx
set_option linter.unusedSimpArgs false
set_option linter.unusedVariables false
set_option maxRecDepth 100000
set_option maxHeartbeats 4000000
attribute [local irreducible] X XO XE XF XD XW thenX inX retX kN CallsR
section
variable {W w w' : World} {ps : Nat} {s s' : Md} {f : Fun8} {L : List Fun8} {M n : Int}
theorem oneNew (h0' : 0 ≤ M) (h1' : M ≤ 20000) (hE : Ext W w) : CallsR Try.prog 19 #[.int .i64 M] w fun r w' => ∃ p, r = .pointer (some ⟨p, 0, none⟩) ∧ OneI W w' p (Md.new M) := by
  refine (OneI.new h0' h1' w).mono ?_
  rintro r w' ⟨p, hr, o, h1, h2, h3⟩
  exact ⟨p, hr, o, h1, fun k hk => by have := h2 k hk; have := hE.size; omega, hE.trans h3⟩
structure OnR (W w : World) (ps : Nat) (s : Md) (own : Nat → Nat) : Prop where
  sti : StI own w ps s []
  low : ∀ k, own k ≠ 0 → W.heap.size ≤ k
  ext : Ext W w
theorem OneI.to (h : OneI W w ps s) : ∃ own, OnR W w ps s own := by obtain ⟨o, h1, h2, h3⟩ := h; exact ⟨o, h1, h2, h3⟩
theorem OnR.up {own : Nat → Nat} (h : OnR W w ps s own) (hE : Ext w w') : OnR W w' ps s own := ⟨h.sti.ext hE, h.low, h.ext.trans hE⟩
theorem OnR.fresh {own : Nat → Nat} (h : OnR W w ps s own) {k : Nat} (hk : w.heap.size ≤ k) : own k = 0 := by
  cases ho : own k with
  | zero => rfl
  | succ q => have := h.sti.lt k (by omega); omega
theorem OnR.chg {own : Nat → Nat} {F : Nat → Prop} (h : OnR W w ps s own) (hC : Chg F w w') (hF : ∀ k, F k → own k = 0 ∧ W.heap.size ≤ k) : OnR W w' ps s own :=
  ⟨h.sti.chg0 hC fun k hk => (hF k hk).1, h.low, hC.toExt h.ext fun k hk hf => by have := (hF k hf).2; omega⟩
theorem OnR.call {own : Nat → Nat} {fn : FuncId} {args : Array Value} {R : Value → Prop} (h : OnR W w ps s own) (hc : CallsR Try.prog fn args w fun r w' => R r ∧ TrI own w ps s' [] w') :
    CallsR Try.prog fn args w fun r w' => R r ∧ ∃ own', OnR W w' ps s' own' ∧ Sw own w own' w' := by
  refine hc.mono ?_
  rintro r w' ⟨hr, a', g1, ho, hC⟩
  have hsW := h.ext.size
  refine ⟨hr, a', ⟨g1, fun k hk => ?_, hC.toExt h.ext fun k hk hf => by have := h.low k hf; omega⟩, ⟨ho, hC⟩⟩
  by_cases hl : k < w.heap.size
  · exact h.low k (by rw [← ho k hl]; exact hk)
  · omega
theorem Sw.own0 {own own1 : Nat → Nat} {w1 : World} (h : Sw own w own1 w1) {k : Nat} (hk : k < w.heap.size) (h0 : own k = 0) : own1 k = 0 := (h.ho k hk).trans h0
theorem Sw.slc {own own1 : Nat → Nat} {w1 : World} {E : TypeId} {a : Option Addr} {cap : Nat} {l : List Value} (h : Sw own w own1 w1) (hS : SlC w E a cap l) (h0 : ∀ g, blk a = some g → own g = 0) : SlC w1 E a cap l := hS.keep fun g hg => (h.out (hS.lt hg) (h0 g hg)).2
theorem onBuild {own : Nat → Nat} (h : OnR W w ps s own) (R : Ro s L M) (f : Fun8) (hm : sizeF s.ord (L ++ [f]) ≤ M) : CallsR Try.prog 33 #[.pointer (some ⟨ps, 0, none⟩), fv f] w fun r w' => ∃ n s' own', r = .tuple #[.int .i64 n, .nilIface] ∧ OnR W w' ps s' own' ∧ Sw own w own' w' ∧ Ro s' (L ++ [f]) M ∧ s.Le s' ∧ Den s' n f := by
  obtain ⟨n, s', e, R', l, d⟩ := R.bld f hm
  have hb := rdBuildTop_calls h.sti R.good f
  rw [e, errV0] at hb
  refine (h.call (R := fun r => r = .tuple #[.int .i64 n, .nilIface]) hb).mono ?_
  rintro r w' ⟨hr, own', hC, hS⟩
  exact ⟨n, s', own', hr, hC, hS, R', l, d⟩
end
end Go.Proofs.Ytpeindhocndmnaa

namespace Go.Proofs.Ytpeindhocndmnaa
open Go Go.Bx
set_option linter.unusedSimpArgs false
set_option linter.unusedVariables false
set_option maxRecDepth 100000
set_option maxHeartbeats 4000000
attribute [local irreducible] X XO XE XF XD XW thenX inX retX kN CallsR
section
variable {w : World} {b ck : Nat} {es : List (Ent Int)} {v : Value} {n : Int}
theorem nod_has {s : Md} (hh : s.has n = true) : s.node n = (s.nd n, true) := by unfold Md.node; rw [hh]; rfl
theorem nod_no {s : Md} (hh : s.has n = false) : s.node n = ((0, 0, 0), false) := by unfold Md.node; rw [hh]; rfl
end
end Go.Proofs.Ytpeindhocndmnaa

namespace Go.Bx
open Go
set_option linter.unusedSimpArgs false
set_option linter.unusedVariables false
end Go.Bx

namespace Go.Proofs.Ytpeindhocndmnaa
open Go Go.Bx
set_option linter.unusedSimpArgs false
set_option linter.unusedVariables false
set_option maxRecDepth 100000
set_option maxHeartbeats 4000000
attribute [local irreducible] X XO XE XF XD XW thenX inX retX kN CallsR
def lays125_ren : Go.Shelf.Ren := ⟨fun | 125 => 153 | 128 => 172 | 129 => 173 | n => n, fun | 46 => 126 | 3 => 3 | 51 => 204 | 53 => 52 | 4 => 4 | 5 => 5 | 9 => 9 | n => n, fun | n => n⟩
structure Pm (w0 : World) (g cap : Nat) (l0 : List Int) (w : World) (l : List Int) : Prop where
  perm : l.Perm l0
  sl : SlC w 3 (some ⟨g, 0, none⟩) cap (ints l)
  ch : Chg (fun k => k = g) w0 w
section
variable {w w0 w1 w' : World} {g cap : Nat} {l0 l l1 : List Int} {cur : Array Value} {i j : Int}
def Pe (w0 : World) (g cap : Nat) (l0 : List Int) (w : World) : Prop := ∃ l, Pm w0 g cap l0 w l
end
end Go.Proofs.Ytpeindhocndmnaa

namespace Go.Proofs.Ytpeindhocndmnaa
open Go Go.Bx
set_option linter.unusedSimpArgs false
set_option linter.unusedVariables false
set_option maxRecDepth 100000
set_option maxHeartbeats 4000000
attribute [local irreducible] X XO XE XF XD XW thenX inX retX kN CallsR
theorem at_c {P : Program} {f : FuncId} {args : Array Value} {w : World} {K : Value → World → Prop} (h : ∀ u, u = w → CallsR P f args u K) : CallsR P f args w K := h w rfl
end Go.Proofs.Ytpeindhocndmnaa

namespace Go.Proofs.Ytpeindhocndmnaa
open Go Go.Bx
set_option linter.unusedSimpArgs false
set_option linter.unusedVariables false
set_option maxRecDepth 100000
set_option maxHeartbeats 4000000
attribute [local irreducible] X XO XE XF XD XW thenX inX retX kN CallsR
end Go.Proofs.Ytpeindhocndmnaa

namespace Go.Proofs.Ytpeindhocndmnaa
open Go Go.Bx
set_option linter.unusedSimpArgs false
set_option linter.unusedVariables false
set_option maxRecDepth 100000
set_option maxHeartbeats 4000000
attribute [local irreducible] X XO XE XF XD XW thenX inX retX kN CallsR
section
variable {w w0 : World} {g cap bs : Nat} {l : List Int} {a b c i n p x : Int}
def RdI (w : World) (g cap : Nat) (l : List Int) : Prop := SlC w 3 (some ⟨g, 0, none⟩) cap (ints l)
end
end Go.Proofs.Ytpeindhocndmnaa

namespace Go.Proofs.Ytpeindhocndmnaa
open Go Go.Bx
set_option linter.unusedSimpArgs false
set_option linter.unusedVariables false
set_option maxRecDepth 100000
set_option maxHeartbeats 4000000
attribute [local irreducible] X XO XE XF XD XW thenX inX retX kN CallsR
end Go.Proofs.Ytpeindhocndmnaa

namespace Go.Proofs.Ytpeindhocndmnaa
open Go Go.Bx
set_option linter.unusedSimpArgs false
set_option linter.unusedVariables false
set_option maxRecDepth 100000
set_option maxHeartbeats 4000000
attribute [local irreducible] X XO XE XF XD XW thenX inX retX kN CallsR
end Go.Proofs.Ytpeindhocndmnaa

namespace Go.Proofs.Ytpeindhocndmnaa
open Go Go.Bx
set_option linter.unusedSimpArgs false
set_option linter.unusedVariables false
set_option maxRecDepth 100000
set_option maxHeartbeats 4000000
attribute [local irreducible] X XO XE XF XD XW thenX inX retX kN CallsR
end Go.Proofs.Ytpeindhocndmnaa

namespace Go.Bx
open Go
set_option linter.unusedSimpArgs false
set_option linter.unusedVariables false
inductive Md.Rc (s : Md) (rs : List Int) : Int → Prop
  | root {n : Int} (h : n ∈ rs) (hn : s.has n = true) : Md.Rc s rs n
  | lo {n : Int} (h : Md.Rc s rs n) (hn : s.has (s.nd n).2.1 = true) : Md.Rc s rs (s.nd n).2.1
  | hi {n : Int} (h : Md.Rc s rs n) (hn : s.has (s.nd n).2.2 = true) : Md.Rc s rs (s.nd n).2.2
open Classical in
noncomputable def Md.keep (s : Md) (rs : List Int) (n : Int) : Bool := decide (s.Rc rs n)
noncomputable def Md.reach (s : Md) (rs : List Int) : List Int := s.all.filter (s.keep rs)
section
variable {s s' : Md} {n m c v : Int} {f g : Fun8} {rs l K w w' : List Int}
structure Rdf (s : Md) (rs K w : List Int) : Prop where
  nodup : K.Nodup
  rch : ∀ n ∈ K, s.Rc rs n
  wrk : ∀ n ∈ w, s.has n = true → s.Rc rs n
  root : ∀ n ∈ rs, s.has n = true → n ∈ K ∨ n ∈ w
  lo : ∀ n ∈ K, s.has (s.nd n).2.1 = true → (s.nd n).2.1 ∈ K ∨ (s.nd n).2.1 ∈ w
  hi : ∀ n ∈ K, s.has (s.nd n).2.2 = true → (s.nd n).2.2 ∈ K ∨ (s.nd n).2.2 ∈ w
def Md.drop1 (kp : Int → Bool) (v : Int) (s : Md) (n : Int) : Md := if s.of n v && !kp n then s.drop n else s
def Md.dropV (kp : Int → Bool) (v : Int) (l : List Int) (s : Md) : Md := l.foldl (Md.drop1 kp v) s
def Md.dropO (kp : Int → Bool) (l : List Int) (o : List Int) (s : Md) : Md := o.foldl (fun s v => s.dropV kp v l) s
noncomputable def Md.sweep (s : Md) (rs : List Int) : Md := s.dropO (s.keep rs) s.all s.ord
structure Swp (s0 : Md) (rs : List Int) (s : Md) : Prop where
  good : s.Good []
  ord : s.ord = s0.ord
  most : s.a.most = s0.a.most
  N : s.N = s0.N
  has : ∀ n, s.has n = true → s0.has n = true
  kept : ∀ n, s0.Rc rs n → s.has n = true
def Ahd (s0 : Md) (rs : List Int) (s : Md) (v : Int) : Prop := ∀ n, s.has n = true → lvl s0.ord (s.nd n).1 < lvl s0.ord v → s0.Rc rs n
structure Swept (s : Md) (rs : List Int) (s' : Md) : Prop where
  swp : Swp s rs s'
  only : ∀ n, s'.has n = true ↔ s.Rc rs n
end
end Go.Bx

namespace Go.Proofs.Ytpeindhocndmnaa
open Go Go.Bx
set_option linter.unusedSimpArgs false
set_option linter.unusedVariables false
set_option maxRecDepth 100000
set_option maxHeartbeats 4000000
attribute [local irreducible] X XO XE XF XD XW thenX inX retX kN CallsR
structure KnS (es : List (Ent Int)) (ck : Nat) (K : List Int) : Prop where
  inv : MInv es ck
  get : ∀ n, mget es n = if n ∈ K then some (.int .i64 1) else none
structure RchI (w0 w : World) (bm : Nat) (es : List (Ent Int)) (ck : Nat) (aw ao : Option Addr) (cw co : Nat) (wl K : List Int) : Prop where
  hm : w.heap[bm]? = some (mObj (Value.int .i64) es ck)
  kn : KnS es ck K
  sw : SlC w 3 aw cw (ints wl)
  so : SlC w 3 ao co (ints K)
  nw : ∀ g, blk aw = some g → w0.heap.size ≤ g
  no : ∀ g, blk ao = some g → w0.heap.size ≤ g
  nm : w0.heap.size ≤ bm
  dis : ∀ g, blk aw = some g → ¬ blk ao = some g
  ext : Ext w0 w
end Go.Proofs.Ytpeindhocndmnaa

namespace Go.Bx
open Go
set_option linter.unusedSimpArgs false
set_option linter.unusedVariables false
structure SwL (s : Md) (rs : List Int) (j : Nat) (s' : Md) : Prop where
  swp : Swp s rs s'
  low : ∀ n, s'.has n = true → lvl s.ord (s.nd n).1 < j → s.Rc rs n
noncomputable def Md.swJ (s : Md) (rs : List Int) (j : Nat) : Md := s.dropO (s.keep rs) s.all (s.ord.take j)
noncomputable def Md.swI (s : Md) (rs : List Int) (j : Nat) (v : Int) (i : Nat) : Md := (s.swJ rs j).dropV (s.keep rs) v (s.all.take i)
end Go.Bx

namespace Go.Proofs.Ytpeindhocndmnaa
open Go Go.Bx
set_option linter.unusedSimpArgs false
set_option linter.unusedVariables false
set_option maxRecDepth 100000
set_option maxHeartbeats 4000000
attribute [local irreducible] X XO XE XF XD XW thenX inX retX kN CallsR
end Go.Proofs.Ytpeindhocndmnaa

namespace Go.Bx
open Go
set_option linter.unusedSimpArgs false
set_option linter.unusedVariables false
end Go.Bx

namespace Go.Proofs.Ytpeindhocndmnaa
open Go Go.Bx
set_option linter.unusedSimpArgs false
set_option linter.unusedVariables false
set_option maxRecDepth 100000
set_option maxHeartbeats 4000000
attribute [local irreducible] X XO XE XF XD XW thenX inX retX kN CallsR
section
variable {W w w' w1 w2 : World} {ps : Nat} {own own' : Nat → Nat} {s s' : Md} {a b : Option Addr} {cap : Nat} {l rs : List Int} {x : Int}
structure LiI (W w : World) (own : Nat → Nat) (a : Option Addr) (cap : Nat) (l : List Int) : Prop where
  sl : SlC w 3 a cap (ints l)
  ow : ∀ g, blk a = some g → own g = 0 ∧ W.heap.size ≤ g
theorem LiI.nil (W w : World) (own : Nat → Nat) : LiI W w own none 0 [] := ⟨SlC.nil _ _, fun g h => by cases h⟩
theorem LiI.up (h : LiI W w own a cap l) (hE : Ext w w') : LiI W w' own a cap l := ⟨h.sl.ext hE, h.ow⟩
theorem LiI.sw (h : LiI W w own a cap l) (hS : Sw own w own' w') : LiI W w' own' a cap l := ⟨hS.slc h.sl fun g hg => (h.ow g hg).1, fun g hg => ⟨hS.own0 (h.sl.lt hg) (h.ow g hg).1, (h.ow g hg).2⟩⟩
theorem LiI.push (h : LiI W w own a cap l) (hO : OnR W w ps s own) (hm : l.length ≤ 1000000000) (x : Int) :
    ∃ a' cap' w', apR Try.prog 34 (.slice a l.length cap) (.slice (some ⟨w.heap.size, 0, none⟩) 1 1) (w.alloc (.cells #[.int .i64 x] 3)) = .ok (.slice a' (l.length + 1) cap') w' ∧
      LiI W w' own a' cap' (l ++ [x]) ∧ OnR W w' ps s own ∧ Chg (fun k => blk a = some k) w w' ∧ (∀ g, blk a' = some g → blk a = some g ∨ w.heap.size ≤ g) := by
  obtain ⟨a', c', w', hr, hS, hC, hs, hB⟩ := pushI h.sl hm x
  refine ⟨a', c', w', hr, ⟨hS, fun g hg => ?_⟩, hO.chg hC h.ow, hC, fun g hg => (hB g hg).imp id fun h => h.1⟩
  rcases hB g hg with hb | ⟨hb, _⟩
  · exact h.ow g hb
  · exact ⟨hO.fresh hb, Nat.le_trans hO.ext.size hb⟩
end
end Go.Proofs.Ytpeindhocndmnaa

namespace Go.Bx
open Go
set_option linter.unusedSimpArgs false
set_option linter.unusedVariables false
noncomputable def Md.bldAll : Md → List Fun8 → (List Int × Int) × Md
  | t, [] => (([], 0), t)
  | t, f :: r => if (t.bld f).1.2 = 0 then (((t.bld f).1.1 :: (Md.bldAll (t.bld f).2 r).1.1, (Md.bldAll (t.bld f).2 r).1.2), (Md.bldAll (t.bld f).2 r).2) else (([], (t.bld f).1.2), (t.bld f).2)
def BldA (t0 : Md) (fs : List Fun8) (i : Nat) (ns : List Int) (t : Md) : Prop := t0.bldAll fs = ((ns ++ (t.bldAll (fs.drop i)).1.1, (t.bldAll (fs.drop i)).1.2), (t.bldAll (fs.drop i)).2)
section
variable {t0 t s : Md} {fs L : List Fun8} {f : Fun8} {i : Nat} {ns : List Int} {M : Int}
theorem BldA.start : BldA t0 fs 0 [] t0 := rfl
theorem BldA.next (h : BldA t0 fs i ns t) (hf : fs[i]? = some f) (he : (t.bld f).1.2 = 0) : BldA t0 fs (i + 1) (ns ++ [(t.bld f).1.1]) (t.bld f).2 := by
  have hl := (List.getElem?_eq_some_iff.1 hf).1
  have e : fs.drop i = f :: fs.drop (i + 1) := by
    rw [List.drop_eq_getElem_cons hl, (List.getElem?_eq_some_iff.1 hf).2]
  unfold BldA at h ⊢
  rw [h, e]
  simp only [Md.bldAll, if_pos he, List.append_assoc, List.cons_append, List.nil_append]
theorem BldA.bad (h : BldA t0 fs i ns t) (hf : fs[i]? = some f) (he : (t.bld f).1.2 ≠ 0) : (t0.bldAll fs).1.2 = (t.bld f).1.2 := by
  have hl := (List.getElem?_eq_some_iff.1 hf).1
  have e : fs.drop i = f :: fs.drop (i + 1) := by
    rw [List.drop_eq_getElem_cons hl, (List.getElem?_eq_some_iff.1 hf).2]
  unfold BldA at h
  rw [h, e]
  simp only [Md.bldAll, if_neg he]
theorem BldA.done (h : BldA t0 fs fs.length ns t) : t0.bldAll fs = ((ns, 0), t) := by
  unfold BldA at h
  rw [h, List.drop_length]
  simp only [Md.bldAll, List.append_nil]
theorem Md.Good.bldAll : ∀ (fs : List Fun8) {t : Md}, t.Good [] → (t.bldAll fs).2.Good [] ∧ t.Le (t.bldAll fs).2 ∧ 0 ≤ (t.bldAll fs).1.2 ∧ (t.bldAll fs).1.2 ≤ 8
  | [], t, G => ⟨G, Md.Le.refl t, Int.le_refl _, by show (0 : Int) ≤ 8; decide⟩
  | f :: r, t, G => by
    have bl := G.bld f
    simp only [Md.bldAll]
    by_cases he : (t.bld f).1.2 = 0
    · rw [if_pos he]
      obtain ⟨g, l, e⟩ := Md.Good.bldAll r bl.good
      exact ⟨g, bl.le.trans l, e⟩
    · rw [if_neg he]
      refine ⟨bl.good, bl.le, ?_⟩
      rcases bl.itt.err with e | e | e <;> (dsimp only; omega)
theorem Ro.bldAll (R : Ro t L M) : ∀ (fs : List Fun8), (t.bldAll fs).1.2 = 0 → Ro (t.bldAll fs).2 (L ++ fs) M ∧ (t.bldAll fs).1.1.length = fs.length ∧ ∀ (j : Nat) (n : Int) (f : Fun8), (t.bldAll fs).1.1[j]? = some n → fs[j]? = some f → Den (t.bldAll fs).2 n f := by
  intro fs
  induction fs generalizing t L with
  | nil => intro _; exact ⟨by simpa [Md.bldAll] using R, rfl, fun j n f h => by simp [Md.bldAll] at h⟩
  | cons f r ih =>
    intro h
    have bl := R.good.bld f
    have F := R.good.bld_app R.full f
    by_cases he : (t.bld f).1.2 = 0
    · simp only [Md.bldAll, if_pos he] at h ⊢
      have R1 : Ro (t.bld f).2 (L ++ [f]) M := ⟨bl.good, F, bl.le.most.trans R.most⟩
      obtain ⟨R2, hl, hd⟩ := ih R1 h
      refine ⟨by simpa using R2, by simp [hl], fun j n g h1 h2 => ?_⟩
      cases j with
      | zero =>
        simp at h1 h2
        subst h1 h2
        rcases bl.res with ⟨_, d⟩ | ⟨e, _⟩
        · exact d.mono (Md.Good.bldAll r bl.good).2.1
        · rw [e] at he; cases he
      | succ j => exact hd j n g (by simpa using h1) (by simpa using h2)
    · simp only [Md.bldAll, if_neg he] at h
      exact absurd h he
theorem Ro.bldAll_ok (R : Ro t L M) : ∀ (fs : List Fun8), (sizeF t.ord (L ++ fs) : Int) ≤ M → (t.bldAll fs).1.2 = 0 := by
  intro fs
  induction fs generalizing t L with
  | nil => intro _; rfl
  | cons f r ih =>
    intro h
    have h1 : (sizeF t.ord (L ++ [f]) : Int) ≤ M := by
      refine Int.le_trans (Int.ofNat_le.2 (size_le fun g hg => hg.sub fun x hx => ?_)) h
      simp at hx ⊢
      rcases hx with hx | hx <;> simp [hx]
    obtain ⟨n, s', e, R', l, d⟩ := R.bld f h1
    have he : (t.bld f).1.2 = 0 := by rw [e]
    simp only [Md.bldAll, if_pos he]
    have e2 : (t.bld f).2 = s' := by rw [e]
    rw [e2]
    refine ih R' ?_
    rw [l.ord, List.append_assoc]
    exact h
end
end Go.Bx

namespace Go.Proofs.Ytpeindhocndmnaa
open Go Go.Bx
set_option linter.unusedSimpArgs false
set_option linter.unusedVariables false
set_option maxRecDepth 100000
set_option maxHeartbeats 4000000
attribute [local irreducible] X XO XE XF XD XW thenX inX retX kN CallsR
theorem there_iff {s : Md} {n : Int} : s.there n = true ↔ n = 0 ∨ n = 1 ∨ s.has n = true := by
  unfold Md.there
  simp only [Bool.or_eq_true, decide_eq_true_eq]
theorem thr_rng {s : Md} {n : Int} (W : s.WF) (h : s.there n = true) : n ≤ 9223372036854775807 := by
  have := wf_N W
  rcases there_iff.1 h with e | e | e
  · omega
  · omega
  · have := W.lt e; omega
section
variable {w w' : World} {p : Nat} {own : Nat → Nat} {s : Md} {most : Int} {rs : List Int}
def CanR (w : World) (s : Md) (most : Int) (rs : List Int) (r : Value) (w' : World) : Prop :=
  (((∃ n ∈ rs, s.there n = false) ∧ r = .tuple #[.pointer none, .slice none 0 0, errV 1]) ∨
  ((∀ n ∈ rs, s.there n = true) ∧ ((Md.new most).bldAll (rs.map s.tab)).1.2 ≠ 0 ∧ r = .tuple #[.pointer none, .slice none 0 0, errV ((Md.new most).bldAll (rs.map s.tab)).1.2]) ∨
  ((∀ n ∈ rs, s.there n = true) ∧ ((Md.new most).bldAll (rs.map s.tab)).1.2 = 0 ∧ ∃ pn a' c' ow, r = .tuple #[.pointer (some ⟨pn, 0, none⟩), .slice a' ((Md.new most).bldAll (rs.map s.tab)).1.1.length c', .nilIface] ∧ OnR w w' pn ((Md.new most).bldAll (rs.map s.tab)).2 ow ∧ LiI w w' ow a' c' ((Md.new most).bldAll (rs.map s.tab)).1.1)) ∧ Ext w w'
theorem canNone_calls {a : Option Addr} {c : Nat} (hm : ¬ (0 ≤ most ∧ most ≤ 20000)) : Quiet Try.prog 46 #[.pointer (some ⟨p, 0, none⟩), .int .i64 most, .slice a rs.length c] w (.tuple #[.pointer none, .slice none 0 0, errV 1]) := by
  intro u hu
  have n0 := stNew_none most hm
  rw [errV1]
  clear hm hu
  refine en3 Try.func46 Try.results46 mixed [] ?_
  intro e0 h0 h1 h2
  refine w_ fun d => ?_
  refine qq (n0.quiet (w := u)) fun w1 hE1 hs1 => ?_
  refine w_ fun d => ?_
  exact ⟨rfl, ext_⟩
theorem canon_calls {a : Option Addr} {c : Nat} (h0' : 0 ≤ most) (h1' : most ≤ 20000) (h : StI own w p s []) (G : s.Good []) (hI : InI w a rs) (hl : rs.length ≤ 1000) (hn : ∀ n ∈ rs, n ≤ 9223372036854775807) :
    CallsR Try.prog 46 #[.pointer (some ⟨p, 0, none⟩), .int .i64 most, .slice a rs.length c] w fun r w' => CanR w s most rs r w' := by
  have c0 := fun u (hE : Ext w u) => oneNew (M := most) h0' h1' hE
  have G0 : (Md.new most).Good [] := Md.Good.start h0' h1'
  have W := G.wf
  unfold CanR
  rw [errV1]
  refine en3 Try.func46 Try.results46 mixed [] ?_
  intro e0 h0 h1 h2
  refine w_ fun d => ?_
  refine (c0 _ ext_).mono ?_
  rintro _ w1 ⟨pn, rfl, h1⟩
  obtain ⟨o1, k1⟩ := h1.to
  clear h1 c0
  refine w_ fun d => ?_
  refine lo_ (fun _ e u => ∃ i : Nat, i ≤ rs.length ∧ e 26 = .int .i64 i ∧ OnR w u pn (Md.new most) o1 ∧ Box (∀ n ∈ rs.take i, s.there n = true)) (fun e _ => rs.length - nat (e 26)) ?_ ?_
  · exact ⟨0, by omega, eA rfl, k1.up ext_, ⟨fun n hn => by simp at hn⟩⟩
  clear k1
  rintro e u hf ⟨i, hi, h26, hO, ⟨hth⟩⟩
  have hE := hO.ext
  by_cases hil : i < rs.length
  · obtain ⟨n, hni⟩ : ∃ n, rs[i]? = some n := ⟨_, List.getElem?_eq_getElem hil⟩
    rcases InI.at (Inp.ext hI hE) with rfl | ⟨b1, o1', cs1, E1, fz1, rfl, hb1, hat1⟩
    · simp at hil
    have hat1 := hat1 i n hni
    have hirl : (i : Int) < rs.length := by omega
    have n1 := stNode_calls (h.ext hE) W n (hn n (List.mem_of_getElem? hni))
    have hmn := List.mem_of_getElem? hni
    have lb := lt_of_heap hb1
    have hth' : s.there n = true → Box (∀ n ∈ rs.take (i + 1), s.there n = true) := fun h => ⟨fun m hm => by
      rw [List.take_add_one, hni] at hm
      simp at hm
      rcases hm with hm | hm
      · exact hth m hm
      · rw [hm]; exact h⟩
    clear hth hni hI h G hn
    cases hh : s.has n with
    | true =>
      rw [nod_has hh] at n1
      have hth2 := hth' (there_iff.2 (.inr (.inr hh)))
      obtain ⟨⟨v, lo, hi'⟩, hz⟩ : ∃ z, s.nd n = z := ⟨_, rfl⟩
      rw [hz] at n1
      simp only [ndV] at n1
      clear hz hh hmn W hth'
      refine w_ fun d => ?_
      refine qq n1 fun u2 hE2 hs2 => ?_
      refine w_ fun d => ?_
      exact ⟨⟨i + 1, by omega, eA rfl, (hO.up hE2).up ext_, hth2⟩, mA⟩
    | false =>
      rw [nod_no hh] at n1
      simp only [ndV] at n1
      by_cases e0 : n = 0
      · have hth2 := hth' (there_iff.2 (.inl e0))
        subst e0
        clear hh hmn W hth'
        refine w_ fun d => ?_
        refine qq n1 fun u2 hE2 hs2 => ?_
        refine w_ fun d => ?_
        exact ⟨⟨i + 1, by omega, eA rfl, (hO.up hE2).up ext_, hth2⟩, mA⟩
      · by_cases e1 : n = 1
        · have hth2 := hth' (there_iff.2 (.inr (.inl e1)))
          subst e1
          clear hh hmn W hth'
          refine w_ fun d => ?_
          refine qq n1 fun u2 hE2 hs2 => ?_
          refine w_ fun d => ?_
          exact ⟨⟨i + 1, by omega, eA rfl, (hO.up hE2).up ext_, hth2⟩, mA⟩
        · have hno : s.there n = false := by
            cases ht : s.there n with
            | false => rfl
            | true => rcases there_iff.1 ht with q | q | q
                      · exact absurd q e0
                      · exact absurd q e1
                      · rw [hh] at q; cases q
          have b0 : (n == 0) = false := by simpa using e0
          have b1' : (n == 1) = false := by simpa using e1
          have fin : ∃ n ∈ rs, s.there n = false := ⟨n, hmn, hno⟩
          clear hh hmn W hth' hno
          refine w_ fun d => ?_
          refine qq n1 fun u2 hE2 hs2 => ?_
          refine w_ fun d => ?_
          exact ⟨.inl ⟨fin, rfl⟩, ext_⟩
  obtain rfl : i = rs.length := by omega
  rw [List.take_length] at hth
  clear hil hn hE
  obtain ⟨R, hR⟩ : ∃ R, (Md.new most).bldAll (rs.map s.tab) = R := ⟨_, rfl⟩
  rw [hR]
  refine w_ fun d => ?_
  refine lo_ (fun _ e u => ∃ (i : Nat) (t : Md) (ow : Nat → Nat) (a' : Option Addr) (c' : Nat) (ns : List Int), i ≤ rs.length ∧ e 50 = .int .i64 i ∧ e 14 = .slice a' ns.length c' ∧ OnR w u pn t ow ∧ t.Good [] ∧ LiI w u ow a' c' ns ∧ Box (BldA (Md.new most) (rs.map s.tab) i ns t) ∧ ns.length ≤ i) (fun e _ => rs.length - nat (e 50)) ?_ ?_
  · exact ⟨0, _, o1, none, 0, [], by omega, eA rfl, eA rfl, hO.up ext_, G0, LiI.nil _ _ _, ⟨BldA.start⟩, by simp⟩
  clear hO G0
  rintro e2 u2 hf2 ⟨i, t, ow, a', c', ns, hi, h50, h14, hO, Gt, hL, ⟨hB⟩, hns⟩
  have hE := hO.ext
  by_cases hil : i < rs.length
  · obtain ⟨n, hni⟩ : ∃ n, rs[i]? = some n := ⟨_, List.getElem?_eq_getElem hil⟩
    rcases InI.at (Inp.ext hI hE) with rfl | ⟨b1, o1', cs1, E1, fz1, rfl, hb1, hat1⟩
    · simp at hil
    have hat1 := hat1 i n hni
    have hirl : (i : Int) < rs.length := by omega
    have lb := lt_of_heap hb1
    have dn := G.there_den (hth n (List.mem_of_getElem? hni))
    have t1 := rdTop_calls G (h.ext hE) dn
    have hfi : (rs.map s.tab)[i]? = some (s.tab n) := by rw [List.getElem?_map, hni]; rfl
    obtain ⟨f, hf'⟩ : ∃ f, s.tab n = f := ⟨_, rfl⟩
    rw [hf'] at hfi t1
    have cb := fun v (hv : OnR w v pn t ow) => hv.call (rdBuildTop_calls hv.sti Gt f)
    have gb := (Gt.bld f).good
    have er : (t.bld f).1.2 = 0 ∨ (t.bld f).1.2 = 1 ∨ (t.bld f).1.2 = 2 := by
      rcases (Gt.bld f).itt.err with e | e | e <;> omega
    have hgo : (t.bld f).1.2 = 0 → Box (BldA (Md.new most) (rs.map s.tab) (i + 1) (ns ++ [(t.bld f).1.1]) (t.bld f).2) := fun he => ⟨hB.next hfi he⟩
    have hbad : (t.bld f).1.2 ≠ 0 → R.1.2 = (t.bld f).1.2 := fun he => by rw [← hR]; exact hB.bad hfi he
    generalize t.bld f = B at cb gb er hgo hbad
    obtain ⟨⟨nb, eb⟩, tb⟩ := B
    dsimp only at cb gb er hgo hbad
    clear hB hni hfi hf' dn hI h G Gt W
    refine w_ fun d => ?_
    refine qq t1 fun v1 hE1 hs1 => ?_
    refine w_ fun d => ?_
    refine (cb _ ((hO.up hE1).up ext_)).mono ?_
    rintro _ v2 ⟨rfl, ow2, hO2, hS2⟩
    have hL2 := hL.sw ((Sw.of_ext (hE1.trans ext_)).trans hS2 : Sw ow u2 ow2 v2)
    by_cases he : eb = 0
    · subst he
      rw [errV0]
      have hgo' := hgo rfl
      obtain ⟨a3, c3, w3, hr3, hL3, hO3, _, _⟩ := hL2.push hO2 (by omega) nb
      have hl3 : (ns ++ [nb]).length = ns.length + 1 := by simp
      clear hgo hbad hL hO cb hE hS2 hL2 hO2
      refine w_ fun d => ?_
      exact ⟨⟨i + 1, tb, ow2, a3, c3, ns ++ [nb], by omega, eA rfl, by rw [hl3]; exact eA rfl, hO3.up ext_, gb, hL3.up ext_, hgo', by omega⟩, mA⟩
    · have hRe := hbad he
      have hEw := hO2.ext
      rw [errV_ne he]
      clear hgo hbad hL hO cb hE hS2 hL2 hO2 er
      refine w_ fun d => ?_
      exact ⟨.inr (.inl ⟨hth, by rw [hRe]; exact he, by rw [hRe, errV_ne he]⟩), ext_⟩
  obtain rfl : i = rs.length := by omega
  rw [← List.length_map (f := s.tab)] at hB
  have hD := hB.done
  rw [hR] at hD
  subst hD
  clear hB hI h G W
  refine w_ fun d => ?_
  exact ⟨.inr (.inr ⟨hth, rfl, pn, a', c', ow, rfl, hO.up ext_, hL.up ext_⟩), ext_⟩
end
end Go.Proofs.Ytpeindhocndmnaa

namespace Go.Bx
open Go
set_option linter.unusedSimpArgs false
set_option linter.unusedVariables false
section
variable {s : Md} {M l n : Int}
theorem rch_nil {ord : List Int} {f : Fun8} (h : Rch ord [] f) : False := by
  induction h with
  | base h => cases h
  | step _ _ ih => exact ih
theorem Ro.emp (R : Ro s [] M) : ∀ n, s.has n = false := fun n => by
  cases h : s.has n with
  | false => rfl
  | true =>
    obtain ⟨f, d⟩ := R.good.has_den (.inr (.inr h))
    exact (rch_nil (R.full n f h d)).elim
theorem swap_empty (R : Ro s [] M) (h0 : 0 ≤ l) (h6 : l ≤ 6) : (s.swap l).1 = 0 ∧ Ro (s.swap l).2 [] M := by
  have hall : s.all = [] := by
    rw [List.eq_nil_iff_forall_not_mem]
    intro n hn
    have := R.good.wf.mem_all.1 hn
    rw [R.emp n] at this; cases this
  have hch : ∀ x y, s.change x y = [] := fun x y => by unfold Md.change; rw [hall]; rfl
  have hr : ¬ s.room < 2 * (([] : List Int).length : Int) := by
    have := R.good.wf.ar.many_le
    unfold Md.room
    simp
    omega
  have e : s.swap l = (0, s.ordS l) := by
    unfold Md.swap
    rw [if_neg (by omega), hch, if_neg hr]; rfl
  have gs := (R.good.swap l).1.good
  rw [e] at gs ⊢
  refine ⟨rfl, gs, fun n f hn d => ?_, R.most⟩
  have hn' : s.has n = true := hn
  rw [R.emp n] at hn'; cases hn'
end
end Go.Bx

namespace Go.Proofs.Ytpeindhocndmnaa
open Go Go.Bx
set_option linter.unusedSimpArgs false
set_option linter.unusedVariables false
set_option maxRecDepth 100000
set_option maxHeartbeats 4000000
attribute [local irreducible] X XO XE XF XD XW thenX inX retX kN CallsR
def k3 (x : Int × Int × Int) : Value := .agg #[.int .i64 x.1, .int .i64 x.2.1, .int .i64 x.2.2]
end Go.Proofs.Ytpeindhocndmnaa

namespace Go.Proofs.Ytpeindhocndmnaa
open Go Go.Bx
set_option linter.unusedSimpArgs false
set_option linter.unusedVariables false
set_option maxRecDepth 100000
set_option maxHeartbeats 4000000
attribute [local irreducible] X XO XE XF XD XW thenX inX retX kN CallsR
end Go.Proofs.Ytpeindhocndmnaa

namespace Go.Proofs.Ytpeindhocndmnaa
open Go Go.Bx
set_option linter.unusedSimpArgs false
set_option linter.unusedVariables false
set_option maxRecDepth 100000
set_option maxHeartbeats 4000000
attribute [local irreducible] X XO XE XF XD XW thenX inX retX kN CallsR
end Go.Proofs.Ytpeindhocndmnaa

namespace Go.Proofs.Ytpeindhocndmnaa
open Go Go.Bx
set_option linter.unusedSimpArgs false
set_option linter.unusedVariables false
set_option maxRecDepth 100000
set_option maxHeartbeats 4000000
attribute [local irreducible] X XO XE XF XD XW thenX inX retX kN CallsR
def KnI (s : Md) (es : List (Ent (Int × Int × Int))) : Prop := ∀ x ∈ es, ∃ (n : Int) (f g h : Fun8), x.2.1 = .int .i64 n ∧ Den s x.1.1 f ∧ Den s x.1.2.1 g ∧ Den s x.1.2.2 h ∧ Den s n (iteF f g h)
structure IcI (own : Nat → Nat) (w : World) (p : Nat) (s : Md) (pc bm : Nat) (es : List (Ent (Int × Int × Int))) (ck : Nat) : Prop where
  sti : StI own w p s []
  hb : w.heap[pc]? = some (.cells #[.map (some bm)] 134)
  hm : w.heap[bm]? = some (mObj k3 es ck)
  inv : MInv es ck
  kn : KnI s es
  ob : own pc = 0
  om : own bm = 0
section
variable {own own' own1 : Nat → Nat} {w w' w1 w2 : World} {p pc bm ck : Nat} {s s' s2 : Md} {es : List (Ent (Int × Int × Int))} {n a b c : Int} {f g k : Fun8}
def IcT (own : Nat → Nat) (w : World) (p : Nat) (s' : Md) (pc bm : Nat) (w' : World) : Prop := ∃ own' es' ck', IcI own' w' p s' pc bm es' ck' ∧ BtS own w bm own' w'
end
end Go.Proofs.Ytpeindhocndmnaa

namespace Go.Proofs.Ytpeindhocndmnaa
open Go Go.Bx
set_option linter.unusedSimpArgs false
set_option linter.unusedVariables false
set_option maxRecDepth 100000
set_option maxHeartbeats 4000000
attribute [local irreducible] X XO XE XF XD XW thenX inX retX kN CallsR
end Go.Proofs.Ytpeindhocndmnaa

namespace Go.Proofs.Ytpeindhocndmnaa
open Go Go.Bx
set_option linter.unusedSimpArgs false
set_option linter.unusedVariables false
set_option maxRecDepth 100000
set_option maxHeartbeats 4000000
attribute [local irreducible] X XO XE XF XD XW thenX inX retX kN CallsR
end Go.Proofs.Ytpeindhocndmnaa

namespace Go.Bx
open Go
set_option linter.unusedSimpArgs false
set_option linter.unusedVariables false
noncomputable def Md.restr (s : Md) (a v : Int) (b : Bool) : (Int × Int) × Md := if s.there a && (decide (0 ≤ v) && decide (v < 8)) then s.bld (cofF (s.tab a) v b) else ((0, 1), s)
noncomputable def Md.both (s : Md) (a v : Int) (k : Md → Int → Int → (Int × Int) × Md) : (Int × Int) × Md :=
  if (s.restr a v false).1.2 = 0 then
    if ((s.restr a v false).2.restr a v true).1.2 = 0 then k ((s.restr a v false).2.restr a v true).2 (s.restr a v false).1.1 ((s.restr a v false).2.restr a v true).1.1
    else (s.restr a v false).2.restr a v true
  else s.restr a v false
noncomputable def Md.compose (s : Md) (a v g : Int) : (Int × Int) × Md := if s.there g && (decide (0 ≤ v) && decide (v < 8)) then s.both a v fun s lo hi => s.ite g hi lo else ((0, 1), s)
noncomputable def Md.exist (s : Md) (a v : Int) : (Int × Int) × Md := s.both a v fun s lo hi => s.ite lo 1 hi
noncomputable def Md.forall_ (s : Md) (a v : Int) : (Int × Int) × Md := s.both a v fun s lo hi => s.ite lo hi 0
section
variable {s s' : Md} {n m a b c v g : Int} {f h : Fun8} {rs : List Int}
noncomputable def Md.step (s : Md) (rs : List Int) (v : Int) (down : Bool) : Bool × Md :=
  if (s.swap (if down then lvl s.ord v else lvl s.ord v - 1)).1 = 0 then (true, (s.swap (if down then lvl s.ord v else lvl s.ord v - 1)).2.sweep rs) else (false, s)
structure Lk where
  s : Md
  best : Int
  few : Int
noncomputable def Lk.go (rs : List Int) (v grow : Int) (down : Bool) : Nat → Lk → Lk
  | 0, x => x
  | k + 1, x =>
    if lvl x.s.ord v = (if down then 7 else 0) then x
    else if (x.s.step rs v down).1 = false then x
    else
      let s' := (x.s.step rs v down).2
      let y : Lk := if s'.a.many < x.few then ⟨s', lvl s'.ord v, s'.a.many⟩ else ⟨s', x.best, x.few⟩
      if grow < s'.a.many then y else Lk.go rs v grow down k y
noncomputable def Md.back (rs : List Int) (v best : Int) : Nat → Md → Md
  | 0, s => s
  | k + 1, s => if lvl s.ord v = best then s else if (s.step rs v (decide (lvl s.ord v < best))).1 = false then s else Md.back rs v best k (s.step rs v (decide (lvl s.ord v < best))).2
noncomputable def Md.sift (s : Md) (rs : List Int) (v grow : Int) : Md :=
  let s1 := s.sweep rs
  let x := Lk.go rs v grow false 8 (Lk.go rs v grow true 8 ⟨s1, lvl s1.ord v, s1.a.many⟩)
  Md.back rs v x.best 8 x.s
noncomputable def Md.siftAll (rs : List Int) (grow : Int) (l : List Int) (s : Md) : Md := l.foldl (fun s v => s.sift rs v grow) s
end
end Go.Bx

namespace Go.Proofs.Ytpeindhocndmnaa
open Go Go.Bx
set_option linter.unusedSimpArgs false
set_option linter.unusedVariables false
set_option maxRecDepth 100000
set_option maxHeartbeats 4000000
attribute [local irreducible] X XO XE XF XD XW thenX inX retX kN CallsR
section
variable {own : Nat → Nat} {w w' w1 : World} {p : Nat} {s : Md} {n v a b c : Int} {f g : Fun8}
theorem rsThere_calls (h : RsI own w p s) (W : s.WF) (n : Int) (hn : n ≤ 9223372036854775807) : Quiet Try.prog 104 #[.pointer (some ⟨p, 0, none⟩), .int .i64 n] w (.bool (s.there n)) := by
  intro u hu
  have c1 := (rsHas_calls h W n hn).at hu
  unfold Md.there
  clear h W
  by_cases h0' : n = 0
  · subst h0'
    refine en2 Try.func104 Try.results104 mixed [] ?_
    intro e0 h0 h1
    refine w_ fun d => ?_
    exact ⟨rfl, ext_⟩
  · have e0 : (n == 0) = false := by simpa using h0'
    have d0 : decide (n = 0) = false := decide_eq_false h0'
    by_cases h1' : n = 1
    · subst h1'
      refine en2 Try.func104 Try.results104 mixed [] ?_
      intro e0 h0 h1
      refine w_ fun d => ?_
      exact ⟨rfl, ext_⟩
    · have e1 : (n == 1) = false := by simpa using h1'
      have d1 : decide (n = 1) = false := decide_eq_false h1'
      rw [d0, d1]
      clear d0 d1
      refine en2 Try.func104 Try.results104 mixed [] ?_
      intro e0 h0 h1
      refine w_ fun d => ?_
      refine qq c1 fun w1 hE1 hs1 => ?_
      refine w_ fun d => ?_
      exact ⟨rfl, ext_⟩
theorem rsTable_none (h : RsI own w p s) (W : s.WF) (hn : n ≤ 9223372036854775807) (hh : s.has n = false) : Quiet Try.prog 105 #[.pointer (some ⟨p, 0, none⟩), .int .i64 n] w (fv (constF (decide (n = 1)))) := by
  intro u hu
  have n1 := (rsNode_calls h W n hn).at hu
  have hnd : s.node n = ((0, 0, 0), false) := by unfold Md.node; rw [hh]; rfl
  rw [hnd] at n1
  simp only [ndV] at n1
  have c1 : Sure Try.prog 102 #[.bool (n == 1)] (fv (constF (decide (n = 1)))) := fun u => by
    have := refConst_calls (decide (n = 1)) u
    rwa [show (n == 1) = decide (n = 1) from rfl]
  generalize constF (decide (n = 1)) = C at c1
  clear h hnd hh W
  refine en2 Try.func105 Try.results105 mixed [] ?_
  intro e0 h0 h1
  refine w_ fun d => ?_
  refine qq n1 fun w1 hE1 hs1 => ?_
  refine w_ fun d => ?_
  refine qq (c1.quiet (w := w1)) fun w2 hE2 hs2 => ?_
  refine w_ fun d => ?_
  exact ⟨rfl, ext_⟩
theorem rsTable_calls (h : RsI own w p s) (G : s.Good []) (d : Den s n f) : Quiet Try.prog 105 #[.pointer (some ⟨p, 0, none⟩), .int .i64 n] w (fv f) := by
  have W := G.wf
  induction d with
  | c0 => exact rsTable_none h W (by decide) (Md.has_no (by decide))
  | c1 => exact rsTable_none h W (by decide) (Md.has_no (by decide))
  | @node n v lo hi f0 f1 hh hx h0 h1 ih0 ih1 =>
    have hN := wf_N W
    have hl := W.lt hh
    have n1 := rsNode_calls h W n (by omega)
    rw [show s.node n = ((v, lo, hi), true) by unfold Md.node; rw [hh, hx]; rfl] at n1
    simp only [ndV] at n1
    have c2 : Sure Try.prog 76 #[.int .i64 v] (fv (varF v)) := refVar_calls v
    have c3 : Sure Try.prog 59 #[fv (varF v), fv f1, fv f0] (fv (iteF (varF v) f1 f0)) := refIte_calls _ _ _
    generalize iteF (varF v) f1 f0 = F at c3
    generalize varF v = V at c2 c3
    clear hx h0 h1 hh hl h G W hN
    intro u hu
    have n1 := n1.at hu
    have i0 := ih0.at hu
    have i1 := ih1.at hu
    clear ih0 ih1 hu
    refine en2 Try.func105 Try.results105 mixed [] ?_
    intro e0 h0 h1
    refine w_ fun d => ?_
    refine qq n1 fun w1 hE1 hs1 => ?_
    refine w_ fun d => ?_
    refine at_w fun u2 hu2 => ?_
    have hE1u : Ext w1 u2 := by rw [hu2]; exact ext_
    have hEu : Ext u u2 := Ext.trans (Ext.trans (by exact ext_) hE1) hE1u
    have h5 : u2.heap[w1.heap.size]? = some (.cells #[.int .i64 v, .int .i64 lo, .int .i64 hi] 39) := by rw [hu2]; exact hA rfl
    have h4 : u2.heap[u.heap.size]? = some (.cells #[.int .u64 0, .int .u64 0, .int .u64 0, .int .u64 0] 54) := hE1u.at (hE1.at (hA rfl))
    have j0 := i0.at hEu
    have j1 := i1.at hEu
    obtain ⟨b5, hb5⟩ : ∃ b, w1.heap.size = b := ⟨_, rfl⟩
    obtain ⟨b4, hb4⟩ : ∃ b, u.heap.size = b := ⟨_, rfl⟩
    rw [hb5] at h5 ⊢
    have hub : u.heap.size ≤ b4 := by omega
    rw [hb4] at h4 ⊢
    have l5 := lt_of_heap h5
    have l4 := lt_of_heap h4
    clear hu2 n1 hE1u hb5 hb4 i0 i1 hE1 hs1
    refine s_draw (XD_ext ?_)
    refine de_ ?_
    refine xn_ fun u3 hE3 hs3 => ?_
    have h43 := hE3.at (upd_same l4)
    have l43 := lt_of_heap h43
    have hE : Ext u u3 := Ext.trans (by exact ext_) hE3
    refine w_ fun d => ?_
    exact ⟨rfl, ext_⟩
theorem rsBuild_flat (h : RsI own w p s) (G : s.Good []) (ht : topF s.ord f < 0) : Quiet Try.prog 103 #[.pointer (some ⟨p, 0, none⟩), fv f] w (.tuple #[.int .i64 (if f.getLsbD 0 then 1 else 0), .int .i64 0]) := by
  intro u hu
  have h := h.ext hu
  clear hu
  obtain ⟨pa, na, nc, sc, oc, hX⟩ := id h
  have hp := hX.at_
  have co := hX.rc.co
  have hsz := hX.rc.size
  have hpl := lt_of_heap hp
  have tp : Sure Try.prog 144 #[fv f, .agg oc] (.int .i64 (topF s.ord f)) := fun u => by
    have := refTop_calls f s.ord G.wf.ord.len u
    rwa [hX.oc.agg] at this
  have at0 := refAt_p f 0 (by decide)
  generalize topF s.ord f = v at ht tp
  clear hX h G
  refine en2 Try.func103 Try.results103 mixed [] ?_
  intro e0 h0 h1
  refine w_ fun d => ?_
  intro w1 hE1 hs1
  have h31 : w1.heap[u.heap.size]? = some (.cells #[vU (word f 0), vU (word f 1), vU (word f 2), vU (word f 3)] 54) := hE1.at (hA rfl)
  have l31 := lt_of_heap h31
  cases hb : f.getLsbD 0
  · rw [hb] at at0
    refine w_ fun d => ?_
    refine qq (at0.quiet (w := w1)) fun w2 hE2 hs2 => ?_
    refine w_ fun d => ?_
    exact ⟨rfl, ext_⟩
  · rw [hb] at at0
    refine w_ fun d => ?_
    refine qq (at0.quiet (w := w1)) fun w2 hE2 hs2 => ?_
    refine w_ fun d => ?_
    exact ⟨rfl, ext_⟩
theorem rsBuild_calls {p : Nat} : ∀ (k : Nat) (own : Nat → Nat) (w : World) (s : Md) (f : Fun8), RsI own w p s → s.Good [] → nv f ≤ k →
    CallsR Try.prog 103 #[.pointer (some ⟨p, 0, none⟩), fv f] w fun r w' => r = .tuple #[.int .i64 (s.bld f).1.1, .int .i64 (s.bld f).1.2] ∧ TrS own w p (s.bld f).2 w' := by
  intro k
  induction k using Nat.strongRecOn with
  | _ k ih =>
  intro own w s f h G hk
  by_cases ht0 : 0 ≤ topF s.ord f
  rotate_left
  · rw [bld_flat G ht0]
    refine (rsBuild_flat h G (by omega)).call.mono ?_
    rintro r w' ⟨rfl, hE⟩
    exact ⟨rfl, TrS.of_ext h hE⟩
  have hgo := bld_top G ht0
  have hdt := topF_dep ht0
  have nv0 := nv_cof (b := false) hdt
  have nv1 := nv_cof (b := true) hdt
  obtain ⟨pa, na, nc, sc, oc, hX⟩ := id h
  have hp := hX.at_
  have co := hX.rc.co
  have hsz := hX.rc.size
  have hpl := lt_of_heap hp
  have tp : Sure Try.prog 144 #[fv f, .agg oc] (.int .i64 (topF s.ord f)) := fun u => by
    have := refTop_calls f s.ord G.wf.ord.len u
    rwa [hX.oc.agg] at this
  clear hX
  generalize topF s.ord f = v at hgo ht0 hdt nv0 nv1 tp
  have c0 : Sure Try.prog 78 #[fv f, .int .i64 v, .bool false] (fv (cofF f v false)) := refCof_calls f v false
  have c1 : Sure Try.prog 78 #[fv f, .int .i64 v, .bool true] (fv (cofF f v true)) := refCof_calls f v true
  obtain ⟨R, hR⟩ : ∃ R, s.bld f = R := ⟨_, rfl⟩
  unfold SplB at hgo
  rw [hR] at hgo ⊢
  clear hR hdt
  have own0 : ∀ k, w.heap.size ≤ k → own k = 0 := fun k hk => by
    cases ho : own k with
    | zero => rfl
    | succ q => have := h.lt k (by omega); omega
  refine en2 Try.func103 Try.results103 mixed [] ?_
  intro e0 h0 h1
  refine w_ fun d => ?_
  intro w1 hE1 hs1
  have h31 : w1.heap[w.heap.size]? = some (.cells #[vU (word f 0), vU (word f 1), vU (word f 2), vU (word f 3)] 54) := hE1.at (hA rfl)
  have hE01 : Ext w w1 := Ext.trans (by exact ext_) hE1
  have h1' := h.ext hE01
  have l31 := lt_of_heap h31
  have o3 := own0 _ (Nat.le_refl w.heap.size)
  have hS1 : Sw own w own w1 := Sw.of_ext hE01
  clear hE1 hs1 hp hpl tp h own0 hE01
  refine w_ fun d => ?_
  refine qq (c0.quiet (w := w1)) fun w2 hE2 hs2 => ?_
  have h32 := hE2.at h31
  have l32 := lt_of_heap h32
  refine w_ fun d => ?_
  refine (ih _ (Nat.lt_of_lt_of_le nv0 hk) own w2 s _ (h1'.ext hE2) G (Nat.le_refl _)).mono ?_
  rintro r w3 ⟨hr, own1, hI1, hSw1⟩
  have hT1 := (hS1.ext hE2).trans hSw1
  obtain ⟨o31, e33⟩ := hSw1.out l32 o3
  have h33 := e33.trans h32
  have l33 := lt_of_heap h33
  rcases hgo with ⟨e0, eR⟩ | ⟨n0, s0, e0, G0, L0, D0, hgo⟩
  · rw [eR, e0]
    rw [e0] at hr
    dsimp only at hr
    subst hr
    clear ih
    refine w_ fun d => ?_
    exact ⟨rfl, own1, hI1, hT1⟩
  rw [e0] at hr hI1
  dsimp only at hr hI1
  subst hr
  clear hE2 hs2 h1' hS1 hSw1 e33 h32 l32 h31 l31
  refine w_ fun d => ?_
  refine qq (c1.quiet (w := w3)) fun w4 hE4 hs4 => ?_
  have h34 := hE4.at h33
  refine w_ fun d => ?_
  refine (ih _ (Nat.lt_of_lt_of_le nv1 hk) own1 w4 s0 _ (hI1.ext hE4) G0 (Nat.le_refl _)).mono ?_
  rintro r w5 ⟨hr, own2, hI2, hSw2⟩
  have hT2 := (hT1.ext hE4).trans hSw2
  rcases hgo with ⟨e1, eR⟩ | ⟨n1, s1, e1, G1, L1, D1, hgo⟩
  · rw [eR, e1]
    rw [e1] at hr
    dsimp only at hr
    subst hr
    clear ih
    refine w_ fun d => ?_
    exact ⟨rfl, own2, hI2, hT2⟩
  rw [e1] at hr hI2
  dsimp only at hr hI2
  subst hr
  have mk := rsMkP_calls (v := v) hI2 G1.wf (bt_rng G1.wf (D0.mono L1)) (bt_rng G1.wf D1)
  rw [← hgo] at mk
  clear ih hgo e0 e1 hI1 hE4 hs4
  refine w_ fun d => ?_
  refine mk.mono ?_
  rintro _ w6 ⟨rfl, own3, hI3, hS3⟩
  refine w_ fun d => ?_
  exact ⟨rfl, own3, hI3, hT2.trans hS3⟩
theorem rsBld_calls (h : RsI own w p s) (G : s.Good []) (f : Fun8) : CallsR Try.prog 103 #[.pointer (some ⟨p, 0, none⟩), fv f] w fun r w' => r = .tuple #[.int .i64 (s.bld f).1.1, .int .i64 (s.bld f).1.2] ∧ TrS own w p (s.bld f).2 w' := rsBuild_calls _ own w s f h G (Nat.le_refl _)
end
end Go.Proofs.Ytpeindhocndmnaa

namespace Go.Proofs.Ytpeindhocndmnaa
open Go Go.Bx
set_option linter.unusedSimpArgs false
set_option linter.unusedVariables false
set_option maxRecDepth 100000
set_option maxHeartbeats 4000000
attribute [local irreducible] X XO XE XF XD XW thenX inX retX kN CallsR
def CaI (W w : World) (ps pc : Nat) (s : Md) : Prop := ∃ own bm es ck, IcI own w ps s pc bm es ck ∧ (∀ k, own k ≠ 0 → W.heap.size ≤ k) ∧ W.heap.size ≤ bm ∧ Ext W w
end Go.Proofs.Ytpeindhocndmnaa

namespace Go.Proofs.Ytpeindhocndmnaa
open Go Go.Bx
set_option linter.unusedSimpArgs false
set_option linter.unusedVariables false
set_option maxRecDepth 100000
set_option maxHeartbeats 4000000
attribute [local irreducible] X XO XE XF XD XW thenX inX retX kN CallsR
section
variable {P : Program} {w : World} {t ty kt et b clock sz by_ : Nat} {z : Value} {e : Env} {x : Operand} {κ : Type} {kf : κ → Value} {es : List (Ent κ)}
def clR (P : Program) (t : TypeId) (a : Value) (w : World) : Result Value := (Builtin.clear_ #[t] 0 #[a]).run P w
def clO (P : Program) (t : TypeId) (b : Nat) (w : World) (ob : Option Obj) (_ : w.heap[b]? = ob) : Result Value := clR P t (.map (some b)) w
theorem rG_clear : rG P (.call { callee := .builtin .clear, args := #[x], argTypes := #[t] }) ty e w = vR (clR P t (ev e x) w) := by
  show (do let d ← resolve (ev e) { callee := .builtin .clear, args := #[x], argTypes := #[t] } ty; invoke d.target d.args : Sem Next).run P w = _
  simp only [Sem.run_bind, resolve, pure, Sem.run, Result.andThen_ok, invoke, builtin]
  simp only [List.map_toArray, List.map_cons, List.map_nil]
  rfl
theorem clR_map : clR P t (.map (some b)) w = clO P t b w (w.heap[b]?) rfl := rfl
attribute [push_cast] rG_clear clR_map
end
section
variable {own own1 : Nat → Nat} {W w w' w1 w2 : World} {p pc ps pm bm ck : Nat} {s s' sM s2 : Md} {es : List (Ent (Int × Int × Int))} {a b c n v g : Int} {f : Fun8}
def PcK (W w : World) (ps pc pm : Nat) (s sM : Md) (kp : List (Nat × Obj)) : Prop :=
  ∃ own bm es ck ownM, IcI own w ps s pc bm es ck ∧ RsI ownM w pm sM ∧ (∀ k, own k ≠ 0 → ownM k = 0) ∧ ownM pc = 0 ∧ ownM bm = 0 ∧ (∀ k, own k ≠ 0 → W.heap.size ≤ k) ∧ (∀ k, ownM k ≠ 0 → W.heap.size ≤ k) ∧ W.heap.size ≤ bm ∧ Ext W w ∧ (∀ x ∈ kp, w.heap[x.1]? = some x.2 ∧ own x.1 = 0 ∧ ownM x.1 = 0 ∧ x.1 ≠ bm)
abbrev PcI (W w : World) (ps pc pm : Nat) (s sM : Md) : Prop := PcK W w ps pc pm s sM []
variable {kp : List (Nat × Obj)}
end
end Go.Proofs.Ytpeindhocndmnaa

namespace Go.Proofs.Ytpeindhocndmnaa
open Go Go.Bx
set_option linter.unusedSimpArgs false
set_option linter.unusedVariables false
set_option maxRecDepth 100000
set_option maxHeartbeats 4000000
attribute [local irreducible] X XO XE XF XD XW thenX inX retX kN CallsR
def okL (l : List Int) : Prop := ∀ n ∈ l, okI n
section
variable {W w w' w1 w2 : World} {p ps pm pc : Nat} {s s' sM : Md} {n v x y lo hi : Int}
theorem _root_.Go.Bx.Md.Good.bld_rng (G : s.Good []) (f : Fun8) : 0 ≤ (s.bld f).1.2 ∧ (s.bld f).1.2 ≤ 8 := by
  rcases (G.bld f).itt.err with e | e | e <;> omega
theorem built_none (most : Int) {l : List Fun8} {k : List Int} {a b : Option Addr} {ca cb : Nat} (h : ¬ (0 ≤ most ∧ most ≤ 20000) ∨ 6 < l.length ∨ 30 < k.length) (hl : l.length ≤ 140737488351232) (hk : k.length ≤ 140737488351232) :
    CallsR Try.prog 44 #[.int .i64 most, .slice a l.length ca, .slice b k.length cb] w fun r w' => r = .tuple #[.pointer none, .pointer none, .int .i64 0] ∧ Ext w w' := by
  by_cases hm : 0 ≤ most ∧ most ≤ 20000
  · have b0 := begin_calls most hm.1 hm.2
    have h2 := h.resolve_left fun h => h hm
    clear h hm
    by_cases h6 : 6 < l.length
    · have h6' : (6 : Int) < l.length := by omega
      clear h2
      refine en3 Try.func44 Try.results44 mixed [] ?_
      intro e0 h0 h1 h2
      refine w_ fun d => ?_
      refine (b0 _).mono ?_
      rintro _ w1 ⟨ps, pm, rfl, hP⟩
      have hE := hP.world
      clear hP b0
      refine w_ fun d => ?_
      exact ⟨rfl, ext_⟩
    · have h7 := h2.resolve_left h6
      have h6' : ¬ (6 : Int) < l.length := by omega
      have h7' : (30 : Int) < k.length := by omega
      clear h2 h6
      refine en3 Try.func44 Try.results44 mixed [] ?_
      intro e0 h0 h1 h2
      refine w_ fun d => ?_
      refine (b0 _).mono ?_
      rintro _ w1 ⟨ps, pm, rfl, hP⟩
      have hE := hP.world
      clear hP b0
      refine w_ fun d => ?_
      exact ⟨rfl, ext_⟩
  · have b0 := begin_none most hm
    clear h hm
    refine en3 Try.func44 Try.results44 mixed [] ?_
    intro e0 h0 h1 h2
    refine w_ fun d => ?_
    refine qq (b0.quiet (w := w)) fun w2 hE2 hs2 => ?_
    refine w_ fun d => ?_
    exact ⟨rfl, ext_⟩
theorem funAt {a : Option Addr} {l : List Fun8} (h : Inp w 4 a (l.map rowF)) {i : Nat} {f : Fun8} (hf : l[i]? = some f) :
    ∃ g o cs E fz, a = some ⟨g, o, none⟩ ∧ w.heap[g]? = some (.cells cs E fz) ∧ o + i * 4 + 4 ≤ cs.size ∧ Value.agg (cs.extract (o + i * 4) (o + i * 4 + 4)) = fv f := by
  rcases h with h | ⟨g, o, cs, E, fz, rfl, h2, h3⟩
  · rw [List.map_eq_nil_iff.1 h] at hf; simp at hf
  · have hr := h3 i (rowF f) (by rw [List.getElem?_map, hf]; rfl)
    obtain ⟨k1, k2⟩ := rowF_at (i := o + i * 4) hr
    exact ⟨g, o, cs, E, fz, rfl, h2, k1, k2⟩
theorem built_calls (most : Int) {l : List Fun8} {k : List Int} {a b : Option Addr} {ca cb : Nat} (h0' : 0 ≤ most) (h1' : most ≤ 20000) (hl : l.length ≤ 6) (hk : k.length ≤ 30) (hI : Inp w 4 a (l.map rowF)) (hK : InI w b k) :
    CallsR Try.prog 44 #[.int .i64 most, .slice a l.length ca, .slice b k.length cb] w fun r w' => ∃ ps pm s, r = .tuple #[.pointer (some ⟨ps, 0, none⟩), .pointer (some ⟨pm, 0, none⟩), .int .i64 1] ∧ PrI w w' ps pm s s ∧ s.Good [] := by
  have b0 := begin_calls most h0' h1'
  have G0 : (Md.new most).Good [] := Md.Good.start h0' h1'
  have hl' : ¬ (6 : Int) < l.length := by omega
  have hk' : ¬ (30 : Int) < k.length := by omega
  refine en3 Try.func44 Try.results44 mixed [] ?_
  intro e0 h0 h1 h2
  refine w_ fun d => ?_
  refine (b0 _).mono ?_
  rintro _ w1 ⟨ps, pm, rfl, hP⟩
  have hP : PrI w w1 ps pm (Md.new most) (Md.new most) := by
    obtain ⟨a, b, q1, q2, q3, q4, q5, q6⟩ := hP
    exact ⟨a, b, q1, q2, q3, fun k hk => by have := q4 k hk; simpa only [dr_heap] using this, fun k hk => by have := q5 k hk; simpa only [dr_heap] using this, Ext.trans (by exact ext_) q6⟩
  clear b0
  refine w_ fun d => ?_
  refine lo_ (fun _ e w' => ∃ (i : Nat) (s : Md), i ≤ l.length ∧ e 11 = .int .i64 i ∧ PrI w w' ps pm s s ∧ s.Good []) (fun e _ => l.length - nat (e 11)) ?_ ?_
  · exact ⟨0, _, by omega, eA rfl, hP.ext ext_, G0⟩
  rintro e u hf ⟨i, s, hi, h11, hPu, G⟩
  have hEu := hPu.world
  by_cases hlt : i < l.length
  · obtain ⟨f, hfi⟩ : ∃ f, l[i]? = some f := ⟨l[i], List.getElem?_eq_getElem hlt⟩
    obtain ⟨g, o, ct, E, fz, rfl, hg, hsz, hex⟩ := funAt (Inp.ext hI hEu) hfi
    have hltl : (i : Int) < l.length := by omega
    have gl := lt_of_heap hg
    have bI := fun W u (h : PrI W u ps pm s s) => h.turnI fun own ho => rdBuildTop_calls ho G f
    have bM := fun W u s1 (h : PrI W u ps pm s1 s) => h.turnM fun own ho => rsBld_calls ho G f
    have gb := (G.bld f).good
    have rb := G.bld_rng f
    have cr := code_sure _ rb.1 rb.2
    generalize s.bld f = R at bI bM gb rb cr
    clear hK G0 hP G rb
    refine w_ fun d => ?_
    refine (bI _ _ (hPu.ext ext_)).mono ?_
    rintro _ u2 ⟨rfl, hP2⟩
    obtain ⟨g', o', ct', E', fz', he, hg2, hsz2, hex2⟩ := funAt (Inp.ext hI hP2.world) hfi
    cases he
    have gl2 := lt_of_heap hg2
    clear hg gl bI hI
    refine w_ fun d => ?_
    refine (bM _ _ _ (hP2.ext ext_)).mono ?_
    rintro _ u3 ⟨rfl, hP3⟩
    clear bM
    refine w_ fun d => ?_
    refine qq (cr.quiet (w := u3)) fun u4 hE4 hs4 => ?_
    refine w_ fun d => ?_
    exact ⟨⟨i + 1, R.2, by omega, eA rfl, hP3.ext ext_, gb⟩, mA⟩
  · obtain rfl : i = l.length := by omega
    clear hI hlt hP G0
    refine w_ fun d => ?_
    refine lo_ (fun _ e w' => ∃ (i : Nat) (s : Md), i ≤ k.length ∧ e 16 = .int .i64 i ∧ PrI w w' ps pm s s ∧ s.Good []) (fun e _ => k.length - nat (e 16)) ?_ ?_
    · exact ⟨0, _, by omega, eA rfl, hPu.ext ext_, G⟩
    rintro e2 v hf2 ⟨i, s2, hi2, h16, hPv, G2⟩
    have hEv := hPv.world
    by_cases hlt : i < k.length
    · obtain ⟨x, hx⟩ : ∃ x, k[i]? = some x := ⟨k[i], List.getElem?_eq_getElem hlt⟩
      rcases InI.at (Inp.ext hK hEv) with rfl | ⟨b1, o1, cs1, E1, fz1, rfl, hb1, hat1⟩
      · simp at hlt
      have hat1 := hat1 i x hx
      have pk := pick_sure x 7 (by decide) (by decide)
      have hltk : (i : Int) < k.length := by omega
      generalize x % 7 = y at pk
      have bI := fun W u (h : PrI W u ps pm s2 s2) => h.turnI fun own ho => stSwap_calls ho G2 y
      have bM := fun W u s1 (h : PrI W u ps pm s1 s2) => h.turnM fun own ho => rsSwap_calls ho G2 y
      have gb := (G2.swap y).1.good
      have rb := swap_rng (s := s2) (n := y)
      have cr := code_sure _ rb.1 rb.2
      generalize s2.swap y = R at bI bM gb rb cr
      clear hK G2 G rb hx hPu
      refine w_ fun d => ?_
      refine qq (pk.quiet (w := v)) fun v1 hE1 hs1 => ?_
      refine w_ fun d => ?_
      refine (bI _ _ ((hPv.ext hE1).ext ext_)).mono ?_
      rintro _ u2 ⟨rfl, hP2⟩
      refine w_ fun d => ?_
      refine qq (cr.quiet (w := u2)) fun u4 hE4 hs4 => ?_
      refine w_ fun d => ?_
      refine (bM _ _ _ ((hP2.ext hE4).ext ext_)).mono ?_
      rintro _ u3 ⟨rfl, hP3⟩
      clear bM bI
      refine w_ fun d => ?_
      exact ⟨⟨i + 1, R.2, by omega, eA rfl, hP3.ext ext_, gb⟩, mA⟩
    · obtain rfl : i = k.length := by omega
      clear hK hlt hPu G
      refine w_ fun d => ?_
      refine (same_calls (hPv.ext ext_) G2).mono ?_
      rintro _ u3 ⟨rfl, hE3⟩
      have hP3 := (hPv.ext (by exact ext_)).ext hE3
      refine w_ fun d => ?_
      exact ⟨ps, pm, s2, rfl, hP3.ext ext_, G2⟩
end
end Go.Proofs.Ytpeindhocndmnaa

namespace Go.Proofs.Ytpeindhocndmnaa
open Go Go.Bx
set_option linter.unusedSimpArgs false
set_option linter.unusedVariables false
set_option maxRecDepth 100000
set_option maxHeartbeats 4000000
attribute [local irreducible] X XO XE XF XD XW thenX inX retX kN CallsR
section
variable {W w w' w1 w2 : World} {ps : Nat} {own own' : Nat → Nat} {s s' : Md} {a b : Option Addr} {cap : Nat} {l : List Fun8} {x : Int}
structure LiF (W w : World) (own : Nat → Nat) (a : Option Addr) (cap : Nat) (l : List Fun8) : Prop where
  sl : SlF w a cap l
  ow : ∀ g, blk a = some g → own g = 0 ∧ W.heap.size ≤ g
abbrev InB (w : World) (a : Option Addr) (l : List Bool) : Prop := Inp w 1 a (l.map fun y => [.bool y])
def Pairs (s : Md) (rl : List Int) (kl : List Fun8) : Prop := rl.length = kl.length ∧ ∀ (j : Nat) (r : Int) (f : Fun8), rl[j]? = some r → kl[j]? = some f → Den s r f
theorem Pairs.nil (s : Md) : Pairs s [] [] := ⟨rfl, fun j r f h => by simp at h⟩
theorem Pairs.mono {rl : List Int} {kl : List Fun8} (h : Pairs s rl kl) (hd : ∀ n f, Den s n f → Den s' n f) : Pairs s' rl kl := ⟨h.1, fun j r f h1 h2 => hd _ _ (h.2 j r f h1 h2)⟩
theorem Pairs.snoc {rl : List Int} {kl : List Fun8} {n : Int} {f : Fun8} (h : Pairs s rl kl) (d : Den s n f) : Pairs s (rl ++ [n]) (kl ++ [f]) := by
  refine ⟨by rw [List.length_append, List.length_append, h.1]; rfl, fun j r g h1 h2 => ?_⟩
  by_cases hj : j < rl.length
  · rw [List.getElem?_append_left hj] at h1
    rw [List.getElem?_append_left (by rw [← h.1]; exact hj)] at h2
    exact h.2 j r g h1 h2
  · rw [List.getElem?_append_right (by omega)] at h1
    rw [List.getElem?_append_right (by rw [← h.1]; omega)] at h2
    have hz : j - rl.length = 0 := by
      have := (List.getElem?_eq_some_iff.1 h1).1
      simpa using this
    rw [hz] at h1
    rw [← h.1, hz] at h2
    simp at h1 h2
    subst h1 h2
    exact d
theorem Pairs.left {rl : List Int} {kl : List Fun8} (h : Pairs s rl kl) : ∀ r ∈ rl, ∃ f ∈ kl, Den s r f := fun r hr => by
  obtain ⟨j, hj, e⟩ := List.getElem_of_mem hr
  have hj' : j < kl.length := by rw [← h.1]; exact hj
  exact ⟨kl[j], List.getElem_mem hj', h.2 j r _ (by rw [List.getElem?_eq_getElem hj, e]) (List.getElem?_eq_getElem hj')⟩
end
end Go.Proofs.Ytpeindhocndmnaa

namespace Go.Proofs.Ytpeindhocndmnaa
open Go Go.Bx
set_option linter.unusedSimpArgs false
set_option linter.unusedVariables false
set_option maxRecDepth 100000
set_option maxHeartbeats 4000000
attribute [local irreducible] X XO XE XF XD XW thenX inX retX kN CallsR
section
variable {w w' : World} {p : Nat} {s t : Md} {M most : Int}
theorem bldAll_err : ∀ (fs : List Fun8) {t : Md}, t.Good [] → (t.bldAll fs).1.2 = 0 ∨ (t.bldAll fs).1.2 = 2
  | [], t, G => .inl rfl
  | f :: r, t, G => by
    have bl := G.bld f
    simp only [Md.bldAll]
    by_cases he : (t.bld f).1.2 = 0
    · rw [if_pos he]; exact bldAll_err r bl.good
    · rw [if_neg he]
      rcases bl.res with ⟨e, _⟩ | ⟨e, _⟩
      · exact absurd e he
      · exact .inr (by rw [e])
theorem CanR.ok {r : Value} {rs : List Int} {ns : List Int} (h : CanR w s most rs r w') (ht : ∀ n ∈ rs, s.there n = true) (hb : (Md.new most).bldAll (rs.map s.tab) = ((ns, 0), t)) :
    (∃ pn a' c' ow, r = .tuple #[.pointer (some ⟨pn, 0, none⟩), .slice a' ns.length c', .nilIface] ∧ OnR w w' pn t ow ∧ LiI w w' ow a' c' ns) ∧ Ext w w' := by
  obtain ⟨h, hE⟩ := h
  refine ⟨?_, hE⟩
  rw [hb] at h
  rcases h with ⟨⟨n, hn, hf⟩, _⟩ | ⟨_, he, _⟩ | ⟨_, _, h⟩
  · rw [ht n hn] at hf; cases hf
  · exact absurd rfl he
  · exact h
theorem CanR.bad {r : Value} {rs : List Int} (h : CanR w s most rs r w') (hn : ∃ n ∈ rs, s.there n = false) : r = .tuple #[.pointer none, .slice none 0 0, errV 1] ∧ Ext w w' := by
  obtain ⟨h, hE⟩ := h
  refine ⟨?_, hE⟩
  obtain ⟨n, hm, hf⟩ := hn
  rcases h with ⟨_, h⟩ | ⟨ht, _⟩ | ⟨ht, _⟩
  · exact h
  · rw [ht n hm] at hf; cases hf
  · rw [ht n hm] at hf; cases hf
theorem CanR.err {r : Value} {rs : List Int} (h : CanR w s most rs r w') (ht : ∀ n ∈ rs, s.there n = true) (he : ((Md.new most).bldAll (rs.map s.tab)).1.2 = 2) : r = .tuple #[.pointer none, .slice none 0 0, errV 2] ∧ Ext w w' := by
  obtain ⟨h, hE⟩ := h
  refine ⟨?_, hE⟩
  rw [he] at h
  rcases h with ⟨⟨n, hn, hf⟩, _⟩ | ⟨_, _, h⟩ | ⟨_, h0, _⟩
  · rw [ht n hn] at hf; cases hf
  · exact h
  · cases h0
theorem up14_calls (w : World) : CallsR Try.prog 43 #[] w fun r w' => r = .bool true ∧ Ext w w' := by
  have G3 : (Md.new 3).Good [] := Md.Good.start (by decide) (by decide)
  have G5 : (Md.new 5).Good [] := Md.Good.start (by decide) (by decide)
  have m5 : (Md.new 5).a.many = 0 := by decide
  have r5 : (Md.new 5).room = 5 := by decide
  have hb : (Md.new 5).bldAll ([0, 1].map (Md.new 3).tab) = (([0, 1], 0), Md.new 5) := by
    simp only [List.map_cons, List.map_nil]
    rw [Md.tab_den (Den.c0 (s := Md.new 3)), Md.tab_den (Den.c1 (s := Md.new 3))]
    simp only [Md.bldAll]
    rw [G5.bld_ex (Den.c0)]
    simp only [if_true]
    rw [G5.bld_ex (Den.c1)]
    simp only [if_true]
  have t2 : (Md.new 3).there 2 = false := by decide
  have c0 := fun u (hE : Ext w u) => oneNew (M := 3) (by decide) (by decide) hE
  have cA := fun p u o a (h : OnR w u p (Md.new 3) o) (hI : InI u a [0, 1]) => (canon_calls (c := 2) (most := 5) (by decide) (by decide) h.sti G3 hI (by simp) (fun n hn => by simp at hn; omega)).mono fun r w' h => h.ok (fun n hn => by simp at hn; rcases hn with rfl | rfl <;> rfl) hb
  have cB := fun p u o a (h : OnR w u p (Md.new 3) o) (hI : InI u a [2]) => (canon_calls (c := 1) (most := 5) (by decide) (by decide) h.sti G3 hI (by simp) (fun n hn => by simp at hn; omega)).mono fun r w' h => h.bad ⟨2, by simp, t2⟩
  have code1 := code_sure 1 (by decide) (by decide)
  clear hb t2 G3
  refine en0 Try.func43 Try.results43 mixed [] ?_
  intro e0
  refine w_ fun d => ?_
  refine (c0 _ ext_).mono ?_
  rintro _ w1 ⟨p, rfl, h1⟩
  obtain ⟨o1, k1⟩ := h1.to
  clear h1 c0
  refine w_ fun d => ?_
  refine at_c fun v hv => ?_
  have hE : Ext w1 v := by rw [hv]; exact ext_
  have hI : InI v (some ⟨w1.heap.size, 0, none⟩) [0, 1] := (SlC.made (l := ints [0, 1]) (by rw [hv]; exact hA rfl) (by simp)).inp
  clear hv
  have k1v := k1.up hE
  refine (cA _ _ _ _ k1v hI).mono ?_
  rintro _ w2 ⟨⟨pn, a', c', ow, rfl, hN, hL⟩, hE2⟩
  have k2 := k1v.up hE2
  clear cA hI k1 k1v hE
  simp only [List.length_cons, List.length_nil]
  refine w_ fun d => ?_
  refine at_c fun v2 hv => ?_
  have hE3 : Ext w2 v2 := by rw [hv]; exact ext_
  have hI : InI v2 (some ⟨w2.heap.size, 0, none⟩) [2] := (SlC.made (l := ints [2]) (by rw [hv]; exact hA rfl) (by simp)).inp
  clear hv
  have k3 := k2.up hE3
  refine (cB _ _ _ _ k3 hI).mono ?_
  rintro _ w3 ⟨rfl, hE4⟩
  have hE24 := hE3.trans hE4
  have hN4 := hN.up hE24
  have hL4 := hL.up hE24
  have hW4 := (k3.up hE4).ext
  have lv := stLive_calls hN4.sti G5.wf
  have rm := stRoom_calls hN4.sti G5.wf
  rw [m5] at lv
  rw [r5] at rm
  clear cB hI k2 k3 hN hL hE3 hE4 hE24
  refine w_ fun d => ?_
  refine at_c fun v4 hv => ?_
  have hE5 : Ext w3 v4 := by rw [hv]; exact ext_
  have hI : InI v4 (some ⟨w3.heap.size, 0, none⟩) [0, 1] := (SlC.made (l := ints [0, 1]) (by rw [hv]; exact hA rfl) (by simp)).inp
  have iq := ints_same (c := c') (d := 2) (hL4.up hE5).sl.inp hI (by simp)
  have lv5 := lv.at hE5
  have rm5 := rm.at hE5
  have hW5 := hW4.trans hE5
  simp only [List.length_cons, List.length_nil] at iq
  clear hv hI hL4 hN4 lv rm hE5 hW4
  refine qq iq fun w5 hE5 hs5 => ?_
  have lv6 := lv5.at hE5
  have rm6 := rm5.at hE5
  refine w_ fun d => ?_
  refine qq lv6 fun w6 hE6 hs6 => ?_
  have rm7 := rm6.at hE6
  refine w_ fun d => ?_
  refine qq rm7 fun w7 hE7 hs7 => ?_
  refine w_ fun d => ?_
  refine qq (code1.quiet (w := w7)) fun w8 hE8 hs8 => ?_
  refine w_ fun d => ?_
  exact ⟨rfl, ext_⟩
end
end Go.Proofs.Ytpeindhocndmnaa

namespace Go.Proofs.Ytpeindhocndmnaa
open Go Go.Bx
set_option linter.unusedSimpArgs false
set_option linter.unusedVariables false
set_option maxRecDepth 100000
set_option maxHeartbeats 4000000
attribute [local irreducible] X XO XE XF XD XW thenX inX retX kN CallsR
section
variable {w : World}
theorem plain8_calls (w : World) : CallsR Try.prog 49 #[] w fun r w' => r = aI plain ∧ Ext w w' := by
  refine en0 Try.func49 Try.results49 mixed [] ?_
  intro e0
  refine w_ fun d => ?_
  exact ⟨rfl, ext_⟩
theorem canonSmall_calls {l : List Fun8} {sl : List Int} {a c : Option Addr} {ca cc : Nat} (hI : Inp w 4 a (l.map rowF)) (hK : InI w c sl) (hl : l.length ≤ 140737488351232) (hk : sl.length ≤ 140737488351232) :
    CallsR Try.prog 7 #[.slice a l.length ca, .slice c sl.length cc] w fun r w' => r = .bool true ∧ Ext w w' := by
  have c0 := fun W u (hE : Ext W u) => oneNew (M := 2000) (by decide) (by decide) hE
  have up := up14_calls
  by_cases hno : l.length ≤ 6 ∧ sl.length ≤ 30
  rotate_left
  · have hno2 : (6 : Int) < l.length ∨ ¬ (6 : Int) < l.length ∧ (30 : Int) < sl.length := by omega
    clear hI hK hno
    rcases hno2 with hn1 | ⟨hn1, hn2⟩
    · refine en2 Try.func7 Try.results7 mixed [] ?_
      intro e0 h0 h1
      refine w_ fun d => ?_
      refine (up _).mono ?_
      rintro _ u1 ⟨rfl, hE1⟩
      refine w_ fun d => ?_
      refine (c0 _ _ (Ext.refl _)).mono ?_
      rintro _ w1 ⟨ps, rfl, h1⟩
      have hE2 := h1.world
      clear up c0 h1
      refine w_ fun d => ?_
      exact ⟨rfl, ext_⟩
    · refine en2 Try.func7 Try.results7 mixed [] ?_
      intro e0 h0 h1
      refine w_ fun d => ?_
      refine (up _).mono ?_
      rintro _ u1 ⟨rfl, hE1⟩
      refine w_ fun d => ?_
      refine (c0 _ _ (Ext.refl _)).mono ?_
      rintro _ w1 ⟨ps, rfl, h1⟩
      have hE2 := h1.world
      clear up c0 h1
      refine w_ fun d => ?_
      exact ⟨rfl, ext_⟩
  obtain ⟨hl6, hk30⟩ := hno
  have hl6' : ¬ (6 : Int) < l.length := by omega
  have hk30' : ¬ (30 : Int) < sl.length := by omega
  refine en2 Try.func7 Try.results7 mixed [] ?_
  intro e0 h0 h1
  refine w_ fun d => ?_
  refine (up _).mono ?_
  rintro _ u1 ⟨rfl, hE1⟩
  have hEu1 : Ext w u1 := Ext.trans (by exact ext_) hE1
  refine w_ fun d => ?_
  refine (c0 u1 _ ext_).mono ?_
  rintro _ w1 ⟨ps, rfl, h1⟩
  obtain ⟨o1, k1⟩ := h1.to
  have R0 : Ro (Md.new 2000) [] 2000 := Ro.new (by decide) (by decide)
  clear c0 up hE1 h1
  refine w_ fun d => ?_
  refine lo_ (fun _ e u => ∃ (i : Nat) (s : Md) (own : Nat → Nat), i ≤ sl.length ∧ e 8 = .int .i64 i ∧ OnR u1 u ps s own ∧ Ro s [] 2000) (fun e _ => sl.length - nat (e 8)) ?_ ?_
  · exact ⟨0, _, o1, by omega, eA rfl, k1.up ext_, R0⟩
  clear k1 R0
  rintro e u hf ⟨i, s, own, hi, h8, hO, R⟩
  have hEu := hEu1.trans hO.ext
  by_cases hlt : i < sl.length
  · obtain ⟨x, hx⟩ : ∃ x, sl[i]? = some x := ⟨sl[i], List.getElem?_eq_getElem hlt⟩
    rcases InI.at (Inp.ext hK hEu) with rfl | ⟨b1, o1, cs1, E1, fz1, rfl, hb1, hat1⟩
    · simp at hlt
    have hat1 := hat1 i x hx
    have pk := pick_sure x 7 (by decide) (by decide)
    have y0 : 0 ≤ x % 7 := Int.emod_nonneg _ (by decide)
    have y6 : x % 7 ≤ 6 := by have := Int.emod_lt_of_pos x (show (0 : Int) < 7 by decide); omega
    have hltk : (i : Int) < sl.length := by omega
    generalize x % 7 = y at pk y0 y6
    have bI := fun u (h : OnR u1 u ps s own) => h.call (stSwap_calls h.sti R.good y)
    obtain ⟨e1, R1⟩ := swap_empty R y0 y6
    obtain ⟨⟨ec, sN⟩, hR⟩ : ∃ R, s.swap y = R := ⟨_, rfl⟩
    rw [hR] at bI e1 R1
    dsimp only at bI e1 R1
    subst e1
    rw [errV0] at bI
    clear R hK hI hx hR hEu
    refine w_ fun d => ?_
    refine qq (pk.quiet (w := u)) fun v1 hE1 hs1 => ?_
    refine w_ fun d => ?_
    refine (bI _ ((hO.up hE1).up ext_)).mono ?_
    rintro _ u2 ⟨rfl, own2, hO2, _⟩
    clear bI hO
    refine w_ fun d => ?_
    exact ⟨⟨i + 1, sN, own2, by omega, eA rfl, hO2.up ext_, R1⟩, mA⟩
  obtain rfl : i = sl.length := by omega
  clear hK hlt hEu
  refine w_ fun d => ?_
  refine lo_ (fun _ e u => ∃ (i : Nat) (s : Md) (own : Nat → Nat) (ar : Option Addr) (cr : Nat) (rl : List Int), i ≤ l.length ∧ e 9 = .int .i64 i ∧ e 7 = .slice ar rl.length cr ∧
    OnR u1 u ps s own ∧ Ro s (l.take i) 2000 ∧ LiI u1 u own ar cr rl ∧ rl.length ≤ i ∧ Box (Pairs s rl (l.take i))) (fun e _ => l.length - nat (e 9)) ?_ ?_
  · exact ⟨0, s, own, none, 0, [], by omega, eA rfl, eA rfl, hO.up ext_, R, LiI.nil _ _ _, by simp, ⟨Pairs.nil _⟩⟩
  clear hO R
  rintro e2 u2 hf2 ⟨i, s, own, ar, cr, rl, hi, h9, h7, hO, R, hR, hrl, ⟨hP⟩⟩
  have hEu := hEu1.trans hO.ext
  by_cases hlt : i < l.length
  · obtain ⟨f, hfi⟩ : ∃ f, l[i]? = some f := ⟨l[i], List.getElem?_eq_getElem hlt⟩
    obtain ⟨g, o, ct, E, fz, rfl, hg, hsz, hex⟩ := funAt (Inp.ext hI hEu) hfi
    have hltl : (i : Int) < l.length := by omega
    have gl := lt_of_heap hg
    have hm : (sizeF s.ord (l.take i ++ [f]) : Int) ≤ 2000 := R.size (by rw [List.length_take]; omega)
    clear hI
    refine w_ fun d => ?_
    refine (onBuild (hO.up (by exact ext_)) R f hm).mono ?_
    rintro _ u3 ⟨n, s2, own2, rfl, hO2, hS2, R2, l2, d2⟩
    have hSw : Sw own u2 own2 u3 := (Sw.of_ext (by exact ext_)).trans hS2
    have hR2 := hR.sw hSw
    replace hP := (hP.mono fun _ _ d => d.mono l2).snoc d2
    rw [show l.take i ++ [f] = l.take (i + 1) by rw [List.take_add_one, hfi]; rfl] at R2 hP
    obtain ⟨ar3, cr3, w3, hr3, hR3, hO3, hC3, hB3⟩ := hR2.push hO2 (by omega) n
    have hl3 : (rl ++ [n]).length = rl.length + 1 := by simp
    clear hO hS2 hSw hR hR2 hO2 hC3 hB3 hg gl hex hsz R hm hEu hfi
    refine w_ fun d => ?_
    exact ⟨⟨i + 1, s2, own2, ar3, cr3, rl ++ [n], by omega, eA rfl, by rw [hl3]; exact eA rfl, hO3.up ext_, R2, hR3.up ext_, by omega, ⟨hP⟩⟩, mA⟩
  obtain rfl : i = l.length := by omega
  rw [List.take_length] at R hP
  clear hlt
  have hI2 := Inp.ext hI hEu
  have G := R.good
  have p8 : Sure Try.prog 49 #[] (aI plain) := plain8_calls
  have hn77 : sizeF plain l ≤ 77 * l.length := size_77s (s := Md.new 2000) (Md.Good.start (by decide) (by decide)).wf.ord.once l
  obtain ⟨N, hN⟩ : ∃ N, sizeF plain l = N := ⟨_, rfl⟩
  have sq : Quiet Try.prog 48 #[.slice a l.length ca, aI plain] u2 (.int .i64 (N : Nat)) := fun v hv => by
    rw [← hN]; exact refSize_calls l plain rfl (by omega) _ _ v (Inp.ext hI2 hv)
  rw [hN] at hn77
  have hth : ∀ n ∈ rl, s.there n = true := fun n hn => by obtain ⟨f, _, d⟩ := hP.left n hn; exact d.isThere
  have hnb : ∀ n ∈ rl, n ≤ 9223372036854775807 := fun n hn => thr_rng G.wf (hth n hn)
  have hmap : rl.map s.tab = l := by
    apply List.ext_getElem?
    intro j
    by_cases hj : j < l.length
    · have hj2 : j < rl.length := by rw [hP.1]; exact hj
      rw [List.getElem?_map, List.getElem?_eq_getElem hj2, List.getElem?_eq_getElem hj]
      exact congrArg some (Md.tab_den (hP.2 j _ _ (List.getElem?_eq_getElem hj2) (List.getElem?_eq_getElem hj)))
    · rw [List.getElem?_eq_none (by rw [List.length_map, hP.1]; omega), List.getElem?_eq_none (by omega)]
  have R0 : Ro (Md.new (N : Int)) [] N := Ro.new (by omega) (by omega)
  have hok := R0.bldAll_ok l (by rw [List.nil_append]; show ((sizeF plain l : Nat) : Int) ≤ N; rw [hN]; omega)
  obtain ⟨R1, hln, hdn⟩ := R0.bldAll l hok
  have hle := (Md.Good.bldAll l R0.good).2.1
  have hcn : ∀ u o1, OnR u1 u ps s o1 → InI u ar rl → CallsR Try.prog 46 #[.pointer (some ⟨ps, 0, none⟩), .int .i64 N, .slice ar rl.length cr] u fun r w' => CanR u s N rl r w' := fun u o1 h hI => canon_calls (by omega) (by omega) h.sti G hI (by omega) hnb
  obtain ⟨⟨⟨ns, er⟩, t⟩, hB⟩ : ∃ B, (Md.new (N : Int)).bldAll l = B := ⟨_, rfl⟩
  rw [hB] at hok R1 hln hdn hle
  dsimp only at hok R1 hln hdn hle
  subst hok
  rw [List.nil_append] at R1
  have hto : t.ord = plain := hle.ord
  have Gt := R1.good
  have htm : t.a.many = N := by
    rw [R1.full.size Gt fun f hf => by
      obtain ⟨j, hj, e⟩ := List.getElem_of_mem hf
      exact ⟨ns[j]'(by omega), hdn j _ f (List.getElem?_eq_getElem (by omega)) (by rw [List.getElem?_eq_getElem hj, e])⟩, hto, hN]
  have htr : t.room = 0 := by unfold Md.room; rw [htm, R1.most]; omega
  have hB' : (Md.new (N : Int)).bldAll (rl.map s.tab) = ((ns, 0), t) := by rw [hmap]; exact hB
  have hcn2 : ∀ u o1, OnR u1 u ps s o1 → InI u ar rl → 1 ≤ N → CallsR Try.prog 46 #[.pointer (some ⟨ps, 0, none⟩), .int .i64 ((N : Int) - 1), .slice ar rl.length cr] u fun r w' => r = .tuple #[.pointer none, .slice none 0 0, errV 2] ∧ Ext u w' := fun u o1 h hI h1 => (canon_calls (by omega) (by omega) h.sti G hI (by omega) hnb).mono fun r w' hc => hc.err hth (by
    rw [hmap]
    have R2 : Ro (Md.new ((N : Int) - 1)) [] ((N : Int) - 1) := Ro.new (by omega) (by omega)
    rcases bldAll_err l R2.good with e | e
    · exfalso
      obtain ⟨R3, hl3, hd3⟩ := R2.bldAll l e
      rw [List.nil_append] at R3
      have h4 := R3.full.size R3.good fun f hf => by
        obtain ⟨j, hj, e⟩ := List.getElem_of_mem hf
        exact ⟨_, hd3 j _ f (List.getElem?_eq_getElem (by omega)) (by rw [List.getElem?_eq_getElem hj, e])⟩
      rw [(Md.Good.bldAll l R2.good).2.1.ord, show (Md.new ((N : Int) - 1)).ord = plain from rfl, hN] at h4
      have h5 := R3.good.wf.ar.many_le
      have h6 := R3.most
      omega
    · exact e)
  have hlk : rl.length = l.length := hP.1
  have hD1 : ∀ (j : Nat) (r : Int) (f : Fun8), rl[j]? = some r → l[j]? = some f → Den s r f := hP.2
  replace hlk : Box (rl.length = l.length) := ⟨hlk⟩
  replace hln : Box (ns.length = l.length) := ⟨hln⟩
  have htl : Box (t.a.many = N ∧ t.room = 0 ∧ t.ord = plain) := ⟨htm, htr, hto⟩
  have hcn1 := fun u o1 h hI => (hcn u o1 h hI).mono fun r w' hc => hc.ok hth hB'
  clear hB hle R0 htm htr hto hcn hB' hth R1 hmap hP hN hnb
  refine w_ fun d => ?_
  refine qq (p8.quiet (w := u2)) fun v1 hE1 hs1 => ?_
  have sq1 := sq.at hE1
  refine w_ fun d => ?_
  refine qq sq1 fun v2 hE2 hs2 => ?_
  have hE12 := hE1.trans hE2
  clear sq1 sq p8
  refine w_ fun d => ?_
  refine (hcn1 _ own ((hO.up hE12).up ext_) ((hR.up hE12).up (by exact ext_)).sl.inp).mono ?_
  rintro _ v3 ⟨⟨pn, an, cn, ow, rfl, hN3, hL3⟩, hE3⟩
  have hE3w : Ext u2 v3 := hE12.trans (Ext.trans (by exact ext_) hE3)
  have hO3 := hO.up hE3w
  have hR3 := hR.up hE3w
  clear hcn1 hO hR hE12 hE1 hE2 hE3 hE3w hEu hI2
  obtain ⟨hln⟩ := hln
  refine w_ fun d => ?_
  refine lo_ (fun _ e u => ∃ i : Nat, i ≤ l.length ∧ e 16 = .int .i64 i ∧ Ext v3 u) (fun e _ => l.length - nat (e 16)) ?_ ?_
  · exact ⟨0, by omega, eA rfl, ext_⟩
  rintro e3 x hf3 ⟨i, hi, h16, hEx⟩
  have hOx := hO3.up hEx
  have hRx := hR3.up hEx
  have hNx := hN3.up hEx
  have hLx := hL3.up hEx
  have hEx2 := hEu1.trans hOx.ext
  by_cases hlt : i < l.length
  · obtain ⟨hlk⟩ := hlk
    obtain ⟨r, hr⟩ : ∃ r, rl[i]? = some r := ⟨rl[i]'(by omega), List.getElem?_eq_getElem (by omega)⟩
    obtain ⟨f, hfi⟩ : ∃ f, l[i]? = some f := ⟨l[i], List.getElem?_eq_getElem hlt⟩
    obtain ⟨n, hni⟩ : ∃ n, ns[i]? = some n := ⟨ns[i]'(by omega), List.getElem?_eq_getElem (by omega)⟩
    obtain ⟨g, o, ct, E, fz, rfl, hg, hsz, hex⟩ := funAt (Inp.ext hI hEx2) hfi
    obtain ⟨g1, cur1, rfl, hg1, hc1, hlt1, hat1⟩ := hRx.sl.at (i := i) (v := .int .i64 r) (by unfold ints; rw [List.getElem?_map, hr]; rfl)
    obtain ⟨g2, cur2, rfl, hg2, hc2, hlt2, hat2⟩ := hLx.sl.at (i := i) (v := .int .i64 n) (by unfold ints; rw [List.getElem?_map, hni]; rfl)
    rw [List.length_map] at hc1 hc2
    have t1 := rdTop_calls Gt hNx.sti (hdn i n f hni hfi)
    have t2 := rdTop_calls G hOx.sti (hD1 i r f hr hfi)
    have lg := lt_of_heap hg
    have lg1 := lt_of_heap hg1
    have lg2 := lt_of_heap hg2
    have hil : (i : Int) < l.length := by omega
    have hil1 : (i : Int) < rl.length := by omega
    rw [hln] at hc2
    clear hlk hdn hD1 hr hfi hni hI hlt1 hlt2 hOx hRx hNx hLx hO3 hR3 hN3 hL3 hcn2 Gt G htl
    refine w_ fun d => ?_
    intro y hEy hsy
    refine w_ fun d => ?_
    exact ⟨⟨i + 1, by omega, eA rfl, (hEx.trans hEy).trans ext_⟩, mA⟩
  obtain rfl : i = l.length := by omega
  have lv := stLive_calls hNx.sti Gt.wf
  have rm := stRoom_calls hNx.sti Gt.wf
  have od := stOrder_calls hNx.sti
  obtain ⟨⟨htm, htr, hto⟩⟩ := htl
  rw [htm] at lv
  rw [htr] at rm
  rw [hto] at od
  have p8 : Sure Try.prog 49 #[] (aI plain) := plain8_calls
  have code2 := code_sure 2 (by decide) (by decide)
  clear htm htr hto hdn hD1 hNx hLx hN3 hL3 hO3 hR3 Gt hI hlt hlk hln
  refine w_ fun d => ?_
  refine qq lv fun y1 hE1 hs1 => ?_
  have rm1 := rm.at hE1
  refine w_ fun d => ?_
  refine qq rm1 fun y2 hE2 hs2 => ?_
  have hE12 := hE1.trans hE2
  have od2 := od.at hE12
  refine w_ fun d => ?_
  refine qq od2 fun y3 hE3 hs3 => ?_
  have hE13 := hE12.trans hE3
  refine w_ fun d => ?_
  refine qq (p8.quiet (w := y3)) fun y4 hE4 hs4 => ?_
  have hE14 := hE13.trans hE4
  clear lv rm od rm1 od2 hE12 hE13
  have nq : ∀ (x y : Operand) (w : World), binR Try.prog .neq 36 x y (aI plain) (aI plain) w = .ok (.bool false) w := fun x y w => by
    obtain ⟨oc, hoc⟩ := ordC (ord := plain) rfl
    rw [hoc.agg]; exact aI_neq hoc
  have hOy := hOx.up hE14
  have hRy := hRx.up hE14
  clear hOx hRx hEx hEx2
  by_cases h0N : N = 0
  · subst h0N
    have hW := hEu1.trans hOy.ext
    clear hOy hRy hcn2
    refine w_ fun d => ?_
    exact ⟨rfl, ext_⟩
  have hN0 : ((N : Int) == 0) = false := by simpa using h0N
  refine w_ fun d => ?_
  refine (hcn2 _ own (hOy.up ext_) (hRy.up (by exact ext_)).sl.inp (by omega)).mono ?_
  rintro _ y5 ⟨rfl, hE5⟩
  have hW := (hEu1.trans hOy.ext).trans (Ext.trans (by exact ext_) hE5)
  clear hOy hRy hcn2
  refine w_ fun d => ?_
  refine qq (code2.quiet (w := y5)) fun y6 hE6 hs6 => ?_
  refine w_ fun d => ?_
  exact ⟨rfl, ext_⟩
end
end Go.Proofs.Ytpeindhocndmnaa

namespace Go.Proofs.Ytpeindhocndmnaa
open Go Go.Bx
set_option linter.unusedSimpArgs false
set_option linter.unusedVariables false
set_option maxRecDepth 100000
set_option maxHeartbeats 4000000
attribute [local irreducible] X XO XE XF XD XW thenX inX retX kN CallsR
section
variable {W w w' : World} {p ps : Nat} {own own' : Nat → Nat} {s s' : Md} {most : Int} {rs : List Int} {a : Option Addr} {cap : Nat} {l : List Int}
structure OnM (W w : World) (ps : Nat) (s : Md) (own : Nat → Nat) : Prop where
  rsi : RsI own w ps s
  low : ∀ k, own k ≠ 0 → W.heap.size ≤ k
  ext : Ext W w
theorem OnM.up (h : OnM W w ps s own) (hE : Ext w w') : OnM W w' ps s own := ⟨h.rsi.ext hE, h.low, h.ext.trans hE⟩
theorem OnM.fresh (h : OnM W w ps s own) {k : Nat} (hk : w.heap.size ≤ k) : own k = 0 := by
  cases ho : own k with
  | zero => rfl
  | succ q => have := h.rsi.lt k (by omega); omega
theorem OnM.chg {F : Nat → Prop} (h : OnM W w ps s own) (hC : Chg F w w') (hF : ∀ k, F k → own k = 0 ∧ W.heap.size ≤ k) : OnM W w' ps s own :=
  ⟨h.rsi.chg0 hC fun k hk => (hF k hk).1, h.low, hC.toExt h.ext fun k hk hf => by have := (hF k hf).2; omega⟩
theorem OnM.call {fn : FuncId} {args : Array Value} {R : Value → Prop} (h : OnM W w ps s own) (hc : CallsR Try.prog fn args w fun r w' => R r ∧ TrS own w ps s' w') :
    CallsR Try.prog fn args w fun r w' => R r ∧ ∃ own', OnM W w' ps s' own' ∧ Sw own w own' w' := by
  refine hc.mono ?_
  rintro r w' ⟨hr, a', g1, hS⟩
  have hsW := h.ext.size
  refine ⟨hr, a', ⟨g1, fun k hk => ?_, hS.ch.toExt h.ext fun k hk hf => by have := h.low k hf; omega⟩, hS⟩
  by_cases hl : k < w.heap.size
  · exact h.low k (by rw [← hS.ho k hl]; exact hk)
  · omega
theorem LiI.pushM (h : LiI W w own a cap l) (hO : OnM W w ps s own) (hm : l.length ≤ 1000000000) (x : Int) :
    ∃ a' cap' w', apR Try.prog 34 (.slice a l.length cap) (.slice (some ⟨w.heap.size, 0, none⟩) 1 1) (w.alloc (.cells #[.int .i64 x] 3)) = .ok (.slice a' (l.length + 1) cap') w' ∧
      LiI W w' own a' cap' (l ++ [x]) ∧ OnM W w' ps s own := by
  obtain ⟨a', c', w', hr, hS, hC, hs, hB⟩ := pushI h.sl hm x
  refine ⟨a', c', w', hr, ⟨hS, fun g hg => ?_⟩, hO.chg hC h.ow⟩
  rcases hB g hg with hb | ⟨hb, _⟩
  · exact h.ow g hb
  · exact ⟨hO.fresh hb, Nat.le_trans hO.ext.size hb⟩
def CanM (w : World) (s : Md) (most : Int) (rs : List Int) (r : Value) (w' : World) : Prop :=
  (((∃ n ∈ rs, s.there n = false) ∧ r = .tuple #[.pointer none, .slice none 0 0, .int .i64 1]) ∨
  ((∀ n ∈ rs, s.there n = true) ∧ ((Md.new most).bldAll (rs.map s.tab)).1.2 ≠ 0 ∧ r = .tuple #[.pointer none, .slice none 0 0, .int .i64 ((Md.new most).bldAll (rs.map s.tab)).1.2]) ∨
  ((∀ n ∈ rs, s.there n = true) ∧ ((Md.new most).bldAll (rs.map s.tab)).1.2 = 0 ∧ ∃ pn a' c' ow, r = .tuple #[.pointer (some ⟨pn, 0, none⟩), .slice a' ((Md.new most).bldAll (rs.map s.tab)).1.1.length c', .int .i64 0] ∧ OnM w w' pn ((Md.new most).bldAll (rs.map s.tab)).2 ow ∧ LiI w w' ow a' c' ((Md.new most).bldAll (rs.map s.tab)).1.1)) ∧ Ext w w'
theorem rsCanNone_calls {a : Option Addr} {c : Nat} (hm : ¬ (0 ≤ most ∧ most ≤ 20000)) : Quiet Try.prog 47 #[.pointer (some ⟨p, 0, none⟩), .int .i64 most, .slice a rs.length c] w (.tuple #[.pointer none, .slice none 0 0, .int .i64 1]) := by
  intro u hu
  clear hu
  by_cases h0' : 0 ≤ most
  · have h1' : ¬ most ≤ 20000 := fun h => hm ⟨h0', h⟩
    clear hm
    refine en3 Try.func47 Try.results47 mixed [] ?_
    intro e0 h0 h1 h2
    refine w_ fun d => ?_
    exact ⟨rfl, ext_⟩
  · clear hm
    refine en3 Try.func47 Try.results47 mixed [] ?_
    intro e0 h0 h1 h2
    refine w_ fun d => ?_
    exact ⟨rfl, ext_⟩
theorem rsCanon_calls {a : Option Addr} {c : Nat} (h0' : 0 ≤ most) (h1' : most ≤ 20000) (h : RsI own w p s) (G : s.Good []) (hI : InI w a rs) (hl : rs.length ≤ 1000) (hn : ∀ n ∈ rs, n ≤ 9223372036854775807) :
    CallsR Try.prog 47 #[.pointer (some ⟨p, 0, none⟩), .int .i64 most, .slice a rs.length c] w fun r w' => CanM w s most rs r w' := by
  have c0 := rsNew_calls most h0' h1'
  have G0 : (Md.new most).Good [] := Md.Good.start h0' h1'
  have W := G.wf
  unfold CanM
  refine en3 Try.func47 Try.results47 mixed [] ?_
  intro e0 h0 h1 h2
  refine w_ fun d => ?_
  refine lo_ (fun _ e u => ∃ i : Nat, i ≤ rs.length ∧ e 9 = .int .i64 i ∧ Ext w u ∧ Box (∀ n ∈ rs.take i, s.there n = true)) (fun e _ => rs.length - nat (e 9)) ?_ ?_
  · exact ⟨0, by omega, eA rfl, ext_, ⟨fun n hn => by simp at hn⟩⟩
  rintro e u hf ⟨i, hi, h9, hE, ⟨hth⟩⟩
  by_cases hil : i < rs.length
  · obtain ⟨n, hni⟩ : ∃ n, rs[i]? = some n := ⟨_, List.getElem?_eq_getElem hil⟩
    rcases InI.at (Inp.ext hI hE) with rfl | ⟨b1, o1', cs1, E1, fz1, rfl, hb1, hat1⟩
    · simp at hil
    have hat1 := hat1 i n hni
    have hirl : (i : Int) < rs.length := by omega
    have hmn := List.mem_of_getElem? hni
    have n1 := rsThere_calls (h.ext hE) W n (hn n hmn)
    have lb := lt_of_heap hb1
    cases hh : s.there n with
    | true =>
      rw [hh] at n1
      have hth2 : Box (∀ n ∈ rs.take (i + 1), s.there n = true) := ⟨fun m hm => by
        rw [List.take_add_one, hni] at hm
        simp at hm
        rcases hm with hm | hm
        · exact hth m hm
        · rw [hm]; exact hh⟩
      clear hth hni hI h G hn c0 G0 hmn W hh
      refine w_ fun d => ?_
      refine qq n1 fun u2 hE2 hs2 => ?_
      refine w_ fun d => ?_
      exact ⟨⟨i + 1, by omega, eA rfl, (hE.trans hE2).trans ext_, hth2⟩, mA⟩
    | false =>
      rw [hh] at n1
      have fin : ∃ n ∈ rs, s.there n = false := ⟨n, hmn, hh⟩
      clear hth hni hI h G hn c0 G0 hmn W hh
      refine w_ fun d => ?_
      refine qq n1 fun u2 hE2 hs2 => ?_
      refine w_ fun d => ?_
      exact ⟨.inl ⟨fin, rfl⟩, ext_⟩
  obtain rfl : i = rs.length := by omega
  rw [List.take_length] at hth
  clear hil hn
  obtain ⟨R, hR⟩ : ∃ R, (Md.new most).bldAll (rs.map s.tab) = R := ⟨_, rfl⟩
  rw [hR]
  refine w_ fun d => ?_
  refine (c0 _).mono ?_
  rintro _ w1 ⟨o1, pn, rfl, hI1, hlo1, hE1⟩
  have hE1w : Ext u w1 := Ext.trans (by exact ext_) hE1
  have k1 : OnM w w1 pn (Md.new most) o1 := ⟨hI1, fun k hk => by have := hlo1 k hk; have := hE.size; omega, hE.trans hE1w⟩
  clear c0 hI1 hlo1 hE1 hE1w
  refine w_ fun d => ?_
  refine lo_ (fun _ e u => ∃ (i : Nat) (t : Md) (ow : Nat → Nat) (a' : Option Addr) (c' : Nat) (ns : List Int), i ≤ rs.length ∧ e 12 = .int .i64 i ∧ e 11 = .slice a' ns.length c' ∧ OnM w u pn t ow ∧ t.Good [] ∧ LiI w u ow a' c' ns ∧ Box (BldA (Md.new most) (rs.map s.tab) i ns t) ∧ ns.length ≤ i) (fun e _ => rs.length - nat (e 12)) ?_ ?_
  · exact ⟨0, _, o1, none, 0, [], by omega, eA rfl, eA rfl, k1.up ext_, G0, LiI.nil _ _ _, ⟨BldA.start⟩, by simp⟩
  clear k1 G0 hE
  rintro e2 u2 hf2 ⟨i, t, ow, a', c', ns, hi, h50, h14, hO, Gt, hL, ⟨hB⟩, hns⟩
  have hE := hO.ext
  by_cases hil : i < rs.length
  · obtain ⟨n, hni⟩ : ∃ n, rs[i]? = some n := ⟨_, List.getElem?_eq_getElem hil⟩
    rcases InI.at (Inp.ext hI hE) with rfl | ⟨b1, o1', cs1, E1, fz1, rfl, hb1, hat1⟩
    · simp at hil
    have hat1 := hat1 i n hni
    have hirl : (i : Int) < rs.length := by omega
    have lb := lt_of_heap hb1
    have dn := G.there_den (hth n (List.mem_of_getElem? hni))
    have t1 := rsTable_calls (h.ext hE) G dn
    have hfi : (rs.map s.tab)[i]? = some (s.tab n) := by rw [List.getElem?_map, hni]; rfl
    obtain ⟨f, hf'⟩ : ∃ f, s.tab n = f := ⟨_, rfl⟩
    rw [hf'] at hfi t1
    have cb := fun v (hv : OnM w v pn t ow) => hv.call (rsBld_calls hv.rsi Gt f)
    have gb := (Gt.bld f).good
    have er : (t.bld f).1.2 = 0 ∨ (t.bld f).1.2 = 1 ∨ (t.bld f).1.2 = 2 := by
      rcases (Gt.bld f).itt.err with e | e | e <;> omega
    have hgo : (t.bld f).1.2 = 0 → Box (BldA (Md.new most) (rs.map s.tab) (i + 1) (ns ++ [(t.bld f).1.1]) (t.bld f).2) := fun he => ⟨hB.next hfi he⟩
    have hbad : (t.bld f).1.2 ≠ 0 → R.1.2 = (t.bld f).1.2 := fun he => by rw [← hR]; exact hB.bad hfi he
    generalize t.bld f = B at cb gb er hgo hbad
    obtain ⟨⟨nb, eb⟩, tb⟩ := B
    dsimp only at cb gb er hgo hbad
    clear hB hni hfi hf' dn hI h G Gt W
    refine w_ fun d => ?_
    refine qq t1 fun v1 hE1 hs1 => ?_
    refine w_ fun d => ?_
    refine (cb _ ((hO.up hE1).up ext_)).mono ?_
    rintro _ v2 ⟨rfl, ow2, hO2, hS2⟩
    have hL2 := hL.sw ((Sw.of_ext (hE1.trans ext_)).trans hS2 : Sw ow u2 ow2 v2)
    by_cases he : eb = 0
    · subst he
      have hgo' := hgo rfl
      obtain ⟨a3, c3, w3, hr3, hL3, hO3⟩ := hL2.pushM hO2 (by omega) nb
      have hl3 : (ns ++ [nb]).length = ns.length + 1 := by simp
      clear hgo hbad hL hO cb hE hS2 hL2 hO2
      refine w_ fun d => ?_
      exact ⟨⟨i + 1, tb, ow2, a3, c3, ns ++ [nb], by omega, eA rfl, by rw [hl3]; exact eA rfl, hO3.up ext_, gb, hL3.up ext_, hgo', by omega⟩, mA⟩
    · have hRe := hbad he
      have hEw := hO2.ext
      have heb : (eb == 0) = false := by simpa using he
      clear hgo hbad hL hO cb hE hS2 hL2 hO2 er
      refine w_ fun d => ?_
      exact ⟨.inr (.inl ⟨hth, by rw [hRe]; exact he, by rw [hRe]⟩), ext_⟩
  obtain rfl : i = rs.length := by omega
  rw [← List.length_map (f := s.tab)] at hB
  have hD := hB.done
  rw [hR] at hD
  subst hD
  clear hB hI h G W
  refine w_ fun d => ?_
  exact ⟨.inr (.inr ⟨hth, rfl, pn, a', c', ow, rfl, hO.up ext_, hL.up ext_⟩), ext_⟩
end
end Go.Proofs.Ytpeindhocndmnaa

namespace Go.Proofs.Ytpeindhocndmnaa
open Go Go.Bx
set_option linter.unusedSimpArgs false
set_option linter.unusedVariables false
set_option maxRecDepth 100000
set_option maxHeartbeats 4000000
attribute [local irreducible] X XO XE XF XD XW thenX inX retX kN CallsR
section
variable {w : World} {p : Nat} {own : Nat → Nat} {s : Md}
def nodesL (s : Md) (l : List Int) : List Int := l.map fun x => pickN s x (decide (x < 0))
theorem nodesL_succ {l : List Int} {i : Nat} {x : Int} (h : l[i]? = some x) : nodesL s (l.take (i + 1)) = nodesL s (l.take i) ++ [pickN s x (decide (x < 0))] := by
  unfold nodesL
  rw [List.take_add_one, h, List.map_append]; rfl
theorem nodes_calls00 {a : Option Addr} {c : Nat} {l : List Int} (h : RsI own w p s) (W : s.WF) (hI : InI w a l) (hl : l.length ≤ 1000) :
    CallsR Try.prog 45 #[.pointer (some ⟨p, 0, none⟩), .slice a l.length c] w fun r w' => ∃ a' c', r = .slice a' (nodesL s l).length c' ∧ SlC w' 3 a' c' (ints (nodesL s l)) ∧ (∀ g, blk a' = some g → w.heap.size ≤ g) ∧ Ext w w' := by
  have nd := fun u (hE : Ext w u) n raw => lnode_calls (h.ext hE) W n raw
  clear h
  refine en2 Try.func45 Try.results45 mixed [] ?_
  intro e0 h0 h1
  refine w_ fun d => ?_
  refine lo_ (fun _ e u => ∃ (i : Nat) (a' : Option Addr) (c' : Nat), i ≤ l.length ∧ e 6 = .int .i64 i ∧ e 5 = .slice a' (nodesL s (l.take i)).length c' ∧ SlC u 3 a' c' (ints (nodesL s (l.take i))) ∧ (∀ g, blk a' = some g → w.heap.size ≤ g) ∧ Ext w u) (fun e _ => l.length - nat (e 6)) ?_ ?_
  · exact ⟨0, none, 0, by omega, eA rfl, eA rfl, SlC.nil _ _, (fun g h => by cases h), ext_⟩
  rintro e u hf ⟨i, a', c', hi, h6, h5, hS, hn, hE⟩
  by_cases hlt : i < l.length
  rotate_left
  · obtain rfl : i = l.length := by omega
    rw [List.take_length] at h5 hS
    clear nd hlt hI
    refine w_ fun d => ?_
    exact ⟨a', c', rfl, hS.ext ext_, hn, ext_⟩
  obtain ⟨x, hx⟩ : ∃ x, l[i]? = some x := ⟨l[i], List.getElem?_eq_getElem hlt⟩
  rcases InI.at (Inp.ext hI hE) with rfl | ⟨b1, o1, cs1, E1, fz1, rfl, hb1, hat1⟩
  · simp at hlt
  have hat1 := hat1 i x hx
  have hltk : (i : Int) < l.length := by omega
  have lb := lt_of_heap hb1
  have hsc := nodesL_succ (s := s) hx
  have n1 := nd u hE x (decide (x < 0))
  obtain ⟨L, hL⟩ : ∃ L, nodesL s (l.take i) = L := ⟨_, rfl⟩
  obtain ⟨y, hy⟩ : ∃ y, pickN s x (decide (x < 0)) = y := ⟨_, rfl⟩
  have hLl : L.length ≤ 1000 := by rw [← hL]; unfold nodesL; rw [List.length_map, List.length_take]; omega
  rw [hy] at n1 hsc
  rw [hL] at hsc h5 hS
  clear nd hI hx hL hy
  refine w_ fun d => ?_
  refine s_draw (XD_ext ?_)
  refine de_ ?_
  refine xe2w fun w5 hE5 => ?_
  refine krA ?_
  refine kv ?_
  refine de_ ?_
  refine xe2w fun w6 hE6 => ?_
  have hE56 : Ext w5 w6 := Ext.trans (by exact ext_) hE6
  have hI6 : InI w6 (some ⟨w5.heap.size, 0, none⟩) [y] := (SlC.made (l := ints [y]) (hE6.at (hA rfl)) (by simp)).inp
  have hS6 := (hS.ext hE5).ext hE56
  obtain ⟨a7, c7, w7, hr7, hS7, hC7, hB7⟩ := SlC.appI hS6 (c := 1) hI6 (by simp; omega)
  have hl7 : (L ++ [y]).length = L.length + 1 := by simp
  have hw6 := (hE.trans hE5).trans hE56
  have hw7 : Ext w w7 := hC7.toExt hw6 fun g hg hb => by have := hn g hb; omega
  have hn7 : ∀ g, blk a7 = some g → w.heap.size ≤ g := fun g hg => by
    rcases hB7 g hg with h | ⟨h, _⟩
    · exact hn g h
    · have := hw6.size; omega
  rw [hl7] at hr7
  simp only [show ([y] : List Int).length = 1 from rfl] at hr7
  refine krA ?_
  refine kv ?_
  refine de_ ?_
  refine xn_ fun w8 hE8 hs8 => ?_
  clear hS6 hC7 hB7 hS hE56 hE6
  refine w_ fun d => ?_
  exact ⟨⟨i + 1, a7, c7, by omega, eA rfl, by rw [hsc, hl7]; exact eA rfl, by rw [hsc]; exact (hS7.ext hE8).ext ext_, hn7, (hw7.trans hE8).trans ext_⟩, mA⟩
end
end Go.Proofs.Ytpeindhocndmnaa

namespace Go.Proofs.Ytpeindhocndmnaa
open Go Go.Bx
set_option linter.unusedSimpArgs false
set_option linter.unusedVariables false
set_option maxRecDepth 100000
set_option maxHeartbeats 4000000
attribute [local irreducible] X XO XE XF XD XW thenX inX retX kN CallsR
section
variable {w : World}
theorem pair_pri {W w0 w1 w2 w3 : World} {pn pm : Nat} {t : Md} {o oM : Nat → Nat} (hN : OnR w0 w1 pn t o) (hW : Ext W w0) (hE : Ext w1 w2) (hM : OnM w2 w3 pm t oM) (hE3 : Ext w1 w3) : PrI W w3 pn pm t t := by
  refine ⟨o, oM, hN.sti.ext hE3, hM.rsi, fun k hk => ?_, fun k hk => ?_, fun k hk => ?_, (hW.trans hN.ext).trans hE3⟩
  · cases hm : oM k with
    | zero => rfl
    | succ q =>
      have h1 := hN.sti.lt k hk
      have h2 := hM.low k (by omega)
      have h3 := hE.size
      omega
  · have := hN.low k hk; have := hW.size; omega
  · have := hM.low k hk; have := ((hW.trans hN.ext).trans hE).size; omega
theorem canonTells_calls (most room : Int) {l : List Fun8} {k rs : List Int} {a b c : Option Addr} {ca cb cc : Nat} (hI : Inp w 4 a (l.map rowF)) (hK : InI w b k) (hQ : InI w c rs) (hok : ∀ n ∈ rs, okI n) (hl : l.length ≤ 140737488351232) (hk : k.length ≤ 140737488351232) (hq : rs.length ≤ 140737488351232) :
    CallsR Try.prog 6 #[.int .i64 most, .slice a l.length ca, .slice b k.length cb, .slice c rs.length cc, .int .i64 room] w fun r w' => r = .bool true ∧ Ext w w' := by
  have up := up14_calls
  by_cases hno : ¬ (0 ≤ most ∧ most ≤ 20000) ∨ 6 < l.length ∨ 30 < k.length
  · have b0 := fun w => built_none (a := a) (b := b) (ca := ca) (cb := cb) (w := w) most hno hl hk
    clear hI hK hQ hok hno
    refine en5 Try.func6 Try.results6 mixed [] ?_
    intro e0 h0 h1 h2 h3 h4
    refine w_ fun d => ?_
    refine (up _).mono ?_
    rintro _ w1 ⟨rfl, hE1⟩
    refine w_ fun d => ?_
    refine (b0 _).mono ?_
    rintro _ w2 ⟨rfl, hE2⟩
    clear up b0
    refine w_ fun d => ?_
    exact ⟨rfl, ext_⟩
  have hyes : (0 ≤ most ∧ most ≤ 20000) ∧ l.length ≤ 6 ∧ k.length ≤ 30 := by
    refine ⟨Classical.byContradiction fun h => hno (.inl h), ?_, ?_⟩
    · have : ¬ 6 < l.length := fun h => hno (.inr (.inl h)); omega
    · have : ¬ 30 < k.length := fun h => hno (.inr (.inr h)); omega
  clear hno
  obtain ⟨⟨m0, m1⟩, l6, k30⟩ := hyes
  have b0 := fun w hI hK => built_calls (a := a) (b := b) (ca := ca) (cb := cb) (w := w) most m0 m1 l6 k30 hI hK
  by_cases hqn : rs.length ≤ 20
  rotate_left
  · have hqn' : (20 : Int) < rs.length := by omega
    clear hQ hok hqn
    refine en5 Try.func6 Try.results6 mixed [] ?_
    intro e0 h0 h1 h2 h3 h4
    refine w_ fun d => ?_
    refine (up _).mono ?_
    rintro _ w1 ⟨rfl, hE1⟩
    have hE1w : Ext w w1 := Ext.trans (by exact ext_) hE1
    refine w_ fun d => ?_
    refine (b0 _ (Inp.ext hI hE1w) (Inp.ext hK hE1w)).mono ?_
    rintro _ w2 ⟨ps, pm, s, rfl, hP, G⟩
    have hE2 := hP.world
    clear up b0 hP G hI hK
    refine w_ fun d => ?_
    exact ⟨rfl, ext_⟩
  have hqn' : ¬ (20 : Int) < rs.length := by omega
  refine en5 Try.func6 Try.results6 mixed [] ?_
  intro e0 h0 h1 h2 h3 h4
  refine w_ fun d => ?_
  refine (up _).mono ?_
  rintro _ w1 ⟨rfl, hE1⟩
  have hE1w : Ext w w1 := Ext.trans (by exact ext_) hE1
  refine w_ fun d => ?_
  refine (b0 _ (Inp.ext hI hE1w) (Inp.ext hK hE1w)).mono ?_
  rintro _ w2 ⟨ps, pm, s, rfl, hP, G⟩
  have hE2w := hE1w.trans hP.world
  obtain ⟨oM, hM⟩ := hP.m
  have nw := fun u (hE : Ext w2 u) => nodes_calls00 (c := cc) (hM.ext hE) G.wf (Inp.ext (Inp.ext hQ hE2w) hE) (by omega)
  have hok2 : ∀ n ∈ nodesL s rs, n ≤ 9223372036854775807 := fun n hn => by
    obtain ⟨x, hx, rfl⟩ := List.mem_map.1 hn
    exact pickN_le G.wf (hok x hx).2
  have hl2 : (nodesL s rs).length ≤ 20 := by unfold nodesL; rw [List.length_map]; omega
  obtain ⟨L, hL⟩ : ∃ L, nodesL s rs = L := ⟨_, rfl⟩
  rw [hL] at nw hok2 hl2
  clear hI hK hQ hok up b0 hL hM hE1
  refine w_ fun d => ?_
  refine (nw _ ext_).mono ?_
  rintro _ w3 ⟨aL, cL, rfl, hS3, _, hE3⟩
  have hP3 := hP.ext (Ext.trans (by exact ext_) hE3)
  clear nw hP hE3 hE2w
  obtain ⟨oI, hSI⟩ := hP3.i
  obtain ⟨oM, hSM⟩ := hP3.m
  have hPw := hE1w.trans hP3.world
  have sm := fun u (hE : Ext w3 u) => same_calls (hP3.ext hE) G
  have code1 := code_sure 1 (by decide) (by decide)
  by_cases hr : 0 ≤ room ∧ room ≤ 20000
  rotate_left
  · have q1 := canNone_calls (p := ps) (rs := L) (a := aL) (c := cL) (w := w3) hr
    have q2 := rsCanNone_calls (p := pm) (rs := L) (a := aL) (c := cL) (w := w3) hr
    clear hr hS3 hSI hSM hP3 hok2
    refine w_ fun d => ?_
    refine qq q1 fun u1 hE1 hs1 => ?_
    have q3 := q2.at hE1
    refine w_ fun d => ?_
    refine qq q3 fun u2 hE2 hs2 => ?_
    have hE12 := hE1.trans hE2
    refine w_ fun d => ?_
    refine qq (code1.quiet (w := u2)) fun u3 hE3 hs3 => ?_
    refine w_ fun d => ?_
    refine (sm _ ((hE12.trans hE3).trans ext_)).mono ?_
    rintro _ u4 ⟨rfl, hE4⟩
    clear q1 q2 q3 sm
    refine w_ fun d => ?_
    exact ⟨rfl, ext_⟩
  obtain ⟨r0, r1⟩ := hr
  have q1 := fun u (hE : Ext w3 u) => canon_calls (c := cL) r0 r1 (hSI.ext hE) G ((hS3.ext hE).inp) (by omega) hok2
  have q2 := fun u (hE : Ext w3 u) => rsCanon_calls (c := cL) r0 r1 (hSM.ext hE) G ((hS3.ext hE).inp) (by omega) hok2
  clear hS3 hSI hSM
  have key : (∃ e, e ≠ 0 ∧ 0 ≤ e ∧ e ≤ 8 ∧ (∀ u, Ext w3 u → CallsR Try.prog 46 #[.pointer (some ⟨ps, 0, none⟩), .int .i64 room, .slice aL L.length cL] u fun r w' => r = .tuple #[.pointer none, .slice none 0 0, errV e] ∧ Ext u w') ∧
      (∀ u, Ext w3 u → CallsR Try.prog 47 #[.pointer (some ⟨pm, 0, none⟩), .int .i64 room, .slice aL L.length cL] u fun r w' => r = .tuple #[.pointer none, .slice none 0 0, .int .i64 e] ∧ Ext u w')) ∨
    (∃ ns t, t.Good [] ∧ ns.length ≤ 1000 ∧ (∀ u, Ext w3 u → CallsR Try.prog 46 #[.pointer (some ⟨ps, 0, none⟩), .int .i64 room, .slice aL L.length cL] u fun r w' => (∃ pn a' c' ow, r = .tuple #[.pointer (some ⟨pn, 0, none⟩), .slice a' ns.length c', .nilIface] ∧ OnR u w' pn t ow ∧ LiI u w' ow a' c' ns) ∧ Ext u w') ∧
      (∀ u, Ext w3 u → CallsR Try.prog 47 #[.pointer (some ⟨pm, 0, none⟩), .int .i64 room, .slice aL L.length cL] u fun r w' => (∃ pn a' c' ow, r = .tuple #[.pointer (some ⟨pn, 0, none⟩), .slice a' ns.length c', .int .i64 0] ∧ OnM u w' pn t ow ∧ LiI u w' ow a' c' ns) ∧ Ext u w')) := by
    by_cases ht : ∃ n ∈ L, s.there n = false
    · refine .inl ⟨1, by decide, by decide, by decide, fun u hE => (q1 u hE).mono fun r w' h => h.bad ht, fun u hE => (q2 u hE).mono fun r w' h => ?_⟩
      obtain ⟨h, hE⟩ := h
      refine ⟨?_, hE⟩
      obtain ⟨n, hm, hf⟩ := ht
      rcases h with ⟨_, h⟩ | ⟨ht, _⟩ | ⟨ht, _⟩
      · exact h
      · rw [ht n hm] at hf; cases hf
      · rw [ht n hm] at hf; cases hf
    · have hg := Md.Good.bldAll (L.map s.tab) (Md.Good.start r0 r1)
      have hR := (Ro.new r0 r1).bldAll (L.map s.tab)
      by_cases he : ((Md.new room).bldAll (L.map s.tab)).1.2 = 0
      · refine .inr ⟨_, _, hg.1, by rw [(hR he).2.1, List.length_map]; omega, fun u hE => (q1 u hE).mono fun r w' h => ?_, fun u hE => (q2 u hE).mono fun r w' h => ?_⟩
        · obtain ⟨h, hE⟩ := h
          refine ⟨?_, hE⟩
          rcases h with ⟨h, _⟩ | ⟨_, h, _⟩ | ⟨_, _, h⟩
          · exact absurd h ht
          · exact absurd he h
          · exact h
        · obtain ⟨h, hE⟩ := h
          refine ⟨?_, hE⟩
          rcases h with ⟨h, _⟩ | ⟨_, h, _⟩ | ⟨_, _, h⟩
          · exact absurd h ht
          · exact absurd he h
          · exact h
      · refine .inl ⟨_, he, hg.2.2.1, hg.2.2.2, fun u hE => (q1 u hE).mono fun r w' h => ?_, fun u hE => (q2 u hE).mono fun r w' h => ?_⟩
        · obtain ⟨h, hE⟩ := h
          refine ⟨?_, hE⟩
          rcases h with ⟨h, _⟩ | ⟨_, _, h⟩ | ⟨_, h, _⟩
          · exact absurd h ht
          · exact h
          · exact absurd h he
        · obtain ⟨h, hE⟩ := h
          refine ⟨?_, hE⟩
          rcases h with ⟨h, _⟩ | ⟨_, _, h⟩ | ⟨_, h, _⟩
          · exact absurd h ht
          · exact h
          · exact absurd h he
  clear q1 q2 hok2
  rcases key with ⟨e, he, e0, e8, q1, q2⟩ | ⟨ns, t, Gt, hnl, q1, q2⟩
  · have cr := code_sure e e0 e8
    have heb : (e == 0) = false := by simpa using he
    rw [errV_ne he] at q1 cr
    clear hP3
    refine w_ fun d => ?_
    refine (q1 _ ext_).mono ?_
    rintro _ u1 ⟨rfl, hE1⟩
    have hEa : Ext w3 u1 := Ext.trans (by exact ext_) hE1
    refine w_ fun d => ?_
    refine (q2 _ (hEa.trans ext_)).mono ?_
    rintro _ u2 ⟨rfl, hE2⟩
    have hEb : Ext w3 u2 := hEa.trans (Ext.trans (by exact ext_) hE2)
    clear q1 q2 hE1 hE2 hEa
    refine w_ fun d => ?_
    refine qq (cr.quiet (w := u2)) fun u3 hE3 hs3 => ?_
    refine w_ fun d => ?_
    refine (sm _ ((hEb.trans hE3).trans ext_)).mono ?_
    rintro _ u4 ⟨rfl, hE4⟩
    have hWf := hPw.trans ((hEb.trans hE3).trans (Ext.trans (by exact ext_) hE4))
    clear sm
    refine w_ fun d => ?_
    exact ⟨rfl, ext_⟩
  · have cr := code_sure 0 (by decide) (by decide)
    rw [errV0] at cr
    clear hP3
    refine w_ fun d => ?_
    refine at_c fun v0 hv0 => ?_
    have hE0 : Ext w3 v0 := by rw [hv0]; exact ext_
    clear hv0
    refine (q1 _ hE0).mono ?_
    rintro _ u1 ⟨⟨pn, a1, c1, ow, rfl, hN, hL1⟩, hE1⟩
    refine w_ fun d => ?_
    refine at_c fun v1 hv1 => ?_
    have hEv : Ext u1 v1 := by rw [hv1]; exact ext_
    clear hv1
    refine (q2 _ ((hE0.trans hE1).trans hEv)).mono ?_
    rintro _ u2 ⟨⟨pn2, a2, c2, ow2, rfl, hM, hL2⟩, hE2⟩
    have hE12 := hEv.trans hE2
    have hPP := pair_pri (W := w3) hN hE0 hEv hM hE12
    have hI1 := (hL1.up hE12).sl.inp
    have hI2 := hL2.sl.inp
    have iq := ints_same (c := c1) (d := c2) hI1 hI2 (by omega)
    have sm2 := fun u (hE : Ext u2 u) => same_calls (hPP.ext hE) Gt
    have hEb := (hE0.trans hE1).trans hE12
    clear q1 q2 hN hL1 hM hL2 hPP hI1 hI2 hE0 hE1 hE2 hEv hE12
    refine w_ fun d => ?_
    refine qq (cr.quiet (w := u2)) fun u3 hE3 hs3 => ?_
    have iq3 := iq.at hE3
    refine w_ fun d => ?_
    refine (sm _ ((hEb.trans hE3).trans ext_)).mono ?_
    rintro _ u4 ⟨rfl, hE4⟩
    have hE24 := hE3.trans (Ext.trans (by exact ext_) hE4)
    have iq4 := iq.at hE24
    have hWf := hPw.trans (hEb.trans hE24)
    clear sm iq iq3
    refine w_ fun d => ?_
    refine qq iq4 fun u5 hE5 hs5 => ?_
    refine w_ fun d => ?_
    refine (sm2 _ ((hE24.trans hE5).trans ext_)).mono ?_
    rintro _ u6 ⟨rfl, hE6⟩
    clear sm2
    refine w_ fun d => ?_
    exact ⟨rfl, ext_⟩
end
end Go.Proofs.Ytpeindhocndmnaa

