/- Law09b, Law09c, Law10, Law10b, QuI, Qu2, QuP, Law11, Law11b: texts of this work, one behind the other. -/
import Derived.Test.YtpeindhocndmnaaIb7
namespace Go.Proofs.Ytpeindhocndmnaa
open Go Go.Bx
set_option linter.unusedSimpArgs false
set_option linter.unusedVariables false
set_option maxRecDepth 100000
set_option maxHeartbeats 4000000
attribute [local irreducible] X XO XE XF XD XW thenX inX retX kN CallsR
section
variable {W w w' w1 w2 : World} {p ps pm pc : Nat} {s s' sM : Md} {n v x y lo hi : Int}
theorem up09_calls (w : World) : CallsR Try.prog 55 #[] w fun r w' => r = .bool true ∧ Ext w w' := by
  obtain ⟨X, hX⟩ : ∃ X, varF 0 = X := ⟨_, rfl⟩
  have cm := fun W w ps pc (h : CaI W w ps pc (Md.new 5)) => caMk0 h (by decide) (by decide)
  have rv : Sure Try.prog 76 #[.int .i64 0] (fv (varF 0)) := refVar_calls 0
  rw [hX] at cm rv
  have zx : ∀ ord, AllOnce ord → sizeF ord [X] ≤ 1 := fun ord ho => hX ▸ size_var ho
  clear hX
  have rn : Sure Try.prog 42 #[fv X] (fv (notF X)) := refNot_calls X
  have zn : ∀ s : Md, ∀ M, Ro s [X] M → sizeF s.ord ([X] ++ [notF X]) ≤ 2 := fun s M R => by
    have h1 := size_snoc (ord := s.ord) (L := [X]) (f := notF X)
    have h2 := zx s.ord R.good.wf.ord.once
    rw [size_not] at h1; omega
  have c0 := fun u => caNew (M := 5) (by decide) (by decide) u
  have code1 := code_sure 1 (by decide) (by decide)
  refine en0 Try.func55 Try.results55 mixed [] ?_
  intro e0
  refine w_ fun d => ?_
  refine (c0 _).mono ?_
  rintro _ w1 ⟨ps, rfl, h1⟩
  refine w_ fun d => ?_
  refine (iteNew_calls _).mono ?_
  rintro _ w2 ⟨pc, bm, rfl, k1, k2, k3', k4, hE⟩
  have h2 := h1.cache hE k1 k2 k3' k4
  have hW := h2.world
  refine w_ fun d => ?_
  refine (cm _ _ _ _ h2).mono ?_
  rintro _ w3 ⟨s1, rfl, h3, R1, d1⟩
  have ci := fun (n : Int) own bm es ck (ho : IcI own w3 ps s1 pc bm es ck) (hn : n ≤ 9223372036854775807) => iteI_calls (a := n) (b := 0) (c := 1) ho R1.good hn (by decide) (by decide)
  obtain ⟨n, s2, e2, R2, l2, d2⟩ := R1.bld (notF X) (Int.ofNat_le.2 (Nat.le_trans (zn _ _ R1) (by decide)))
  have i1 : s1.ite 2 0 1 = ((n, 0), s2) := by rw [ite_den d1 .c0 .c1, iteF_not, e2]
  have c2 : ∀ W u, CaI W u ps pc s1 → CallsR Try.prog 58 #[.pointer (some ⟨pc, 0, none⟩), .pointer (some ⟨ps, 0, none⟩), .int .i64 2, .int .i64 0, .int .i64 1] u fun r w' => r = .tuple #[.int .i64 n, errV 0] ∧ CaI W w' ps pc s2 := fun W u h => by
    refine h.turn (R := fun r => r = .tuple #[.int .i64 n, errV 0]) fun own bm es ck ho => ?_
    have := iteI_calls (a := 2) (b := 0) (c := 1) ho R1.good (by decide) (by decide) (by decide)
    rw [i1] at this
    exact this
  have t9 : s2.there 9 = false := by
    unfold Md.there
    cases hh : s2.has 9 with
    | false => rfl
    | true =>
      have q1 := R2.good.wf.lt hh
      have q2 := R2.good.wf.len
      have q3 := R2.good.wf.ar.lim
      rw [R2.most] at q3
      omega
  have i9 : s2.ite 9 0 1 = ((0, 1), s2) := ite_no (by rw [t9]; rfl)
  have c3 : ∀ W u, CaI W u ps pc s2 → CallsR Try.prog 58 #[.pointer (some ⟨pc, 0, none⟩), .pointer (some ⟨ps, 0, none⟩), .int .i64 9, .int .i64 0, .int .i64 1] u fun r w' => r = .tuple #[.int .i64 0, errV 1] ∧ CaI W w' ps pc s2 := fun W u h => by
    refine h.turn (R := fun r => r = .tuple #[.int .i64 0, errV 1]) fun own bm es ck ho => ?_
    have := iteI_calls (a := 9) (b := 0) (c := 1) ho R2.good (by decide) (by decide) (by decide)
    rw [i9] at this
    exact this
  rw [errV0] at c2
  clear ci i1 t9 i9 zx zn
  refine w_ fun d => ?_
  refine (c2 _ _ h3).mono ?_
  rintro _ w4 ⟨rfl, h4⟩
  refine w_ fun d => ?_
  refine (c3 _ _ h4).mono ?_
  rintro _ w5 ⟨rfl, h5⟩
  have hW5 := h5.world
  obtain ⟨own, hS⟩ := h5.sti
  have q1 := rdTop_calls R2.good hS d2
  clear c0 cm c2 c3 h2 h3 h4 h5 R1 R2 d1 d2 hS
  refine w_ fun d => ?_
  refine qq (code1.quiet (w := w5)) fun w6 hE6 hs6 => ?_
  refine w_ fun d => ?_
  refine qq q1 fun w7 hE7 hs7 => ?_
  refine w_ fun d => ?_
  refine qq (rv.quiet (w := w7)) fun w8 hE8 hs8 => ?_
  refine w_ fun d => ?_
  refine qq (rn.quiet (w := w8)) fun w9 hE9 hs9 => ?_
  refine w_ fun d => ?_
  exact ⟨rfl, ext_⟩
theorem iteTells_calls (most : Int) {l : List Fun8} {k : List Int} {q : List Dd07} {a b c : Option Addr} {ca cb cc : Nat} (hI : Inp w 4 a (l.map rowF)) (hK : InI w b k) (hQ : Inp w 5 c (q.map encD)) (hok : ∀ d ∈ q, okD d) (hl : l.length ≤ 140737488351232) (hk : k.length ≤ 140737488351232) (hq : q.length ≤ 140737488351232) :
    CallsR Try.prog 9 #[.int .i64 most, .slice a l.length ca, .slice b k.length cb, .slice c q.length cc] w fun r w' => r = .bool true ∧ Ext w w' := by
  have nw := iteNew_calls
  have up := up09_calls
  by_cases hno : ¬ (0 ≤ most ∧ most ≤ 20000) ∨ 6 < l.length ∨ 30 < k.length
  · have b0 := fun w => built_none (a := a) (b := b) (ca := ca) (cb := cb) (w := w) most hno hl hk
    clear hI hK hQ hok hno
    refine en4 Try.func9 Try.results9 mixed [(13, [7, 13]), (1013, [5, 11])] ?_
    intro e0 h0 h1 h2 h3
    refine w_ fun d => ?_
    refine (up _).mono ?_
    rintro _ w1 ⟨rfl, hE1⟩
    refine w_ fun d => ?_
    refine (b0 _).mono ?_
    rintro _ w2 ⟨rfl, hE2⟩
    refine w_ fun d => ?_
    refine (nw _).mono ?_
    rintro _ w3 ⟨pc, bm, rfl, k1, k2, k3', k4, hE3⟩
    clear k1 k2 nw up b0
    refine w_ fun d => ?_
    exact ⟨rfl, ext_⟩
  have hyes : (0 ≤ most ∧ most ≤ 20000) ∧ l.length ≤ 6 ∧ k.length ≤ 30 := by
    refine ⟨Classical.byContradiction fun h => hno (.inl h), ?_, ?_⟩
    · have : ¬ 6 < l.length := fun h => hno (.inr (.inl h)); omega
    · have : ¬ 30 < k.length := fun h => hno (.inr (.inr h)); omega
  clear hno
  obtain ⟨⟨m0, m1⟩, l6, k30⟩ := hyes
  by_cases hqn : q.length ≤ 20
  rotate_left
  · have hqn' : (20 : Int) < q.length := by omega
    have b0 := fun w hI hK => built_calls (a := a) (b := b) (ca := ca) (cb := cb) (w := w) most m0 m1 l6 k30 hI hK
    clear hQ hok hqn
    refine en4 Try.func9 Try.results9 mixed [(13, [7, 13]), (1013, [5, 11])] ?_
    intro e0 h0 h1 h2 h3
    refine w_ fun d => ?_
    refine (up _).mono ?_
    rintro _ w1 ⟨rfl, hE1⟩
    have hE1w : Ext w w1 := Ext.trans (by exact ext_) hE1
    refine w_ fun d => ?_
    refine (b0 _ (Inp.ext hI hE1w) (Inp.ext hK hE1w)).mono ?_
    rintro _ w2 ⟨ps, pm, s, rfl, hP, G⟩
    have hE2 := hP.world
    refine w_ fun d => ?_
    refine (nw _).mono ?_
    rintro _ w3 ⟨pc, bm, rfl, k1, k2, k3', k4, hE3⟩
    clear k1 k2 nw up b0 hP G hI hK
    refine w_ fun d => ?_
    exact ⟨rfl, ext_⟩
  have hqn' : ¬ (20 : Int) < q.length := by omega
  have b0 := fun w hI hK => built_calls (a := a) (b := b) (ca := ca) (cb := cb) (w := w) most m0 m1 l6 k30 hI hK
  refine en4 Try.func9 Try.results9 mixed [(13, [7, 13]), (1013, [5, 11])] ?_
  intro e0 h0 h1 h2 h3
  refine w_ fun d => ?_
  refine (up _).mono ?_
  rintro _ w1 ⟨rfl, hE1⟩
  have hE1w : Ext w w1 := Ext.trans (by exact ext_) hE1
  refine w_ fun d => ?_
  refine (b0 _ (Inp.ext hI hE1w) (Inp.ext hK hE1w)).mono ?_
  rintro _ w2 ⟨ps, pm, s, rfl, hP, G⟩
  refine w_ fun d => ?_
  refine (nw _).mono ?_
  rintro _ w3 ⟨pc, bm, rfl, k1, k2, k3', k4, hE3⟩
  have hC := hP.cache hE3 k1 k2 k3' k4
  clear k1 k2 k3' k4 nw up b0 hP hI hK hE3
  refine w_ fun d => ?_
  refine lo_ (fun _ e w' => ∃ (i : Nat) (s : Md), i ≤ q.length ∧ e 14 = .int .i64 i ∧ PcI w1 w' ps pc pm s s ∧ s.Good []) (fun e _ => q.length - nat (e 14)) ?_ ?_
  · exact ⟨0, _, by omega, eA rfl, hC.ext ext_, G⟩
  rintro e u hf ⟨i, s, hi, h14, hPu, G⟩
  have hEu := hE1w.trans hPu.world
  by_cases hlt : i < q.length
  rotate_left
  · obtain rfl : i = q.length := by omega
    clear hQ hok hlt
    refine w_ fun d => ?_
    exact ⟨rfl, hEu⟩
  obtain ⟨d, hd⟩ : ∃ d, q[i]? = some d := ⟨q[i], List.getElem?_eq_getElem hlt⟩
  obtain ⟨k1, k2, k3'⟩ := hok d (List.mem_of_getElem? hd)
  obtain ⟨wq, da, db, dc, r⟩ := d
  obtain ⟨g, o, ct, E, fz, rfl, hg, hsz, hex⟩ := deedAt (Inp.ext hQ hEu) hd
  have hltl : (i : Int) < q.length := by omega
  have pq := pick_sure wq 4 (by decide) (by decide)
  have q0 : 0 ≤ wq % 4 ∧ wq % 4 < 4 := ⟨Int.emod_nonneg _ (by decide), Int.emod_lt_of_pos _ (by decide)⟩
  generalize wq % 4 = z at pq q0
  have p7 := pick_sure da 7 (by decide) (by decide)
  dsimp only at k1 k2 k3'
  clear hQ hok hd hC
  refine w_ fun d => ?_
  refine qq (pq.quiet (w := _)) fun u1 hE1 hs1 => ?_
  have hEu1 : Ext u u1 := Ext.trans (by exact ext_) hE1
  have h15 : u1.heap[u.heap.size]? = some (.cells #[.int .i64 wq, .int .i64 da, .int .i64 db, .int .i64 dc, .bool r] 79) := hE1.at (hA rfl)
  obtain ⟨b15, hb15⟩ : ∃ b, u.heap.size = b := ⟨_, rfl⟩
  have z15 : w1.heap.size ≤ b15 := hb15 ▸ hPu.world.size
  rw [hb15] at h15 ⊢
  have hP1 := hPu.keep hEu1 h15 (by omega)
  have l15 := lt_of_heap h15
  clear hE1 hs1 hPu hEu1 hb15 hg hex
  refine xoA ?_
  refine kv ?_
  refine xo_nil ?_
  refine cu4_ (fun _ e w' => ∃ s', PcK w1 w' ps pc pm s' s' [(b15, .cells #[.int .i64 wq, .int .i64 da, .int .i64 db, .int .i64 dc, .bool r] 79)] ∧ Box (s'.Good [])) ?_ ?_
  · by_cases z3 : z = 3
    · subst z3
      refine w_ fun d => ?_
      refine (hP1.ext ext_).flush.mono ?_
      rintro _ u2 ⟨rfl, hP2⟩
      refine w_ fun d => ?_
      refine s_wide (xw_ ?_)
      refine dw_ ?_
      refine xf_nil fun u3 hE3 => ?_
      refine w_ fun d => ?_
      exact ⟨s, (hP2.ext hE3).ext ext_, ⟨G⟩⟩
    have z3' : (z == 3) = false := by simpa using z3
    by_cases z2 : z = 2
    · subst z2
      generalize da % 7 = y at p7
      have bI := fun W u kp (h : PcK W u ps pc pm s s kp) => h.store (G.swap y).1.den fun own ho => stSwap_calls ho G y
      have bM := fun W u s1 kp (h : PcK W u ps pc pm s1 s kp) => h.turnM fun own ho => rsSwap_calls ho G y
      have gb := (G.swap y).1.good
      have rb := swap_rng (s := s) (n := y)
      have cr := code_sure _ rb.1 rb.2
      generalize s.swap y = R at bI bM gb rb cr
      clear G rb
      refine w_ fun d => ?_
      refine s_wide (XW_ext (D := fun u => u.heap[b15]? = some (.cells #[.int .i64 wq, .int .i64 da, .int .i64 db, .int .i64 dc, .bool r] 79)) (fun u hu => hu.at h15) ?_)
      refine dw_ ?_
      refine xf3 (v := .int .i64 da) (fun u hu => by exact rgA) ?_
      refine dw_ ?_
      refine xf2 fun v1 hE1 => ?_
      refine krA ?_
      refine ke ?_
      refine (bI _ _ _ (hP1.ext hE1)).mono ?_
      rintro _ v2 ⟨rfl, hP2⟩
      refine ⟨fun u hu => hu.at (hP2.at (by simp)), ?_⟩
      refine dw_ ?_
      refine xf3 (v := .int .i64 da) (fun u hu => by exact rgA) ?_
      refine dw_ ?_
      refine xf2 fun v3 hE3 => ?_
      refine krA ?_
      refine ke ?_
      refine (bM _ _ _ _ (hP2.ext hE3)).mono ?_
      rintro _ v4 ⟨rfl, hP4⟩
      refine ⟨fun u hu => hu.at (hP4.at (by simp)), ?_⟩
      refine dw_ ?_
      refine xf_nil fun v5 hE5 => ?_
      refine w_ fun d => ?_
      exact ⟨R.2, (hP4.ext hE5).ext ext_, ⟨gb⟩⟩
    have z2' : (z == 2) = false := by simpa using z2
    refine w_ fun d => ?_
    refine s_wide (xw_ ?_)
    refine dw_ ?_
    refine xf_nil fun u3 hE3 => ?_
    refine w_ fun d => ?_
    exact ⟨s, (hP1.ext (by exact ext_)).ext ext_, ⟨G⟩⟩
  clear hP1 G h15 l15 p7 pq q0
  rintro e2 v1 hf2 ⟨s1, hP, ⟨G⟩⟩
  have h15 := hP.at (List.mem_singleton.2 rfl)
  have l15 := lt_of_heap h15
  obtain ⟨ownM, hM⟩ := hP.m
  have Ws := G.wf
  have la := lnode_calls hM Ws da r
  have lb := lnode_calls hM Ws db (r && decide (db < 0))
  have lc := lnode_calls hM Ws dc (r && decide (dc < 0))
  have pa := pickN_le (raw := r) Ws k1.2
  have pb := pickN_le (raw := r && decide (db < 0)) Ws k2.2
  have pc' := pickN_le (raw := r && decide (dc < 0)) Ws k3'.2
  generalize pickN s1 da r = pA at *
  generalize pickN s1 db (r && decide (db < 0)) = pB at *
  generalize pickN s1 dc (r && decide (dc < 0)) = pC at *
  have bI := fun W u kp (h : PcK W u ps pc pm s1 s1 kp) => h.turnI fun own bm es ck ho => iteI_calls ho G pa pb pc'
  have bM := fun W u s kp (h : PcK W u ps pc pm s s1 kp) => h.turnM fun own ho => rsIte_calls ho G pa pb pc'
  have it := G.itt pA pB pC
  have gb := it.good
  have cr := code_sure (s1.ite pA pB pC).1.2 (by rcases it.err with e | e | e <;> omega) (by rcases it.err with e | e | e <;> omega)
  generalize s1.ite pA pB pC = R at bI bM gb cr
  clear it hM Ws G pa pb pc' k1 k2 k3'
  have lb0 : r = false → Quiet Try.prog 52 #[.pointer (some ⟨pm, 0, none⟩), .int .i64 db, .bool false] v1 (.int .i64 pB) := fun h => by subst h; exact lb
  have lc0 : r = false → Quiet Try.prog 52 #[.pointer (some ⟨pm, 0, none⟩), .int .i64 dc, .bool false] v1 (.int .i64 pC) := fun h => by subst h; exact lc
  cases r
  · have lb := lb0 rfl
    have lc := lc0 rfl
    clear lb0 lc0
    refine w_ fun d => ?_
    refine qq la fun v2 hE2 hs2 => ?_
    have h152 := hE2.at h15
    have l152 := lt_of_heap h152
    refine w_ fun d => ?_
    refine qq lb fun v3 hE3 hs3 => ?_
    have h153 := hE3.at h152
    have l153 := lt_of_heap h153
    refine w_ fun d => ?_
    refine qq lc fun v4 hE4 hs4 => ?_
    refine w_ fun d => ?_
    refine (bI _ _ _ ((((hP.ext hE2).ext hE3).ext hE4).ext ext_)).mono ?_
    rintro _ v5 ⟨rfl, hP5⟩
    refine w_ fun d => ?_
    refine (bM _ _ _ _ (hP5.ext ext_)).mono ?_
    rintro _ v6 ⟨rfl, hP6⟩
    clear bI bM
    refine w_ fun d => ?_
    refine qq (cr.quiet (w := v6)) fun v7 hE7 hs7 => ?_
    refine w_ fun d => ?_
    refine (same_calls (hP6.ext hE7).pri gb).mono ?_
    rintro _ v8 ⟨rfl, hE8⟩
    refine w_ fun d => ?_
    exact ⟨⟨i + 1, R.2, by omega, eA rfl, (((hP6.ext hE7).ext hE8).ext ext_).bare, gb⟩, mA⟩
  · clear lb0 lc0
    rw [Bool.true_and] at lb lc
    refine w_ fun d => ?_
    refine qq la fun v2 hE2 hs2 => ?_
    have h152 := hE2.at h15
    have l152 := lt_of_heap h152
    refine w_ fun d => ?_
    refine qq lb fun v3 hE3 hs3 => ?_
    have h153 := hE3.at h152
    have l153 := lt_of_heap h153
    refine w_ fun d => ?_
    refine qq lc fun v4 hE4 hs4 => ?_
    refine w_ fun d => ?_
    refine (bI _ _ _ ((((hP.ext hE2).ext hE3).ext hE4).ext ext_)).mono ?_
    rintro _ v5 ⟨rfl, hP5⟩
    refine w_ fun d => ?_
    refine (bM _ _ _ _ (hP5.ext ext_)).mono ?_
    rintro _ v6 ⟨rfl, hP6⟩
    clear bI bM
    refine w_ fun d => ?_
    refine qq (cr.quiet (w := v6)) fun v7 hE7 hs7 => ?_
    refine w_ fun d => ?_
    refine (same_calls (hP6.ext hE7).pri gb).mono ?_
    rintro _ v8 ⟨rfl, hE8⟩
    refine w_ fun d => ?_
    exact ⟨⟨i + 1, R.2, by omega, eA rfl, (((hP6.ext hE7).ext hE8).ext ext_).bare, gb⟩, mA⟩
end
end Go.Proofs.Ytpeindhocndmnaa

namespace Go.Proofs.Ytpeindhocndmnaa
open Go Go.Bx
set_option linter.unusedSimpArgs false
set_option linter.unusedVariables false
set_option maxRecDepth 100000
set_option maxHeartbeats 4000000
attribute [local irreducible] X XO XE XF XD XW thenX inX retX kN CallsR
section
variable {W w w' w1 w2 : World} {p ps pm pc : Nat} {s s' sM : Md} {n v x y lo hi a b c : Int} {f g k : Fun8} {L : List Fun8} {M : Int}
theorem caIte (h : CaI W w ps pc s) (R : Ro s L M) (da : Den s a f) (db : Den s b g) (dc : Den s c k) (hm : sizeF s.ord (L ++ [iteF f g k]) ≤ M) : CallsR Try.prog 58 #[.pointer (some ⟨pc, 0, none⟩), .pointer (some ⟨ps, 0, none⟩), .int .i64 a, .int .i64 b, .int .i64 c] w fun r w' => ∃ n s', r = .tuple #[.int .i64 n, .nilIface] ∧ CaI W w' ps pc s' ∧ Ro s' (L ++ [iteF f g k]) M ∧ s.Le s' ∧ Den s' n (iteF f g k) := by
  obtain ⟨n, s', e, R', l, d⟩ := R.bld (iteF f g k) hm
  refine (h.turn (s' := s') (R := fun r => r = .tuple #[.int .i64 n, .nilIface]) fun own bm es ck ho => ?_).mono ?_
  · have := iteI_calls ho R.good (bt_rng R.good.wf da) (bt_rng R.good.wf db) (bt_rng R.good.wf dc)
    rw [ite_den da db dc, e, errV0] at this
    exact this
  · rintro r w' ⟨hr, hC⟩
    exact ⟨n, s', hr, hC, R', l, d⟩
theorem caIteEx (h : CaI W w ps pc s) (G : s.Good []) (da : Den s a f) (db : Den s b g) (dc : Den s c k) (dn : Den s n (iteF f g k)) : CallsR Try.prog 58 #[.pointer (some ⟨pc, 0, none⟩), .pointer (some ⟨ps, 0, none⟩), .int .i64 a, .int .i64 b, .int .i64 c] w fun r w' => r = .tuple #[.int .i64 n, .nilIface] ∧ CaI W w' ps pc s := by
  refine h.turn (s' := s) (R := fun r => r = .tuple #[.int .i64 n, .nilIface]) fun own bm es ck ho => ?_
  have := iteI_calls ho G (bt_rng G.wf da) (bt_rng G.wf db) (bt_rng G.wf dc)
  rw [ite_den da db dc, G.bld_ex dn, errV0] at this
  exact this
theorem swap_code {l : Int} (h0 : 0 ≤ l) (h6 : l ≤ 6) : (s.swap l).1 = 0 ∨ (s.swap l).1 = 2 := by
  unfold Md.swap
  rw [if_neg (by omega)]
  split
  · exact .inr rfl
  · exact .inl rfl
theorem iteSame_calls (f g k : Fun8) {sl : List Int} {a : Option Addr} {ca : Nat} (hK : InI w a sl) (hk : sl.length ≤ 140737488351232) (fl : Bool) :
    CallsR Try.prog 10 #[fv f, fv g, fv k, .slice a sl.length ca, .bool fl] w fun r w' => r = .bool true ∧ Ext w w' := by
  have c0 := fun u => caNew (M := 1000) (by decide) (by decide) u
  have nw := iteNew_calls
  have up := up09_calls
  have sz : ∀ (s : Md) (L : List Fun8), Ro s L 1000 → L.length ≤ 10 → ∀ f, (sizeF s.ord (L ++ [f]) : Int) ≤ 1000 := fun s L R h f => R.size (by omega)
  have ri : Sure Try.prog 59 #[fv f, fv g, fv k] (fv (iteF f g k)) := refIte_calls _ _ _
  have e10 : iteF f (constF true) (constF false) = f := iteF_10
  have egg : iteF f g g = g := iteF_same
  obtain ⟨F, hF⟩ : ∃ F, iteF f g k = F := ⟨_, rfl⟩
  rw [hF] at ri
  by_cases hn : sl.length ≤ 20
  rotate_left
  · have hn' : (20 : Int) < sl.length := by omega
    clear hK hn sz e10 egg hF
    refine en5 Try.func10 Try.results10 mixed [] ?_
    intro e0 h0 h1 h2 h3 h4
    refine w_ fun d => ?_
    refine (up _).mono ?_
    rintro _ u1 ⟨rfl, hE1⟩
    refine w_ fun d => ?_
    refine (c0 _).mono ?_
    rintro _ w1 ⟨ps, rfl, h1⟩
    have hE2 := h1.world
    refine w_ fun d => ?_
    refine (nw _).mono ?_
    rintro _ w2 ⟨pc, bm, rfl, k1, k2, k3', k4, hE⟩
    clear k1 k2 nw up c0 h1
    refine w_ fun d => ?_
    exact ⟨rfl, ext_⟩
  have hn' : ¬ (20 : Int) < sl.length := by omega
  refine en5 Try.func10 Try.results10 mixed [] ?_
  intro e0 h0 h1 h2 h3 h4
  refine w_ fun d => ?_
  refine (up _).mono ?_
  rintro _ u1 ⟨rfl, hE1⟩
  have hEu1 : Ext w u1 := Ext.trans (by exact ext_) hE1
  have b5 : u1.heap[w.heap.size]? = some (.cells #[vU (word f 0), vU (word f 1), vU (word f 2), vU (word f 3)] 54) := hE1.at (hA rfl)
  have b6 : u1.heap[w.heap.size + 1]? = some (.cells #[vU (word g 0), vU (word g 1), vU (word g 2), vU (word g 3)] 54) := hE1.at (hA rfl)
  have b7 : u1.heap[w.heap.size + 2]? = some (.cells #[vU (word k 0), vU (word k 1), vU (word k 2), vU (word k 3)] 54) := hE1.at (hA rfl)
  refine w_ fun d => ?_
  refine (c0 _).mono ?_
  rintro _ w1 ⟨ps, rfl, h1⟩
  refine w_ fun d => ?_
  refine (nw _).mono ?_
  rintro _ w2 ⟨pc, bm, rfl, k1, k2, k3', k4, hE⟩
  have h2 := h1.cache hE k1 k2 k3' k4
  have R0 : Ro (Md.new 1000) [] 1000 := Ro.new (by decide) (by decide)
  clear k1 k2 k3' k4 hE h1 c0 nw up hE1
  have x5 := h2.world.at b5
  have y5 := lt_of_heap x5
  refine w_ fun d => ?_
  refine (caBuild h2 R0 f (sz _ _ R0 (by decide) _)).mono ?_
  rintro _ w3 ⟨a1, s1, rfl, h3, R1, l1, d1⟩
  have x6 := h3.world.at b6
  have y6 := lt_of_heap x6
  clear x5 y5
  refine w_ fun d => ?_
  refine (caBuild h3 R1 g (sz _ _ R1 (by simp) _)).mono ?_
  rintro _ w4 ⟨a2, s2, rfl, h4, R2, l2, d2⟩
  replace d1 := d1.mono l2
  have x7 := h4.world.at b7
  have y7 := lt_of_heap x7
  clear x6 y6 h2 h3 R0 R1 l1 l2
  refine w_ fun d => ?_
  refine (caBuild h4 R2 k (sz _ _ R2 (by simp) _)).mono ?_
  rintro _ w5 ⟨a3, s3, rfl, h5, R3, l3, d3⟩
  replace d1 := d1.mono l3
  replace d2 := d2.mono l3
  clear x7 y7 h4 R2 l3
  refine w_ fun d => ?_
  refine (caIte h5 R3 d1 d2 d3 (sz _ _ R3 (by simp) _)).mono ?_
  rintro _ w6 ⟨n1, s4, rfl, h6, R4, l4, d4⟩
  replace d1 := d1.mono l4
  replace d2 := d2.mono l4
  replace d3 := d3.mono l4
  rw [hF] at d4
  have G := R4.good
  clear h5 R3 l4 sz R4
  refine w_ fun d => ?_
  refine lo_ (fun _ e w' => ∃ (i : Nat) (s : Md), i ≤ sl.length ∧ e 22 = .int .i64 i ∧ CaI u1 w' ps pc s ∧ s.Good [] ∧ Den s a1 f ∧ Den s a2 g ∧ Den s a3 k ∧ Den s n1 F) (fun e _ => sl.length - nat (e 22)) ?_ ?_
  · exact ⟨0, _, by omega, eA rfl, h6.ext ext_, G, d1, d2, d3, d4⟩
  rintro e u hf ⟨i, s, hi, h22, hP, G, d1, d2, d3, d4⟩
  have hEu := hEu1.trans hP.world
  by_cases hlt : i < sl.length
  · obtain ⟨x, hx⟩ : ∃ x, sl[i]? = some x := ⟨sl[i], List.getElem?_eq_getElem hlt⟩
    rcases InI.at (Inp.ext hK hEu) with rfl | ⟨b1, o1, cs1, E1, fz1, rfl, hb1, hat1⟩
    · simp at hlt
    have hat1 := hat1 i x hx
    have pk := pick_sure x 7 (by decide) (by decide)
    have y0 : 0 ≤ x % 7 := Int.emod_nonneg _ (by decide)
    have y6 : x % 7 ≤ 6 := by have := Int.emod_lt_of_pos x (show (0 : Int) < 7 by decide); omega
    have hltk : (i : Int) < sl.length := by omega
    generalize x % 7 = y at pk y0 y6
    have bI := fun W u (h : CaI W u ps pc s) => h.store (G.swap y).1.den fun own ho => stSwap_calls ho G y
    have gb := (G.swap y).1.good
    have dn := (G.swap y).1.den
    replace d1 := dn _ _ d1
    replace d2 := dn _ _ d2
    replace d3 := dn _ _ d3
    replace d4 := dn _ _ d4
    have cc := swap_code (s := s) y0 y6
    obtain ⟨⟨ec, sN⟩, hR⟩ : ∃ R, s.swap y = R := ⟨_, rfl⟩
    rw [hR] at bI gb d1 d2 d3 d4 cc
    dsimp only at bI gb d1 d2 d3 d4 cc
    have cr := code_sure ec (by omega) (by omega)
    have fin : ∀ (v : World), CaI u1 v ps pc sN → CaI u1 v ps pc sN ∧ sN.Good [] ∧ Den sN a1 f ∧ Den sN a2 g ∧ Den sN a3 k ∧ Den sN n1 F := fun v h => ⟨h, gb, d1, d2, d3, d4⟩
    clear G hK hx d1 d2 d3 d4 gb dn hR hEu h6 ri e10 egg hF
    refine w_ fun d => ?_
    refine qq (pk.quiet (w := u)) fun v1 hE1 hs1 => ?_
    refine w_ fun d => ?_
    refine (bI _ _ ((hP.ext hE1).ext ext_)).mono ?_
    rintro _ u2 ⟨rfl, hP2⟩
    clear bI
    refine w_ fun d => ?_
    refine qq (cr.quiet (w := u2)) fun u4 hE4 hs4 => ?_
    rcases cc with rfl | rfl
    · refine w_ fun d => ?_
      exact ⟨⟨i + 1, sN, by omega, eA rfl, fin _ ((hP2.ext hE4).ext ext_)⟩, mA⟩
    · refine w_ fun d => ?_
      refine qq (cr.quiet (w := u4)) fun u5 hE5 hs5 => ?_
      refine w_ fun d => ?_
      exact ⟨⟨i + 1, sN, by omega, eA rfl, fin _ (((hP2.ext hE4).ext hE5).ext ext_)⟩, mA⟩
  obtain rfl : i = sl.length := by omega
  have c0' := code_sure 0 (by decide) (by decide)
  rw [errV0] at c0'
  have d5 : Den s n1 (iteF f g k) := by rw [hF]; exact d4
  have d6 : Den s a1 (iteF f (constF true) (constF false)) := by rw [e10]; exact d1
  have d7 : Den s a2 (iteF f g g) := by rw [egg]; exact d2
  have i1 := fun W u (h : CaI W u ps pc s) => caIteEx h G d1 d2 d3 d5
  have i2 := fun W u (h : CaI W u ps pc s) => caIteEx h G d1 .c1 .c0 d6
  have i3 := fun W u (h : CaI W u ps pc s) => caIteEx h G d1 d2 d2 d7
  clear hK h6 e10 egg hF d5 d6 d7 d2 d3 hlt
  cases fl
  · refine w_ fun d => ?_
    refine (i1 _ _ (hP.ext ext_)).mono ?_
    rintro _ v1 ⟨rfl, hP1⟩
    refine w_ fun d => ?_
    refine qq (c0'.quiet (w := v1)) fun v2 hE2 hs2 => ?_
    refine w_ fun d => ?_
    refine (i2 _ _ ((hP1.ext hE2).ext ext_)).mono ?_
    rintro _ v3 ⟨rfl, hP3⟩
    refine w_ fun d => ?_
    refine (i3 _ _ (hP3.ext ext_)).mono ?_
    rintro _ v4 ⟨rfl, hP4⟩
    have x5 := hP4.world.at b5
    have y5 := lt_of_heap x5
    have x6 := hP4.world.at b6
    have y6 := lt_of_heap x6
    have x7 := hP4.world.at b7
    have y7 := lt_of_heap x7
    obtain ⟨own, hS⟩ := hP4.sti
    have hE4 := hEu1.trans hP4.world
    clear i1 i2 i3 hP hP1 hP3
    refine w_ fun d => ?_
    refine qq (ri.quiet (w := v4)) fun v5 hE5 hs5 => ?_
    have z5 := hE5.at x5
    have zl5 := lt_of_heap z5
    have t1 := rdTop_calls G (hS.ext hE5) d4
    have t2 := rdTop_calls G (hS.ext hE5) d1
    clear x5 y5 x6 y6 x7 y7 b5 b6 b7
    refine w_ fun d => ?_
    refine at_w fun v6 hv6 => ?_
    have hE56 : Ext v5 v6 := by rw [hv6]; exact ext_
    have h30 : v6.heap[v5.heap.size]? = some (.cells #[vU (word F 0), vU (word F 1), vU (word F 2), vU (word F 3)] 54) := by rw [hv6]; exact hA rfl
    have l30 := lt_of_heap h30
    have z56 := hE56.at z5
    have zl56 := lt_of_heap z56
    replace t1 := t1.at hE56
    replace t2 := t2.at hE56
    have hEall : Ext w v6 := (hE4.trans hE5).trans hE56
    clear hv6 hS hP4 d1 d4 G
    refine w_ fun d => ?_
    intro v7 hE7 hs7
    refine w_ fun d => ?_
    exact ⟨rfl, ext_⟩
  · refine w_ fun d => ?_
    refine (hP.ext ext_).flush.mono ?_
    rintro _ v0 ⟨rfl, hP0⟩
    refine w_ fun d => ?_
    refine (i1 _ _ (hP0.ext ext_)).mono ?_
    rintro _ v1 ⟨rfl, hP1⟩
    refine w_ fun d => ?_
    refine qq (c0'.quiet (w := v1)) fun v2 hE2 hs2 => ?_
    refine w_ fun d => ?_
    refine (i2 _ _ ((hP1.ext hE2).ext ext_)).mono ?_
    rintro _ v3 ⟨rfl, hP3⟩
    refine w_ fun d => ?_
    refine (i3 _ _ (hP3.ext ext_)).mono ?_
    rintro _ v4 ⟨rfl, hP4⟩
    have x5 := hP4.world.at b5
    have y5 := lt_of_heap x5
    have x6 := hP4.world.at b6
    have y6 := lt_of_heap x6
    have x7 := hP4.world.at b7
    have y7 := lt_of_heap x7
    obtain ⟨own, hS⟩ := hP4.sti
    have hE4 := hEu1.trans hP4.world
    clear i1 i2 i3 hP hP1 hP3 hP0
    refine w_ fun d => ?_
    refine qq (ri.quiet (w := v4)) fun v5 hE5 hs5 => ?_
    have z5 := hE5.at x5
    have zl5 := lt_of_heap z5
    have t1 := rdTop_calls G (hS.ext hE5) d4
    have t2 := rdTop_calls G (hS.ext hE5) d1
    clear x5 y5 x6 y6 x7 y7 b5 b6 b7
    refine w_ fun d => ?_
    refine at_w fun v6 hv6 => ?_
    have hE56 : Ext v5 v6 := by rw [hv6]; exact ext_
    have h30 : v6.heap[v5.heap.size]? = some (.cells #[vU (word F 0), vU (word F 1), vU (word F 2), vU (word F 3)] 54) := by rw [hv6]; exact hA rfl
    have l30 := lt_of_heap h30
    have z56 := hE56.at z5
    have zl56 := lt_of_heap z56
    replace t1 := t1.at hE56
    replace t2 := t2.at hE56
    have hEall : Ext w v6 := (hE4.trans hE5).trans hE56
    clear hv6 hS hP4 d1 d4 G
    refine w_ fun d => ?_
    intro v7 hE7 hs7
    refine w_ fun d => ?_
    exact ⟨rfl, ext_⟩
end
end Go.Proofs.Ytpeindhocndmnaa

namespace Go.Proofs.Ytpeindhocndmnaa
open Go Go.Bx
set_option linter.unusedSimpArgs false
set_option linter.unusedVariables false
set_option maxRecDepth 100000
set_option maxHeartbeats 4000000
attribute [local irreducible] X XO XE XF XD XW thenX inX retX kN CallsR
theorem up10_calls (w : World) : CallsR Try.prog 31 #[] w fun r w' => r = .bool true ∧ Ext w w' := by
  obtain ⟨X, hX⟩ : ∃ X, varF 0 = X := ⟨_, rfl⟩
  have cm := fun W w ps pc (h : CaI W w ps pc (Md.new 5)) => caMk0 h (by decide) (by decide)
  rw [hX] at cm
  have zx : ∀ ord, AllOnce ord → sizeF ord [X] ≤ 1 := fun ord ho => hX ▸ size_var ho
  clear hX
  have zn : ∀ s : Md, ∀ M, Ro s [X] M → sizeF s.ord ([X] ++ [notF X]) ≤ 2 := fun s M R => by
    have h1 := size_snoc (ord := s.ord) (L := [X]) (f := notF X)
    have h2 := zx s.ord R.good.wf.ord.once
    rw [size_not] at h1; omega
  have zc : ∀ s : Md, ∀ M c, Ro s ([X] ++ [notF X]) M → sizeF s.ord ([X] ++ [notF X] ++ [constF c]) ≤ 2 := fun s M c R => by
    have h1 := size_snoc (ord := s.ord) (L := [X]) (f := notF X)
    have h2 := zx s.ord R.good.wf.ord.once
    have h3 := size_snoc (ord := s.ord) (L := [X] ++ [notF X]) (f := constF c)
    rw [size_c] at h3
    rw [size_not] at h1; omega
  have zd : ∀ s : Md, ∀ M c d, Ro s ([X] ++ [notF X] ++ [constF c]) M → sizeF s.ord ([X] ++ [notF X] ++ [constF c] ++ [constF d]) ≤ 2 := fun s M c d R => by
    have h1 := size_snoc (ord := s.ord) (L := [X]) (f := notF X)
    have h2 := zx s.ord R.good.wf.ord.once
    have h3 := size_snoc (ord := s.ord) (L := [X] ++ [notF X]) (f := constF c)
    have h4 := size_snoc (ord := s.ord) (L := [X] ++ [notF X] ++ [constF c]) (f := constF d)
    rw [size_c] at h3 h4
    rw [size_not] at h1; omega
  have c0 := fun u => caNew (M := 5) (by decide) (by decide) u
  refine en0 Try.func31 Try.results31 mixed [] ?_
  intro e0
  refine w_ fun d => ?_
  refine (c0 _).mono ?_
  rintro _ w1 ⟨ps, rfl, h1⟩
  refine w_ fun d => ?_
  refine (iteNew_calls _).mono ?_
  rintro _ w2 ⟨pc, bm, rfl, k1, k2, k3', k4, hE⟩
  have h2 := h1.cache hE k1 k2 k3' k4
  have hW := h2.world
  refine w_ fun d => ?_
  refine (cm _ _ _ _ h2).mono ?_
  rintro _ w3 ⟨s1, rfl, h3, R1, d1⟩
  refine w_ fun d => ?_
  refine (caNot h3 R1 d1 (Int.ofNat_le.2 (Nat.le_trans (zn _ _ R1) (by decide)))).mono ?_
  rintro _ w4 ⟨n, s2, rfl, h4, R2, l2, d2⟩
  have d12 := d1.mono l2
  have hn : n ≠ 2 := fun e => by subst e; exact not_ne (d2.fn d12)
  have hn2 : (n == 2) = false := by simpa using hn
  have ca := caAnd h4 R2 d12 d2 (by rw [and_not]; exact Int.ofNat_le.2 (Nat.le_trans (zc _ _ _ R2) (by decide)))
  rw [and_not] at ca
  refine w_ fun d => ?_
  refine ca.mono ?_
  rintro _ w5 ⟨a, s3, rfl, h5, R3, l3, d3⟩
  obtain rfl : a = 0 := R3.good.canon d3 .c0
  have co := caOr h5 R3 (d12.mono l3) (d2.mono l3) (by rw [or_not]; exact Int.ofNat_le.2 (Nat.le_trans (zd _ _ _ _ R3) (by decide)))
  rw [or_not] at co
  clear ca cm c0 zx zn zc zd
  refine w_ fun d => ?_
  refine co.mono ?_
  rintro _ w6 ⟨b, s4, rfl, h6, R4, l4, d4⟩
  obtain rfl : b = 1 := R4.good.canon d4 .c1
  have hW6 := h6.world
  clear co
  refine w_ fun d => ?_
  exact ⟨rfl, ext_⟩
end Go.Proofs.Ytpeindhocndmnaa

namespace Go.Proofs.Ytpeindhocndmnaa
open Go Go.Bx
set_option linter.unusedSimpArgs false
set_option linter.unusedVariables false
set_option maxRecDepth 100000
set_option maxHeartbeats 4000000
attribute [local irreducible] X XO XE XF XD XW thenX inX retX kN CallsR
section
variable {W w w' w1 w2 : World} {p ps pm pc : Nat} {s s' sM : Md} {n v x y lo hi : Int}
theorem operTells_calls (most : Int) {l : List Fun8} {k : List Int} {q : List Dd07} {a b c : Option Addr} {ca cb cc : Nat} (hI : Inp w 4 a (l.map rowF)) (hK : InI w b k) (hQ : Inp w 5 c (q.map encD)) (hok : ∀ d ∈ q, okD d) (hl : l.length ≤ 140737488351232) (hk : k.length ≤ 140737488351232) (hq : q.length ≤ 140737488351232) :
    CallsR Try.prog 8 #[.int .i64 most, .slice a l.length ca, .slice b k.length cb, .slice c q.length cc] w fun r w' => r = .bool true ∧ Ext w w' := by
  have nw := iteNew_calls
  have up := up10_calls
  by_cases hno : ¬ (0 ≤ most ∧ most ≤ 20000) ∨ 6 < l.length ∨ 30 < k.length
  · have b0 := fun w => built_none (a := a) (b := b) (ca := ca) (cb := cb) (w := w) most hno hl hk
    clear hI hK hQ hok hno
    refine en4 Try.func8 Try.results8 mixed [] ?_
    intro e0 h0 h1 h2 h3
    refine w_ fun d => ?_
    refine (up _).mono ?_
    rintro _ w1 ⟨rfl, hE1⟩
    refine w_ fun d => ?_
    refine (b0 _).mono ?_
    rintro _ w2 ⟨rfl, hE2⟩
    refine w_ fun d => ?_
    refine (nw _).mono ?_
    rintro _ w3 ⟨pc, bm, rfl, k1, k2, k3', k4, hE3⟩
    clear k1 k2 nw up b0
    refine w_ fun d => ?_
    exact ⟨rfl, ext_⟩
  have hyes : (0 ≤ most ∧ most ≤ 20000) ∧ l.length ≤ 6 ∧ k.length ≤ 30 := by
    refine ⟨Classical.byContradiction fun h => hno (.inl h), ?_, ?_⟩
    · have : ¬ 6 < l.length := fun h => hno (.inr (.inl h)); omega
    · have : ¬ 30 < k.length := fun h => hno (.inr (.inr h)); omega
  clear hno
  obtain ⟨⟨m0, m1⟩, l6, k30⟩ := hyes
  by_cases hqn : q.length ≤ 20
  rotate_left
  · have hqn' : (20 : Int) < q.length := by omega
    have b0 := fun w hI hK => built_calls (a := a) (b := b) (ca := ca) (cb := cb) (w := w) most m0 m1 l6 k30 hI hK
    clear hQ hok hqn
    refine en4 Try.func8 Try.results8 mixed [] ?_
    intro e0 h0 h1 h2 h3
    refine w_ fun d => ?_
    refine (up _).mono ?_
    rintro _ w1 ⟨rfl, hE1⟩
    have hE1w : Ext w w1 := Ext.trans (by exact ext_) hE1
    refine w_ fun d => ?_
    refine (b0 _ (Inp.ext hI hE1w) (Inp.ext hK hE1w)).mono ?_
    rintro _ w2 ⟨ps, pm, s, rfl, hP, G⟩
    have hE2 := hP.world
    refine w_ fun d => ?_
    refine (nw _).mono ?_
    rintro _ w3 ⟨pc, bm, rfl, k1, k2, k3', k4, hE3⟩
    clear k1 k2 nw up b0 hP G hI hK
    refine w_ fun d => ?_
    exact ⟨rfl, ext_⟩
  have hqn' : ¬ (20 : Int) < q.length := by omega
  have b0 := fun w hI hK => built_calls (a := a) (b := b) (ca := ca) (cb := cb) (w := w) most m0 m1 l6 k30 hI hK
  refine en4 Try.func8 Try.results8 mixed [] ?_
  intro e0 h0 h1 h2 h3
  refine w_ fun d => ?_
  refine (up _).mono ?_
  rintro _ w1 ⟨rfl, hE1⟩
  have hE1w : Ext w w1 := Ext.trans (by exact ext_) hE1
  refine w_ fun d => ?_
  refine (b0 _ (Inp.ext hI hE1w) (Inp.ext hK hE1w)).mono ?_
  rintro _ w2 ⟨ps, pm, s, rfl, hP, G⟩
  refine w_ fun d => ?_
  refine (nw _).mono ?_
  rintro _ w3 ⟨pc, bm, rfl, k1, k2, k3', k4, hE3⟩
  have hC := hP.cache hE3 k1 k2 k3' k4
  clear k1 k2 k3' k4 nw up b0 hP hI hK hE3
  refine w_ fun d => ?_
  refine lo_ (fun _ e w' => ∃ (i : Nat) (s : Md), i ≤ q.length ∧ e 14 = .int .i64 i ∧ PcI w1 w' ps pc pm s s ∧ s.Good []) (fun e _ => q.length - nat (e 14)) ?_ ?_
  · exact ⟨0, _, by omega, eA rfl, hC.ext ext_, G⟩
  rintro e u hf ⟨i, s, hi, h14, hPu, G⟩
  have hEu := hE1w.trans hPu.world
  by_cases hlt : i < q.length
  rotate_left
  · obtain rfl : i = q.length := by omega
    clear hQ hok hlt
    refine w_ fun d => ?_
    exact ⟨rfl, hEu⟩
  obtain ⟨d, hd⟩ : ∃ d, q[i]? = some d := ⟨q[i], List.getElem?_eq_getElem hlt⟩
  obtain ⟨k1, k2, k3'⟩ := hok d (List.mem_of_getElem? hd)
  obtain ⟨wq, da, db, dc, r⟩ := d
  obtain ⟨g, o, ct, E, fz, rfl, hg, hsz, hex⟩ := deedAt (Inp.ext hQ hEu) hd
  have hltl : (i : Int) < q.length := by omega
  have pq := pick_sure wq 4 (by decide) (by decide)
  have q0 : 0 ≤ wq % 4 ∧ wq % 4 < 4 := ⟨Int.emod_nonneg _ (by decide), Int.emod_lt_of_pos _ (by decide)⟩
  generalize wq % 4 = z at pq q0
  dsimp only at k1 k2
  obtain ⟨ownM, hM⟩ := hPu.m
  have Ws := G.wf
  have la := lnode_calls hM Ws da r
  have lb := lnode_calls hM Ws db (r && decide (db < 0))
  have pa := pickN_le (raw := r) Ws k1.2
  have pb := pickN_le (raw := r && decide (db < 0)) Ws k2.2
  generalize pickN s da r = pA at *
  generalize pickN s db (r && decide (db < 0)) = pB at *
  clear hQ hok hd hC hM Ws k1 k2 k3'
  refine w_ fun d => ?_
  refine qq la fun u1 hE1 hs1 => ?_
  have hEu1 : Ext u u1 := Ext.trans (by exact ext_) hE1
  have h15 : u1.heap[u.heap.size]? = some (.cells #[.int .i64 wq, .int .i64 da, .int .i64 db, .int .i64 dc, .bool r] 79) := hE1.at (hA rfl)
  obtain ⟨b15, hb15⟩ : ∃ b, u.heap.size = b := ⟨_, rfl⟩
  rw [hb15] at h15 ⊢
  have hP1 := hPu.keep hEu1 h15 (by omega)
  have lb1 := lb.at hEu1
  have l15 := lt_of_heap h15
  clear hE1 hs1 hPu hEu1 hb15 hg hex la lb
  refine xoA ?_
  refine kv ?_
  refine xo_nil ?_
  refine cu1_ (fun W e w' => e 17 = .int .i64 pB ∧ Ext W w') ?_ ?_
  · have lb0 : r = false → Quiet Try.prog 52 #[.pointer (some ⟨pm, 0, none⟩), .int .i64 db, .bool false] u1 (.int .i64 pB) := fun h => by subst h; exact lb1
    cases r
    · have lb1 := lb0 rfl
      clear lb0 hP1
      refine w_ fun d => ?_
      refine qq lb1 fun v3 hE3 hs3 => ?_
      refine w_ fun d => ?_
      exact ⟨eA rfl, ext_⟩
    · clear lb0 hP1
      rw [Bool.true_and] at lb1
      refine w_ fun d => ?_
      refine qq lb1 fun v3 hE3 hs3 => ?_
      refine w_ fun d => ?_
      exact ⟨eA rfl, ext_⟩
  rintro e2 v1 hf2 ⟨h17, hE1⟩
  have hP := hP1.ext hE1
  have h15 := hE1.at h15
  have l15 := lt_of_heap h15
  clear hP1 hE1 lb1
  refine cu6_ (fun _ e w' => ∃ (n c : Int) (s' : Md), e 18 = .int .i64 n ∧ e 19 = .int .i64 n ∧ e 20 = .int .i64 c ∧ e 21 = errV c ∧ PcI w1 w' ps pc pm s' s' ∧ Box (s'.Good [] ∧ 0 ≤ c ∧ c ≤ 8)) ?_ ?_
  · have fin : ∀ R : (Int × Int) × Md, Itt s R → R.2.Good [] ∧ 0 ≤ R.1.2 ∧ R.1.2 ≤ 8 := fun R h => ⟨h.good, by rcases h.err with e | e | e <;> omega⟩
    have hz : z = 0 ∨ z = 1 ∨ z = 2 ∨ z = 3 := by omega
    have hP := hP.bare
    rcases hz with rfl | rfl | rfl | rfl
    · have bI := fun W u kp (h : PcK W u ps pc pm s s kp) => h.turnI fun own bm es ck ho => operNot_calls ho G pa
      have bM := fun W u s1 kp (h : PcK W u ps pc pm s1 s kp) => h.turnM fun own ho => rsIte_calls (a := pA) (b := 0) (c := 1) ho G pa (by decide) (by decide)
      have gb := fin _ (G.itt pA 0 1)
      generalize s.ite pA 0 1 = R at bI bM gb
      clear fin G q0
      refine w_ fun d => ?_
      refine qq (pq.quiet (w := v1)) fun v2 hE2 hs2 => ?_
      refine w_ fun d => ?_
      refine (bI _ _ _ ((hP.ext hE2).ext ext_)).mono ?_
      rintro _ v5 ⟨rfl, hP5⟩
      refine w_ fun d => ?_
      refine (bM _ _ _ _ (hP5.ext ext_)).mono ?_
      rintro _ v6 ⟨rfl, hP6⟩
      refine w_ fun d => ?_
      exact ⟨R.1.1, R.1.2, R.2, eA rfl, eA rfl, eA rfl, eA rfl, hP6.ext ext_, ⟨gb⟩⟩
    · have bI := fun W u kp (h : PcK W u ps pc pm s s kp) => h.turnI fun own bm es ck ho => operAnd_calls ho G pa pb
      have bM := fun W u s1 kp (h : PcK W u ps pc pm s1 s kp) => h.turnM fun own ho => rsIte_calls (a := pA) (b := pB) (c := 0) ho G pa pb (by decide)
      have gb := fin _ (G.itt pA pB 0)
      generalize s.ite pA pB 0 = R at bI bM gb
      clear fin G q0
      refine w_ fun d => ?_
      refine qq (pq.quiet (w := v1)) fun v2 hE2 hs2 => ?_
      refine w_ fun d => ?_
      refine (bI _ _ _ ((hP.ext hE2).ext ext_)).mono ?_
      rintro _ v5 ⟨rfl, hP5⟩
      refine w_ fun d => ?_
      refine (bM _ _ _ _ (hP5.ext ext_)).mono ?_
      rintro _ v6 ⟨rfl, hP6⟩
      refine w_ fun d => ?_
      exact ⟨R.1.1, R.1.2, R.2, eA rfl, eA rfl, eA rfl, eA rfl, hP6.ext ext_, ⟨gb⟩⟩
    · have bI := fun W u kp (h : PcK W u ps pc pm s s kp) => h.turnI fun own bm es ck ho => operOr_calls ho G pa pb
      have bM := fun W u s1 kp (h : PcK W u ps pc pm s1 s kp) => h.turnM fun own ho => rsIte_calls (a := pA) (b := 1) (c := pB) ho G pa (by decide) pb
      have gb := fin _ (G.itt pA 1 pB)
      generalize s.ite pA 1 pB = R at bI bM gb
      clear fin G q0
      refine w_ fun d => ?_
      refine qq (pq.quiet (w := v1)) fun v2 hE2 hs2 => ?_
      refine w_ fun d => ?_
      refine (bI _ _ _ ((hP.ext hE2).ext ext_)).mono ?_
      rintro _ v5 ⟨rfl, hP5⟩
      refine w_ fun d => ?_
      refine (bM _ _ _ _ (hP5.ext ext_)).mono ?_
      rintro _ v6 ⟨rfl, hP6⟩
      refine w_ fun d => ?_
      exact ⟨R.1.1, R.1.2, R.2, eA rfl, eA rfl, eA rfl, eA rfl, hP6.ext ext_, ⟨gb⟩⟩
    · have bI := fun W u kp (h : PcK W u ps pc pm s s kp) => h.turnI fun own bm es ck ho => operXor_calls ho G pa pb
      have bM := fun W u s1 kp (h : PcK W u ps pc pm s1 s kp) => h.turnM fun own ho => rsXor_calls (a := pA) (b := pB) ho G pa pb
      have gb := fin _ (G.xtt pA pB)
      generalize s.xor pA pB = R at bI bM gb
      clear fin G q0
      refine w_ fun d => ?_
      refine qq (pq.quiet (w := v1)) fun v2 hE2 hs2 => ?_
      refine w_ fun d => ?_
      refine (bI _ _ _ ((hP.ext hE2).ext ext_)).mono ?_
      rintro _ v5 ⟨rfl, hP5⟩
      refine w_ fun d => ?_
      refine (bM _ _ _ _ (hP5.ext ext_)).mono ?_
      rintro _ v6 ⟨rfl, hP6⟩
      refine w_ fun d => ?_
      exact ⟨R.1.1, R.1.2, R.2, eA rfl, eA rfl, eA rfl, eA rfl, hP6.ext ext_, ⟨gb⟩⟩
  clear hP G h15 l15 pq q0 h17 pa pb
  rintro e3 v2 hf3 ⟨n, c, s2, h18, h19, h20, h21, hP, ⟨G, c0, c8⟩⟩
  have cr := code_sure c c0 c8
  refine w_ fun d => ?_
  refine qq (cr.quiet (w := v2)) fun v7 hE7 hs7 => ?_
  refine w_ fun d => ?_
  refine (same_calls (hP.ext hE7).pri G).mono ?_
  rintro _ v8 ⟨rfl, hE8⟩
  refine w_ fun d => ?_
  exact ⟨⟨i + 1, s2, by omega, eA rfl, ((hP.ext hE7).ext hE8).ext ext_, G⟩, mA⟩
end
end Go.Proofs.Ytpeindhocndmnaa

namespace Go.Proofs.Ytpeindhocndmnaa
open Go Go.Bx
set_option linter.unusedSimpArgs false
set_option linter.unusedVariables false
set_option maxRecDepth 100000
set_option maxHeartbeats 4000000
attribute [local irreducible] X XO XE XF XD XW thenX inX retX kN CallsR
section
variable {w : World} {b ck : Nat} {es : List (Ent Int)} {v : Value} {n : Int}
theorem luI (h : w.heap[b]? = some (mObj (Value.int .i64) es ck)) : luO Try.prog 150 b (.int .i64 n) true w (some (mObj (Value.int .i64) es ck)) h = .ok (.tuple #[(mget es n).getD (.int .i64 0), .bool (mget es n).isSome]) w := lookup_at h T150 T3 (intK T3.und) trivial (fun _ _ => trivial) true
theorem muI (h : w.heap[b]? = some (mObj (Value.int .i64) es ck)) : muO Try.prog 150 b (.int .i64 n) v w (some (mObj (Value.int .i64) es ck)) h = .ok () (upd w b (mObj (Value.int .i64) (mput es n v ck) (mclock es n ck))) := update_at h T150 (intK T3.und) trivial (fun _ _ => trivial) v
attribute [push_cast] luI muI
end
def KnQ (s : Md) (v : Int) (b : Bool) (es : List (Ent Int)) : Prop := ∀ x ∈ es, ∃ (m : Int) (f : Fun8), x.2.1 = .int .i64 m ∧ Den s x.1 f ∧ Den s m (cofF f v b)
theorem KnQ.mono {s s' : Md} {v : Int} {b : Bool} {es : List (Ent Int)} (h : KnQ s v b es) (hl : s.Le s') : KnQ s' v b es := fun x hx => by
  obtain ⟨m, f, h1, h2, h3⟩ := h x hx
  exact ⟨m, f, h1, h2.mono hl, h3.mono hl⟩
theorem KnQ.put {s : Md} {v : Int} {b : Bool} {es : List (Ent Int)} {ck : Nat} {n m : Int} {f : Fun8} (h : KnQ s v b es) (hI : MInv es ck) (d : Den s n f) (dm : Den s m (cofF f v b)) : KnQ s v b (mput es n (.int .i64 m) ck) := by
  intro x hx
  rcases mput_mem hI.keys hx with ⟨h1, _⟩ | ⟨h1, h2, _⟩
  · exact h x h1
  · exact ⟨m, f, h2, by rw [h1]; exact d, dm⟩
structure QsI (own : Nat → Nat) (w : World) (p : Nat) (s : Md) (bb bm : Nat) (v : Int) (b : Bool) (es : List (Ent Int)) (ck : Nat) : Prop where
  sti : StI own w p s []
  hb : w.heap[bb]? = some (.cells #[.pointer (some ⟨p, 0, none⟩), .int .i64 v, .bool b, .map (some bm)] 152)
  hm : w.heap[bm]? = some (mObj (Value.int .i64) es ck)
  inv : MInv es ck
  kn : KnQ s v b es
  ob : own bb = 0
  om : own bm = 0
section
variable {own own' own1 : Nat → Nat} {w w' w1 w2 : World} {p bb bm ck : Nat} {s s' s2 : Md} {es : List (Ent Int)} {f : Fun8} {n m v : Int} {b : Bool}
theorem QsI.ext (h : QsI own w p s bb bm v b es ck) (hE : Ext w w') : QsI own w' p s bb bm v b es ck := ⟨h.sti.ext hE, hE.at h.hb, hE.at h.hm, h.inv, h.kn, h.ob, h.om⟩
def QsT (own : Nat → Nat) (w : World) (p : Nat) (s' : Md) (bb bm : Nat) (v : Int) (b : Bool) (w' : World) : Prop := ∃ own' es' ck', QsI own' w' p s' bb bm v b es' ck' ∧ BtS own w bm own' w'
theorem QsT.of_ext (h : QsI own w p s bb bm v b es ck) (hE : Ext w w') : QsT own w p s bb bm v b w' := ⟨own, es, ck, h.ext hE, BtS.of_ext hE⟩
theorem QsT.ext (k : QsT own w p s bb bm v b w1) (hE : Ext w1 w2) : QsT own w p s bb bm v b w2 := by
  obtain ⟨o2, e2, c2, h1, h2⟩ := k
  exact ⟨o2, e2, c2, h1.ext hE, h2.ext hE⟩
theorem QsI.turn (h : QsI own w p s bb bm v b es ck) (hl : s.Le s') (hT : TrI own w p s' [] w') : ∃ own', QsI own' w' p s' bb bm v b es ck ∧ BtS own w bm own' w' := by
  obtain ⟨o, h1, h2, h3⟩ := hT
  have hk : ∀ k, k < w.heap.size → own k = 0 → w'.heap[k]? = w.heap[k]? := fun k hk h0 => h3.heap k hk fun hf => hf h0
  have lb := lt_of_heap h.hb
  have lm := lt_of_heap h.hm
  refine ⟨o, ⟨h1, (hk _ lb h.ob).trans h.hb, (hk _ lm h.om).trans h.hm, h.inv, h.kn.mono hl, (h2 _ lb).trans h.ob, (h2 _ lm).trans h.om⟩, h2, h3.mono fun k _ hk => .inl hk⟩
theorem QsI.put (h : QsI own w p s bb bm v b es ck) (d : Den s n f) (dm : Den s m (cofF f v b)) : QsI own (upd w bm (mObj (Value.int .i64) (mput es n (.int .i64 m) ck) (mclock es n ck))) p s bb bm v b (mput es n (.int .i64 m) ck) (mclock es n ck) := by
  have lm := lt_of_heap h.hm
  have hne : bb ≠ bm := fun e => by have h1 := h.hb; rw [e, h.hm] at h1; cases h1
  have hC : Chg (fun k => k = bm) w (upd w bm (mObj (Value.int .i64) (mput es n (.int .i64 m) ck) (mclock es n ck))) := chg_
  exact ⟨h.sti.chg0 hC fun k hk => hk ▸ h.om, (hC.heap _ (lt_of_heap h.hb) hne).trans h.hb, upd_same lm, h.inv.put _ _, h.kn.put h.inv d dm, h.ob, h.om⟩
theorem qSet_none (h : QsI own w p s bb bm v b es ck) (W : s.WF) (hn : n ≤ 9223372036854775807) (hh : s.has n = false) : CallsR Try.prog 116 #[.pointer (some ⟨bb, 0, none⟩), .int .i64 n] w fun r w' => r = .tuple #[.int .i64 n, errV 0] ∧ Ext w w' := by
  have n1 := stNode_calls h.sti W n hn
  rw [node_no hh] at n1
  simp only [ndV] at n1
  have od := stOrder_calls h.sti
  obtain ⟨oc, hoc⟩ := ordC (ord := s.ord) W.ord.len
  rw [hoc.agg] at od
  have ho8 := hoc.len8
  have hoe := hoc.cell
  have hoz := hoc.size
  have hoa := hoc.all
  have hb := h.hb
  have lb := lt_of_heap hb
  clear h
  refine en2 Try.func116 Try.results116 mixed [(18, [8])] ?_
  intro e0 h0 h1
  refine w_ fun d => ?_
  refine qq n1 fun w1 hE1 hs1 => ?_
  have hb1 := (Ext.trans (by exact ext_) hE1 : Ext w w1).at hb
  have lb1 := lt_of_heap hb1
  refine w_ fun d => ?_
  refine qq od fun w2 hE2 hs2 => ?_
  refine w_ fun d => ?_
  exact ⟨by rw [errV0], ext_⟩
theorem qSet_far (h : QsI own w p s bb bm v b es ck) (W : s.WF) (hn : n ≤ 9223372036854775807) (hh : s.has n = true) (hl : lvl s.ord v < lvl s.ord (s.nd n).1) : CallsR Try.prog 116 #[.pointer (some ⟨bb, 0, none⟩), .int .i64 n] w fun r w' => r = .tuple #[.int .i64 n, errV 0] ∧ Ext w w' := by
  have n1 := stNode_calls h.sti W n hn
  rw [node_has hh] at n1
  obtain ⟨⟨x, lo, hi⟩, hz⟩ : ∃ z, s.nd n = z := ⟨_, rfl⟩
  rw [hz] at n1 hl
  simp only [ndV] at n1
  dsimp only at hl
  have od := stOrder_calls h.sti
  obtain ⟨oc, hoc⟩ := ordC (ord := s.ord) W.ord.len
  rw [hoc.agg] at od
  have ho8 := hoc.len8
  have hoe := hoc.cell
  have hoz := hoc.size
  have hoa := hoc.all
  have lx := level_oc hoc x
  have lv := level_oc hoc v
  have hb := h.hb
  have lb := lt_of_heap hb
  clear h
  generalize lvl s.ord x = Lx at hl lx
  generalize lvl s.ord v = Lv at hl lv
  refine en2 Try.func116 Try.results116 mixed [(18, [8])] ?_
  intro e0 h0 h1
  refine w_ fun d => ?_
  refine qq n1 fun w1 hE1 hs1 => ?_
  have hb1 := (Ext.trans (by exact ext_) hE1 : Ext w w1).at hb
  have lb1 := lt_of_heap hb1
  refine w_ fun d => ?_
  refine qq od fun w2 hE2 hs2 => ?_
  have hb2 := (Ext.trans (by exact ext_) hE2 : Ext w1 w2).at hb1
  have lb2 := lt_of_heap hb2
  refine w_ fun d => ?_
  intro w3 hE3 hs3
  refine w_ fun d => ?_
  exact ⟨by rw [errV0], ext_⟩
theorem qSet_own (h : QsI own w p s bb bm v b es ck) (W : s.WF) (hn : n ≤ 9223372036854775807) (hh : s.has n = true) (hx : (s.nd n).1 = v) : CallsR Try.prog 116 #[.pointer (some ⟨bb, 0, none⟩), .int .i64 n] w fun r w' => r = .tuple #[.int .i64 (if b then (s.nd n).2.2 else (s.nd n).2.1), errV 0] ∧ Ext w w' := by
  have n1 := stNode_calls h.sti W n hn
  rw [node_has hh] at n1
  obtain ⟨⟨x, lo, hi⟩, hz⟩ : ∃ z, s.nd n = z := ⟨_, rfl⟩
  rw [hz] at n1 hx ⊢
  simp only [ndV] at n1
  dsimp only at hx ⊢
  subst hx
  have od := stOrder_calls h.sti
  obtain ⟨oc, hoc⟩ := ordC (ord := s.ord) W.ord.len
  rw [hoc.agg] at od
  have ho8 := hoc.len8
  have hoe := hoc.cell
  have hoz := hoc.size
  have hoa := hoc.all
  have lx := level_oc hoc x
  have hb := h.hb
  have lb := lt_of_heap hb
  clear h
  generalize lvl s.ord x = Lx at lx
  cases b
  · refine en2 Try.func116 Try.results116 mixed [(18, [8])] ?_
    intro e0 h0 h1
    refine w_ fun d => ?_
    refine qq n1 fun w1 hE1 hs1 => ?_
    have hb1 := (Ext.trans (by exact ext_) hE1 : Ext w w1).at hb
    have lb1 := lt_of_heap hb1
    refine w_ fun d => ?_
    refine qq od fun w2 hE2 hs2 => ?_
    have hb2 := (Ext.trans (by exact ext_) hE2 : Ext w1 w2).at hb1
    have lb2 := lt_of_heap hb2
    have h62 : w2.heap[w1.heap.size]? = some (.cells #[.int .i64 x, .int .i64 lo, .int .i64 hi] 39) := hE2.at (hA rfl)
    have l62 := lt_of_heap h62
    refine w_ fun d => ?_
    intro w3 hE3 hs3
    have hb3 := (Ext.trans (by exact ext_) hE3 : Ext w2 w3).at hb2
    have lb3 := lt_of_heap hb3
    have h63 := (Ext.trans (by exact ext_) hE3 : Ext w2 w3).at h62
    have l63 := lt_of_heap h63
    refine w_ fun d => ?_
    exact ⟨by rw [errV0]; rfl, ext_⟩
  · refine en2 Try.func116 Try.results116 mixed [(18, [8])] ?_
    intro e0 h0 h1
    refine w_ fun d => ?_
    refine qq n1 fun w1 hE1 hs1 => ?_
    have hb1 := (Ext.trans (by exact ext_) hE1 : Ext w w1).at hb
    have lb1 := lt_of_heap hb1
    refine w_ fun d => ?_
    refine qq od fun w2 hE2 hs2 => ?_
    have hb2 := (Ext.trans (by exact ext_) hE2 : Ext w1 w2).at hb1
    have lb2 := lt_of_heap hb2
    have h62 : w2.heap[w1.heap.size]? = some (.cells #[.int .i64 x, .int .i64 lo, .int .i64 hi] 39) := hE2.at (hA rfl)
    have l62 := lt_of_heap h62
    refine w_ fun d => ?_
    intro w3 hE3 hs3
    have hb3 := (Ext.trans (by exact ext_) hE3 : Ext w2 w3).at hb2
    have lb3 := lt_of_heap hb3
    have h63 := (Ext.trans (by exact ext_) hE3 : Ext w2 w3).at h62
    have l63 := lt_of_heap h63
    refine w_ fun d => ?_
    exact ⟨by rw [errV0]; rfl, ext_⟩
theorem qSet_calls {p bb bm : Nat} {v : Int} {b : Bool} (hv : 0 ≤ v ∧ v < 8) : ∀ (k : Nat) (own : Nat → Nat) (w : World) (s : Md) (es : List (Ent Int)) (ck : Nat) (n : Int) (f : Fun8), QsI own w p s bb bm v b es ck → s.Good [] → Den s n f → nv f ≤ k →
    CallsR Try.prog 116 #[.pointer (some ⟨bb, 0, none⟩), .int .i64 n] w fun r w' => r = .tuple #[.int .i64 (s.bld (cofF f v b)).1.1, errV (s.bld (cofF f v b)).1.2] ∧ QsT own w p (s.bld (cofF f v b)).2 bb bm v b w' := by
  intro k
  induction k using Nat.strongRecOn with
  | _ k ih =>
  intro own w s es ck n f h G dn hk
  have hn := bt_rng G.wf dn
  have fin : ∀ m, Den s m (cofF f v b) → (CallsR Try.prog 116 #[.pointer (some ⟨bb, 0, none⟩), .int .i64 n] w fun r w' => r = .tuple #[.int .i64 m, errV 0] ∧ Ext w w') → CallsR Try.prog 116 #[.pointer (some ⟨bb, 0, none⟩), .int .i64 n] w fun r w' => r = .tuple #[.int .i64 (s.bld (cofF f v b)).1.1, errV (s.bld (cofF f v b)).1.2] ∧ QsT own w p (s.bld (cofF f v b)).2 bb bm v b w' := fun m dm hc => by
    rw [G.bld_ex dm]
    refine hc.mono ?_
    rintro r w' ⟨rfl, hE⟩
    exact ⟨rfl, QsT.of_ext h hE⟩
  cases hh : s.has n with
  | false =>
    have hf : depF f v = false := by
      cases hd : depF f v
      · rfl
      · have := (G.dep dn hd).1; rw [hh] at this; cases this
    exact fin n (by rw [cof_nodep hf]; exact dn) (qSet_none h G.wf hn hh)
  | true =>
  by_cases hl : lvl s.ord v < lvl s.ord (s.nd n).1
  · have hf : depF f v = false := by
      cases hd : depF f v
      · rfl
      · have := (G.dep dn hd).2; omega
    exact fin n (by rw [cof_nodep hf]; exact dn) (qSet_far h G.wf hn hh hl)
  have ⟨d0, d1⟩ := G.sides dn hh
  by_cases hx : (s.nd n).1 = v
  · refine fin _ ?_ (qSet_own h G.wf hn hh hx)
    rw [hx] at d0 d1
    cases b
    · exact d0
    · exact d1
  have hxr := (G.node n hh (by simp)).var
  have hdx := G.top hh dn
  have hbe := fun u hu => (G.dep dn (v := u) hu).2
  have n1 := stNode_calls h.sti G.wf n hn
  rw [node_has hh] at n1
  obtain ⟨⟨x, lo, hi⟩, hz⟩ : ∃ z, s.nd n = z := ⟨_, rfl⟩
  rw [hz] at n1 hl hx hxr hdx hbe d0 d1
  simp only [ndV] at n1
  dsimp only at hl hx hxr hdx hbe d0 d1
  have nv0 := nv_cof (b := false) hdx
  have nv1 := nv_cof (b := true) hdx
  have hgo := bld_split (f := cofF f v b) G hxr (fun u hu => hbe u (dep_of_cof hu))
  unfold SplB at hgo
  rw [cof_comm (fun e => hx e.symm), cof_comm (fun e => hx e.symm)] at hgo
  have hbl := G.bld (cofF f v b)
  have od := stOrder_calls h.sti
  obtain ⟨oc, hoc⟩ := ordC (ord := s.ord) G.wf.ord.len
  rw [hoc.agg] at od
  have ho8 := hoc.len8
  have hoe := hoc.cell
  have hoz := hoc.size
  have hoa := hoc.all
  have lx := level_oc hoc x
  have lv := level_oc hoc v
  have hxv : (x == v) = false := by simpa using hx
  have hb := h.hb
  have hm := h.hm
  have lb := lt_of_heap hb
  have lm := lt_of_heap hm
  have own0 : ∀ k, w.heap.size ≤ k → own k = 0 := fun k hk => by
    cases ho : own k with
    | zero => rfl
    | succ q => have := h.sti.lt k (by omega); omega
  generalize lvl s.ord x = Lx at hl lx
  generalize lvl s.ord v = Lv at hl lv
  cases hg : mget es n with
  | some val =>
    obtain ⟨bb', hbb⟩ := mget_some hg
    obtain ⟨m, f', e1, e2, e3⟩ := h.kn _ hbb
    dsimp only at e1 e2
    obtain rfl := e2.fn dn
    subst e1
    have g1 : (mget es n).isSome = true := by rw [hg]; rfl
    have g2 : (mget es n).getD (.int .i64 0) = .int .i64 m := by rw [hg]; rfl
    refine fin m e3 ?_
    clear hg hbb e2 e3 ih fin hgo hbl h hbe dn d0 d1 own0 G
    refine en2 Try.func116 Try.results116 mixed [(18, [8])] ?_
    intro e0 h0 h1
    refine w_ fun d => ?_
    refine qq n1 fun w1 hE1 hs1 => ?_
    have hE01 : Ext w w1 := Ext.trans (by exact ext_) hE1
    have hb1 := hE01.at hb
    have hm1 := hE01.at hm
    have lb1 := lt_of_heap hb1
    refine w_ fun d => ?_
    refine qq od fun w2 hE2 hs2 => ?_
    have hE12 : Ext w1 w2 := Ext.trans (by exact ext_) hE2
    have hb2 := hE12.at hb1
    have hm2 := hE12.at hm1
    have lb2 := lt_of_heap hb2
    have h62 : w2.heap[w1.heap.size]? = some (.cells #[.int .i64 x, .int .i64 lo, .int .i64 hi] 39) := hE2.at (hA rfl)
    have l62 := lt_of_heap h62
    refine w_ fun d => ?_
    intro w3 hE3 hs3
    have hE23 : Ext w2 w3 := Ext.trans (by exact ext_) hE3
    have hb3 := hE23.at hb2
    have hm3 := hE23.at hm2
    have lb3 := lt_of_heap hb3
    have lm3 := lt_of_heap hm3
    have h63 := hE23.at h62
    have l63 := lt_of_heap h63
    refine w_ fun d => ?_
    exact ⟨by rw [errV0], ext_⟩
  | none =>
  have g1 : (mget es n).isSome = false := by rw [hg]; rfl
  obtain ⟨R, hR⟩ : ∃ R, s.bld (cofF f v b) = R := ⟨_, rfl⟩
  rw [hR] at hgo hbl ⊢
  clear hg fin hR
  refine en2 Try.func116 Try.results116 mixed [(18, [8])] ?_
  intro e0 h0 h1
  refine w_ fun d => ?_
  refine qq n1 fun w1 hE1 hs1 => ?_
  have hE01 : Ext w w1 := Ext.trans (by exact ext_) hE1
  have hb1 := hE01.at hb
  have hm1 := hE01.at hm
  have lb1 := lt_of_heap hb1
  refine w_ fun d => ?_
  refine qq od fun w2 hE2 hs2 => ?_
  have hE12 : Ext w1 w2 := Ext.trans (by exact ext_) hE2
  have hb2 := hE12.at hb1
  have hm2 := hE12.at hm1
  have lb2 := lt_of_heap hb2
  have h62 : w2.heap[w1.heap.size]? = some (.cells #[.int .i64 x, .int .i64 lo, .int .i64 hi] 39) := hE2.at (hA rfl)
  have l62 := lt_of_heap h62
  have z6 : w.heap.size ≤ w1.heap.size := hE01.size
  obtain ⟨b6, hb6⟩ : ∃ b, w1.heap.size = b := ⟨_, rfl⟩
  rw [hb6] at h62 z6 ⊢
  have o6 := own0 _ z6
  have n6 : b6 ≠ bm := by omega
  refine w_ fun d => ?_
  intro w3 hE3 hs3
  have hE23 : Ext w2 w3 := Ext.trans (by exact ext_) hE3
  have hE03 := (hE01.trans hE12).trans hE23
  have h3 := h.ext hE03
  have hb3 := h3.hb
  have hm3 := h3.hm
  have lb3 := lt_of_heap hb3
  have lm3 := lt_of_heap hm3
  have h63 := hE23.at h62
  have l63 := lt_of_heap h63
  have hS3 := BtS.of_ext (own := own) (bm := bm) hE03
  clear own0 hb hm lb lm hE01 hE12 hE23 hE03 hE1 hE2 hE3 hs1 hs2 hs3 hb1 hm1 lb1 hb2 hm2 lb2 h62 l62 hb6 od n1 hbe h
  refine w_ fun d => ?_
  have hED : Ext w3 (dr w3 d) := ext_
  refine (ih _ (Nat.lt_of_lt_of_le nv0 hk) own _ s es ck lo _ (h3.ext hED) G d0 (Nat.le_refl _)).mono ?_
  rintro r w4 ⟨hr, own1, es1, ck1, hI1, hS1⟩
  have hS4 := (hS3.ext hED).trans hS1
  obtain ⟨o61, h64⟩ := hS1.out (hED.at h63) o6 n6
  have l64 := lt_of_heap h64
  rcases hgo with ⟨e0, eR⟩ | ⟨n0, s0, e0, G0, L0, D0, hgo⟩
  · rw [eR, e0]
    rw [e0] at hr
    dsimp only at hr
    subst hr
    rw [errV2]
    clear ih
    refine w_ fun d => ?_
    exact ⟨rfl, _, _, _, hI1, hS4⟩
  rw [e0] at hr hI1
  dsimp only at hr hI1
  subst hr
  rw [errV0]
  clear h3 hb3 hm3 lb3 lm3 h63 l63 hS3 hS1 hED
  refine w_ fun d => ?_
  refine (ih _ (Nat.lt_of_lt_of_le nv1 hk) own1 w4 s0 es1 ck1 hi _ hI1 G0 (d1.mono L0) (Nat.le_refl _)).mono ?_
  rintro r w5 ⟨hr, own2, es2, ck2, hI2, hS2⟩
  have hS5 := hS4.trans hS2
  obtain ⟨o62, h65⟩ := hS2.out h64 o61 n6
  have l65 := lt_of_heap h65
  rcases hgo with ⟨e1, eR⟩ | ⟨n1, s1, e1, G1, L1, D1, hgo⟩
  · rw [eR, e1]
    rw [e1] at hr
    dsimp only at hr
    subst hr
    rw [errV2]
    clear ih
    refine w_ fun d => ?_
    exact ⟨rfl, _, _, _, hI2, hS5⟩
  rw [e1] at hr hI2
  dsimp only at hr hI2
  subst hr
  rw [errV0]
  have L01 := L0.trans L1
  have hmk := fun u (hu : Ext w5 u) => stMk_calls (v := x) ((hI2.ext hu).sti) G1 (bt_rng G1.wf (D0.mono L1)) (bt_rng G1.wf D1)
  rw [← hgo] at hmk
  have hLR : s1.Le R.2 := by rw [hgo]; exact (G1.mks _ _ _).2.1
  have hb5 := hI2.hb
  have lb5 := lt_of_heap hb5
  clear ih hgo e0 e1 hI1 hS4 hS2 h64 l64
  refine w_ fun d => ?_
  refine s_draw (XD_ext ?_)
  refine de_ ?_
  refine xe2w fun w6 hE6 => ?_
  have hI6 := hI2.ext hE6
  refine krA ?_
  refine ke ?_
  refine (hmk w6 hE6).mono ?_
  rintro _ w7 ⟨rfl, hTr⟩
  obtain ⟨own3, hI3, hS3⟩ := hI6.turn hLR hTr
  have hS7 := (hS5.ext hE6).trans hS3
  clear hmk
  refine de_ ?_
  refine xn_ fun w8 hE8 hs8 => ?_
  have hI8 := hI3.ext hE8
  have hS8 := hS7.ext hE8
  have hb8 := hI8.hb
  have hm8 := hI8.hm
  have lb8 := lt_of_heap hb8
  have lm8 := lt_of_heap hm8
  obtain ⟨⟨Rn, Re⟩, R2⟩ := R
  dsimp only at hI8 hLR ⊢
  clear hI2 hI6 hI3 hTr hS3 hS7 hS5 hE6 hE8 hs8 hb5 lb5 h65 l65
  rcases hbl.res with ⟨e2, D2⟩ | ⟨e2, _⟩
  · dsimp only at e2 D2
    subst e2
    rw [errV0]
    have hput := hI8.put (dn.mono (L01.trans hLR)) D2
    have hTp : BtS own3 w8 bm own3 (upd w8 bm (mObj (Value.int .i64) (mput es2 n (.int .i64 Rn) ck2) (mclock es2 n ck2))) := ⟨fun _ _ => rfl, chg_⟩
    refine w_ fun d => ?_
    exact ⟨rfl, QsT.ext ⟨_, _, _, hput, hS8.trans hTp⟩ ext_⟩
  · cases e2
    rw [errV2]
    refine w_ fun d => ?_
    exact ⟨rfl, QsT.ext ⟨_, _, _, hI8, hS8⟩ ext_⟩
theorem qMay_calls (h : StI own w p s []) (W : s.WF) (n v : Int) (hn : n ≤ 9223372036854775807) : Quiet Try.prog 115 #[.pointer (some ⟨p, 0, none⟩), .int .i64 n, .int .i64 v] w (.bool (s.there n && (decide (0 ≤ v) && decide (v < 8)))) := by
  intro u hu
  have n1 := (stNode_calls h W n hn).at hu
  have hv : (decide (0 ≤ v) && decide (v < 8)) = if v < 0 then false else decide (v < 8) := by
    by_cases h : v < 0
    · rw [if_pos h, decide_eq_false (by omega)]; rfl
    · rw [if_neg h, decide_eq_true (by omega)]; rfl
  rw [hv]
  clear hv
  unfold Md.there
  cases hh : s.has n
  · rw [node_no hh] at n1
    simp only [ndV] at n1
    clear h W hh
    by_cases h0 : n = 0
    · subst h0
      by_cases hv0 : v < 0
      · rw [if_pos hv0]
        refine en3 Try.func115 Try.results115 mixed [] ?_
        intro e0 h0 h1 h2
        refine w_ fun d => ?_
        refine qq n1 fun w1 hE1 hs1 => ?_
        refine w_ fun d => ?_
        exact ⟨rfl, ext_⟩
      · rw [if_neg hv0]
        have hv0' : 0 ≤ v := by omega
        refine en3 Try.func115 Try.results115 mixed [] ?_
        intro e0 h0 h1 h2
        refine w_ fun d => ?_
        refine qq n1 fun w1 hE1 hs1 => ?_
        refine w_ fun d => ?_
        exact ⟨rfl, ext_⟩
    · have e0 : (n == 0) = false := by simpa using h0
      have d0 : decide (n = 0) = false := decide_eq_false h0
      by_cases h1 : n = 1
      · subst h1
        by_cases hv0 : v < 0
        · rw [if_pos hv0]
          refine en3 Try.func115 Try.results115 mixed [] ?_
          intro e0 h0 h1 h2
          refine w_ fun d => ?_
          refine qq n1 fun w1 hE1 hs1 => ?_
          refine w_ fun d => ?_
          exact ⟨rfl, ext_⟩
        · rw [if_neg hv0]
          have hv0' : 0 ≤ v := by omega
          refine en3 Try.func115 Try.results115 mixed [] ?_
          intro e0 h0 h1 h2
          refine w_ fun d => ?_
          refine qq n1 fun w1 hE1 hs1 => ?_
          refine w_ fun d => ?_
          exact ⟨rfl, ext_⟩
      · have e1 : (n == 1) = false := by simpa using h1
        have d1 : decide (n = 1) = false := decide_eq_false h1
        rw [d0, d1]
        clear d0 d1
        refine en3 Try.func115 Try.results115 mixed [] ?_
        intro e0 h0 h1 h2
        refine w_ fun d => ?_
        refine qq n1 fun w1 hE1 hs1 => ?_
        refine w_ fun d => ?_
        exact ⟨rfl, ext_⟩
  · rw [node_has hh] at n1
    rw [Bool.or_true, Bool.or_true, Bool.true_and]
    obtain ⟨⟨a, b, c⟩, hz⟩ : ∃ z, s.nd n = z := ⟨_, rfl⟩
    rw [hz] at n1
    simp only [ndV] at n1
    clear h W hz hh
    by_cases hv0 : v < 0
    · rw [if_pos hv0]
      refine en3 Try.func115 Try.results115 mixed [] ?_
      intro e0 h0 h1 h2
      refine w_ fun d => ?_
      refine qq n1 fun w1 hE1 hs1 => ?_
      refine w_ fun d => ?_
      exact ⟨rfl, ext_⟩
    · rw [if_neg hv0]
      have hv0' : 0 ≤ v := by omega
      refine en3 Try.func115 Try.results115 mixed [] ?_
      intro e0 h0 h1 h2
      refine w_ fun d => ?_
      refine qq n1 fun w1 hE1 hs1 => ?_
      refine w_ fun d => ?_
      exact ⟨rfl, ext_⟩
theorem qRestrict_calls (h : StI own w p s []) (G : s.Good []) (ha : n ≤ 9223372036854775807) (b : Bool) :
    CallsR Try.prog 61 #[.pointer (some ⟨p, 0, none⟩), .int .i64 n, .int .i64 v, .bool b] w fun r w' => r = .tuple #[.int .i64 (s.restr n v b).1.1, errV (s.restr n v b).1.2] ∧ TrI own w p (s.restr n v b).2 [] w' := by
  have my := qMay_calls h G.wf n v ha
  cases hy : s.there n && (decide (0 ≤ v) && decide (v < 8))
  · rw [restr_no hy, errV1]
    rw [hy] at my
    clear hy G
    refine en4 Try.func61 Try.results61 mixed [] ?_
    intro e0 h0 h1 h2 h3
    refine w_ fun d => ?_
    refine qq my fun w1 hE1 hs1 => ?_
    refine w_ fun d => ?_
    exact ⟨rfl, TrI.of_ext h ext_⟩
  rw [restr_yes hy]
  rw [hy] at my
  simp only [Bool.and_eq_true, decide_eq_true_eq] at hy
  obtain ⟨ht, hv⟩ := hy
  have dn := G.there_den ht
  generalize s.tab n = f at dn ⊢
  have own0 : ∀ k, w.heap.size ≤ k → own k = 0 := fun k hk => by
    cases ho : own k with
    | zero => rfl
    | succ q => have := h.lt k (by omega); omega
  refine en4 Try.func61 Try.results61 mixed [] ?_
  intro e0 h0 h1 h2 h3
  refine w_ fun d => ?_
  refine qq my fun w1 hE1 hs1 => ?_
  refine w_ fun d => ?_
  have hEu := hE1.trans (show Ext w1 ((w1.alloc (.map #[] 0)).alloc (.cells #[.pointer (some ⟨p, 0, none⟩), .int .i64 v, .bool b, .map (some w1.heap.size)] 152)) from ext_)
  have z1 := hE1.size
  have hQ : QsI own ((w1.alloc (.map #[] 0)).alloc (.cells #[.pointer (some ⟨p, 0, none⟩), .int .i64 v, .bool b, .map (some w1.heap.size)] 152)) p s (w1.heap.size + 1) w1.heap.size v b [] 0 := ⟨h.ext hEu, hA rfl, hA rfl, MInv.nil, fun x hx => (by cases hx), own0 _ (by omega), own0 _ (by omega)⟩
  refine (qSet_calls hv _ own _ s [] 0 n f hQ G dn (Nat.le_refl _)).mono ?_
  rintro _ w3 ⟨rfl, own1, es1, ck1, hI1, hS1⟩
  have hT : TrI own w p (s.bld (cofF f v b)).2 [] w3 := ⟨own1, hI1.sti, fun k hk => hS1.ho k (Nat.lt_of_lt_of_le hk hEu.size), (hEu.chg _).trans (hS1.ch.mono fun k _ hf => hf) fun k hk hf => hf.elim id fun h => by omega⟩
  refine w_ fun d => ?_
  exact ⟨rfl, hT.ext ext_⟩
end
end Go.Proofs.Ytpeindhocndmnaa

namespace Go.Proofs.Ytpeindhocndmnaa
open Go Go.Bx
set_option linter.unusedSimpArgs false
set_option linter.unusedVariables false
set_option maxRecDepth 100000
set_option maxHeartbeats 4000000
attribute [local irreducible] X XO XE XF XD XW thenX inX retX kN CallsR
structure Bth (s : Md) (a v lo hi e : Int) (s' : Md) : Prop where
  good : s'.Good []
  err : e = 0 ∨ e = 1 ∨ e = 2
  ok : e = 0 → (∀ k, s.both a v k = k s' lo hi) ∧ s'.there lo = true ∧ s'.there hi = true
  no : e ≠ 0 → ∀ k, s.both a v k = ((0, e), s')
theorem errV_some {e : Int} (h : e ≠ 0) : errV e = .iface 127 (.int .i64 e) := if_neg h
section
variable {own own' own1 : Nat → Nat} {w w' w1 w2 : World} {p pc bm ck : Nat} {s s' s2 : Md} {es : List (Ent (Int × Int × Int))} {f : Fun8} {a n m v g : Int} {b : Bool}
theorem qBoth_calls (h : IcI own w p s pc bm es ck) (G : s.Good []) (ha : a ≤ 9223372036854775807) :
    CallsR Try.prog 117 #[.pointer (some ⟨p, 0, none⟩), .int .i64 a, .int .i64 v] w fun r w' => ∃ lo hi e s', r = .tuple #[.int .i64 lo, .int .i64 hi, errV e] ∧ IcT own w p s' pc bm w' ∧ Bth s a v lo hi e s' := by
  have r0 := qRestrict_calls (v := v) h.sti G ha false
  have i0 := G.rtt a v false
  have key : ∀ k, s.both a v k = if (s.restr a v false).1.2 = 0 then
    if ((s.restr a v false).2.restr a v true).1.2 = 0 then k ((s.restr a v false).2.restr a v true).2 (s.restr a v false).1.1 ((s.restr a v false).2.restr a v true).1.1
    else (s.restr a v false).2.restr a v true
  else s.restr a v false := fun k => rfl
  obtain ⟨⟨⟨n0, q0⟩, s0⟩, hR⟩ : ∃ R, s.restr a v false = R := ⟨_, rfl⟩
  rw [hR] at r0 i0
  simp only [hR] at key
  dsimp only at r0 key
  have t0 := fun w' (hT : TrI own w p s0 [] w') => h.turn (fun n f d => d.mono i0.le) hT
  have er0 := i0.err
  have z0 := i0.zero
  dsimp only at er0 z0
  by_cases h0' : q0 = 0
  rotate_left
  · have z := z0 h0'
    subst z
    have hB : Bth s a v 0 0 q0 s0 := ⟨i0.good, er0, fun e => absurd e h0', fun _ k => by rw [key, if_neg h0']⟩
    rw [errV_some h0'] at r0
    clear key z0 er0 i0 hR G
    refine en3 Try.func117 Try.results117 mixed [] ?_
    intro e0 h0 h1 h2
    refine w_ fun d => ?_
    refine r0.mono ?_
    rintro _ w1 ⟨rfl, hT⟩
    obtain ⟨own1, hI1, hS1⟩ := t0 w1 hT
    refine w_ fun d => ?_
    exact ⟨0, 0, q0, s0, by rw [errV_some h0'], IcT.ext ⟨own1, es, ck, hI1, hS1⟩ ext_, hB⟩
  subst h0'
  rw [errV0] at r0
  have g0 := i0.good
  dsimp only at g0
  have r1 := fun own u (h : StI own u p s0 []) => qRestrict_calls (v := v) h g0 ha true
  have i1 := g0.rtt a v true
  obtain ⟨⟨⟨n1, e1⟩, s1⟩, hR1⟩ : ∃ R, s0.restr a v true = R := ⟨_, rfl⟩
  rw [hR1] at i1
  simp only [hR1] at key r1
  have er1 := i1.err
  have z1 := i1.zero
  have th0 := i0.there rfl
  have th1 := i1.there
  dsimp only at er1 z1 th0 th1
  have th0' : s1.there n0 = true := by
    have := g0.there_den th0
    exact (this.mono i1.le).isThere
  have hB : Bth s a v n0 n1 e1 s1 := ⟨i1.good, er1, fun e => ⟨fun k => by rw [key, if_pos trivial, if_pos e], th0', th1 e⟩, fun e k => by
    have := z1 e
    subst this
    rw [key, if_pos trivial, if_neg e]⟩
  have t1 := fun own u w' es ck (h : IcI own u p s0 pc bm es ck) (hT : TrI own u p s1 [] w') => h.turn (fun n f d => d.mono i1.le) hT
  clear key z0 er0 i0 hR G er1 z1 th0 th1 th0' i1 hR1 g0
  refine en3 Try.func117 Try.results117 mixed [] ?_
  intro e0 h0 h1 h2
  refine w_ fun d => ?_
  refine r0.mono ?_
  rintro _ w1 ⟨rfl, hT⟩
  obtain ⟨own1, hI1, hS1⟩ := t0 w1 hT
  clear r0 t0
  refine w_ fun d => ?_
  refine (r1 _ _ hI1.sti).mono ?_
  rintro _ w2 ⟨rfl, hT2⟩
  obtain ⟨own2, hI2, hS2⟩ := t1 _ _ w2 _ _ hI1 hT2
  have hC : IcT own w p s1 pc bm w2 := ⟨own2, es, ck, hI2, hS1.trans hS2⟩
  clear r1 t1
  refine w_ fun d => ?_
  exact ⟨n0, n1, e1, s1, rfl, hC.ext ext_, hB⟩
theorem errV_cases {e : Int} (h : e = 0 ∨ e = 1 ∨ e = 2) : (e = 0 ∧ errV e = .nilIface) ∨ (e ≠ 0 ∧ errV e = .iface 127 (.int .i64 e)) := by
  by_cases he : e = 0
  · exact .inl ⟨he, by rw [he, errV0]⟩
  · exact .inr ⟨he, errV_some he⟩
theorem qExists_calls (h : IcI own w p s pc bm es ck) (G : s.Good []) (ha : a ≤ 9223372036854775807) :
    CallsR Try.prog 65 #[.pointer (some ⟨p, 0, none⟩), .pointer (some ⟨pc, 0, none⟩), .int .i64 a, .int .i64 v] w fun r w' => r = .tuple #[.int .i64 (s.exist a v).1.1, errV (s.exist a v).1.2] ∧ IcT own w p (s.exist a v).2 pc bm w' := by
  have bo := qBoth_calls (v := v) h G ha
  clear h
  have key : s.exist a v = s.both a v fun s lo hi => s.ite lo 1 hi := rfl
  rw [key]
  clear key
  refine en4 Try.func65 Try.results65 mixed [] ?_
  intro e0 h0 h1 h2 h3
  refine w_ fun d => ?_
  refine bo.mono ?_
  rintro _ w1 ⟨lo, hi, e, s', rfl, ⟨own1, es1, ck1, hI1, hS1⟩, B⟩
  rcases errV_cases B.err with ⟨he, hv⟩ | ⟨he, hv⟩
  · obtain ⟨b1, b2, b3⟩ := B.ok he
    rw [b1, hv]
    have go := operOr_calls hI1 B.good (there_rng B.good.wf b2) (there_rng B.good.wf b3)
    generalize s'.ite lo 1 hi = R at go
    clear b1 B bo
    refine w_ fun d => ?_
    refine go.mono ?_
    rintro _ w2 ⟨rfl, hT⟩
    refine w_ fun d => ?_
    exact ⟨rfl, (IcT.trans hS1 hT).ext ext_⟩
  · rw [B.no he, hv]
    clear B bo
    refine w_ fun d => ?_
    exact ⟨rfl, IcT.ext ⟨own1, es1, ck1, hI1, hS1⟩ ext_⟩
theorem qForall_calls (h : IcI own w p s pc bm es ck) (G : s.Good []) (ha : a ≤ 9223372036854775807) :
    CallsR Try.prog 66 #[.pointer (some ⟨p, 0, none⟩), .pointer (some ⟨pc, 0, none⟩), .int .i64 a, .int .i64 v] w fun r w' => r = .tuple #[.int .i64 (s.forall_ a v).1.1, errV (s.forall_ a v).1.2] ∧ IcT own w p (s.forall_ a v).2 pc bm w' := by
  have bo := qBoth_calls (v := v) h G ha
  clear h
  have key : s.forall_ a v = s.both a v fun s lo hi => s.ite lo hi 0 := rfl
  rw [key]
  clear key
  refine en4 Try.func66 Try.results66 mixed [] ?_
  intro e0 h0 h1 h2 h3
  refine w_ fun d => ?_
  refine bo.mono ?_
  rintro _ w1 ⟨lo, hi, e, s', rfl, ⟨own1, es1, ck1, hI1, hS1⟩, B⟩
  rcases errV_cases B.err with ⟨he, hv⟩ | ⟨he, hv⟩
  · obtain ⟨b1, b2, b3⟩ := B.ok he
    rw [b1, hv]
    have go := operAnd_calls hI1 B.good (there_rng B.good.wf b2) (there_rng B.good.wf b3)
    generalize s'.ite lo hi 0 = R at go
    clear b1 B bo
    refine w_ fun d => ?_
    refine go.mono ?_
    rintro _ w2 ⟨rfl, hT⟩
    refine w_ fun d => ?_
    exact ⟨rfl, (IcT.trans hS1 hT).ext ext_⟩
  · rw [B.no he, hv]
    clear B bo
    refine w_ fun d => ?_
    exact ⟨rfl, IcT.ext ⟨own1, es1, ck1, hI1, hS1⟩ ext_⟩
theorem qCompose_calls (h : IcI own w p s pc bm es ck) (G : s.Good []) (ha : a ≤ 9223372036854775807) (hg : g ≤ 9223372036854775807) :
    CallsR Try.prog 63 #[.pointer (some ⟨p, 0, none⟩), .pointer (some ⟨pc, 0, none⟩), .int .i64 a, .int .i64 v, .int .i64 g] w fun r w' => r = .tuple #[.int .i64 (s.compose a v g).1.1, errV (s.compose a v g).1.2] ∧ IcT own w p (s.compose a v g).2 pc bm w' := by
  have my := qMay_calls h.sti G.wf g v hg
  cases hy : s.there g && (decide (0 ≤ v) && decide (v < 8))
  · have e : s.compose a v g = ((0, 1), s) := by unfold Md.compose; rw [hy]; rfl
    rw [e, errV1]
    rw [hy] at my
    clear hy G e
    refine en5 Try.func63 Try.results63 mixed [] ?_
    intro e0 h0 h1 h2 h3 h4
    refine w_ fun d => ?_
    refine qq my fun w1 hE1 hs1 => ?_
    refine w_ fun d => ?_
    exact ⟨rfl, IcT.of_ext h ext_⟩
  have e : s.compose a v g = s.both a v fun s lo hi => s.ite g hi lo := by unfold Md.compose; rw [hy]; rfl
  rw [e]
  rw [hy] at my
  clear hy e
  have bo := fun u (hu : Ext w u) => qBoth_calls (v := v) (h.ext hu) G ha
  refine en5 Try.func63 Try.results63 mixed [] ?_
  intro e0 h0 h1 h2 h3 h4
  refine w_ fun d => ?_
  refine qq my fun w1 hE1 hs1 => ?_
  refine w_ fun d => ?_
  refine (bo w1 hE1).mono ?_
  rintro _ w2 ⟨lo, hi, e, s', rfl, ⟨own1, es1, ck1, hI1, hS1⟩, B⟩
  have hS2 := (BtS.of_ext (own := own) (bm := bm) hE1).trans hS1
  rcases errV_cases B.err with ⟨he, hv⟩ | ⟨he, hv⟩
  · obtain ⟨b1, b2, b3⟩ := B.ok he
    rw [b1, hv]
    have go := iteI_calls (a := g) hI1 B.good hg (there_rng B.good.wf b3) (there_rng B.good.wf b2)
    generalize s'.ite g hi lo = R at go
    clear b1 B bo
    refine w_ fun d => ?_
    refine go.mono ?_
    rintro _ w3 ⟨rfl, hT⟩
    refine w_ fun d => ?_
    exact ⟨rfl, (IcT.trans hS2 hT).ext ext_⟩
  · rw [B.no he, hv]
    clear B bo
    refine w_ fun d => ?_
    exact ⟨rfl, IcT.ext ⟨own1, es1, ck1, hI1, hS2⟩ ext_⟩
end
end Go.Proofs.Ytpeindhocndmnaa

namespace Go.Bx
open Go
set_option linter.unusedSimpArgs false
set_option linter.unusedVariables false
section
variable {s s' : Md} {n m a b c v : Int} {f g h : Fun8} {L K : List Fun8} {ord : List Int} {M : Int}
theorem mk_var (G : s.Good []) (hv : 0 ≤ v ∧ v < 8) : s.mk' [] v 0 1 = s.bld (varF v) := by
  have h := bld_split (f := varF v) G hv fun u hu => by rw [dep_var hu]; exact Int.le_refl _
  unfold SplB at h
  rw [cof_var_same hv, cof_var_same hv, G.bld_ex .c0] at h
  rcases h with ⟨e, _⟩ | ⟨n0, s0, e, _, _, _, h⟩
  · cases e
  · cases e
    rw [G.bld_ex .c1] at h
    rcases h with ⟨e, _⟩ | ⟨n1, s1, e, _, _, _, h⟩
    · cases e
    · cases e
      exact h.symm
theorem Ro.var (R : Ro s L M) (hv : 0 ≤ v ∧ v < 8) (hm : sizeF s.ord (L ++ [varF v]) ≤ M) : ∃ n s', s.mk' [] v 0 1 = ((n, 0), s') ∧ Ro s' (L ++ [varF v]) M ∧ s.Le s' ∧ Den s' n (varF v) := by
  rw [mk_var R.good hv]; exact R.bld _ hm
theorem Ro.both (R : Ro s L M) (d : Den s a f) (hv : 0 ≤ v ∧ v < 8) (h0 : sizeF s.ord (L ++ [cofF f v false]) ≤ M) (h1 : sizeF s.ord (L ++ [cofF f v false] ++ [cofF f v true]) ≤ M) :
    ∃ n0 n1 s', (∀ k, s.both a v k = k s' n0 n1) ∧ Ro s' (L ++ [cofF f v false] ++ [cofF f v true]) M ∧ s.Le s' ∧ Den s' n0 (cofF f v false) ∧ Den s' n1 (cofF f v true) := by
  obtain ⟨n0, s0, e0, R0, l0, d0⟩ := R.bld _ h0
  obtain ⟨n1, s1, e1, R1, l1, d1⟩ := R0.bld _ (by rw [l0.ord]; exact h1)
  refine ⟨n0, n1, s1, fun k => ?_, R1, l0.trans l1, d0.mono l1, d1⟩
  unfold Md.both
  rw [restr_den d hv, e0]
  dsimp only
  rw [if_pos rfl, restr_den (d.mono l0) hv, e1, if_pos rfl]
theorem Ro.exist (R : Ro s L M) (d : Den s a f) (hv : 0 ≤ v ∧ v < 8) (h0 : sizeF s.ord (L ++ [cofF f v false]) ≤ M) (h1 : sizeF s.ord (L ++ [cofF f v false] ++ [cofF f v true]) ≤ M)
    (h2 : sizeF s.ord (L ++ [cofF f v false] ++ [cofF f v true] ++ [orF (cofF f v false) (cofF f v true)]) ≤ M) :
    ∃ n s', s.exist a v = ((n, 0), s') ∧ Ro s' (L ++ [cofF f v false] ++ [cofF f v true] ++ [orF (cofF f v false) (cofF f v true)]) M ∧ s.Le s' ∧ Den s' n (orF (cofF f v false) (cofF f v true)) := by
  obtain ⟨n0, n1, s1, e, R1, l1, d0, d1⟩ := R.both d hv h0 h1
  obtain ⟨n, s2, e2, R2, l2, d2⟩ := R1.bld (orF (cofF f v false) (cofF f v true)) (by rw [l1.ord]; exact h2)
  refine ⟨n, s2, ?_, R2, l1.trans l2, d2⟩
  unfold Md.exist
  rw [e, ite_den d0 .c1 d1, iteF_or1, e2]
theorem size_two {u : Int} (ho : AllOnce ord) (h : ∀ x, depF f x = true → x = v ∨ x = u) : sizeF ord [f] ≤ 3 := by
  by_cases ht : 0 ≤ topF ord f
  · rw [size_sides ht]
    have hd := topF_dep ht
    have one : ∀ b, sizeF ord [cofF f (topF ord f) b] ≤ 1 := fun b => by
      rcases h _ hd with e | e
      · refine size_one (v := u) ho fun x hx => ?_
        rcases h x (dep_of_cof hx) with e2 | e2
        · rw [e, ← e2, dep_cof] at hx; cases hx
        · exact e2
      · refine size_one (v := v) ho fun x hx => ?_
        rcases h x (dep_of_cof hx) with e2 | e2
        · exact e2
        · rw [e, ← e2, dep_cof] at hx; cases hx
    unfold kids
    rw [if_pos ht]
    have := size_app (ord := ord) (l := [cofF f (topF ord f) false]) (k := [cofF f (topF ord f) true])
    have h0 := one false
    have h1 := one true
    have e : [cofF f (topF ord f) false] ++ [cofF f (topF ord f) true] = [cofF f (topF ord f) false, cofF f (topF ord f) true] := rfl
    rw [e] at this
    omega
  · have := size_zero (ord := ord).2 ((top_none_iff ho).1 (topF_none ht).2)
    omega
theorem dep_and {u : Int} (h : depF (andF f g) u = true) : depF f u = true ∨ depF g u = true := by
  rw [← iteF_and0] at h
  rcases dep_iteF h with h | h | h
  · exact .inl h
  · exact .inr h
  · rw [dep_const] at h; cases h
theorem cof_and01 (b : Bool) : cofF (andF (varF 0) (varF 1)) 0 b = if b then varF 1 else constF false := by
  rw [← iteF_and0, cof_iteF, cof_var_same (by decide), cof_var_other (by decide), cof_const, ite_const]
theorem or_zero : orF (constF false) f = f := by rw [← iteF_or1, ite_const]; rfl
end
end Go.Bx

namespace Go.Proofs.Ytpeindhocndmnaa
open Go Go.Bx
set_option linter.unusedSimpArgs false
set_option linter.unusedVariables false
set_option maxRecDepth 100000
set_option maxHeartbeats 4000000
attribute [local irreducible] X XO XE XF XD XW thenX inX retX kN CallsR
section
variable {W w w' w1 w2 : World} {p ps pm pc : Nat} {s s' sM : Md} {n v x y lo hi a : Int} {f g : Fun8} {L : List Fun8} {M : Int}
theorem caMkV (h : CaI W w ps pc s) (R : Ro s L M) (hv : 0 ≤ v ∧ v < 8) (hm : sizeF s.ord (L ++ [varF v]) ≤ M) : CallsR Try.prog 82 #[.pointer (some ⟨ps, 0, none⟩), .int .i64 v, .int .i64 0, .int .i64 1] w fun r w' => ∃ n s', r = .tuple #[.int .i64 n, .nilIface] ∧ CaI W w' ps pc s' ∧ Ro s' (L ++ [varF v]) M ∧ s.Le s' ∧ Den s' n (varF v) := by
  obtain ⟨n, s', e, R', l, d⟩ := R.var hv hm
  refine (h.store (s' := s') (R := fun r => r = .tuple #[.int .i64 n, .nilIface]) (fun _ _ d => d.mono l) fun own ho => ?_).mono ?_
  · have := stMk_calls (v := v) (lo := 0) (hi := 1) ho R.good (by decide) (by decide)
    rw [e, errV0] at this
    exact this
  · rintro r w' ⟨hr, hC⟩
    exact ⟨n, s', hr, hC, R', l, d⟩
theorem up11_calls (w : World) : CallsR Try.prog 60 #[] w fun r w' => r = .bool true ∧ Ext w w' := by
  have ca1 := cof_and01
  have oz := fun f => or_zero (f := f)
  obtain ⟨X, hX⟩ : ∃ X, varF 0 = X := ⟨_, rfl⟩
  obtain ⟨Y, hY⟩ : ∃ Y, varF 1 = Y := ⟨_, rfl⟩
  obtain ⟨A, hA⟩ : ∃ A, andF X Y = A := ⟨_, rfl⟩
  have cm0 := fun W w ps pc s L M (h : CaI W w ps pc s) (R : Ro s L M) => caMkV (v := 0) h R (by decide)
  have cm1 := fun W w ps pc s L M (h : CaI W w ps pc s) (R : Ro s L M) => caMkV (v := 1) h R (by decide)
  rw [hX] at cm0 ca1
  rw [hY] at cm1 ca1
  rw [hA] at ca1
  have zx : ∀ ord, AllOnce ord → sizeF ord [X] ≤ 1 := fun ord ho => hX ▸ size_var ho
  have zy : ∀ ord, AllOnce ord → sizeF ord [Y] ≤ 1 := fun ord ho => hY ▸ size_var ho
  have za : ∀ ord, AllOnce ord → sizeF ord [A] ≤ 3 := fun ord ho => size_two (v := 0) (u := 1) ho fun x hx => by
    rw [← hA] at hx
    rcases dep_and hx with h | h
    · rw [← hX] at h; exact .inl (dep_var h)
    · rw [← hY] at h; exact .inr (dep_var h)
  have k0 : cofF A 0 false = constF false := by rw [ca1]; rfl
  have k1 : cofF A 0 true = Y := by rw [ca1]; rfl
  have bd : ∀ ord, AllOnce ord → sizeF ord ([X] ++ [Y] ++ [A] ++ [constF false] ++ [Y] ++ [Y]) ≤ 9 ∧ sizeF ord ([X] ++ [Y] ++ [A] ++ [constF false] ++ [Y]) ≤ 9 ∧ sizeF ord ([X] ++ [Y] ++ [A] ++ [constF false]) ≤ 9 ∧ sizeF ord ([X] ++ [Y] ++ [A]) ≤ 9 ∧ sizeF ord ([X] ++ [Y]) ≤ 9 ∧ sizeF ord ([] ++ [X]) ≤ 9 := fun ord ho => by
    have h1 := size_snoc (ord := ord) (L := [X]) (f := Y)
    have h2 := size_snoc (ord := ord) (L := [X] ++ [Y]) (f := A)
    have h3 := size_snoc (ord := ord) (L := [X] ++ [Y] ++ [A]) (f := constF false)
    have h4 := size_snoc (ord := ord) (L := [X] ++ [Y] ++ [A] ++ [constF false]) (f := Y)
    have h5 := size_snoc (ord := ord) (L := [X] ++ [Y] ++ [A] ++ [constF false] ++ [Y]) (f := Y)
    rw [size_c] at h3
    have := zx ord ho
    have := zy ord ho
    have := za ord ho
    have e : ([] : List Fun8) ++ [X] = [X] := rfl
    rw [e]
    omega
  clear hX hY ca1 zx zy za
  have c0 := fun u => caNew (M := 9) (by decide) (by decide) u
  have code1 := code_sure 1 (by decide) (by decide)
  have cst : ∀ {a b : Nat}, a ≤ b → (a : Int) ≤ (b : Int) := fun h => Int.ofNat_le.2 h
  refine en0 Try.func60 Try.results60 mixed [] ?_
  intro e0
  refine w_ fun d => ?_
  refine (c0 _).mono ?_
  rintro _ w1 ⟨ps, rfl, h1⟩
  refine w_ fun d => ?_
  refine (iteNew_calls _).mono ?_
  rintro _ w2 ⟨pc, bm, rfl, q1, q2, q3, q4, hE⟩
  have h2 := h1.cache hE q1 q2 q3 q4
  have R0 : Ro (Md.new 9) [] 9 := Ro.new (by decide) (by decide)
  clear q1 q2 q3 q4 hE c0 h1
  refine w_ fun d => ?_
  refine (cm0 _ _ _ _ _ _ _ h2 R0 (cst (bd _ R0.good.wf.ord.once).2.2.2.2.2)).mono ?_
  rintro _ w3 ⟨nx, s1, rfl, h3, R1, l1, d1⟩
  refine w_ fun d => ?_
  refine (cm1 _ _ _ _ _ _ _ h3 R1 (cst (bd _ R1.good.wf.ord.once).2.2.2.2.1)).mono ?_
  rintro _ w4 ⟨ny, s2, rfl, h4, R2, l2, d2⟩
  have d12 := d1.mono l2
  have ca := caAnd h4 R2 d12 d2 (by rw [hA]; exact cst (bd _ R2.good.wf.ord.once).2.2.2.1)
  rw [hA] at ca
  refine w_ fun d => ?_
  refine ca.mono ?_
  rintro _ w5 ⟨na, s3, rfl, h5, R3, l3, d3⟩
  have ex := R3.exist (v := 0) d3 (by decide) (by rw [k0]; exact cst (bd _ R3.good.wf.ord.once).2.2.1) (by rw [k0, k1]; exact cst (bd _ R3.good.wf.ord.once).2.1) (by rw [k0, k1, oz]; exact cst (bd _ R3.good.wf.ord.once).1)
  obtain ⟨ne, s4, e4, R4, l4, d4⟩ := ex
  rw [k0, k1, oz] at d4
  obtain rfl : ne = ny := R4.good.canon d4 ((d2.mono l3).mono l4)
  have da := bt_rng R3.good.wf d3
  have c4 : ∀ W u, CaI W u ps pc s3 → CallsR Try.prog 65 #[.pointer (some ⟨ps, 0, none⟩), .pointer (some ⟨pc, 0, none⟩), .int .i64 na, .int .i64 0] u fun r w' => r = .tuple #[.int .i64 ne, errV 0] ∧ CaI W w' ps pc s4 := fun W u h => by
    refine h.turn (R := fun r => r = .tuple #[.int .i64 ne, errV 0]) fun own bm es ck ho => ?_
    have := qExists_calls (v := 0) ho R3.good da
    rw [e4] at this
    exact this
  rw [errV0] at c4
  have rn : s4.restr na 8 true = ((0, 1), s4) := restr_no (by simp) true
  have c5 : ∀ W u, CaI W u ps pc s4 → CallsR Try.prog 61 #[.pointer (some ⟨ps, 0, none⟩), .int .i64 na, .int .i64 8, .bool true] u fun r w' => r = .tuple #[.int .i64 0, errV 1] ∧ CaI W w' ps pc s4 := fun W u h => by
    refine h.store (R := fun r => r = .tuple #[.int .i64 0, errV 1]) (fun _ _ d => d) fun own ho => ?_
    have := qRestrict_calls (v := 8) ho R4.good da true
    rw [rn] at this
    exact this
  clear ca cm0 cm1 bd cst k0 k1 oz h2 h3 h4 R0 R1 R2 R3 R4 l1 l2 l3 l4 d1 d2 d3 d4 d12 e4 rn da hA
  refine w_ fun d => ?_
  refine (c4 _ _ h5).mono ?_
  rintro _ w6 ⟨rfl, h6⟩
  refine w_ fun d => ?_
  refine (c5 _ _ h6).mono ?_
  rintro _ w7 ⟨rfl, h7⟩
  have hW7 := h7.world
  clear c4 c5 h5 h6 h7
  refine w_ fun d => ?_
  refine qq (code1.quiet (w := w7)) fun w8 hE8 hs8 => ?_
  refine w_ fun d => ?_
  exact ⟨rfl, ext_⟩
abbrev Dd11 := Int × Int × Int × Int × Bool × Bool
def encQ (d : Dd11) : List Value := [.int .i64 d.1, .int .i64 d.2.1, .int .i64 d.2.2.1, .int .i64 d.2.2.2.1, .bool d.2.2.2.2.1, .bool d.2.2.2.2.2]
def okQ (d : Dd11) : Prop := okI d.2.1 ∧ okI d.2.2.1 ∧ okI d.2.2.2.1
theorem callAt {a : Option Addr} {l : List Dd11} {i : Nat} {q b c d : Int} {t r : Bool} (h : Inp w 6 a (l.map encQ)) (hd : l[i]? = some (q, b, c, d, t, r)) :
    ∃ g o cs E fz, a = some ⟨g, o, none⟩ ∧ w.heap[g]? = some (.cells cs E fz) ∧ o + i * 6 + 6 ≤ cs.size ∧ cs.extract (o + i * 6) (o + i * 6 + 6) = #[.int .i64 q, .int .i64 b, .int .i64 c, .int .i64 d, .bool t, .bool r] := by
  rcases h with h | ⟨g, o, cs, E, fz, rfl, h2, h3⟩
  · rw [List.map_eq_nil_iff.1 h] at hd; simp at hd
  · have hr := h3 i (encQ (q, b, c, d, t, r)) (by rw [List.getElem?_map, hd]; rfl)
    have c0 := hr 0 _ rfl
    have c1 := hr 1 _ rfl
    have c2 := hr 2 _ rfl
    have c3 := hr 3 _ rfl
    have c4 := hr 4 _ rfl
    have c5 := hr 5 _ rfl
    have hs := (Array.getElem?_eq_some_iff.1 c5).1
    refine ⟨g, o, cs, E, fz, rfl, h2, by omega, ?_⟩
    apply Array.ext_getElem?
    intro j
    rw [Array.getElem?_extract]
    match j with
    | 0 => rw [if_pos (by omega), Nat.add_zero]; simpa using c0
    | 1 => rw [if_pos (by omega)]; simpa [Nat.add_assoc] using c1
    | 2 => rw [if_pos (by omega)]; simpa [Nat.add_assoc] using c2
    | 3 => rw [if_pos (by omega)]; simpa [Nat.add_assoc] using c3
    | 4 => rw [if_pos (by omega)]; simpa [Nat.add_assoc] using c4
    | 5 => rw [if_pos (by omega)]; simpa [Nat.add_assoc] using c5
    | j + 6 => rw [if_neg (by omega)]; simp
end
end Go.Proofs.Ytpeindhocndmnaa

namespace Go.Proofs.Ytpeindhocndmnaa
open Go Go.Bx
set_option linter.unusedSimpArgs false
set_option linter.unusedVariables false
set_option maxRecDepth 100000
set_option maxHeartbeats 4000000
attribute [local irreducible] X XO XE XF XD XW thenX inX retX kN CallsR
section
variable {W w w' w1 w2 : World} {p ps pm pc : Nat} {s s' sM : Md} {n v x y lo hi : Int}
theorem quantTells_calls (most : Int) {l : List Fun8} {k : List Int} {q : List Dd11} {a b c : Option Addr} {ca cb cc : Nat} (hI : Inp w 4 a (l.map rowF)) (hK : InI w b k) (hQ : Inp w 6 c (q.map encQ)) (hok : ∀ d ∈ q, okQ d) (hl : l.length ≤ 140737488351232) (hk : k.length ≤ 140737488351232) (hq : q.length ≤ 140737488351232) :
    CallsR Try.prog 11 #[.int .i64 most, .slice a l.length ca, .slice b k.length cb, .slice c q.length cc] w fun r w' => r = .bool true ∧ Ext w w' := by
  have nw := iteNew_calls
  have up := up11_calls
  by_cases hno : ¬ (0 ≤ most ∧ most ≤ 20000) ∨ 6 < l.length ∨ 30 < k.length
  · have b0 := fun w => built_none (a := a) (b := b) (ca := ca) (cb := cb) (w := w) most hno hl hk
    clear hI hK hQ hok hno
    refine en4 Try.func11 Try.results11 mixed [] ?_
    intro e0 h0 h1 h2 h3
    refine w_ fun d => ?_
    refine (up _).mono ?_
    rintro _ w1 ⟨rfl, hE1⟩
    refine w_ fun d => ?_
    refine (b0 _).mono ?_
    rintro _ w2 ⟨rfl, hE2⟩
    refine w_ fun d => ?_
    refine (nw _).mono ?_
    rintro _ w3 ⟨pc, bm, rfl, k1, k2, k3', k4, hE3⟩
    clear k1 k2 nw up b0
    refine w_ fun d => ?_
    exact ⟨rfl, ext_⟩
  have hyes : (0 ≤ most ∧ most ≤ 20000) ∧ l.length ≤ 6 ∧ k.length ≤ 30 := by
    refine ⟨Classical.byContradiction fun h => hno (.inl h), ?_, ?_⟩
    · have : ¬ 6 < l.length := fun h => hno (.inr (.inl h)); omega
    · have : ¬ 30 < k.length := fun h => hno (.inr (.inr h)); omega
  clear hno
  obtain ⟨⟨m0, m1⟩, l6, k30⟩ := hyes
  by_cases hqn : q.length ≤ 20
  rotate_left
  · have hqn' : (20 : Int) < q.length := by omega
    have b0 := fun w hI hK => built_calls (a := a) (b := b) (ca := ca) (cb := cb) (w := w) most m0 m1 l6 k30 hI hK
    clear hQ hok hqn
    refine en4 Try.func11 Try.results11 mixed [] ?_
    intro e0 h0 h1 h2 h3
    refine w_ fun d => ?_
    refine (up _).mono ?_
    rintro _ w1 ⟨rfl, hE1⟩
    have hE1w : Ext w w1 := Ext.trans (by exact ext_) hE1
    refine w_ fun d => ?_
    refine (b0 _ (Inp.ext hI hE1w) (Inp.ext hK hE1w)).mono ?_
    rintro _ w2 ⟨ps, pm, s, rfl, hP, G⟩
    have hE2 := hP.world
    refine w_ fun d => ?_
    refine (nw _).mono ?_
    rintro _ w3 ⟨pc, bm, rfl, k1, k2, k3', k4, hE3⟩
    clear k1 k2 nw up b0 hP G hI hK
    refine w_ fun d => ?_
    exact ⟨rfl, ext_⟩
  have hqn' : ¬ (20 : Int) < q.length := by omega
  have b0 := fun w hI hK => built_calls (a := a) (b := b) (ca := ca) (cb := cb) (w := w) most m0 m1 l6 k30 hI hK
  refine en4 Try.func11 Try.results11 mixed [] ?_
  intro e0 h0 h1 h2 h3
  refine w_ fun d => ?_
  refine (up _).mono ?_
  rintro _ w1 ⟨rfl, hE1⟩
  have hE1w : Ext w w1 := Ext.trans (by exact ext_) hE1
  refine w_ fun d => ?_
  refine (b0 _ (Inp.ext hI hE1w) (Inp.ext hK hE1w)).mono ?_
  rintro _ w2 ⟨ps, pm, s, rfl, hP, G⟩
  refine w_ fun d => ?_
  refine (nw _).mono ?_
  rintro _ w3 ⟨pc, bm, rfl, k1, k2, k3', k4, hE3⟩
  have hC := hP.cache hE3 k1 k2 k3' k4
  clear k1 k2 k3' k4 nw up b0 hP hI hK hE3
  refine w_ fun d => ?_
  refine lo_ (fun _ e w' => ∃ (i : Nat) (s : Md), i ≤ q.length ∧ e 14 = .int .i64 i ∧ PcI w1 w' ps pc pm s s ∧ s.Good []) (fun e _ => q.length - nat (e 14)) ?_ ?_
  · exact ⟨0, _, by omega, eA rfl, hC.ext ext_, G⟩
  rintro e u hf ⟨i, s, hi, h14, hPu, G⟩
  have hEu := hE1w.trans hPu.world
  by_cases hlt : i < q.length
  rotate_left
  · obtain rfl : i = q.length := by omega
    clear hQ hok hlt
    refine w_ fun d => ?_
    exact ⟨rfl, hEu⟩
  obtain ⟨d, hd⟩ : ∃ d, q[i]? = some d := ⟨q[i], List.getElem?_eq_getElem hlt⟩
  obtain ⟨k1, k2, k3'⟩ := hok d (List.mem_of_getElem? hd)
  obtain ⟨wq, da, dv, db, tb, r⟩ := d
  obtain ⟨g, o, ct, E, fz, rfl, hg, hsz, hex⟩ := callAt (Inp.ext hQ hEu) hd
  have hltl : (i : Int) < q.length := by omega
  have pq := pick_sure wq 4 (by decide) (by decide)
  have q0 : 0 ≤ wq % 4 ∧ wq % 4 < 4 := ⟨Int.emod_nonneg _ (by decide), Int.emod_lt_of_pos _ (by decide)⟩
  generalize wq % 4 = z at pq q0
  dsimp only at k1 k3'
  obtain ⟨ownM, hM⟩ := hPu.m
  have Ws := G.wf
  have la := lnode_calls hM Ws da r
  have lb := lnode_calls hM Ws db (r && decide (db < 0))
  have pa := pickN_le (raw := r) Ws k1.2
  have pb := pickN_le (raw := r && decide (db < 0)) Ws k3'.2
  generalize pickN s da r = pA at *
  generalize pickN s db (r && decide (db < 0)) = pB at *
  clear hQ hok hd hC hM Ws k1 k2 k3'
  refine w_ fun d => ?_
  refine qq la fun u1 hE1 hs1 => ?_
  have hEu1 : Ext u u1 := Ext.trans (by exact ext_) hE1
  have h15 : u1.heap[u.heap.size]? = some (.cells #[.int .i64 wq, .int .i64 da, .int .i64 dv, .int .i64 db, .bool tb, .bool r] 91) := hE1.at (hA rfl)
  obtain ⟨b15, hb15⟩ : ∃ b, u.heap.size = b := ⟨_, rfl⟩
  rw [hb15] at h15 ⊢
  have hP1 := hPu.keep hEu1 h15 (by omega)
  have lb1 := lb.at hEu1
  have l15 := lt_of_heap h15
  clear hE1 hs1 hPu hEu1 hb15 hg hex la lb
  refine xoA ?_
  refine kv ?_
  refine xo_nil ?_
  refine cu1_ (fun W e w' => e 17 = .int .i64 pB ∧ Ext W w') ?_ ?_
  · have lb0 : r = false → Quiet Try.prog 52 #[.pointer (some ⟨pm, 0, none⟩), .int .i64 db, .bool false] u1 (.int .i64 pB) := fun h => by subst h; exact lb1
    cases r
    · have lb1 := lb0 rfl
      clear lb0 hP1
      refine w_ fun d => ?_
      refine qq lb1 fun v3 hE3 hs3 => ?_
      refine w_ fun d => ?_
      exact ⟨eA rfl, ext_⟩
    · clear lb0 hP1
      rw [Bool.true_and] at lb1
      refine w_ fun d => ?_
      refine qq lb1 fun v3 hE3 hs3 => ?_
      refine w_ fun d => ?_
      exact ⟨eA rfl, ext_⟩
  rintro e2 v1 hf2 ⟨h17, hE1⟩
  have hP := hP1.ext hE1
  have h15 := hE1.at h15
  have l15 := lt_of_heap h15
  clear hP1 hE1 lb1
  refine cu6_ (fun _ e w' => ∃ (n c : Int) (s' : Md), e 18 = .int .i64 n ∧ e 19 = .int .i64 n ∧ e 20 = .int .i64 c ∧ e 21 = errV c ∧ PcI w1 w' ps pc pm s' s' ∧ Box (s'.Good [] ∧ 0 ≤ c ∧ c ≤ 8)) ?_ ?_
  · have fin : ∀ R : (Int × Int) × Md, Itt s R → R.2.Good [] ∧ 0 ≤ R.1.2 ∧ R.1.2 ≤ 8 := fun R h => ⟨h.good, by rcases h.err with e | e | e <;> omega⟩
    have hz : z = 0 ∨ z = 1 ∨ z = 2 ∨ z = 3 := by omega
    rcases hz with rfl | rfl | rfl | rfl
    · have bI := fun W u kp (h : PcK W u ps pc pm s s kp) => h.store (fun _ _ d => d.mono (G.rtt pA dv tb).le) fun own ho => qRestrict_calls (v := dv) ho G pa tb
      have bM := fun W u s1 kp (h : PcK W u ps pc pm s1 s kp) => h.turnM fun own ho => rsRestrict_calls (v := dv) ho G pa tb
      have gb := fin _ (G.rtt pA dv tb)
      generalize s.restr pA dv tb = R at bI bM gb
      clear fin G q0
      refine w_ fun d => ?_
      refine qq (pq.quiet (w := v1)) fun v2 hE2 hs2 => ?_
      have h152 := hE2.at h15
      have l152 := lt_of_heap h152
      refine w_ fun d => ?_
      refine (bI _ _ _ ((hP.ext hE2).ext ext_)).mono ?_
      rintro _ v5 ⟨rfl, hP5⟩
      have h155 := hP5.at (List.mem_singleton.2 rfl)
      have l155 := lt_of_heap h155
      refine w_ fun d => ?_
      refine (bM _ _ _ _ (hP5.ext ext_)).mono ?_
      rintro _ v6 ⟨rfl, hP6⟩
      refine w_ fun d => ?_
      exact ⟨R.1.1, R.1.2, R.2, eA rfl, eA rfl, eA rfl, eA rfl, (hP6.ext ext_).bare, ⟨gb⟩⟩
    · have bI := fun W u kp (h : PcK W u ps pc pm s s kp) => h.turnI fun own bm es ck ho => qCompose_calls (v := dv) ho G pa pb
      have bM := fun W u s1 kp (h : PcK W u ps pc pm s1 s kp) => h.turnM fun own ho => rsThree_calls (v := dv) ho G 0 pB (.inl rfl) pa pb (R := s.compose pA dv pB) rfl
      have gb := fin _ (G.ctt pA dv pB)
      generalize s.compose pA dv pB = R at bI bM gb
      clear fin G q0
      refine w_ fun d => ?_
      refine qq (pq.quiet (w := v1)) fun v2 hE2 hs2 => ?_
      have h152 := hE2.at h15
      have l152 := lt_of_heap h152
      refine w_ fun d => ?_
      refine (bI _ _ _ ((hP.ext hE2).ext ext_)).mono ?_
      rintro _ v5 ⟨rfl, hP5⟩
      have h155 := hP5.at (List.mem_singleton.2 rfl)
      have l155 := lt_of_heap h155
      refine w_ fun d => ?_
      refine (bM _ _ _ _ (hP5.ext ext_)).mono ?_
      rintro _ v6 ⟨rfl, hP6⟩
      refine w_ fun d => ?_
      exact ⟨R.1.1, R.1.2, R.2, eA rfl, eA rfl, eA rfl, eA rfl, (hP6.ext ext_).bare, ⟨gb⟩⟩
    · have bI := fun W u kp (h : PcK W u ps pc pm s s kp) => h.turnI fun own bm es ck ho => qExists_calls (v := dv) ho G pa
      have bM := fun W u s1 kp (h : PcK W u ps pc pm s1 s kp) => h.turnM fun own ho => rsThree_calls (v := dv) ho G 1 0 (.inr (.inl rfl)) pa (by decide) (R := s.exist pA dv) rfl
      have gb := fin _ (G.ett pA dv)
      generalize s.exist pA dv = R at bI bM gb
      clear fin G q0
      refine w_ fun d => ?_
      refine qq (pq.quiet (w := v1)) fun v2 hE2 hs2 => ?_
      have h152 := hE2.at h15
      have l152 := lt_of_heap h152
      refine w_ fun d => ?_
      refine (bI _ _ _ ((hP.ext hE2).ext ext_)).mono ?_
      rintro _ v5 ⟨rfl, hP5⟩
      have h155 := hP5.at (List.mem_singleton.2 rfl)
      have l155 := lt_of_heap h155
      refine w_ fun d => ?_
      refine (bM _ _ _ _ (hP5.ext ext_)).mono ?_
      rintro _ v6 ⟨rfl, hP6⟩
      refine w_ fun d => ?_
      exact ⟨R.1.1, R.1.2, R.2, eA rfl, eA rfl, eA rfl, eA rfl, (hP6.ext ext_).bare, ⟨gb⟩⟩
    · have bI := fun W u kp (h : PcK W u ps pc pm s s kp) => h.turnI fun own bm es ck ho => qForall_calls (v := dv) ho G pa
      have bM := fun W u s1 kp (h : PcK W u ps pc pm s1 s kp) => h.turnM fun own ho => rsThree_calls (v := dv) ho G 2 0 (.inr (.inr rfl)) pa (by decide) (R := s.forall_ pA dv) rfl
      have gb := fin _ (G.ftt pA dv)
      generalize s.forall_ pA dv = R at bI bM gb
      clear fin G q0
      refine w_ fun d => ?_
      refine qq (pq.quiet (w := v1)) fun v2 hE2 hs2 => ?_
      have h152 := hE2.at h15
      have l152 := lt_of_heap h152
      refine w_ fun d => ?_
      refine (bI _ _ _ ((hP.ext hE2).ext ext_)).mono ?_
      rintro _ v5 ⟨rfl, hP5⟩
      have h155 := hP5.at (List.mem_singleton.2 rfl)
      have l155 := lt_of_heap h155
      refine w_ fun d => ?_
      refine (bM _ _ _ _ (hP5.ext ext_)).mono ?_
      rintro _ v6 ⟨rfl, hP6⟩
      refine w_ fun d => ?_
      exact ⟨R.1.1, R.1.2, R.2, eA rfl, eA rfl, eA rfl, eA rfl, (hP6.ext ext_).bare, ⟨gb⟩⟩
  clear hP G h15 l15 pq q0 h17 pa pb
  rintro e3 v2 hf3 ⟨n, c, s2, h18, h19, h20, h21, hP, ⟨G, c0, c8⟩⟩
  have cr := code_sure c c0 c8
  refine w_ fun d => ?_
  refine qq (cr.quiet (w := v2)) fun v7 hE7 hs7 => ?_
  refine w_ fun d => ?_
  refine (same_calls (hP.ext hE7).pri G).mono ?_
  rintro _ v8 ⟨rfl, hE8⟩
  refine w_ fun d => ?_
  exact ⟨⟨i + 1, s2, by omega, eA rfl, ((hP.ext hE7).ext hE8).ext ext_, G⟩, mA⟩
end
end Go.Proofs.Ytpeindhocndmnaa

