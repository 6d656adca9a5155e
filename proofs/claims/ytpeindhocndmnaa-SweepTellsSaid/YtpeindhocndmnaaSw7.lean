/- RdR, SwP, SwW, SwP2, Law12, RsR, RsSw, NodesW, PrL, Law12c: texts of this work, one behind the other. -/
import Derived.Test.YtpeindhocndmnaaSw6
namespace Go.Proofs.Ytpeindhocndmnaa
open Go Go.Bx
set_option linter.unusedSimpArgs false
set_option linter.unusedVariables false
set_option maxRecDepth 100000
set_option maxHeartbeats 4000000
attribute [local irreducible] X XO XE XF XD XW thenX inX retX kN CallsR
theorem at_o {P : Program} {l : List GOp} {K : Env → World → Prop} {e : Env} {w : World} (h : ∀ u, u = w → XO P l K e u) : XO P l K e w := h w rfl
section
variable {w : World} {a : Option Addr} {cap : Nat} {l : List Int} {x y : Int}
theorem pushI2 (h : SlC w 3 a cap (ints l)) (hm : l.length ≤ 1000000000) (x y : Int) :
    ∃ a' cap' w', apR Try.prog 34 (.slice a l.length cap) (.slice (some ⟨w.heap.size, 0, none⟩) 2 2) (w.alloc (.cells #[.int .i64 x, .int .i64 y] 3)) = .ok (.slice a' (l.length + 2) cap') w' ∧
      SlC w' 3 a' cap' (ints (l ++ [x, y])) ∧ Chg (fun k => blk a = some k) w w' ∧ w.heap.size < w'.heap.size ∧ (∀ g, blk a' = some g → blk a = some g ∨ (w.heap.size ≤ g ∧ g < w'.heap.size)) := by
  obtain ⟨a2, c2, w2, hr, hS2, hC2, hs2, hB2⟩ := h.push (P := Try.prog) (news := [.int .i64 x, .int .i64 y]) T34 T3 rfl rfl (by rw [List.length_map]; simp; omega) (by decide) (k := 2) rfl rfl
  have hl1 : (ints l ++ [Value.int .i64 x, Value.int .i64 y]).length = l.length + 2 := by simp
  rw [List.length_map, hl1] at hr
  exact ⟨a2, c2, w2, hr, by unfold ints; rw [List.map_append]; exact hS2, hC2, hs2, hB2⟩
end
structure KnS (es : List (Ent Int)) (ck : Nat) (K : List Int) : Prop where
  inv : MInv es ck
  get : ∀ n, mget es n = if n ∈ K then some (.int .i64 1) else none
theorem KnS.nil : KnS [] 0 [] := ⟨MInv.nil, fun n => by rw [if_neg (by simp)]; rfl⟩
theorem KnS.put {es : List (Ent Int)} {ck : Nat} {K : List Int} {n : Int} (h : KnS es ck K) : KnS (mput es n (.int .i64 1) ck) (mclock es n ck) (K ++ [n]) := ⟨h.inv.put _ _, fun m => by
  rw [mget_put h.inv.keys, h.get]
  by_cases e : m = n
  · subst e; simp
  · simp [e, Ne.symm e]⟩
structure RchI (w0 w : World) (bm : Nat) (es : List (Ent Int)) (ck : Nat) (aw ao : Option Addr) (cw co : Nat) (wl K : List Int) : Prop where
  hm : w.heap[bm]? = some (mObj (Value.int .i64) es ck)
  kn : KnS es ck K
  sw : SlC w 3 aw cw (ints wl)
  so : SlC w 3 ao co (ints K)
  nw : ∀ g, blk aw = some g → w0.heap.size ≤ g
  no : ∀ g, blk ao = some g → w0.heap.size ≤ g
  nm : w0.heap.size ≤ bm
  dis : ∀ g, blk aw = some g → ¬ blk ao = some g
  ext : Ext w0 w
section
variable {own : Nat → Nat} {w w0 w' w1 : World} {p bm ck cw co : Nat} {es : List (Ent Int)} {aw ao : Option Addr} {wl K rs : List Int} {s : Md} {n x y : Int}
theorem RchI.up (h : RchI w0 w bm es ck aw ao cw co wl K) (hE : Ext w w') : RchI w0 w' bm es ck aw ao cw co wl K := ⟨hE.at h.hm, h.kn, h.sw.ext hE, h.so.ext hE, h.nw, h.no, h.nm, h.dis, h.ext.trans hE⟩
theorem RchI.pop (h : RchI w0 w bm es ck aw ao cw co (wl ++ [n]) K) : RchI w0 w bm es ck aw ao cw co wl K := by
  refine ⟨h.hm, h.kn, ?_, h.so, h.nw, h.no, h.nm, h.dis, h.ext⟩
  have := SlC.take h.sw (k := wl.length) (by simp)
  rwa [show (ints (wl ++ [n])).take wl.length = ints wl by unfold ints; rw [← List.map_take, List.take_left]] at this
theorem perm_up {l k : List Int} (h : l.Perm k) (hl : l.Pairwise (· ≤ ·)) (hk : k.Pairwise (· < ·)) : l = k := by
  refine up_eq ?_ hk fun x => h.mem_iff
  have nd : l.Nodup := h.nodup_iff.2 (hk.imp fun h => by omega)
  exact (hl.and nd).imp fun h => by omega
theorem rdReach_calls {a : Option Addr} {c : Nat} (h : StI own w p s []) (G : s.Good []) (hI : InI w a rs) (hl : rs.length ≤ 1000000) (hn : ∀ n ∈ rs, n ≤ 9223372036854775807) :
    CallsR Try.prog 77 #[.pointer (some ⟨p, 0, none⟩), .slice a rs.length c] w fun r w' => ∃ a' c' l, r = .slice a' l.length c' ∧ SlC w' 3 a' c' (ints l) ∧ (∀ g, blk a' = some g → w.heap.size ≤ g) ∧ Ext w w' ∧ l = s.reach rs := by
  have W := G.wf
  have hN := wf_N W
  have hal : s.all.length ≤ 20000 := by have := allTo_len (s := s) (k := s.N.length); rw [allTo_all] at this; omega
  have cl := fun u (hE : Ext w u) => clone_calls (c := c) (Inp.ext hI hE) (by omega)
  clear hI
  refine en2 Try.func77 Try.results77 mixed [] ?_
  intro e0 h0 h1
  refine w_ fun d => ?_
  refine (cl _ ext_).mono ?_
  rintro _ u1 ⟨aw, cw, rfl, hSw, hBw, hE1⟩
  have hEu1 : Ext w u1 := Ext.trans (by exact ext_) hE1
  have hm1 : u1.heap[w.heap.size]? = some (mObj (Value.int .i64) [] 0) := hE1.at (hA rfl)
  obtain ⟨bm, hbm⟩ : ∃ b, w.heap.size = b := ⟨_, rfl⟩
  rw [hbm] at hm1 ⊢
  have hR : RchI w u1 bm [] 0 aw none cw 0 rs [] := ⟨hm1, KnS.nil, hSw, SlC.nil _ _, fun g hg => by have := hBw g hg; simp only [alloc_size] at this; omega, (fun g hg => by cases hg), by omega, (fun g _ h => by cases h), hEu1⟩
  clear hSw hBw hE1 hm1 cl hEu1
  refine w_ fun d => ?_
  refine log_ (fun m W e u => ∃ es ck aw ao cw co wl K, e 6 = .slice aw wl.length cw ∧ e 7 = .slice ao K.length co ∧ RchI w u bm es ck aw ao cw co wl K ∧ Box (Rdf s rs K wl) ∧ Box (∀ n ∈ wl, n ≤ 9223372036854775807) ∧ wl.length ≤ rs.length + 2 * K.length ∧ 3 * (s.all.length - K.length) + wl.length = m) (3 * s.all.length + rs.length) ?_ ?_
  · exact ⟨[], 0, aw, none, cw, 0, rs, [], eA rfl, eA rfl, hR.up ext_, ⟨.init⟩, ⟨hn⟩, by simp, by simp⟩
  clear hR hn
  rintro m e u hf ⟨es, ck, aw, ao, cw, co, wl, K, h6, h7, hR, ⟨hD⟩, ⟨hn⟩, hwl, hm⟩
  have hKl := hD.len W
  rcases List.eq_nil_or_concat wl with rfl | ⟨ws, n, rfl⟩
  · -- all was met
    have hp : K.Perm (s.reach rs) := by
      rw [List.perm_ext_iff_of_nodup hD.nodup (List.Pairwise.imp (fun h => by omega) Md.reach_up)]
      intro x
      rw [hD.done, W.mem_reach]
    obtain ⟨hm0, kn, sw, so, nw, no, nm, dis, hE⟩ := hR
    simp only [List.length_nil] at h6
    cases ao with
    | none =>
      have hK0 : K.length = 0 ∧ co = 0 := by
        rcases so.l.row with ⟨_, h1, h2⟩ | ⟨g, cur, e, _⟩
        · exact ⟨by simpa using h1, h2⟩
        · cases e
      obtain ⟨h1, rfl⟩ := hK0
      have hK : K = [] := List.length_eq_zero_iff.1 h1
      subst hK
      have sn := sort_nil
      clear hD hn hm0 kn sw nw dis
      refine w_ fun d => ?_
      refine qq (sn.quiet (w := u)) fun u2 hE2 hs2 => ?_
      refine w_ fun d => ?_
      exact ⟨none, 0, [], rfl, SlC.nil _ _, (fun g h => by cases h), ext_, hp.nil_eq⟩
    | some ad =>
      have had : ∃ g, ad = ⟨g, 0, none⟩ := by
        rcases so.l.row with ⟨e, _⟩ | ⟨g, cur, e, _⟩
        · cases e
        · cases e; exact ⟨g, rfl⟩
      obtain ⟨g, rfl⟩ := had
      have sc := sort_calls so (by omega)
      have hg := no g rfl
      clear hD hn hm0 kn sw nw dis so
      refine w_ fun d => ?_
      refine sc.mono ?_
      rintro _ u2 ⟨rfl, l2, hP⟩
      have hE2 : Ext w u2 := hP.ch.toExt hE fun k hk hf => by omega
      have hl2 := hP.len
      rw [← hl2] at h7
      refine w_ fun d => ?_
      exact ⟨_, _, l2, (by rw [hl2]), hP.sl.ext ext_, fun g' hg' => by have := blk_g hg'; omega, ext_, perm_up (hP.perm.trans hp) hP.up Md.reach_up⟩
  rw [List.concat_eq_append] at *
  have hl1 : (ws ++ [n]).length = ws.length + 1 := by simp
  rw [hl1] at h6 hwl hm
  have hnb := hn n (by simp)
  obtain ⟨gw, cur, rfl, hgw, hcw, hlt, hat⟩ := hR.sw.at (i := ws.length) (v := .int .i64 n) (by unfold ints; rw [List.getElem?_map]; simp)
  rw [List.length_map, hl1] at hcw
  have lg := lt_of_heap hgw
  have e1 : (ws.length : Int) + 1 - 1 = ws.length := by omega
  have hR' := hR.pop
  have hm0 := hR.hm
  have lm := lt_of_heap hm0
  have hws : ∀ x ∈ ws, x ≤ 9223372036854775807 := fun x hx => hn x (by simp [hx])
  have n1 := stNode_calls (h.ext hR.ext) W n hnb
  have gk := hR.kn.get n
  have hEu := hR.ext
  clear hR hn
  by_cases hsk : s.has n = false ∨ n ∈ K
  · have hD' : Rdf s rs K ws := hD.skip hsk (fun x hx => by rcases List.mem_append.1 hx with h | h; exact .inr h; exact .inl (List.mem_singleton.1 h)) (fun x hx => by simp [hx])
    cases hh : s.has n with
    | false =>
      rw [nod_no hh] at n1
      simp only [ndV] at n1
      clear hsk hD gk hh
      refine w_ fun d => ?_
      refine qq n1 fun u2 hE2 hs2 => ?_
      refine w_ fun d => ?_
      exact ⟨_, (by omega), es, ck, _, ao, cw, co, ws, K, eA rfl, eA rfl, (hR'.up hE2).up ext_, ⟨hD'⟩, ⟨hws⟩, by omega, rfl⟩
    | true =>
      have hK : n ∈ K := by rcases hsk with h | h; rw [hh] at h; cases h; exact h
      rw [if_pos hK] at gk
      have g1 : (mget es n).getD (.int .i64 0) = .int .i64 1 := by rw [gk]; rfl
      rw [nod_has hh] at n1
      obtain ⟨⟨v, lo, hi⟩, hz⟩ : ∃ z, s.nd n = z := ⟨_, rfl⟩
      rw [hz] at n1
      simp only [ndV] at n1
      clear hsk hD gk hh hz hK
      refine w_ fun d => ?_
      refine qq n1 fun u2 hE2 hs2 => ?_
      have hm2 := hE2.at hm0
      have lm2 := lt_of_heap hm2
      refine w_ fun d => ?_
      exact ⟨_, (by omega), es, ck, _, ao, cw, co, ws, K, eA rfl, eA rfl, (hR'.up hE2).up ext_, ⟨hD'⟩, ⟨hws⟩, by omega, rfl⟩
  · have hh : s.has n = true := by
      cases hh : s.has n with
      | true => rfl
      | false => exact absurd (.inl hh) hsk
    have hK : n ∉ K := fun h => hsk (.inr h)
    rw [if_neg hK] at gk
    have g1 : (mget es n).getD (.int .i64 0) = .int .i64 0 := by rw [gk]; rfl
    have hKl2 := hD.len' W hh hK
    have ok := G.node n hh (by simp)
    have blo := (Md.below_lt W ok.lo).1
    have bhi := (Md.below_lt W ok.hi).1
    have hD' : Rdf s rs (K ++ [n]) (ws ++ [(s.nd n).2.1, (s.nd n).2.2]) := hD.go hh hK (by simp) (fun x hx => by rcases List.mem_append.1 hx with h | h; exact .inr (by simp [h]); exact .inl (List.mem_singleton.1 h)) (fun x hx => by simp at hx ⊢; rcases hx with h | h | h <;> simp [h]) (by simp) (by simp)
    rw [nod_has hh] at n1
    obtain ⟨⟨v, lo, hi⟩, hz⟩ : ∃ z, s.nd n = z := ⟨_, rfl⟩
    rw [hz] at n1 hD' blo bhi
    simp only [ndV] at n1
    dsimp only at hD' blo bhi
    have hws2 : ∀ x ∈ ws ++ [lo, hi], x ≤ 9223372036854775807 := fun x hx => by
      simp only [List.mem_append, List.mem_cons, List.not_mem_nil, or_false] at hx
      rcases hx with h | h | h
      · exact hws x h
      · omega
      · omega
    clear hsk hD gk hh hz hK ok hws
    refine w_ fun d => ?_
    refine qq n1 fun u2 hE2 hs2 => ?_
    have hR2 := hR'.up hE2
    clear hm0 lm
    refine w_ fun d => ?_
    refine at_o fun u3 hu3 => ?_
    have hE3 : Ext u2 u3 := by rw [hu3]; exact ext_
    have hx3 : u3.heap[u2.heap.size]? = some (.cells #[.int .i64 v, .int .i64 lo, .int .i64 hi] 39) := by rw [hu3]; exact hA rfl
    have hR3 := hR2.up hE3
    clear hu3 hR2 hR' hE2 hE3 hs2
    have hxl := lt_of_heap hx3
    obtain ⟨hm3, kn3, sw3, so3, nw3, no3, nm3, dis3, ext3⟩ := hR3
    have lm3 := lt_of_heap hm3
    obtain ⟨aw, haw⟩ : ∃ z : Option Addr, some ⟨gw, 0, none⟩ = z := ⟨_, rfl⟩
    rw [haw] at h6 sw3 nw3 dis3
    have hxm : u2.heap.size ≠ bm := fun e => by rw [e, hm3] at hx3; cases hx3
    have nwm : ∀ g, blk aw = some g → g ≠ bm := fun g hg e => by
      obtain ⟨c, hc⟩ := sw3.tag hg; rw [e, hm3] at hc; cases hc
    have nom : ∀ g, blk ao = some g → g ≠ bm := fun g hg e => by
      obtain ⟨c, hc⟩ := so3.tag hg; rw [e, hm3] at hc; cases hc
    obtain ⟨o, ho⟩ : ∃ o, mObj (Value.int .i64) (mput es n (.int .i64 1) ck) (mclock es n ck) = o := ⟨_, rfl⟩
    have sw4 := sw3.upd (b := bm) (o := o) nwm
    have so4 := so3.upd (b := bm) (o := o) nom
    have hm4 : (upd u3 bm o).heap[bm]? = some o := upd_same lm3
    have hx4 : (upd u3 bm o).heap[u2.heap.size]? = some (.cells #[.int .i64 v, .int .i64 lo, .int .i64 hi] 39) := by rw [upd_other (Ne.symm hxm)]; exact hx3
    have ext4 : Ext w (upd u3 bm o) := ext3.upd nm3 _
    obtain ⟨a5, c5, w5, hr5, so5, hC5, hs5, hB5⟩ := pushI so4 (by omega) n
    have sw5 := sw4.chg hC5 fun g hg h2 => dis3 g hg h2
    have hm5 : w5.heap[bm]? = some o := by rw [hC5.heap _ (lt_of_heap hm4) fun h => nom bm h rfl]; exact hm4
    have hx5 : w5.heap[u2.heap.size]? = some (.cells #[.int .i64 v, .int .i64 lo, .int .i64 hi] 39) := by
      rw [hC5.heap _ (lt_of_heap hx4) fun h => by
        obtain ⟨c, hc⟩ := so3.tag h; rw [hx3] at hc; cases hc]; exact hx4
    have ext5 : Ext w w5 := hC5.toExt ext4 fun g hg hb => by have := no3 g hb; omega
    have no5 : ∀ g, blk a5 = some g → w.heap.size ≤ g := fun g hg => by
      rcases hB5 g hg with h | ⟨h, _⟩
      · exact no3 g h
      · have := ext4.size; omega
    have dis5 : ∀ g, blk aw = some g → ¬ blk a5 = some g := fun g hg h => by
      rcases hB5 g h with h | ⟨h, _⟩
      · exact dis3 g hg h
      · have := sw4.lt hg; omega
    obtain ⟨a6, c6, w6, hr6, sw6, hC6, hs6, hB6⟩ := pushI2 sw5 (by omega) lo hi
    have so6 := so5.chg hC6 fun g hg h2 => dis5 g h2 hg
    have hm6 : w6.heap[bm]? = some o := by rw [hC6.heap _ (lt_of_heap hm5) fun h => nwm bm h rfl]; exact hm5
    have ext6 : Ext w w6 := hC6.toExt ext5 fun g hg hb => by have := nw3 g hb; omega
    have nw6 : ∀ g, blk a6 = some g → w.heap.size ≤ g := fun g hg => by
      rcases hB6 g hg with h | ⟨h, _⟩
      · exact nw3 g h
      · have := ext5.size; omega
    have dis6 : ∀ g, blk a6 = some g → ¬ blk a5 = some g := fun g hg h => by
      rcases hB6 g hg with h2 | ⟨h2, _⟩
      · exact dis5 g h2 h
      · have := so5.lt h; omega
    simp only [upd_size] at hr5
    subst ho haw
    have hR6 : RchI w w6 bm _ _ a6 a5 c6 c5 (ws ++ [lo, hi]) (K ++ [n]) := ⟨hm6, kn3.put, sw6, so6, nw6, no5, nm3, dis6, ext6⟩
    have hx5l := lt_of_heap hx5
    have e1 : (ws ++ [lo, hi]).length = ws.length + 2 := by simp
    have e2 : (K ++ [n]).length = K.length + 1 := by simp
    clear hC5 hC6 hB5 hB6 so5 sw5 so4 sw4 so3 sw3 hm4 hm5 hm6 hx4 nw6 no5 dis5 dis6 nwm nom dis3 no3 nw3 nm3 so6 sw6 ext4 ext5 ext6 kn3
    refine w_ fun d => ?_
    exact ⟨_, (by rw [e1, e2]; omega), _, _, a6, a5, c6, c5, ws ++ [lo, hi], K ++ [n], by rw [e1]; exact eA rfl, by rw [e2]; exact eA rfl, hR6.up ext_, ⟨hD'⟩, ⟨hws2⟩, by rw [e1, e2]; omega, rfl⟩
end
end Go.Proofs.Ytpeindhocndmnaa

namespace Go.Bx
open Go
set_option linter.unusedSimpArgs false
set_option linter.unusedVariables false
structure SwL (s : Md) (rs : List Int) (j : Nat) (s' : Md) : Prop where
  swp : Swp s rs s'
  low : ∀ n, s'.has n = true → lvl s.ord (s.nd n).1 < j → s.Rc rs n
noncomputable def Md.swJ (s : Md) (rs : List Int) (j : Nat) : Md := s.dropO (s.keep rs) s.all (s.ord.take j)
noncomputable def Md.swI (s : Md) (rs : List Int) (j : Nat) (v : Int) (i : Nat) : Md := (s.swJ rs j).dropV (s.keep rs) v (s.all.take i)
section
variable {s t : Md} {rs l : List Int} {j i : Nat} {v n : Int}
theorem SwL.start (G : s.Good []) : SwL s rs 0 s := ⟨Swp.start G, fun n hn hl => by
  have hv := (G.node n hn (by simp)).var
  have := G.wf.ord.lt hv
  omega⟩
theorem SwL.ahd (h : SwL s rs j t) (G : s.Good []) (hv : s.ord[j]? = some v) : Ahd s rs t v := fun n hn hl => h.low n hn (by rw [h.swp.nd, G.wf.ord.lvl hv] at hl; exact hl)
theorem SwL.in (h : SwL s rs j t) (G : s.Good []) (hv : s.ord[j]? = some v) (l : List Int) : Swp s rs (t.dropV (s.keep rs) v l) ∧ Ahd s rs (t.dropV (s.keep rs) v l) v :=
  ⟨(Swp.lev G l h.swp (h.ahd G hv)).1, (Swp.lev G l h.swp (h.ahd G hv)).2.1⟩
theorem SwL.next (h : SwL s rs j t) (G : s.Good []) (hv : s.ord[j]? = some v) : SwL s rs (j + 1) (t.dropV (s.keep rs) v s.all) := by
  obtain ⟨a, b, c⟩ := Swp.lev G s.all h.swp (h.ahd G hv)
  refine ⟨a, fun n hn hl => ?_⟩
  rw [c, Bool.and_eq_true] at hn
  by_cases hlk : lvl s.ord (s.nd n).1 < j
  · exact h.low n hn.1 hlk
  · have hvn := (G.node n (h.swp.has n hn.1) (by simp)).var
    have hvr := G.wf.ord.rng j v hv
    have e : (s.nd n).1 = v := G.wf.ord.inj hvn hvr (by rw [G.wf.ord.lvl hv]; omega)
    have h2 := hn.2
    rw [e] at h2
    have hm : n ∈ s.all := G.wf.mem_all.2 (h.swp.has n hn.1)
    simp [hm] at h2
    exact Md.keep_iff.1 h2
theorem swJ_zero : s.swJ rs 0 = s := rfl
theorem swJ_succ (hv : s.ord[j]? = some v) : s.swJ rs (j + 1) = (s.swJ rs j).dropV (s.keep rs) v s.all := by
  unfold Md.swJ Md.dropO
  rw [List.take_add_one, hv, List.foldl_append]; rfl
theorem swJ_all (W : s.WF) : s.swJ rs 8 = s.sweep rs := by
  unfold Md.swJ Md.sweep
  rw [List.take_of_length_le (by rw [W.ord.len]; exact Nat.le_refl _)]
theorem SwL.at (G : s.Good []) : ∀ j, j ≤ 8 → SwL s rs j (s.swJ rs j)
  | 0, _ => SwL.start G
  | j + 1, h => by
    obtain ⟨v, hv⟩ : ∃ v, s.ord[j]? = some v := ⟨_, List.getElem?_eq_getElem (by rw [G.wf.ord.len]; omega)⟩
    rw [swJ_succ hv]
    exact (SwL.at G j (by omega)).next G hv
theorem dropV_take (h : l[i]? = some n) (kp : Int → Bool) : t.dropV kp v (l.take (i + 1)) = (t.dropV kp v (l.take i)).drop1 kp v n := by
  unfold Md.dropV
  rw [List.take_add_one, h, List.foldl_append]; rfl
theorem drop1_no {kp : Int → Bool} (h : (t.of n v && !kp n) = false) : t.drop1 kp v n = t := by unfold Md.drop1; rw [h]; rfl
theorem drop1_yes {kp : Int → Bool} (h1 : t.of n v = true) (h2 : kp n = false) : t.drop1 kp v n = t.drop n := by unfold Md.drop1; rw [h1, h2]; rfl
theorem Swp.freed (h : Swp s rs t) (G : s.Good []) (ha : Ahd s rs t v) (h1 : t.of n v = true) (h2 : s.keep rs n = false) : t.free n = (0, t.drop n) ∧ (t.drop n).a.many = t.a.many - 1 := by
  obtain ⟨h3, h4⟩ := h.free G ha h1 h2
  refine ⟨?_, (h.drop G ha h1 h2).2.2.1⟩
  unfold Md.free
  rw [h3, h4]; rfl
theorem Swp.all (h : Swp s rs t) : t.all = s.all.filter fun n => t.has n := by
  show (((List.range t.N.length).map fun j : Nat => (j : Int) + 2).filter fun n => t.has n) = (((List.range s.N.length).map fun j : Nat => (j : Int) + 2).filter fun n => s.has n).filter fun n => t.has n
  rw [List.filter_filter, h.N]
  refine List.filter_congr fun n _ => ?_
  cases e : t.has n with
  | false => rfl
  | true => rw [h.has n e]; rfl
theorem SwL.thin (h : SwL s rs j t) (G : s.Good []) (hv : s.ord[j]? = some v) : t.dropV (s.keep rs) v s.all = t.dropV (s.keep rs) v t.all := by
  suffices H : ∀ (l : List Int) (u : Md), Swp s rs u → Ahd s rs u v → (∀ n, u.has n = true → t.has n = true) → u.dropV (s.keep rs) v l = u.dropV (s.keep rs) v (l.filter fun n => t.has n) by
    rw [h.swp.all]
    exact H s.all t h.swp (h.ahd G hv) fun _ h => h
  intro l
  induction l with
  | nil => intros; rfl
  | cons n l ih =>
    intro u hS hA hu
    obtain ⟨a, b, c⟩ := hS.one (n := n) G hA
    have e := ih (u.drop1 (s.keep rs) v n) a b fun m hm => hu m (by rw [c, Bool.and_eq_true] at hm; exact hm.1)
    show (u.drop1 (s.keep rs) v n).dropV (s.keep rs) v l = _
    rw [e]
    cases hq : t.has n with
    | true => rw [List.filter_cons_of_pos hq]; rfl
    | false =>
      rw [List.filter_cons_of_neg (by simp [hq])]
      rw [drop1_no (by
        unfold Md.of
        cases hh : u.has n with
        | true => rw [hu n hh] at hq; cases hq
        | false => rfl)]
end
end Go.Bx

namespace Go.Proofs.Ytpeindhocndmnaa
open Go Go.Bx
set_option linter.unusedSimpArgs false
set_option linter.unusedVariables false
set_option maxRecDepth 100000
set_option maxHeartbeats 4000000
attribute [local irreducible] X XO XE XF XD XW thenX inX retX kN CallsR
section
variable {own own1 : Nat → Nat} {w w1 w2 : World} {p : Nat} {s t : Md} {rs : List Int}
theorem TrI.toSw {but : List Int} (h : TrI own w p s but w1) : ∃ own1, StI own1 w1 p s but ∧ Sw own w own1 w1 := by
  obtain ⟨o, h1, h2, h3⟩ := h
  exact ⟨o, h1, h2, h3⟩
theorem Sw.toTr {but : List Int} (h : Sw own w own1 w1) (hI : StI own1 w1 p s but) : TrI own w p s but w1 := ⟨own1, hI, h.ho, h.ch⟩
theorem swSweep_calls {a : Option Addr} {c : Nat} (h : StI own w p s []) (G : s.Good []) (hI : InI w a rs) (hl : rs.length ≤ 1000000) (hn : ∀ n ∈ rs, n ≤ 9223372036854775807) :
    CallsR Try.prog 68 #[.pointer (some ⟨p, 0, none⟩), .slice a rs.length c] w fun r w' => r = .int .i64 (s.a.many - (s.sweep rs).a.many) ∧ TrI own w p (s.sweep rs) [] w' := by
  have W := G.wf
  have hN := wf_N W
  have own0 : ∀ k, w.heap.size ≤ k → own k = 0 := fun k hk => by
    cases ho : own k with
    | zero => rfl
    | succ q => have := h.lt k (by omega); omega
  have hal : s.all.length ≤ 20000 := by have := allTo_len (s := s) (k := s.N.length); rw [allTo_all] at this; omega
  have c1 := fun u (hE : Ext w u) => rdReach_calls (c := c) (h.ext hE) G (Inp.ext hI hE) hl hn
  clear hI hl hn
  refine en2 Try.func68 Try.results68 mixed [] ?_
  intro e0 h0 h1
  refine w_ fun d => ?_
  refine (c1 _ ext_).mono ?_
  rintro _ u1 ⟨ar, cr, l, rfl, hSr, hnr, hE1, hP⟩
  replace hP : l.Perm (s.reach rs) := by rw [hP]
  have hEu1 : Ext w u1 := Ext.trans (by exact ext_) hE1
  have hm1 : u1.heap[w.heap.size]? = some (mObj (Value.int .i64) [] 0) := hE1.at (hA rfl)
  obtain ⟨bm, hbm⟩ : ∃ b, w.heap.size = b := ⟨_, rfl⟩
  rw [hbm] at hm1 ⊢
  have hbm' : w.heap.size ≤ bm := by omega
  clear hbm hnr
  have hll : l.length ≤ 20000 := by
    rw [hP.length_eq]
    exact Nat.le_trans (List.length_filter_le _ _) hal
  have hmem : ∀ m, m ∈ l ↔ s.keep rs m = true := fun m => by rw [hP.mem_iff, W.mem_reach, Md.keep_iff]
  have hnd : l.Nodup := hP.nodup_iff.2 (List.Pairwise.imp (fun h => by omega) Md.reach_up)
  clear c1 hP hE1
  refine w_ fun d => ?_
  refine lo_ (fun W e u => ∃ (k : Nat) (es : List (Ent Int)) (ck : Nat), k ≤ l.length ∧ e 21 = .int .i64 k ∧ u.heap[bm]? = some (mObj (Value.int .i64) es ck) ∧ KnS es ck (l.take k) ∧ SlC u 3 ar cr (ints l) ∧ Ext w u) (fun e _ => l.length - nat (e 21)) ?_ ?_
  · exact ⟨0, [], 0, by omega, eA rfl, hA rfl, KnS.nil, hSr.ext ext_, ext_⟩
  clear hSr hm1 hEu1
  rintro e u hf ⟨k, es, ck, hk, h21, hm, hK, hS, hE⟩
  have lm := lt_of_heap hm
  by_cases hkl : k < l.length
  · obtain ⟨n, hn⟩ : ∃ n, l[k]? = some n := ⟨_, List.getElem?_eq_getElem hkl⟩
    obtain ⟨g, cur, rfl, hg, hc, hlt3, hat⟩ := hS.at (i := k) (v := .int .i64 n) (by unfold ints; rw [List.getElem?_map, hn]; rfl)
    rw [List.length_map] at hc
    have lg := lt_of_heap hg
    have hgm : g ≠ bm := fun e => by rw [e, hm] at hg; cases hg
    have hnk : n ∉ l.take k := fun hm => by
      have h3 := hnd
      rw [← List.take_append_drop k l, List.nodup_append] at h3
      exact h3.2.2 n hm n (List.mem_of_getElem? (i := 0) (by rw [List.getElem?_drop]; simpa using hn)) rfl
    have gk := hK.get n
    rw [if_neg hnk] at gk
    have g1 : (mget es n).getD (.int .i64 0) = .int .i64 0 := by rw [gk]; rfl
    have hK' := hK.put (n := n)
    rw [show l.take k ++ [n] = l.take (k + 1) by rw [List.take_add_one, hn]; rfl] at hK'
    have hS' := hS.upd (b := bm) (o := mObj (Value.int .i64) (mput es n (.int .i64 1) ck) (mclock es n ck)) (fun g' hg' => by rw [← blk_g hg']; exact hgm)
    have hE' : Ext w (upd u bm (mObj (Value.int .i64) (mput es n (.int .i64 1) ck) (mclock es n ck))) := hE.upd hbm' _
    clear hnk gk hnd hmem hK hS hE
    refine w_ fun d => ?_
    exact ⟨⟨k + 1, _, _, by omega, eA rfl, hA rfl, hK', hS'.ext ext_, hE'.trans ext_⟩, mA⟩
  obtain rfl : k = l.length := by omega
  rw [List.take_length] at hK
  clear hS hnd
  have hmk : ∀ n, (mget es n).getD (.int .i64 0) = .int .i64 (if s.keep rs n then 1 else 0) := fun n => by
    rw [hK.get n]
    by_cases e : n ∈ l
    · rw [if_pos e, (hmem n).1 e]; rfl
    · rw [if_neg e, show s.keep rs n = false by
        cases h : s.keep rs n with
        | false => rfl
        | true => exact absurd ((hmem n).2 h) e]; rfl
  have cA := fun v (hE' : Ext u v) => stAll_calls ((h.ext hE).ext hE') W
  obtain ⟨oc, hoc⟩ : ∃ oc, OrdC s.ord oc := ordC W.ord.len
  have od := fun v (hE' : Ext u v) => (stOrder_calls (h.ext hE)).at hE'
  rw [hoc.agg] at od
  clear hmem hK
  refine w_ fun d => ?_
  refine (cA _ ext_).mono ?_
  rintro _ v1 ⟨aA, cA', rfl, hSA, hnA, hEA⟩
  have hE1 : Ext u v1 := Ext.trans (by exact ext_) hEA
  have od1 := od v1 hE1
  clear cA od
  refine w_ fun d => ?_
  refine qq od1 fun v2 hE2 hs2 => ?_
  refine w_ fun d => ?_
  have hEw := (hE.trans hE1).trans hE2
  have hI2 := h.ext hEw
  have hm2 := (hE1.trans hE2).at hm
  have hS2 := hSA.ext hE2
  have hoA : ∀ g, blk aA = some g → g < v2.heap.size ∧ own g = 0 := fun g hg => by
    refine ⟨hS2.lt hg, own0 g ?_⟩
    have := hnA g hg
    have := hE.size
    omega
  have hom := own0 bm hbm'
  have lm2 := lt_of_heap hm2
  have hst : ∀ own1 x, Sw own v2 own1 x → x.heap[bm]? = some (mObj (Value.int .i64) es ck) ∧ SlC x 3 aA cA' (ints s.all) := fun own1 x hS => ⟨(hS.out lm2 hom).2.trans hm2, hS2.keep fun g hg => (hS.out (hoA g hg).1 (hoA g hg).2).2⟩
  clear hSA hnA hEA hE1 hE2 hS2 hm2 hoA hom lm2 hs2 hm lm
  refine lo_ (fun W e u => ∃ (j : Nat) (own1 : Nat → Nat), j ≤ 8 ∧ e 34 = .int .i64 j ∧ e 8 = .int .i64 (s.a.many - (s.swJ rs j).a.many) ∧ StI own1 u p (s.swJ rs j) [] ∧ Sw own v2 own1 u) (fun e _ => 8 - nat (e 34)) ?_ ?_
  · exact ⟨0, own, by omega, eA rfl, (by rw [swJ_zero, Int.sub_self]; exact eA rfl), hI2.ext ext_, Sw.of_ext ext_⟩
  clear hI2
  rintro e2 x hf2 ⟨j, own1, hj, h34, h8, hIj, hSj⟩
  by_cases hj8 : j < 8
  · obtain ⟨v, hv⟩ : ∃ v, s.ord[j]? = some v := ⟨_, List.getElem?_eq_getElem (by rw [W.ord.len]; omega)⟩
    have hat := hoc.at_ j v hv
    have hL := SwL.at (rs := rs) G j hj
    have hJ := swJ_succ (rs := rs) hv
    obtain ⟨T, hT⟩ : ∃ T, s.swJ rs j = T := ⟨_, rfl⟩
    rw [hT] at hL hJ h8 hIj
    refine w_ fun d => ?_
    refine lo_ (fun W e u => ∃ (i : Nat) (own1 : Nat → Nat), i ≤ s.all.length ∧ e 39 = .int .i64 i ∧ e 8 = .int .i64 (s.a.many - (T.dropV (s.keep rs) v (s.all.take i)).a.many) ∧ StI own1 u p (T.dropV (s.keep rs) v (s.all.take i)) [] ∧ Sw own v2 own1 u) (fun e _ => s.all.length - nat (e 39)) ?_ ?_
    · exact ⟨0, own1, by omega, eA rfl, eA h8, hIj.ext ext_, hSj.ext ext_⟩
    clear h8 hIj hSj
    rintro e3 y hf3 ⟨i, own2, hi, h39, h8, hI, hS⟩
    obtain ⟨hSw, hAh⟩ := hL.in G hv (s.all.take i)
    by_cases hil : i < s.all.length
    · obtain ⟨n, hn⟩ : ∃ n, s.all[i]? = some n := ⟨_, List.getElem?_eq_getElem hil⟩
      have hD := dropV_take (t := T) (v := v) hn (s.keep rs)
      obtain ⟨U, hU⟩ : ∃ U, T.dropV (s.keep rs) v (s.all.take i) = U := ⟨_, rfl⟩
      rw [hU] at hD hSw hAh h8 hI
      obtain ⟨hmy, hSy⟩ := hst _ _ hS
      have gk := hmk n
      have lmy := lt_of_heap hmy
      have hnb : n ≤ 9223372036854775807 := by
        have := W.lt (W.mem_all.1 (List.mem_of_getElem? hn)); omega
      have hnb0 : 0 ≤ n := by
        have := W.lt (W.mem_all.1 (List.mem_of_getElem? hn)); omega
      have WU := hSw.good.wf
      have n1 := stNode_calls hI WU n hnb
      obtain ⟨g, cur, rfl, hg, hc, hlt3, hat3⟩ := hSy.at (i := i) (v := .int .i64 n) (by unfold ints; rw [List.getElem?_map, hn]; rfl)
      rw [List.length_map] at hc
      have lg := lt_of_heap hg
      have hmU := WU.ar.many_le
      have hms := W.ar.many_le
      have hmoU := WU.ar.most
      have hmo := W.ar.most
      have hfr := fun z own3 (hIz : StI own3 z p U []) => stFree_calls hIz hSw.good hnb
      clear hst hL hJ hmk
      cases hh : U.has n with
      | false =>
        rw [drop1_no (show (U.of n v && !s.keep rs n) = false by unfold Md.of; rw [hh]; rfl)] at hD
        rw [nod_no hh] at n1
        simp only [ndV] at n1
        rw [← hD] at h8 hI
        clear hfr gk hSw hAh hh hD WU
        refine w_ fun d => ?_
        refine qq n1 fun y1 hE1 hs1 => ?_
        refine w_ fun d => ?_
        exact ⟨⟨i + 1, own2, by omega, eA rfl, eA h8, hI.ext ext_, hS.ext ext_⟩, mA⟩
      | true =>
        rw [nod_has hh] at n1
        obtain ⟨⟨v', lo, hi'⟩, hz⟩ : ∃ z, U.nd n = z := ⟨_, rfl⟩
        rw [hz] at n1
        simp only [ndV] at n1
        by_cases hvv : v' = v
        · subst hvv
          have hof : U.of n v' = true := by unfold Md.of; rw [hh, hz]; simp
          cases hk : s.keep rs n with
          | true =>
            rw [hk] at gk
            rw [drop1_no (show (U.of n v' && !s.keep rs n) = false by rw [hk]; simp)] at hD
            rw [← hD] at h8 hI
            simp only [if_true] at gk
            clear hfr hSw hAh hh hz hD WU hof hk
            refine w_ fun d => ?_
            refine qq n1 fun y1 hE1 hs1 => ?_
            have hm1 := hE1.at hmy
            have lm1 := lt_of_heap hm1
            refine w_ fun d => ?_
            exact ⟨⟨i + 1, own2, by omega, eA rfl, eA h8, hI.ext ext_, hS.ext ext_⟩, mA⟩
          | false =>
            rw [hk] at gk
            obtain ⟨hF, hM⟩ := hSw.freed G hAh hof hk
            rw [drop1_yes hof hk] at hD
            rw [hF] at hfr
            simp only [errV0] at hfr
            simp only [Bool.false_eq_true, if_false] at gk
            clear hSw hAh hh hz WU hof hk hF
            refine w_ fun d => ?_
            refine qq n1 fun y1 hE1 hs1 => ?_
            have hm1 := hE1.at hmy
            have lm1 := lt_of_heap hm1
            refine w_ fun d => ?_
            refine (hfr _ own2 (hI.ext ext_)).mono ?_
            rintro _ y2 ⟨rfl, hTr⟩
            obtain ⟨own3, hI3, hS3⟩ := hTr.toSw
            have hS4 := (hS.ext (by exact ext_)).trans hS3
            refine w_ fun d => ?_
            rw [← hD] at hI3
            exact ⟨⟨i + 1, own3, by omega, eA rfl, (by rw [hD, hM, show s.a.many - (U.a.many - 1) = s.a.many - U.a.many + 1 by omega]; exact eA rfl), hI3.ext ext_, hS4.ext ext_⟩, mA⟩
        · rw [drop1_no (show (U.of n v && !s.keep rs n) = false by unfold Md.of; rw [hz, decide_eq_false hvv, Bool.and_false]; rfl)] at hD
          rw [← hD] at h8 hI
          have hvb : (v' == v) = false := by simpa using hvv
          clear hfr gk hSw hAh hh hz hD WU
          refine w_ fun d => ?_
          refine qq n1 fun y1 hE1 hs1 => ?_
          refine w_ fun d => ?_
          exact ⟨⟨i + 1, own2, by omega, eA rfl, eA h8, hI.ext ext_, hS.ext ext_⟩, mA⟩
    · obtain rfl : i = s.all.length := by omega
      rw [List.take_length, ← hJ] at h8 hI
      clear hst hL hSw hAh hmk
      refine w_ fun d => ?_
      exact ⟨⟨j + 1, own2, by omega, eA rfl, eA h8, hI.ext ext_, hS.ext ext_⟩, mA⟩
  · obtain rfl : j = 8 := by omega
    rw [swJ_all W] at h8 hIj
    clear hst hmk
    refine w_ fun d => ?_
    exact ⟨rfl, ((Sw.of_ext hEw).trans (hSj.ext ext_)).toTr (hIj.ext ext_)⟩
end
end Go.Proofs.Ytpeindhocndmnaa

namespace Go.Bx
open Go
set_option linter.unusedSimpArgs false
set_option linter.unusedVariables false
section
variable {s t : Md} {rs : List Int} {L : List Fun8} {n v : Int} {f : Fun8}
theorem Swept.all (h : Swept s rs t) : t.all = s.reach rs := by
  rw [h.swp.all]
  unfold Md.reach
  refine List.filter_congr fun n _ => ?_
  rw [Bool.eq_iff_iff, h.only, Md.keep_iff]
theorem Swept.len (h : Swept s rs t) : ((s.reach rs).length : Int) = t.a.many := by rw [← h.all]; exact h.swp.good.wf.len_all
theorem Swept.none (h : Swept s [] t) : t.a.many = 0 := by
  have : ∀ n, ¬ s.Rc [] n := fun n hn => by
    induction hn with
    | root hm _ => cases hm
    | lo _ _ ih => exact ih
    | hi _ _ ih => exact ih
  have hl := h.len
  have : s.reach [] = [] := by
    rw [List.eq_nil_iff_forall_not_mem]
    intro n hn
    unfold Md.reach at hn
    exact this n (Md.keep_iff.1 (List.mem_filter.1 hn).2)
  rw [this] at hl
  simp at hl
  omega
end
end Go.Bx

namespace Go.Proofs.Ytpeindhocndmnaa
open Go Go.Bx
set_option linter.unusedSimpArgs false
set_option linter.unusedVariables false
set_option maxRecDepth 100000
set_option maxHeartbeats 4000000
attribute [local irreducible] X XO XE XF XD XW thenX inX retX kN CallsR
section
variable {W w w' w1 w2 : World} {ps : Nat} {own own' : Nat → Nat} {s s' : Md} {a b : Option Addr} {cap : Nat} {l rs : List Int} {x : Int}
structure LiI (W w : World) (own : Nat → Nat) (a : Option Addr) (cap : Nat) (l : List Int) : Prop where
  sl : SlC w 3 a cap (ints l)
  ow : ∀ g, blk a = some g → own g = 0 ∧ W.heap.size ≤ g
theorem onSweep {c : Nat} (h : OnR W w ps s own) (G : s.Good []) (hI : InI w a rs) (hl : rs.length ≤ 1000000) (hn : ∀ n ∈ rs, n ≤ 9223372036854775807) :
    CallsR Try.prog 68 #[.pointer (some ⟨ps, 0, none⟩), .slice a rs.length c] w fun r w' => r = .int .i64 (s.a.many - (s.sweep rs).a.many) ∧ ∃ own', OnR W w' ps (s.sweep rs) own' ∧ Sw own w own' w' :=
  h.call (R := fun r => r = .int .i64 (s.a.many - (s.sweep rs).a.many)) (swSweep_calls h.sti G hI hl hn)
theorem up12_calls (w : World) : CallsR Try.prog 67 #[] w fun r w' => r = .bool true ∧ Ext w w' := by
  have G0 : (Md.new 3).Good [] := Md.Good.start (by decide) (by decide)
  have r1 : ((Md.new 3).mk' [] 0 0 1).1 = (2, 0) := by decide +kernel
  have r5 : ((Md.new 3).mk' [] 0 0 1).2.a.many = 1 := by decide +kernel
  have r6 : ((Md.new 3).mk' [] 0 0 1).2.has 2 = true := by decide +kernel
  have G1 := (G0.mks 0 0 1).1
  have c0 := fun u (hE : Ext w u) => oneNew (M := 3) (by decide) (by decide) hE
  have c1 := fun u p own (h : OnR w u p (Md.new 3) own) => h.call (R := fun r => r = .tuple #[.int .i64 2, errV 0]) (s' := ((Md.new 3).mk' [] 0 0 1).2) (by
    have := stMk_calls (v := 0) (lo := 0) (hi := 1) h.sti G0 (by decide) (by decide)
    rw [r1] at this
    exact this)
  generalize ((Md.new 3).mk' [] 0 0 1).2 = s1 at *
  rw [errV0] at c1
  have S1 := G1.swept (rs := [2])
  have m2 : (s1.sweep [2]).a.many = 1 := by
    rw [← S1.len]
    have h1 := G1.wf.len_all
    have h2 : (s1.reach [2]).length ≤ s1.all.length := List.length_filter_le _ _
    have h3 : (2 : Int) ∈ s1.reach [2] := G1.wf.mem_reach.2 (.root (by simp) r6)
    have h4 := List.length_pos_of_mem h3
    omega
  have G2 := S1.swp.good
  have c2 := fun u p own a (h : OnR w u p s1 own) (hI : InI u a [2]) => onSweep (c := 1) h G1 hI (by simp) (fun n hn => by rw [List.mem_singleton.1 hn]; decide)
  rw [r5, m2] at c2
  generalize s1.sweep [2] = s2 at *
  have S2 := G2.swept (rs := [])
  have m3 := S2.none
  have G3 := S2.swp.good
  have c3 := fun u p own (h : OnR w u p s2 own) => onSweep (a := none) (c := 0) (rs := []) h G2 (.inl rfl) (by simp) (fun n hn => by cases hn)
  rw [m2, m3] at c3
  generalize s2.sweep [] = s3 at *
  clear r1 r5 r6 G0 S1 S2
  refine en0 Try.func67 Try.results67 mixed [] ?_
  intro e0
  refine w_ fun d => ?_
  refine (c0 _ ext_).mono ?_
  rintro _ w1 ⟨p, rfl, h1⟩
  obtain ⟨o1, k1⟩ := h1.to
  clear h1 c0
  refine w_ fun d => ?_
  refine (c1 _ _ _ (k1.up ext_)).mono ?_
  rintro _ w2 ⟨rfl, o2, k2, _⟩
  clear c1 k1
  refine w_ fun d => ?_
  refine at_c fun v hv => ?_
  have hE : Ext w2 v := by rw [hv]; exact ext_
  have hI : InI v (some ⟨w2.heap.size, 0, none⟩) [2] := (SlC.made (l := ints [2]) (by rw [hv]; exact hA rfl) (by simp)).inp
  clear hv
  refine (c2 _ _ _ _ (k2.up hE) hI).mono ?_
  rintro _ w3 ⟨rfl, o3, k3, _⟩
  have lv := stLive_calls k3.sti G2.wf
  rw [m2] at lv
  clear c2 k2 hI hE
  refine w_ fun d => ?_
  refine qq lv fun w4 hE4 hs4 => ?_
  refine w_ fun d => ?_
  refine (c3 _ _ _ ((k3.up hE4).up ext_)).mono ?_
  rintro _ w5 ⟨rfl, o5, k5, _⟩
  have lv5 := stLive_calls k5.sti G3.wf
  rw [m3] at lv5
  have hW := k5.ext
  clear c3 k3 k5 lv
  refine w_ fun d => ?_
  refine qq lv5 fun w6 hE6 hs6 => ?_
  refine w_ fun d => ?_
  exact ⟨rfl, ext_⟩
end
end Go.Proofs.Ytpeindhocndmnaa

namespace Go.Proofs.Ytpeindhocndmnaa
open Go Go.Bx
set_option linter.unusedSimpArgs false
set_option linter.unusedVariables false
set_option maxRecDepth 100000
set_option maxHeartbeats 4000000
attribute [local irreducible] X XO XE XF XD XW thenX inX retX kN CallsR
def bools (l : List Bool) : List Value := l.map Value.bool
theorem ms_bools {w : World} {n : Nat} (hn : n ≤ 1099511627776) : msR Try.prog 44 (.int .i64 (n : Int)) (.int .i64 (n : Int)) w = .ok (.slice (some ⟨w.heap.size, 0, none⟩) n n) (w.alloc (.cells (bools (List.replicate n false)).toArray 4)) := by
  obtain ⟨i, hi, hs, hb, hz⟩ := ((TI.mk' (sz := 1) (by_ := 1) (z := Value.bool false) Try.underlying4 (by kernel_rfl)) : TI Try.prog 4 _ _ _ _).inf
  have := run_make (P := Try.prog) w 44 4 i _ Try.underlying44 hi hz .i64 .i64 (n : Int) (n : Int) (by omega) (by omega) (by rw [hb]; omega) (by omega)
  rw [msR, this]
  have e2 : ((n : Int)).toNat = n := by omega
  rw [e2, hs]
  congr 3
  apply Array.ext_getElem?
  intro j
  by_cases hj : j < n * 1
  · unfold madeCells
    rw [Array.getElem?_map, Array.getElem?_range, if_pos hj]
    have hj' : j < n := by omega
    simp [bools, List.getElem?_replicate, hj', Value.cells, Nat.mod_one]
  · rw [Array.getElem?_eq_none (by rw [size_madeCells]; omega), Array.getElem?_eq_none (by simp [bools]; omega)]
def seenL (s : Md) (K : List Int) : List Bool := (List.range (s.N.length + 2)).map fun j : Nat => decide ((j : Int) ∈ K)
def outTo (K : List Int) (k : Nat) : List Int := ((List.range k).map fun j : Nat => (j : Int) + 2).filter fun n => decide (n ∈ K)
section
variable {s : Md} {K : List Int} {n : Int}
theorem seenL_len : (seenL s K).length = s.N.length + 2 := by simp [seenL]
theorem seenL_nil : seenL s [] = List.replicate (s.N.length + 2) false := by
  apply List.ext_getElem?
  intro j
  simp only [seenL, List.getElem?_map, List.getElem?_replicate]
  by_cases h : j < s.N.length + 2
  · rw [List.getElem?_range h, if_pos h]; simp
  · rw [List.getElem?_eq_none (by simp; omega), if_neg h]; rfl
theorem seenL_at {j : Nat} (h : j < s.N.length + 2) : (seenL s K)[j]? = some (decide ((j : Int) ∈ K)) := by
  simp only [seenL, List.getElem?_map, List.getElem?_range h, Option.map_some]
theorem seenL_set {k : Nat} (h : k < s.N.length + 2) : (seenL s K).set k true = seenL s (K ++ [(k : Int)]) := by
  apply List.ext_getElem?
  intro j
  by_cases hj : j < s.N.length + 2
  · rw [seenL_at hj, List.getElem?_set]
    by_cases e : k = j
    · subst e
      rw [if_pos rfl, if_pos (by rw [seenL_len]; exact hj)]; simp
    · rw [if_neg e, seenL_at hj]
      have : ¬ (j : Int) = k := fun h => e (by omega)
      simp [this]
  · rw [List.getElem?_eq_none (by rw [List.length_set, seenL_len]; omega), List.getElem?_eq_none (by rw [seenL_len]; omega)]
theorem outTo_succ {k : Nat} : outTo K (k + 1) = outTo K k ++ if decide ((k : Int) + 2 ∈ K) then [(k : Int) + 2] else [] := by
  unfold outTo
  rw [List.range_succ, List.map_append, List.filter_append]
  congr 1
  simp only [List.map_cons, List.map_nil]
  by_cases h : (k : Int) + 2 ∈ K
  · rw [List.filter_cons_of_pos (by simp [h]), if_pos (by simp [h])]; rfl
  · rw [List.filter_cons_of_neg (by simp [h]), if_neg (by simp [h])]; rfl
theorem outTo_len {k : Nat} : (outTo K k).length ≤ k := Nat.le_trans (List.length_filter_le _ _) (by simp)
theorem outTo_reach {rs : List Int} (h : Rdf s rs K []) (W : s.WF) : outTo K s.N.length = s.reach rs := by
  refine h.reach W ?_ fun x => ?_
  · refine List.Pairwise.filter _ ?_
    rw [List.pairwise_map]
    exact List.Pairwise.imp (fun h => by omega) List.pairwise_lt_range
  · unfold outTo
    rw [List.mem_filter, List.mem_map, decide_eq_true_eq]
    refine ⟨fun h => h.2, fun hx => ⟨?_, hx⟩⟩
    have := W.lt (h.rch x hx).has
    exact ⟨(x - 2).toNat, List.mem_range.2 (by omega), by omega⟩
end
section
variable {own : Nat → Nat} {w : World} {p : Nat} {rs : List Int} {s : Md}
theorem rsReach_calls {a : Option Addr} {c : Nat} (h : RsI own w p s) (G : s.Good []) (hI : InI w a rs) (hl : rs.length ≤ 1000000) (hn : ∀ n ∈ rs, n ≤ 9223372036854775807) :
    CallsR Try.prog 118 #[.pointer (some ⟨p, 0, none⟩), .slice a rs.length c] w fun r w' => ∃ a' c', r = .slice a' (s.reach rs).length c' ∧ SlC w' 3 a' c' (ints (s.reach rs)) ∧ (∀ g, blk a' = some g → w.heap.size ≤ g) ∧ Ext w w' := by
  have W := G.wf
  have hN := wf_N W
  have hal : s.all.length ≤ 20000 := by have := allTo_len (s := s) (k := s.N.length); rw [allTo_all] at this; omega
  have nd := fun u (hE : Ext w u) n hn => (rsNode_calls (h.ext hE) W n hn)
  obtain ⟨pa, na, nc, sc, oc, hX⟩ := h
  have hp := hX.at_
  have c2 := hX.rc.c1
  have hsz := hX.rc.size
  have hpl := lt_of_heap hp
  have e2 : (s.N.length : Int) + 2 = ((s.N.length + 2 : Nat) : Int) := by omega
  have mb := fun w => ms_bools (w := w) (n := s.N.length + 2) (by omega)
  simp only [← e2] at mb
  clear hX
  obtain ⟨CS, hCS⟩ : ∃ C, (bools (List.replicate (s.N.length + 2) false)).toArray = C := ⟨_, rfl⟩
  have hs0 : SlC (w.alloc (.cells CS 4)) 4 (some ⟨w.heap.size, 0, none⟩) (s.N.length + 2) (bools (seenL s [])) := by
    have := SlC.made (w := w.alloc (.cells CS 4)) (E := 4) (l := bools (seenL s [])) (g := w.heap.size) (by rw [seenL_nil, hCS]; exact alloc_new) (by rw [bools, List.length_map, seenL_len]; omega)
    rwa [show (bools (seenL s [])).length = s.N.length + 2 by rw [bools, List.length_map, seenL_len]] at this
  have hw0 : SlC ((w.alloc (.cells CS 4)).alloc (.cells #[] 3)) 3 (some ⟨w.heap.size + 1, 0, none⟩) 0 (ints []) := SlC.made (l := []) (hA rfl) (by simp)
  have hE2 : Ext w ((w.alloc (.cells CS 4)).alloc (.cells #[] 3)) := ext_
  obtain ⟨aw, cw, w3, hr3, hw3, hC3, hB3⟩ := SlC.appI hw0 (c := c) (Inp.ext hI hE2) (by simp; omega)
  rw [List.nil_append] at hr3 hw3
  have hs3 := (hs0.alloc (o := .cells #[] 3)).chg hC3 fun g hg h2 => by have h3 := blk_g h2; have h4 := blk_g hg; omega
  have hE3 : Ext w w3 := hC3.toExt hE2 fun k hk hf => by have := blk_g hf; omega
  have hnw3 : ∀ g, blk aw = some g → w.heap.size ≤ g := fun g hg => by
    rcases hB3 g hg with h | ⟨h, _⟩
    · have := blk_g h; omega
    · simp only [alloc_size] at h; omega
  have hp3 := hE3.at hp
  rw [hCS] at mb
  simp only [show ([] : List Int).length = 0 from rfl] at hr3
  clear hw0 hC3 hB3 hs0 hE2 hCS e2
  refine en2 Try.func118 Try.results118 mixed [] ?_
  intro e0 h0 h1
  refine w_ fun d => ?_
  obtain ⟨bs, hbs⟩ : ∃ b, w.heap.size = b := ⟨_, rfl⟩
  have hbs' : w.heap.size ≤ bs := by omega
  rw [hbs] at hs3 ⊢
  have hbq : Box (w.heap.size = bs) := ⟨hbs⟩
  clear hbs
  refine log_ (fun m W e u => ∃ (i : Nat) (aw : Option Addr) (cw : Nat) (wl K : List Int), e 7 = .int .i64 i ∧ e 6 = .slice aw wl.length cw ∧ i ≤ wl.length ∧ SlC u 3 aw cw (ints wl) ∧ (∀ g, blk aw = some g → w.heap.size ≤ g) ∧ SlC u 4 (some ⟨bs, 0, none⟩) (s.N.length + 2) (bools (seenL s K)) ∧ Ext w u ∧ Box (Rdf s rs K (wl.drop i)) ∧ Box (∀ x ∈ wl, x ≤ 9223372036854775807) ∧ wl.length ≤ rs.length + 2 * K.length ∧ 3 * (s.all.length - K.length) + (wl.length - i) = m) (3 * s.all.length + rs.length) ?_ ?_
  · exact ⟨0, aw, cw, rs, [], eA rfl, eA rfl, by omega, hw3.ext ext_, hnw3, hs3.ext ext_, hE3.trans ext_, ⟨.init⟩, ⟨hn⟩, by simp, by simp⟩
  clear hw3 hnw3 hs3 hE3 hp3 hn hr3 mb
  rintro m e u hf ⟨i, aw, cw, wl, K, h7, h6, hi, hW, hnw, hS, hE, ⟨hD⟩, ⟨hn⟩, hwl, hm⟩
  have hKl := hD.len W
  have hSN : ∀ j : Nat, j < s.N.length + 2 → (bools (seenL s K))[j]? = some (.bool (decide ((j : Int) ∈ K))) := fun j hj => by unfold bools; rw [List.getElem?_map, seenL_at hj]; rfl
  by_cases hil : i < wl.length
  rotate_left
  · -- all was met
    have hnil : wl.drop i = [] := List.drop_of_length_le (by omega)
    rw [hnil] at hD
    have hout := outTo_reach hD W
    have hil' : ¬ (i : Int) < wl.length := by omega
    clear hD hW hnw hn nd hnil
    refine w_ fun d => ?_
    refine lo_ (fun _ e u => ∃ (k : Nat) (a' : Option Addr) (c' : Nat), k ≤ s.N.length ∧ e 11 = .int .i64 ((k : Int) + 2) ∧ e 10 = .slice a' (outTo K k).length c' ∧ SlC u 3 a' c' (ints (outTo K k)) ∧ (∀ g, blk a' = some g → w.heap.size ≤ g ∧ g ≠ bs) ∧ SlC u 4 (some ⟨bs, 0, none⟩) (s.N.length + 2) (bools (seenL s K)) ∧ Ext w u) (fun e _ => s.N.length + 2 - nat (e 11)) ?_ ?_
    · exact ⟨0, none, 0, by omega, eA rfl, eA rfl, SlC.nil _ _, (fun g h => by cases h), hS.ext ext_, hE.trans ext_⟩
    clear hS hE
    rintro e2 x hf2 ⟨k, a', c', hk, h11, h10, hO, hno, hS, hE⟩
    have hol := outTo_len (K := K) (k := k)
    by_cases hkl : k < s.N.length
    rotate_left
    · obtain rfl : k = s.N.length := by omega
      rw [hout] at h10 hO
      clear hout hSN hS hol
      refine w_ fun d => ?_
      exact ⟨a', c', rfl, hO.ext ext_, fun g hg => by have := (hno g hg).1; obtain ⟨h⟩ := hbq; omega, ext_⟩
    have hsn := hSN (k + 2) (by omega)
    obtain ⟨gs, curs, hgse, hgs, hcs, hlts, hats⟩ := hS.at hsn
    cases hgse
    have lgs := lt_of_heap hgs
    have hos := outTo_succ (K := K) (k := k)
    rw [show ((k + 2 : Nat) : Int) = (k : Int) + 2 by omega] at hats
    have nl : (k : Int) + 2 < ((s.N.length + 2 : Nat) : Int) := by omega
    have tn : ((k : Int) + 2).toNat = k + 2 := by omega
    have e3 : (k : Int) + 2 + 1 = ((k + 1 : Nat) : Int) + 2 := by omega
    have p1 : ∀ {v}, Ext x v → SlC v 4 (some ⟨bs, 0, none⟩) (s.N.length + 2) (bools (seenL s K)) := fun h => hS.ext h
    by_cases hkK : (k : Int) + 2 ∈ K
    · rw [decide_eq_true hkK] at hats
      rw [if_pos (by simp [hkK])] at hos
      obtain ⟨a6, c6, w6, hr6, hO6, hC6, hs6, hB6⟩ := pushI hO (by omega) ((k : Int) + 2)
      have hS6 := hS.chg hC6 fun g hg h2 => (hno g h2).2 (blk_g hg).symm
      have hw6 : Ext w w6 := hC6.toExt hE fun g hg hb => by have := (hno g hb).1; omega
      have hl6 : (outTo K k ++ [(k : Int) + 2]).length = (outTo K k).length + 1 := by simp
      have hbx := lt_of_heap hgs
      have hno6 : ∀ g, blk a6 = some g → w.heap.size ≤ g ∧ g ≠ bs := fun g hg => by
        rcases hB6 g hg with h | ⟨h, _⟩
        · exact hno g h
        · have := hE.size; omega
      clear hO hC6 hB6 hS hsn hlts hkK hSN p1 hno hout hE
      refine w_ fun d => ?_
      exact ⟨⟨k + 1, a6, c6, by omega, (by rw [← e3]; exact eA rfl), by rw [hos, hl6]; exact eA rfl, by rw [hos]; exact hO6.ext ext_, hno6, hS6.ext ext_, hw6.trans ext_⟩, mA⟩
    · rw [decide_eq_false hkK] at hats
      rw [if_neg (by simp [hkK]), List.append_nil] at hos
      clear hS hsn hlts hkK hSN hout
      refine w_ fun d => ?_
      exact ⟨⟨k + 1, a', c', by omega, (by rw [← e3]; exact eA rfl), by rw [hos]; exact eA rfl, by rw [hos]; exact hO.ext ext_, hno, p1 ext_, hE.trans ext_⟩, mA⟩
  obtain ⟨n, hni⟩ : ∃ n, wl[i]? = some n := ⟨_, List.getElem?_eq_getElem hil⟩
  have hnm := List.mem_of_getElem? hni
  have hnb := hn n hnm
  have hdr : wl.drop i = n :: wl.drop (i + 1) := by
    rw [List.drop_eq_getElem_cons hil, (List.getElem?_eq_some_iff.1 hni).2]
  have hil' : (i : Int) < wl.length := by omega
  obtain ⟨gw, cur, rfl, hgw, hcw, hlt, hat⟩ := hW.at (i := i) (v := .int .i64 n) (by unfold ints; rw [List.getElem?_map, hni]; rfl)
  rw [List.length_map] at hcw
  have lg := lt_of_heap hgw
  have n1 := nd u hE n hnb
  have q1 : ∀ {v}, Ext u v → SlC v 3 (some ⟨gw, 0, none⟩) cw (ints wl) := fun h => hW.ext h
  have q2 : ∀ {v}, Ext u v → SlC v 4 (some ⟨bs, 0, none⟩) (s.N.length + 2) (bools (seenL s K)) := fun h => hS.ext h
  have q3 : ∀ {v}, Ext u v → Ext w v := fun h => hE.trans h
  have hsk : s.has n = false ∨ n ∈ K → Box (Rdf s rs K (wl.drop (i + 1))) := fun hk => ⟨hD.skip hk (fun x hx => by rw [hdr] at hx; rcases List.mem_cons.1 hx with h | h; exact .inl h; exact .inr h) (fun x hx => by rw [hdr]; exact List.mem_cons_of_mem _ hx)⟩
  cases hh : s.has n with
  | false =>
    rw [nod_no hh] at n1
    simp only [ndV] at n1
    have hsk' := hsk (.inl hh)
    clear hsk hD hdr hh hni hnm hSN nd hW hS hE hlt
    refine w_ fun d => ?_
    refine qq n1 fun u2 hE2 hs2 => ?_
    refine w_ fun d => ?_
    exact ⟨_, (by omega), i + 1, _, cw, wl, K, eA rfl, eA rfl, by omega, q1 (hE2.trans ext_), hnw, q2 (hE2.trans ext_), q3 (hE2.trans ext_), hsk', ⟨hn⟩, hwl, rfl⟩
  | true =>
    rw [nod_has hh] at n1
    have hln := W.lt hh
    have hsn := hSN n.toNat (by omega)
    rw [show ((n.toNat : Nat) : Int) = n by omega] at hsn
    obtain ⟨gs, curs, hgse, hgs, hcs, hlts, hats⟩ := hS.at hsn
    cases hgse
    have lgs := lt_of_heap hgs
    have n0 : 0 ≤ n := by omega
    have nl : n < ((s.N.length + 2 : Nat) : Int) := by omega
    have hne : gw ≠ bs := fun e => by rw [e, hgs] at hgw; cases hgw
    by_cases hK : n ∈ K
    · have hsk' := hsk (.inr hK)
      rw [decide_eq_true hK] at hats
      obtain ⟨⟨v, lo, hi'⟩, hz⟩ : ∃ z, s.nd n = z := ⟨_, rfl⟩
      rw [hz] at n1
      simp only [ndV] at n1
      clear hsk hD hdr hh hni hnm hSN nd hW hS hE hlt hsn hlts hz
      refine w_ fun d => ?_
      refine qq n1 fun u2 hE2 hs2 => ?_
      have hgw2 := hE2.at hgw
      have lg2 := lt_of_heap hgw2
      have hgs2 := hE2.at hgs
      have lgs2 := lt_of_heap hgs2
      refine w_ fun d => ?_
      exact ⟨_, (by omega), i + 1, _, cw, wl, K, eA rfl, eA rfl, by omega, q1 (hE2.trans ext_), hnw, q2 (hE2.trans ext_), q3 (hE2.trans ext_), hsk', ⟨hn⟩, hwl, rfl⟩
    · rw [decide_eq_false hK] at hats
      have ok := G.node n hh (by simp)
      have blo := (Md.below_lt W ok.lo).1
      have bhi := (Md.below_lt W ok.hi).1
      have hKl2 := hD.len' W hh hK
      have hD' : Rdf s rs (K ++ [n]) (wl.drop (i + 1) ++ [(s.nd n).2.1, (s.nd n).2.2]) := hD.go hh hK (by rw [hdr]; simp) (fun x hx => by rw [hdr] at hx; rcases List.mem_cons.1 hx with h | h; exact .inl h; exact .inr (by simp [h])) (fun x hx => by rw [hdr]; simp at hx ⊢; rcases hx with h | h | h <;> simp [h]) (by simp) (by simp)
      obtain ⟨⟨v, lo, hi'⟩, hz⟩ : ∃ z, s.nd n = z := ⟨_, rfl⟩
      rw [hz] at n1 hD' blo bhi
      simp only [ndV] at n1
      dsimp only at hD' blo bhi
      have hdr2 : wl.drop (i + 1) ++ [lo, hi'] = (wl ++ [lo, hi']).drop (i + 1) := by rw [List.drop_append_of_le_length (by omega)]
      rw [hdr2] at hD'
      have hnb2 : ∀ x ∈ wl ++ [lo, hi'], x ≤ 9223372036854775807 := fun x hx => by
        simp only [List.mem_append, List.mem_cons, List.not_mem_nil, or_false] at hx
        rcases hx with h | h | h
        · exact hn x h
        · omega
        · omega
      have hset : ∀ (v : World), SlC v 4 (some ⟨bs, 0, none⟩) (s.N.length + 2) (bools (seenL s K)) → v.heap[bs]? = some (.cells curs 4) → SlC (upd v bs (.cells (curs.setIfInBounds n.toNat (.bool true)) 4)) 4 (some ⟨bs, 0, none⟩) (s.N.length + 2) (bools (seenL s (K ++ [n]))) := fun v hv hb => by
        have := hv.set hb (i := n.toNat) (by rw [bools, List.length_map, seenL_len]; omega) (.bool true)
        have h2 := seenL_set (s := s) (K := K) (k := n.toNat) (by omega)
        rw [show ((n.toNat : Nat) : Int) = n by omega] at h2
        rw [← h2, bools, List.map_set]
        exact this
      clear hsk hD hdr hh hni hnm hSN nd hlt hsn hlts hz ok hdr2 hW hS hE
      have hats' : Box (curs[n.toNat]? = some (Value.bool false)) := ⟨hats⟩
      clear hats
      refine w_ fun d => ?_
      refine qq n1 fun u2 hE2 hs2 => ?_
      have hgw2 := hE2.at hgw
      have lg2 := lt_of_heap hgw2
      have hgs2 := hE2.at hgs
      have lgs2 := lt_of_heap hgs2
      refine w_ fun d => ?_
      refine at_o fun u3 hu3 => ?_
      have hE3 : Ext u2 u3 := by rw [hu3]; exact ext_
      have hx3 : u3.heap[u2.heap.size]? = some (.cells #[.int .i64 v, .int .i64 lo, .int .i64 hi'] 39) := by rw [hu3]; exact hA rfl
      have hE23 := hE2.trans hE3
      have hW3 := q1 hE23
      have hS3 := q2 hE23
      have hw3 := q3 hE23
      have hgw3 := hE3.at hgw2
      have lg3 := lt_of_heap hgw3
      have hgs3 := hE3.at hgs2
      have lgs3 := lt_of_heap hgs3
      obtain ⟨hats⟩ := hats'
      have hcz : n.toNat < curs.size := (Array.getElem?_eq_some_iff.1 hats).1
      have hxl := lt_of_heap hx3
      obtain ⟨bx, hbx⟩ : ∃ b, u2.heap.size = b := ⟨_, rfl⟩
      rw [hbx] at hx3 hxl ⊢
      have hxs : bx ≠ bs := fun e => by rw [e, hgs3] at hx3; cases hx3
      have hxg : bx ≠ gw := fun e => by rw [e, hgw3] at hx3; cases hx3
      clear hu3 hE2 hE3 hE23 hgw2 hgs2 lg2 lgs2 hbx q1 q2 q3 hs2
      -- the mark
      have hS4 := hset u3 hS3 hgs3
      obtain ⟨CB, hCB⟩ : ∃ C, curs.setIfInBounds n.toNat (.bool true) = C := ⟨_, rfl⟩
      rw [hCB] at hS4
      have hW4 := hW3.upd (b := bs) (o := .cells CB 4) (fun g hg => by rw [← blk_g hg]; exact hne)
      have hw4 : Ext w (upd u3 bs (.cells CB 4)) := hw3.upd hbs' _
      have hx4 : (upd u3 bs (.cells CB 4)).heap[bx]? = some (.cells #[.int .i64 v, .int .i64 lo, .int .i64 hi'] 39) := by rw [upd_other (Ne.symm hxs)]; exact hx3
      have hxl4 := lt_of_heap hx4
      obtain ⟨a6, c6, w6, hr6, hW6, hC6, hs6, hB6⟩ := pushI2 hW4 (by omega) lo hi'
      have hS6 := hS4.chg hC6 fun g hg h2 => by
        have e1 := blk_g hg
        have e2 := blk_g h2
        exact hne (e2.trans e1.symm)
      have hw6 : Ext w w6 := hC6.toExt hw4 fun g hg hb => by have := hnw g hb; omega
      have hnw6 : ∀ g, blk a6 = some g → w.heap.size ≤ g := fun g hg => by
        rcases hB6 g hg with h | ⟨h, _⟩
        · exact hnw g h
        · have := hw4.size; omega
      simp only [upd_size] at hr6
      have e1 : (wl ++ [lo, hi']).length = wl.length + 2 := by simp
      have e2 : (K ++ [n]).length = K.length + 1 := by simp
      subst hCB
      clear hC6 hB6 hS4 hW4 hw4 hW3 hS3 hw3 hset
      refine w_ fun d => ?_
      exact ⟨_, (by rw [e1, e2]; omega), i + 1, a6, c6, wl ++ [lo, hi'], K ++ [n], eA rfl, by rw [e1]; exact eA rfl, by rw [e1]; omega, hW6.ext ext_, hnw6, hS6.ext ext_, hw6.trans ext_, ⟨hD'⟩, ⟨hnb2⟩, by rw [e1, e2]; omega, rfl⟩
end
end Go.Proofs.Ytpeindhocndmnaa

namespace Go.Proofs.Ytpeindhocndmnaa
open Go Go.Bx
set_option linter.unusedSimpArgs false
set_option linter.unusedVariables false
set_option maxRecDepth 100000
set_option maxHeartbeats 4000000
attribute [local irreducible] X XO XE XF XD XW thenX inX retX kN CallsR
section
variable {own : Nat → Nat} {w : World} {p : Nat} {rs : List Int} {s : Md}
theorem rsSweep_calls {a : Option Addr} {c : Nat} (h : RsI own w p s) (G : s.Good []) (hI : InI w a rs) (hl : rs.length ≤ 1000000) (hn : ∀ n ∈ rs, n ≤ 9223372036854775807) :
    CallsR Try.prog 69 #[.pointer (some ⟨p, 0, none⟩), .slice a rs.length c] w fun r w' => r = .int .i64 (s.a.many - (s.sweep rs).a.many) ∧ TrS own w p (s.sweep rs) w' := by
  have W := G.wf
  have hN := wf_N W
  have hal : s.all.length ≤ 20000 := by have := allTo_len (s := s) (k := s.N.length); rw [allTo_all] at this; omega
  have hrl : (s.reach rs).length ≤ 20000 := Nat.le_trans (List.length_filter_le _ _) hal
  have hmem : ∀ m, decide (m ∈ s.reach rs) = s.keep rs m := fun m => by
    rw [Bool.eq_iff_iff, decide_eq_true_eq, W.mem_reach, Md.keep_iff]
  have c1 := fun u (hE : Ext w u) => rsReach_calls (c := c) (h.ext hE) G (Inp.ext hI hE) hl hn
  have own0 : ∀ k, w.heap.size ≤ k → own k = 0 := fun k hk => by
    cases ho : own k with
    | zero => rfl
    | succ q => have := h.lt k (by omega); omega
  clear hI hl hn
  refine en2 Try.func69 Try.results69 mixed [] ?_
  intro e0 h0 h1
  refine w_ fun d => ?_
  refine (c1 _ ext_).mono ?_
  rintro _ v2 ⟨aK, cK, rfl, hSK, hnK, hE1⟩
  have hEw : Ext w v2 := Ext.trans (by exact ext_) hE1
  have hI2 := h.ext hEw
  have hoK : ∀ g, blk aK = some g → own g = 0 := fun g hg => own0 g (by have := hnK g hg; omega)
  have hst : ∀ own1 x, Sw own v2 own1 x → SlC x 3 aK cK (ints (s.reach rs)) := fun own1 x hS => hSK.keep fun g hg => (hS.out (hSK.lt hg) (hoK g hg)).2
  clear c1 hE1 hnK hSK
  obtain ⟨Rc, hRc⟩ : ∃ R, s.reach rs = R := ⟨_, rfl⟩
  rw [hRc] at hst hmem hrl
  simp only [hRc]
  clear hRc
  refine w_ fun d => ?_
  refine lo_ (fun W e u => ∃ (j : Nat) (own1 : Nat → Nat), j ≤ 8 ∧ e 7 = .int .i64 j ∧ e 6 = .int .i64 (s.a.many - (s.swJ rs j).a.many) ∧ RsI own1 u p (s.swJ rs j) ∧ Sw own v2 own1 u) (fun e _ => 8 - nat (e 7)) ?_ ?_
  · exact ⟨0, own, by omega, eA rfl, (by rw [swJ_zero, Int.sub_self]; exact eA rfl), hI2.ext ext_, Sw.of_ext ext_⟩
  clear hI2
  rintro e2 x hf2 ⟨j, own1, hj, h7, h6, hIj, hSj⟩
  by_cases hj8 : j < 8
  rotate_left
  · obtain rfl : j = 8 := by omega
    rw [swJ_all W] at h6 hIj
    clear hst hmem
    refine w_ fun d => ?_
    exact ⟨rfl, own1, hIj.ext ext_, (Sw.of_ext hEw).trans (hSj.ext ext_)⟩
  obtain ⟨v, hv⟩ : ∃ v, s.ord[j]? = some v := ⟨_, List.getElem?_eq_getElem (by rw [W.ord.len]; omega)⟩
  have hL := SwL.at (rs := rs) G j hj
  have hJ := swJ_succ (rs := rs) hv
  rw [hL.thin G hv] at hJ
  obtain ⟨T, hT⟩ : ∃ T, s.swJ rs j = T := ⟨_, rfl⟩
  rw [hT] at hL hJ h6 hIj
  have GT := hL.swp.good
  have hTN : T.N = s.N := hL.swp.N
  have hTal : T.all.length ≤ 20000 := by have := allTo_len (s := T) (k := T.N.length); rw [allTo_all, hTN] at this; omega
  have cA := fun u (hE : Ext x u) => rsAll_calls (hIj.ext hE) GT.wf
  have own10 : ∀ k, x.heap.size ≤ k → own1 k = 0 := fun k hk => by
    cases ho : own1 k with
    | zero => rfl
    | succ q => have := hIj.lt k (by omega); omega
  refine w_ fun d => ?_
  refine (cA _ ext_).mono ?_
  rintro _ x2 ⟨aA, cA', rfl, hSA, hnA, hEA⟩
  have hEx : Ext x x2 := Ext.trans (by exact ext_) hEA
  have hI2 := hIj.ext hEx
  have hSx := hSj.ext hEx
  have hoA : ∀ g, blk aA = some g → own1 g = 0 := fun g hg => own10 g (by have := hnA g hg; omega)
  have hstA : ∀ own2 y, Sw own1 x2 own2 y → SlC y 3 aA cA' (ints T.all) := fun own2 y hS => hSA.keep fun g hg => (hS.out (hSA.lt hg) (hoA g hg)).2
  clear cA hEA hnA hSA hIj hSj hoA own10 hEx
  refine w_ fun d => ?_
  refine lo_ (fun W e u => ∃ (i : Nat) (own2 : Nat → Nat), i ≤ T.all.length ∧ e 9 = .int .i64 i ∧ e 6 = .int .i64 (s.a.many - (T.dropV (s.keep rs) v (T.all.take i)).a.many) ∧ RsI own2 u p (T.dropV (s.keep rs) v (T.all.take i)) ∧ Sw own1 x2 own2 u) (fun e _ => T.all.length - nat (e 9)) ?_ ?_
  · exact ⟨0, own1, by omega, eA rfl, eA h6, hI2.ext ext_, Sw.of_ext ext_⟩
  clear h6 hI2
  rintro e3 y hf3 ⟨i, own2, hi, h9, h6, hI, hS⟩
  have hSv := hSx.trans hS
  by_cases hil : i < T.all.length
  rotate_left
  · obtain rfl : i = T.all.length := by omega
    rw [List.take_length, ← hJ] at h6 hI
    clear hst hstA hL hmem
    refine w_ fun d => ?_
    exact ⟨⟨j + 1, own2, by omega, eA rfl, eA h6, hI.ext ext_, hSv.ext ext_⟩, mA⟩
  obtain ⟨hSw, hAh⟩ := hL.in G hv (T.all.take i)
  have hhas := (Swp.lev (rs := rs) G (T.all.take i) hL.swp (hL.ahd G hv)).2.2
  obtain ⟨n, hn⟩ : ∃ n, T.all[i]? = some n := ⟨_, List.getElem?_eq_getElem hil⟩
  have hTn := GT.wf.mem_all.1 (List.mem_of_getElem? hn)
  have hnt : n ∉ T.all.take i := fun hm => by
    have h3 := Md.nodup_all (s := T)
    rw [← List.take_append_drop i T.all, List.nodup_append] at h3
    exact h3.2.2 n hm n (List.mem_of_getElem? (i := 0) (by rw [List.getElem?_drop]; simpa using hn)) rfl
  have hUn := hhas n
  rw [hTn] at hUn
  simp only [decide_eq_false hnt, Bool.false_and, Bool.not_false, Bool.and_true] at hUn
  have hD := dropV_take (t := T) (v := v) hn (s.keep rs)
  have hln := GT.wf.lt hTn
  rw [hTN] at hln
  obtain ⟨U, hU⟩ : ∃ U, T.dropV (s.keep rs) v (T.all.take i) = U := ⟨_, rfl⟩
  rw [hU] at hD hSw hAh h6 hI hUn
  have hUN : U.N = s.N := hSw.N
  have WU := hSw.good.wf
  have hSl := hstA _ _ hS
  have hSK := hst _ _ hSv
  have iq := rin7_calls (c := cK) hSK.inp (by omega) n
  rw [hmem] at iq
  have hfr := fun z own3 (hIz : RsI own3 z p U) => rsFree_calls hIz WU (n := n) (by omega)
  obtain ⟨g, cur, rfl, hg, hc, hlt3, hat3⟩ := hSl.at (i := i) (v := .int .i64 n) (by unfold ints; rw [List.getElem?_map, hn]; rfl)
  rw [List.length_map] at hc
  have lg := lt_of_heap hg
  have hmU := WU.ar.many_le
  have hms := W.ar.many_le
  have hmoU := WU.ar.most
  have hmo := W.ar.most
  obtain ⟨pa, na, nc, sc, oc, hX⟩ := id hI
  have hp := hX.at_
  have cn := hX.rc.c1
  have ox := hX.rc.at_ord hX.oc (show U.ord[j]? = some v by rw [hSw.ord]; exact hv)
  have hsz := hX.rc.size
  have hpl := lt_of_heap hp
  obtain ⟨⟨v', lo, hi'⟩, hz⟩ : ∃ z, U.N[(n - 2).toNat]? = some z := ⟨_, List.getElem?_eq_getElem (by rw [hUN]; omega)⟩
  have hnd : U.nd n = (v', lo, hi') := by unfold Md.nd; rw [List.getD, hz]; rfl
  obtain ⟨g2, cur2, rfl, hg2, hc2, hlt2, x0, x1, x2', hsz3, hex⟩ := hX.no.at hz
  have hgl2 := lt_of_heap hg2
  rw [hUN] at cn hlt2
  have hl0 : 0 ≤ n - 2 := by omega
  have hN' : n ≤ 1000000 := by omega
  have hjn : (j : Int) < 8 := by omega
  have hiT : (i : Int) < T.all.length := by omega
  have hng : n - 2 < (s.N.length : Int) := by omega
  clear hst hstA hL hhas hnt hTn hX hz hSl hSK hmem hJ hn
  by_cases hvv : v' = v
  · subst hvv
    have hof : U.of n v' = true := by unfold Md.of; rw [hUn, hnd]; simp
    cases hk : s.keep rs n with
    | true =>
      rw [hk] at iq
      rw [drop1_no (show (U.of n v' && !s.keep rs n) = false by rw [hk]; simp)] at hD
      rw [← hD] at h6 hI
      clear hfr hSw hAh hD WU hnd hUn hof hk
      refine w_ fun d => ?_
      intro y2 hEy hsy
      refine w_ fun d => ?_
      exact ⟨⟨i + 1, own2, by omega, eA rfl, eA h6, (hI.ext hEy).ext ext_, (hS.ext hEy).ext ext_⟩, mA⟩
    | false =>
      rw [hk] at iq
      obtain ⟨hF, hM⟩ := hSw.freed G hAh hof hk
      rw [drop1_yes hof hk] at hD
      rw [hF] at hfr
      clear hSw hAh WU hnd hUn hof hk hF
      refine w_ fun d => ?_
      intro y2 hEy hsy
      have hgy := hEy.at hg
      have hgly := lt_of_heap hgy
      refine w_ fun d => ?_
      refine (hfr _ own2 ((hI.ext hEy).ext ext_)).mono ?_
      rintro _ y3 ⟨rfl, own3, hI3, hS3⟩
      have hS4 := (hS.ext (hEy.trans ext_)).trans hS3
      refine w_ fun d => ?_
      rw [← hD] at hI3
      exact ⟨⟨i + 1, own3, by omega, eA rfl, (by rw [hD, hM, show s.a.many - (U.a.many - 1) = s.a.many - U.a.many + 1 by omega]; exact eA rfl), hI3.ext ext_, hS4.ext ext_⟩, mA⟩
  · rw [drop1_no (show (U.of n v && !s.keep rs n) = false by unfold Md.of; rw [hnd, decide_eq_false hvv, Bool.and_false]; rfl)] at hD
    rw [← hD] at h6 hI
    have hvb : (v' == v) = false := by simpa using hvv
    clear hfr hSw hAh hD WU iq hnd hUn
    refine w_ fun d => ?_
    exact ⟨⟨i + 1, own2, by omega, eA rfl, eA h6, hI.ext ext_, hS.ext ext_⟩, mA⟩
end
end Go.Proofs.Ytpeindhocndmnaa

namespace Go.Proofs.Ytpeindhocndmnaa
open Go Go.Bx
set_option linter.unusedSimpArgs false
set_option linter.unusedVariables false
set_option maxRecDepth 100000
set_option maxHeartbeats 4000000
attribute [local irreducible] X XO XE XF XD XW thenX inX retX kN CallsR
section
variable {w : World} {p : Nat} {own : Nat → Nat} {s : Md}
def nodesL (s : Md) (l : List Int) : List Int := l.map fun x => pickN s x (decide (x < 0))
theorem nodesL_succ {l : List Int} {i : Nat} {x : Int} (h : l[i]? = some x) : nodesL s (l.take (i + 1)) = nodesL s (l.take i) ++ [pickN s x (decide (x < 0))] := by
  unfold nodesL
  rw [List.take_add_one, h, List.map_append]; rfl
theorem nodes_calls00 {a : Option Addr} {c : Nat} {l : List Int} (h : RsI own w p s) (W : s.WF) (hI : InI w a l) (hl : l.length ≤ 1000) :
    CallsR Try.prog 45 #[.pointer (some ⟨p, 0, none⟩), .slice a l.length c] w fun r w' => ∃ a' c', r = .slice a' (nodesL s l).length c' ∧ SlC w' 3 a' c' (ints (nodesL s l)) ∧ (∀ g, blk a' = some g → w.heap.size ≤ g) ∧ Ext w w' := by
  have nd := fun u (hE : Ext w u) n raw => lnode_calls (h.ext hE) W n raw
  clear h
  refine en2 Try.func45 Try.results45 mixed [] ?_
  intro e0 h0 h1
  refine w_ fun d => ?_
  refine lo_ (fun _ e u => ∃ (i : Nat) (a' : Option Addr) (c' : Nat), i ≤ l.length ∧ e 6 = .int .i64 i ∧ e 5 = .slice a' (nodesL s (l.take i)).length c' ∧ SlC u 3 a' c' (ints (nodesL s (l.take i))) ∧ (∀ g, blk a' = some g → w.heap.size ≤ g) ∧ Ext w u) (fun e _ => l.length - nat (e 6)) ?_ ?_
  · exact ⟨0, none, 0, by omega, eA rfl, eA rfl, SlC.nil _ _, (fun g h => by cases h), ext_⟩
  rintro e u hf ⟨i, a', c', hi, h6, h5, hS, hn, hE⟩
  by_cases hlt : i < l.length
  rotate_left
  · obtain rfl : i = l.length := by omega
    rw [List.take_length] at h5 hS
    clear nd hlt hI
    refine w_ fun d => ?_
    exact ⟨a', c', rfl, hS.ext ext_, hn, ext_⟩
  obtain ⟨x, hx⟩ : ∃ x, l[i]? = some x := ⟨l[i], List.getElem?_eq_getElem hlt⟩
  rcases InI.at (Inp.ext hI hE) with rfl | ⟨b1, o1, cs1, E1, fz1, rfl, hb1, hat1⟩
  · simp at hlt
  have hat1 := hat1 i x hx
  have hltk : (i : Int) < l.length := by omega
  have lb := lt_of_heap hb1
  have hsc := nodesL_succ (s := s) hx
  have n1 := nd u hE x (decide (x < 0))
  obtain ⟨L, hL⟩ : ∃ L, nodesL s (l.take i) = L := ⟨_, rfl⟩
  obtain ⟨y, hy⟩ : ∃ y, pickN s x (decide (x < 0)) = y := ⟨_, rfl⟩
  have hLl : L.length ≤ 1000 := by rw [← hL]; unfold nodesL; rw [List.length_map, List.length_take]; omega
  rw [hy] at n1 hsc
  rw [hL] at hsc h5 hS
  clear nd hI hx hL hy
  refine w_ fun d => ?_
  refine s_draw (XD_ext ?_)
  refine de_ ?_
  refine xe2w fun w5 hE5 => ?_
  refine krA ?_
  refine kv ?_
  refine de_ ?_
  refine xe2w fun w6 hE6 => ?_
  have hE56 : Ext w5 w6 := Ext.trans (by exact ext_) hE6
  have hI6 : InI w6 (some ⟨w5.heap.size, 0, none⟩) [y] := (SlC.made (l := ints [y]) (hE6.at (hA rfl)) (by simp)).inp
  have hS6 := (hS.ext hE5).ext hE56
  obtain ⟨a7, c7, w7, hr7, hS7, hC7, hB7⟩ := SlC.appI hS6 (c := 1) hI6 (by simp; omega)
  have hl7 : (L ++ [y]).length = L.length + 1 := by simp
  have hw6 := (hE.trans hE5).trans hE56
  have hw7 : Ext w w7 := hC7.toExt hw6 fun g hg hb => by have := hn g hb; omega
  have hn7 : ∀ g, blk a7 = some g → w.heap.size ≤ g := fun g hg => by
    rcases hB7 g hg with h | ⟨h, _⟩
    · exact hn g h
    · have := hw6.size; omega
  rw [hl7] at hr7
  simp only [show ([y] : List Int).length = 1 from rfl] at hr7
  refine krA ?_
  refine kv ?_
  refine de_ ?_
  refine xn_ fun w8 hE8 hs8 => ?_
  clear hS6 hC7 hB7 hS hE56 hE6
  refine w_ fun d => ?_
  exact ⟨⟨i + 1, a7, c7, by omega, eA rfl, by rw [hsc, hl7]; exact eA rfl, by rw [hsc]; exact (hS7.ext hE8).ext ext_, hn7, (hw7.trans hE8).trans ext_⟩, mA⟩
end
end Go.Proofs.Ytpeindhocndmnaa

namespace Go.Proofs.Ytpeindhocndmnaa
open Go Go.Bx
set_option linter.unusedSimpArgs false
set_option linter.unusedVariables false
set_option maxRecDepth 100000
set_option maxHeartbeats 4000000
attribute [local irreducible] X XO XE XF XD XW thenX inX retX kN CallsR
section
variable {W w w' w1 w2 : World} {ps pm : Nat} {s s' sM : Md} {a : Option Addr} {cap : Nat} {l : List Int}
def PrL (W w : World) (ps pm : Nat) (s sM : Md) (a : Option Addr) (cap : Nat) (l : List Int) : Prop :=
  ∃ ownI ownM, StI ownI w ps s [] ∧ RsI ownM w pm sM ∧ (∀ k, ownI k ≠ 0 → ownM k = 0) ∧ (∀ k, ownI k ≠ 0 → W.heap.size ≤ k) ∧ (∀ k, ownM k ≠ 0 → W.heap.size ≤ k) ∧ Ext W w ∧ SlC w 3 a cap (ints l) ∧ (∀ g, blk a = some g → ownI g = 0) ∧ ∀ g, blk a = some g → ownM g = 0
theorem PrL.of (h : PrI W w ps pm s sM) (hE : Ext w w') (hS : SlC w' 3 a cap (ints l)) (hn : ∀ g, blk a = some g → w.heap.size ≤ g) : PrL W w' ps pm s sM a cap l := by
  obtain ⟨o, oM, h1, h2, h3, h4, h5, h6⟩ := h
  refine ⟨o, oM, h1.ext hE, h2.ext hE, h3, h4, h5, h6.trans hE, hS, fun g hg => ?_, fun g hg => ?_⟩
  · have := hn g hg
    cases ho : o g with
    | zero => rfl
    | succ q => have := h1.lt g (by omega); omega
  · have := hn g hg
    cases ho : oM g with
    | zero => rfl
    | succ q => have := h2.lt g (by omega); omega
theorem PrL.ext (h : PrL W w ps pm s sM a cap l) (hE : Ext w w') : PrL W w' ps pm s sM a cap l := by
  obtain ⟨o, oM, h1, h2, h3, h4, h5, h6, h7, h8⟩ := h
  exact ⟨o, oM, h1.ext hE, h2.ext hE, h3, h4, h5, h6.trans hE, h7.ext hE, h8⟩
theorem PrL.pri (h : PrL W w ps pm s sM a cap l) : PrI W w ps pm s sM := by
  obtain ⟨o, oM, h1, h2, h3, h4, h5, h6, _⟩ := h
  exact ⟨o, oM, h1, h2, h3, h4, h5, h6⟩
theorem PrL.inp (h : PrL W w ps pm s sM a cap l) : InI w a l := by
  obtain ⟨o, oM, h1, h2, h3, h4, h5, h6, h7, _⟩ := h
  exact h7.inp
theorem PrL.turnS {f : FuncId} {args : Array Value} {R : Value → Prop} (h : PrL W w ps pm s sM a cap l) (hc : ∀ own, StI own w ps s [] → SlC w 3 a cap (ints l) → (∀ g, blk a = some g → own g = 0) → CallsR Try.prog f args w fun r w' => R r ∧ TrI own w ps s' [] w') :
    CallsR Try.prog f args w fun r w' => R r ∧ PrL W w' ps pm s' sM a cap l := by
  obtain ⟨o, b, h1, h2, h3, h4, h5, h6, h7, h8, h9⟩ := h
  refine (hc o h1 h7 h8).mono ?_
  rintro r w' ⟨hr, a', g1, ho, hC⟩
  have hs := hC.size
  have hsW := h6.size
  refine ⟨hr, a', b, g1, h2.keep (fun k hk => hC.heap k (h2.lt k hk) fun hf => hk (h3 k hf)) hs, fun k hk => ?_, fun k hk => ?_, h5, hC.toExt h6 fun k hk hf => by have := h4 k hf; omega, h7.keep fun g hg => hC.heap g (h7.lt hg) fun hf => hf (h8 g hg), fun g hg => (ho g (h7.lt hg)).trans (h8 g hg), h9⟩
  · by_cases hl : k < w.heap.size
    · exact h3 k (by rw [← ho k hl]; exact hk)
    · cases hb : b k with
      | zero => rfl
      | succ m => exact absurd (h2.lt k (by omega)) hl
  · by_cases hl : k < w.heap.size
    · exact h4 k (by rw [← ho k hl]; exact hk)
    · omega
theorem PrL.turnI {f : FuncId} {args : Array Value} {R : Value → Prop} (h : PrL W w ps pm s sM a cap l) (hc : ∀ own, StI own w ps s [] → CallsR Try.prog f args w fun r w' => R r ∧ TrI own w ps s' [] w') :
    CallsR Try.prog f args w fun r w' => R r ∧ PrL W w' ps pm s' sM a cap l := h.turnS fun own ho _ _ => hc own ho
end
end Go.Proofs.Ytpeindhocndmnaa

namespace Go.Proofs.Ytpeindhocndmnaa
open Go Go.Bx
set_option linter.unusedSimpArgs false
set_option linter.unusedVariables false
set_option maxRecDepth 100000
set_option maxHeartbeats 4000000
attribute [local irreducible] X XO XE XF XD XW thenX inX retX kN CallsR
section
variable {W w w' w1 w2 : World} {ps pm : Nat} {s s' sM : Md} {a : Option Addr} {cap : Nat} {l : List Int}
theorem sweepTells_calls (most : Int) {l : List Dd07} {rs : List Int} {k : List Dd07} {a b d : Option Addr} {c cb cd : Nat} (hI : Inp w 5 a (l.map encD)) (hok : ∀ d ∈ l, okD d) (hK : InI w b rs) (hkr : ∀ n ∈ rs, okI n) (hM : Inp w 5 d (k.map encD)) (hmk : ∀ d ∈ k, okD d) (hl : l.length ≤ 140737488351232) (hrl : rs.length ≤ 140737488351232) (hk : k.length ≤ 140737488351232) :
    CallsR Try.prog 12 #[.int .i64 most, .slice a l.length c, .slice b rs.length cb, .slice d k.length cd] w fun r w' => r = .bool true ∧ Ext w w' := by
  have up := up12_calls
  by_cases hm : 0 ≤ most ∧ most ≤ 20000
  rotate_left
  · have b0 := begin_none most hm
    clear hI hok hK hM hm hmk hkr
    refine en4 Try.func12 Try.results12 mixed [] ?_
    intro e0 h0 h1 h2 h3
    refine w_ fun d => ?_
    refine (up _).mono ?_
    rintro _ w1 ⟨rfl, hE1⟩
    have hE1w : Ext w w1 := Ext.trans (by exact ext_) hE1
    refine w_ fun d => ?_
    refine qq (b0.quiet (w := w1)) fun w2 hE2 hs2 => ?_
    refine w_ fun d => ?_
    exact ⟨rfl, ext_⟩
  obtain ⟨h0', h1'⟩ := hm
  have b0 := begin_calls most h0' h1'
  have G0 : (Md.new most).Good [] := Md.Good.start h0' h1'
  by_cases hlen : l.length ≤ 100 ∧ rs.length ≤ 50 ∧ k.length ≤ 50
  rotate_left
  · have hno : ((100 : Int) < l.length) ∨ (¬ (100 : Int) < l.length ∧ (50 : Int) < rs.length) ∨ (¬ (100 : Int) < l.length ∧ ¬ (50 : Int) < rs.length ∧ (50 : Int) < k.length) := by omega
    clear hI hok hK hM hmk hkr G0 hlen
    rcases hno with hn1 | ⟨hn1, hn2⟩ | ⟨hn1, hn2, hn3⟩
    all_goals
      refine en4 Try.func12 Try.results12 mixed [] ?_
      intro e0 h0 h1 h2 h3
      refine w_ fun d => ?_
      refine (up _).mono ?_
      rintro _ w1 ⟨rfl, hE1⟩
      have hE1w : Ext w w1 := Ext.trans (by exact ext_) hE1
      refine w_ fun d => ?_
      refine (b0 _).mono ?_
      rintro _ w2 ⟨ps, pm, rfl, hP⟩
      have hE2w := hE1w.trans (Ext.trans (by exact ext_) hP.world)
      clear hP b0
      refine w_ fun d => ?_
      exact ⟨rfl, ext_⟩
  have hl1 : ¬ (100 : Int) < l.length := by omega
  have hr1 : ¬ (50 : Int) < rs.length := by omega
  have hk1 : ¬ (50 : Int) < k.length := by omega
  refine en4 Try.func12 Try.results12 mixed [] ?_
  intro e0 h0 h1 h2 h3
  refine w_ fun d => ?_
  refine (up _).mono ?_
  rintro _ w1 ⟨rfl, hE1⟩
  have hE1w : Ext w w1 := Ext.trans (by exact ext_) hE1
  refine w_ fun d => ?_
  refine (b0 _).mono ?_
  rintro _ w2 ⟨ps, pm, rfl, hP⟩
  clear b0
  refine w_ fun d => ?_
  refine lo_ (fun _ e w' => ∃ (i : Nat) (s : Md), i ≤ l.length ∧ e 12 = .int .i64 i ∧ PrI w1 w' ps pm s s ∧ s.Good []) (fun e _ => l.length - nat (e 12)) ?_ ?_
  · exact ⟨0, _, by omega, eA rfl, hP.ext ext_, G0⟩
  clear hP G0
  rintro e u hf ⟨i, s, hi, h12, hPu, G⟩
  have hEu := hE1w.trans hPu.world
  by_cases hlt : i < l.length
  · obtain ⟨dd, hd⟩ : ∃ d, l[i]? = some d := ⟨l[i], List.getElem?_eq_getElem hlt⟩
    obtain ⟨k1, k2, k3⟩ := hok dd (List.mem_of_getElem? hd)
    obtain ⟨q, da, db, dc, r⟩ := dd
    obtain ⟨g, o, ct, E, fz, rfl, hg, hsz, hex⟩ := deedAt (Inp.ext hI hEu) hd
    have hltl : (i : Int) < l.length := by omega
    have dd := fun u (h : PrI w1 u ps pm s s) => do_calls (q := q) (raw := r) h G k1 k2 k3
    clear hI hok hd k1 k2 k3 G hK hM hmk hkr
    refine w_ fun d => ?_
    refine (dd _ (hPu.ext ext_)).mono ?_
    rintro _ u2 ⟨s2, rfl, hP2, G2⟩
    refine w_ fun d => ?_
    exact ⟨⟨i + 1, s2, by omega, eA rfl, hP2.ext ext_, G2⟩, mA⟩
  obtain rfl : i = l.length := by omega
  clear hI hok hlt
  obtain ⟨oM, hMm⟩ := hPu.m
  have nw := fun x (hE : Ext u x) => nodes_calls00 (c := cb) (hMm.ext hE) G.wf (Inp.ext (Inp.ext hK hEu) hE) (by omega)
  have hok2 : ∀ n ∈ nodesL s rs, n ≤ 9223372036854775807 := fun n hn => by
    obtain ⟨x, hx, rfl⟩ := List.mem_map.1 hn
    exact pickN_le G.wf (hkr x hx).2
  have hl2 : (nodesL s rs).length ≤ 50 := by unfold nodesL; rw [List.length_map]; omega
  obtain ⟨L, hL⟩ : ∃ L, nodesL s rs = L := ⟨_, rfl⟩
  rw [hL] at nw hok2 hl2
  clear hK hkr hL hMm
  refine w_ fun d => ?_
  refine at_c fun x0 hx0 => ?_
  have hE0 : Ext u x0 := by rw [hx0]; exact ext_
  clear hx0
  refine (nw _ hE0).mono ?_
  rintro _ x1 ⟨aL, cL, rfl, hS3, hn3, hE3⟩
  have hPL := PrL.of (hPu.ext hE0) hE3 hS3 hn3
  have G2 := (G.swept (rs := L)).swp.good
  have sI := fun y (h : PrL w1 y ps pm s s aL cL L) => h.turnI (fun own ho => swSweep_calls (c := cL) ho G h.inp (by omega) hok2)
  have sM := fun y s1 (h : PrL w1 y ps pm s1 s aL cL L) => h.pri.turnM (fun own ho => rsSweep_calls (c := cL) ho G h.inp (by omega) hok2)
  clear nw hPu hE0 hS3 hn3 hE3 hEu
  obtain ⟨Z, hZ⟩ : ∃ z : Int, s.a.many - (s.sweep L).a.many = z := ⟨_, rfl⟩
  rw [hZ] at sI sM
  generalize s.sweep L = s2 at *
  clear hZ hok2 G
  refine w_ fun d => ?_
  refine (sI _ (hPL.ext ext_)).mono ?_
  rintro _ x2 ⟨rfl, hP2⟩
  clear sI hPL
  refine w_ fun d => ?_
  refine (sM _ _ (hP2.ext ext_)).mono ?_
  rintro _ x3 ⟨rfl, hP3⟩
  clear sM hP2
  refine w_ fun d => ?_
  refine (same_calls (hP3.ext (by exact ext_)) G2).mono ?_
  rintro _ x4 ⟨rfl, hE4⟩
  have hP4 := hP3.ext (Ext.trans (by exact ext_) hE4)
  clear hP3 hE4
  refine w_ fun d => ?_
  refine lo_ (fun _ e w' => ∃ (i : Nat) (s : Md), i ≤ k.length ∧ e 14 = .int .i64 i ∧ PrI w1 w' ps pm s s ∧ s.Good []) (fun e _ => k.length - nat (e 14)) ?_ ?_
  · exact ⟨0, s2, by omega, eA rfl, hP4.ext ext_, G2⟩
  clear hP4 G2
  rintro e2 y hf2 ⟨i, s, hi, h14, hPu, G⟩
  have hEu := hE1w.trans hPu.world
  by_cases hlt : i < k.length
  · obtain ⟨dd, hd⟩ : ∃ d, k[i]? = some d := ⟨k[i], List.getElem?_eq_getElem hlt⟩
    obtain ⟨k1, k2, k3⟩ := hmk dd (List.mem_of_getElem? hd)
    obtain ⟨q, da, db, dc, r⟩ := dd
    obtain ⟨g, o, ct, E, fz, rfl, hg, hsz, hex⟩ := deedAt (Inp.ext hM hEu) hd
    have hltl : (i : Int) < k.length := by omega
    have dd := fun u (h : PrI w1 u ps pm s s) => do_calls (q := q) (raw := r) h G k1 k2 k3
    clear hM hmk hd k1 k2 k3 G
    refine w_ fun d => ?_
    refine (dd _ (hPu.ext ext_)).mono ?_
    rintro _ u2 ⟨s3, rfl, hP2, G2⟩
    refine w_ fun d => ?_
    refine (same_calls (hP2.ext (by exact ext_)) G2).mono ?_
    rintro _ u3 ⟨rfl, hE3⟩
    have hP3 := hP2.ext (Ext.trans (by exact ext_) hE3)
    clear hP2 hE3
    refine w_ fun d => ?_
    exact ⟨⟨i + 1, s3, by omega, eA rfl, hP3.ext ext_, G2⟩, mA⟩
  · obtain rfl : i = k.length := by omega
    clear hM hmk
    refine w_ fun d => ?_
    exact ⟨rfl, hEu⟩
end
end Go.Proofs.Ytpeindhocndmnaa

