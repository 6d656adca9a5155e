/- RdR, Ones, SupP, RdV, SwP, SwP2, Law08, SiP, Rs8, Law08c: texts of this work, one behind the other. -/
import Derived.Test.YtpeindhocndmnaaGreatRu7
namespace Go.Proofs.YtpeindhocndmnaaGreat
open Go Go.Bx
set_option linter.unusedSimpArgs false
set_option linter.unusedVariables false
set_option maxRecDepth 100000
set_option maxHeartbeats 4000000
attribute [local irreducible] X XO XE XF XD XW thenX inX retX kN CallsR
theorem at_o {P : Program} {l : List GOp} {K : Env → World → Prop} {e : Env} {w : World} (h : ∀ u, u = w → XO P l K e u) : XO P l K e w := h w rfl
section
variable {w : World} {a : Option Addr} {cap : Nat} {l : List Int} {x y : Int}
theorem pushI2 (h : SlC w 3 a cap (ints l)) (hm : l.length ≤ 1000000000) (x y : Int) :
    ∃ a' cap' w', apR Tryz.prog 23 (.slice a l.length cap) (.slice (some ⟨w.heap.size, 0, none⟩) 2 2) (w.alloc (.cells #[.int .i64 x, .int .i64 y] 3)) = .ok (.slice a' (l.length + 2) cap') w' ∧
      SlC w' 3 a' cap' (ints (l ++ [x, y])) ∧ Chg (fun k => blk a = some k) w w' ∧ w.heap.size < w'.heap.size ∧ (∀ g, blk a' = some g → blk a = some g ∨ (w.heap.size ≤ g ∧ g < w'.heap.size)) := by
  obtain ⟨a2, c2, w2, hr, hS2, hC2, hs2, hB2⟩ := h.push (P := Tryz.prog) (news := [.int .i64 x, .int .i64 y]) T23 T3 rfl rfl (by rw [List.length_map]; simp; omega) (by decide) (k := 2) rfl rfl
  have hl1 : (ints l ++ [Value.int .i64 x, Value.int .i64 y]).length = l.length + 2 := by simp
  rw [List.length_map, hl1] at hr
  exact ⟨a2, c2, w2, hr, by unfold ints; rw [List.map_append]; exact hS2, hC2, hs2, hB2⟩
end
structure KnS (es : List (Ent Int)) (ck : Nat) (K : List Int) : Prop where
  inv : MInv es ck
  get : ∀ n, mget es n = if n ∈ K then some (.int .i64 1) else none
theorem KnS.nil : KnS [] 0 [] := ⟨MInv.nil, fun n => by rw [if_neg (by simp)]; rfl⟩
theorem KnS.put {es : List (Ent Int)} {ck : Nat} {K : List Int} {n : Int} (h : KnS es ck K) : KnS (mput es n (.int .i64 1) ck) (mclock es n ck) (K ++ [n]) := ⟨h.inv.put _ _, fun m => by
  rw [mget_put h.inv.keys, h.get]
  by_cases e : m = n
  · subst e; simp
  · simp [e, Ne.symm e]⟩
structure RchI (w0 w : World) (bm : Nat) (es : List (Ent Int)) (ck : Nat) (aw ao : Option Addr) (cw co : Nat) (wl K : List Int) : Prop where
  hm : w.heap[bm]? = some (mObj (Value.int .i64) es ck)
  kn : KnS es ck K
  sw : SlC w 3 aw cw (ints wl)
  so : SlC w 3 ao co (ints K)
  nw : ∀ g, blk aw = some g → w0.heap.size ≤ g
  no : ∀ g, blk ao = some g → w0.heap.size ≤ g
  nm : w0.heap.size ≤ bm
  dis : ∀ g, blk aw = some g → ¬ blk ao = some g
  ext : Ext w0 w
section
variable {own : Nat → Nat} {w w0 w' w1 : World} {p bm ck cw co : Nat} {es : List (Ent Int)} {aw ao : Option Addr} {wl K rs : List Int} {s : Md} {n x y : Int}
theorem RchI.up (h : RchI w0 w bm es ck aw ao cw co wl K) (hE : Ext w w') : RchI w0 w' bm es ck aw ao cw co wl K := ⟨hE.at h.hm, h.kn, h.sw.ext hE, h.so.ext hE, h.nw, h.no, h.nm, h.dis, h.ext.trans hE⟩
theorem RchI.pop (h : RchI w0 w bm es ck aw ao cw co (wl ++ [n]) K) : RchI w0 w bm es ck aw ao cw co wl K := by
  refine ⟨h.hm, h.kn, ?_, h.so, h.nw, h.no, h.nm, h.dis, h.ext⟩
  have := SlC.take h.sw (k := wl.length) (by simp)
  rwa [show (ints (wl ++ [n])).take wl.length = ints wl by unfold ints; rw [← List.map_take, List.take_left]] at this
theorem rdReach_calls {a : Option Addr} {c : Nat} (h : StI own w p s []) (G : s.Good []) (hI : InI w a rs) (hl : rs.length ≤ 1000000) (hn : ∀ n ∈ rs, n ≤ 9223372036854775807) :
    CallsR Tryz.prog 28 #[.pointer (some ⟨p, 0, none⟩), .slice a rs.length c] w fun r w' => ∃ a' c' l, r = .slice a' l.length c' ∧ SlC w' 3 a' c' (ints l) ∧ (∀ g, blk a' = some g → w.heap.size ≤ g) ∧ Ext w w' ∧ l.Perm (s.reach rs) := by
  have W := G.wf
  have hN := wf_N W
  have hal : s.all.length ≤ 20000 := by have := allTo_len (s := s) (k := s.N.length); rw [allTo_all] at this; omega
  have cl := fun u (hE : Ext w u) => clone_calls (c := c) (Inp.ext hI hE) (by omega)
  clear hI
  refine en2 Tryz.func28 Tryz.results28 mixed [] ?_
  intro e0 h0 h1
  refine w_ fun d => ?_
  refine (cl _ ext_).mono ?_
  rintro _ u1 ⟨aw, cw, rfl, hSw, hBw, hE1⟩
  have hEu1 : Ext w u1 := Ext.trans (by exact ext_) hE1
  have hm1 : u1.heap[w.heap.size]? = some (mObj (Value.int .i64) [] 0) := hE1.at (hA rfl)
  obtain ⟨bm, hbm⟩ : ∃ b, w.heap.size = b := ⟨_, rfl⟩
  rw [hbm] at hm1 ⊢
  have hR : RchI w u1 bm [] 0 aw none cw 0 rs [] := ⟨hm1, KnS.nil, hSw, SlC.nil _ _, fun g hg => by have := hBw g hg; simp only [alloc_size] at this; omega, (fun g hg => by cases hg), by omega, (fun g _ h => by cases h), hEu1⟩
  clear hSw hBw hE1 hm1 cl hEu1
  refine w_ fun d => ?_
  refine log_ (fun m W e u => ∃ es ck aw ao cw co wl K, e 6 = .slice aw wl.length cw ∧ e 7 = .slice ao K.length co ∧ RchI w u bm es ck aw ao cw co wl K ∧ Box (Rdf s rs K wl) ∧ Box (∀ n ∈ wl, n ≤ 9223372036854775807) ∧ wl.length ≤ rs.length + 2 * K.length ∧ 3 * (s.all.length - K.length) + wl.length = m) (3 * s.all.length + rs.length) ?_ ?_
  · exact ⟨[], 0, aw, none, cw, 0, rs, [], eA rfl, eA rfl, hR.up ext_, ⟨.init⟩, ⟨hn⟩, by simp, by simp⟩
  clear hR hn
  rintro m e u hf ⟨es, ck, aw, ao, cw, co, wl, K, h6, h7, hR, ⟨hD⟩, ⟨hn⟩, hwl, hm⟩
  have hKl := hD.len W
  rcases List.eq_nil_or_concat wl with rfl | ⟨ws, n, rfl⟩
  · -- all was met
    have hp : K.Perm (s.reach rs) := by
      rw [List.perm_ext_iff_of_nodup hD.nodup (List.Pairwise.imp (fun h => by omega) Md.reach_up)]
      intro x
      rw [hD.done, W.mem_reach]
    obtain ⟨hm0, kn, sw, so, nw, no, nm, dis, hE⟩ := hR
    simp only [List.length_nil] at h6
    cases ao with
    | none =>
      have hK0 : K.length = 0 ∧ co = 0 := by
        rcases so.l.row with ⟨_, h1, h2⟩ | ⟨g, cur, e, _⟩
        · exact ⟨by simpa using h1, h2⟩
        · cases e
      obtain ⟨h1, rfl⟩ := hK0
      have hK : K = [] := List.length_eq_zero_iff.1 h1
      subst hK
      have sn := sort_nil
      clear hD hn hm0 kn sw nw dis
      refine w_ fun d => ?_
      refine qq (sn.quiet (w := u)) fun u2 hE2 hs2 => ?_
      refine w_ fun d => ?_
      exact ⟨none, 0, [], rfl, SlC.nil _ _, (fun g h => by cases h), ext_, hp⟩
    | some ad =>
      have had : ∃ g, ad = ⟨g, 0, none⟩ := by
        rcases so.l.row with ⟨e, _⟩ | ⟨g, cur, e, _⟩
        · cases e
        · cases e; exact ⟨g, rfl⟩
      obtain ⟨g, rfl⟩ := had
      have sc := sort_calls so (by omega)
      have hg := no g rfl
      clear hD hn hm0 kn sw nw dis so
      refine w_ fun d => ?_
      refine sc.mono ?_
      rintro _ u2 ⟨rfl, l2, hP⟩
      have hE2 : Ext w u2 := hP.ch.toExt hE fun k hk hf => by omega
      have hl2 := hP.len
      rw [← hl2] at h7
      refine w_ fun d => ?_
      exact ⟨_, _, l2, (by rw [hl2]), hP.sl.ext ext_, fun g' hg' => by have := blk_g hg'; omega, ext_, hP.perm.trans hp⟩
  rw [List.concat_eq_append] at *
  have hl1 : (ws ++ [n]).length = ws.length + 1 := by simp
  rw [hl1] at h6 hwl hm
  have hnb := hn n (by simp)
  obtain ⟨gw, cur, rfl, hgw, hcw, hlt, hat⟩ := hR.sw.at (i := ws.length) (v := .int .i64 n) (by unfold ints; rw [List.getElem?_map]; simp)
  rw [List.length_map, hl1] at hcw
  have lg := lt_of_heap hgw
  have e1 : (ws.length : Int) + 1 - 1 = ws.length := by omega
  have hR' := hR.pop
  have hm0 := hR.hm
  have lm := lt_of_heap hm0
  have hws : ∀ x ∈ ws, x ≤ 9223372036854775807 := fun x hx => hn x (by simp [hx])
  have n1 := stNode_calls (h.ext hR.ext) W n hnb
  have gk := hR.kn.get n
  have hEu := hR.ext
  clear hR hn
  by_cases hsk : s.has n = false ∨ n ∈ K
  · have hD' : Rdf s rs K ws := hD.skip hsk (fun x hx => by rcases List.mem_append.1 hx with h | h; exact .inr h; exact .inl (List.mem_singleton.1 h)) (fun x hx => by simp [hx])
    cases hh : s.has n with
    | false =>
      rw [nod_no hh] at n1
      simp only [ndV] at n1
      clear hsk hD gk hh
      refine w_ fun d => ?_
      refine qq n1 fun u2 hE2 hs2 => ?_
      refine w_ fun d => ?_
      exact ⟨_, (by omega), es, ck, _, ao, cw, co, ws, K, eA rfl, eA rfl, (hR'.up hE2).up ext_, ⟨hD'⟩, ⟨hws⟩, by omega, rfl⟩
    | true =>
      have hK : n ∈ K := by rcases hsk with h | h; rw [hh] at h; cases h; exact h
      rw [if_pos hK] at gk
      have g1 : (mget es n).getD (.int .i64 0) = .int .i64 1 := by rw [gk]; rfl
      rw [nod_has hh] at n1
      obtain ⟨⟨v, lo, hi⟩, hz⟩ : ∃ z, s.nd n = z := ⟨_, rfl⟩
      rw [hz] at n1
      simp only [ndV] at n1
      clear hsk hD gk hh hz hK
      refine w_ fun d => ?_
      refine qq n1 fun u2 hE2 hs2 => ?_
      have hm2 := hE2.at hm0
      have lm2 := lt_of_heap hm2
      refine w_ fun d => ?_
      exact ⟨_, (by omega), es, ck, _, ao, cw, co, ws, K, eA rfl, eA rfl, (hR'.up hE2).up ext_, ⟨hD'⟩, ⟨hws⟩, by omega, rfl⟩
  · have hh : s.has n = true := by
      cases hh : s.has n with
      | true => rfl
      | false => exact absurd (.inl hh) hsk
    have hK : n ∉ K := fun h => hsk (.inr h)
    rw [if_neg hK] at gk
    have g1 : (mget es n).getD (.int .i64 0) = .int .i64 0 := by rw [gk]; rfl
    have hKl2 := hD.len' W hh hK
    have ok := G.node n hh (by simp)
    have blo := (Md.below_lt W ok.lo).1
    have bhi := (Md.below_lt W ok.hi).1
    have hD' : Rdf s rs (K ++ [n]) (ws ++ [(s.nd n).2.1, (s.nd n).2.2]) := hD.go hh hK (by simp) (fun x hx => by rcases List.mem_append.1 hx with h | h; exact .inr (by simp [h]); exact .inl (List.mem_singleton.1 h)) (fun x hx => by simp at hx ⊢; rcases hx with h | h | h <;> simp [h]) (by simp) (by simp)
    rw [nod_has hh] at n1
    obtain ⟨⟨v, lo, hi⟩, hz⟩ : ∃ z, s.nd n = z := ⟨_, rfl⟩
    rw [hz] at n1 hD' blo bhi
    simp only [ndV] at n1
    dsimp only at hD' blo bhi
    have hws2 : ∀ x ∈ ws ++ [lo, hi], x ≤ 9223372036854775807 := fun x hx => by
      simp only [List.mem_append, List.mem_cons, List.not_mem_nil, or_false] at hx
      rcases hx with h | h | h
      · exact hws x h
      · omega
      · omega
    clear hsk hD gk hh hz hK ok hws
    refine w_ fun d => ?_
    refine qq n1 fun u2 hE2 hs2 => ?_
    have hR2 := hR'.up hE2
    clear hm0 lm
    refine w_ fun d => ?_
    refine at_o fun u3 hu3 => ?_
    have hE3 : Ext u2 u3 := by rw [hu3]; exact ext_
    have hx3 : u3.heap[u2.heap.size]? = some (.cells #[.int .i64 v, .int .i64 lo, .int .i64 hi] 90) := by rw [hu3]; exact hA rfl
    have hR3 := hR2.up hE3
    clear hu3 hR2 hR' hE2 hE3 hs2
    have hxl := lt_of_heap hx3
    obtain ⟨hm3, kn3, sw3, so3, nw3, no3, nm3, dis3, ext3⟩ := hR3
    have lm3 := lt_of_heap hm3
    obtain ⟨aw, haw⟩ : ∃ z : Option Addr, some ⟨gw, 0, none⟩ = z := ⟨_, rfl⟩
    rw [haw] at h6 sw3 nw3 dis3
    have hxm : u2.heap.size ≠ bm := fun e => by rw [e, hm3] at hx3; cases hx3
    have nwm : ∀ g, blk aw = some g → g ≠ bm := fun g hg e => by
      obtain ⟨c, hc⟩ := sw3.tag hg; rw [e, hm3] at hc; cases hc
    have nom : ∀ g, blk ao = some g → g ≠ bm := fun g hg e => by
      obtain ⟨c, hc⟩ := so3.tag hg; rw [e, hm3] at hc; cases hc
    obtain ⟨o, ho⟩ : ∃ o, mObj (Value.int .i64) (mput es n (.int .i64 1) ck) (mclock es n ck) = o := ⟨_, rfl⟩
    have sw4 := sw3.upd (b := bm) (o := o) nwm
    have so4 := so3.upd (b := bm) (o := o) nom
    have hm4 : (upd u3 bm o).heap[bm]? = some o := upd_same lm3
    have hx4 : (upd u3 bm o).heap[u2.heap.size]? = some (.cells #[.int .i64 v, .int .i64 lo, .int .i64 hi] 90) := by rw [upd_other (Ne.symm hxm)]; exact hx3
    have ext4 : Ext w (upd u3 bm o) := ext3.upd nm3 _
    obtain ⟨a5, c5, w5, hr5, so5, hC5, hs5, hB5⟩ := pushI so4 (by omega) n
    have sw5 := sw4.chg hC5 fun g hg h2 => dis3 g hg h2
    have hm5 : w5.heap[bm]? = some o := by rw [hC5.heap _ (lt_of_heap hm4) fun h => nom bm h rfl]; exact hm4
    have hx5 : w5.heap[u2.heap.size]? = some (.cells #[.int .i64 v, .int .i64 lo, .int .i64 hi] 90) := by
      rw [hC5.heap _ (lt_of_heap hx4) fun h => by
        obtain ⟨c, hc⟩ := so3.tag h; rw [hx3] at hc; cases hc]; exact hx4
    have ext5 : Ext w w5 := hC5.toExt ext4 fun g hg hb => by have := no3 g hb; omega
    have no5 : ∀ g, blk a5 = some g → w.heap.size ≤ g := fun g hg => by
      rcases hB5 g hg with h | ⟨h, _⟩
      · exact no3 g h
      · have := ext4.size; omega
    have dis5 : ∀ g, blk aw = some g → ¬ blk a5 = some g := fun g hg h => by
      rcases hB5 g h with h | ⟨h, _⟩
      · exact dis3 g hg h
      · have := sw4.lt hg; omega
    obtain ⟨a6, c6, w6, hr6, sw6, hC6, hs6, hB6⟩ := pushI2 sw5 (by omega) lo hi
    have so6 := so5.chg hC6 fun g hg h2 => dis5 g h2 hg
    have hm6 : w6.heap[bm]? = some o := by rw [hC6.heap _ (lt_of_heap hm5) fun h => nwm bm h rfl]; exact hm5
    have ext6 : Ext w w6 := hC6.toExt ext5 fun g hg hb => by have := nw3 g hb; omega
    have nw6 : ∀ g, blk a6 = some g → w.heap.size ≤ g := fun g hg => by
      rcases hB6 g hg with h | ⟨h, _⟩
      · exact nw3 g h
      · have := ext5.size; omega
    have dis6 : ∀ g, blk a6 = some g → ¬ blk a5 = some g := fun g hg h => by
      rcases hB6 g hg with h2 | ⟨h2, _⟩
      · exact dis5 g h2 h
      · have := so5.lt h; omega
    simp only [upd_size] at hr5
    subst ho haw
    have hR6 : RchI w w6 bm _ _ a6 a5 c6 c5 (ws ++ [lo, hi]) (K ++ [n]) := ⟨hm6, kn3.put, sw6, so6, nw6, no5, nm3, dis6, ext6⟩
    have hx5l := lt_of_heap hx5
    have e1 : (ws ++ [lo, hi]).length = ws.length + 2 := by simp
    have e2 : (K ++ [n]).length = K.length + 1 := by simp
    clear hC5 hC6 hB5 hB6 so5 sw5 so4 sw4 so3 sw3 hm4 hm5 hm6 hx4 nw6 no5 dis5 dis6 nwm nom dis3 no3 nw3 nm3 so6 sw6 ext4 ext5 ext6 kn3
    refine w_ fun d => ?_
    exact ⟨_, (by rw [e1, e2]; omega), _, _, a6, a5, c6, c5, ws ++ [lo, hi], K ++ [n], by rw [e1]; exact eA rfl, by rw [e2]; exact eA rfl, hR6.up ext_, ⟨hD'⟩, ⟨hws2⟩, by rw [e1, e2]; omega, rfl⟩
end
end Go.Proofs.YtpeindhocndmnaaGreat

namespace Go.Proofs.YtpeindhocndmnaaGreat
open Go Go.Bx
set_option linter.unusedSimpArgs false
set_option linter.unusedVariables false
set_option maxRecDepth 100000
set_option maxHeartbeats 4000000
attribute [local irreducible] X XO XE XF XD XW thenX inX retX kN CallsR
theorem band_u64 {x c : Nat} (hx : x < 2 ^ 64) : bits .and .u64 (x : Int) (c : Int) = ((x &&& c : Nat) : Int) := by
  have hl : x &&& c < 2 ^ 64 := Nat.lt_of_le_of_lt Nat.and_le_left hx
  have e : (BitVec.ofNat 64 x &&& BitVec.ofNat 64 c).toNat = x &&& c := by
    rw [BitVec.toNat_and, BitVec.toNat_ofNat, BitVec.toNat_ofNat, ← Nat.and_mod_two_pow, Nat.mod_eq_of_lt hl]
  show IntKind.u64.wrap (((BitVec.ofInt 64 (x : Int) &&& BitVec.ofInt 64 (c : Int) : BitVec 64).toNat : Nat) : Int) = _
  rw [BitVec.ofInt_natCast, BitVec.ofInt_natCast, e]
  generalize x &&& c = n at hl
  exact wrap_u64 (n := (n : Int)) (by omega) (by omega)
theorem band_127 {x : Nat} (hx : x < 2 ^ 63) : bits .and .i64 (x : Int) 127 = ((x % 128 : Nat) : Int) := by
  have e : (BitVec.ofNat 64 x &&& BitVec.ofNat 64 127).toNat = x % 128 := by
    rw [BitVec.toNat_and, BitVec.toNat_ofNat, BitVec.toNat_ofNat, Nat.mod_eq_of_lt (by omega)]
    exact Nat.and_two_pow_sub_one_eq_mod x 7
  show IntKind.i64.wrap (((BitVec.ofInt 64 (x : Int) &&& BitVec.ofNat 64 127 : BitVec 64).toNat : Nat) : Int) = _
  rw [BitVec.ofInt_natCast, e]
  generalize hn : x % 128 = n
  exact wrap_i64 (n := (n : Int)) (by omega) (by omega)
theorem shr_u64 {x k : Nat} (hk : k ≤ 64) : (x : Int).fdiv (2 ^ min k IntKind.u64.bits) = ((x / 2 ^ k : Nat) : Int) := by
  have hm : min k IntKind.u64.bits = k := by simp only [IntKind.bits]; omega
  rw [hm, Int.fdiv_eq_ediv_of_nonneg _ (Int.pow_nonneg (by decide)), Int.natCast_ediv, Int.natCast_pow]
  rfl
theorem spread {a b c d e f g i y3 y4 y5 y6 : Nat} (h : y3 = a + 256 * (b + 256 * (c + 256 * (d + 256 * (e + 256 * (f + 256 * (g + 256 * i))))))) (la : a ≤ 8) (lb : b ≤ 8) (lc : c ≤ 8) (ld : d ≤ 8) (le : e ≤ 8) (lf : f ≤ 8) (lg : g ≤ 8) (li : i ≤ 8)
    (h4 : y3 + y3 / 2 ^ 8 = y4) (h5 : y4 + y4 / 2 ^ 16 = y5) (h6 : y5 + y5 / 2 ^ 32 = y6) : y4 < 2 ^ 61 ∧ y5 < 2 ^ 62 ∧ y6 < 2 ^ 63 ∧ y6 % 128 = a + b + c + d + e + f + g + i := by
  have e1 : y3 / 2 ^ 8 = b + 256 * (c + 256 * (d + 256 * (e + 256 * (f + 256 * (g + 256 * i))))) := by
    clear h4 h5 h6
    rw [h]; generalize b + 256 * (c + 256 * (d + 256 * (e + 256 * (f + 256 * (g + 256 * i))))) = R; omega
  have g4 : y4 = ((a + b) + 256 * (b + c)) + 65536 * ((c + d) + 256 * ((d + e) + 256 * ((e + f) + 256 * ((f + g) + 256 * (g + i)))) + 1099511627776 * i) := by
    rw [← h4, e1, h]; clear h4 h5 h6 e1 h; omega
  have e2 : y4 / 2 ^ 16 = (c + d) + 256 * ((d + e) + 256 * ((e + f) + 256 * ((f + g) + 256 * (g + i)))) + 1099511627776 * i := by
    rw [g4]; clear h4 h5 h6 e1 g4 h
    generalize (c + d) + 256 * ((d + e) + 256 * ((e + f) + 256 * ((f + g) + 256 * (g + i)))) + 1099511627776 * i = R; omega
  have g5 : y5 = ((a + b + c + d) + 256 * (b + c + d + e) + 65536 * (c + d + e + f) + 16777216 * (d + e + f + g)) + 4294967296 * ((e + f + g + i) + 256 * (f + g + i) + 65536 * (g + i) + 16777216 * i) := by
    rw [← h5, e2, g4]; clear h4 h5 h6 e1 g4 e2 h; omega
  have e3 : y5 / 2 ^ 32 = (e + f + g + i) + 256 * (f + g + i) + 65536 * (g + i) + 16777216 * i := by
    rw [g5]; clear h4 h5 h6 e1 g4 e2 h g5
    generalize (e + f + g + i) + 256 * (f + g + i) + 65536 * (g + i) + 16777216 * i = R; omega
  have g6 : y6 = (a + b + c + d + e + f + g + i) + 128 * (2 * (b + c + d + e + f + g + i) + 512 * (c + d + e + f + g + i) + 131072 * (d + e + f + g + i) + 33554432 * ((e + f + g + i) + 256 * (f + g + i) + 65536 * (g + i) + 16777216 * i)) := by
    rw [← h6, e3, g5]; clear h4 h5 h6 e1 g4 e2 h g5 e3; omega
  refine ⟨?_, ?_, ?_, ?_⟩
  · rw [g4]; clear h4 h5 h6 e1 g4 e2 h g5 e3 g6; omega
  · rw [g5]; clear h4 h5 h6 e1 g4 e2 h g5 e3 g6; omega
  · rw [g6]; clear h4 h5 h6 e1 g4 e2 h g5 e3 g6; omega
  · rw [g6]; clear h4 h5 h6 e1 g4 e2 h g5 e3 g6
    rw [Nat.add_mul_mod_self_left, Nat.mod_eq_of_lt (by omega)]
theorem ones_calls (x : Nat) (hx : x < 2 ^ 64) (w : World) : CallsR Tryz.prog 95 #[.int .u64 x] w fun r w' => r = .int .i64 (cnt (fun i => x.testBit i) 64 : Nat) ∧ Ext w w' := by
  obtain ⟨y1, y2, y3, h1, h2, h3, l1, l2, l3, a, b, c, d, e, f, g, i, h4, la, lb, lc, ld, le, lf, lg, li, hsum⟩ := pop_all hx
  obtain ⟨p4, ⟨hp4⟩⟩ : ∃ p, Box (y3 / 2 ^ 8 = p) := ⟨_, ⟨rfl⟩⟩
  obtain ⟨y4, ⟨hy4⟩⟩ : ∃ p, Box (y3 + p4 = p) := ⟨_, ⟨rfl⟩⟩
  obtain ⟨p5, ⟨hp5⟩⟩ : ∃ p, Box (y4 / 2 ^ 16 = p) := ⟨_, ⟨rfl⟩⟩
  obtain ⟨y5, ⟨hy5⟩⟩ : ∃ p, Box (y4 + p5 = p) := ⟨_, ⟨rfl⟩⟩
  obtain ⟨p6, ⟨hp6⟩⟩ : ∃ p, Box (y5 / 2 ^ 32 = p) := ⟨_, ⟨rfl⟩⟩
  obtain ⟨y6, ⟨hy6⟩⟩ : ∃ p, Box (y5 + p6 = p) := ⟨_, ⟨rfl⟩⟩
  obtain ⟨k4, k5, k6, k7⟩ := spread h4 la lb lc ld le lf lg li (hp4.symm ▸ hy4) (hp5.symm ▸ hy5) (hp6.symm ▸ hy6)
  rw [hsum] at k7
  rw [← k7]
  clear k7 hsum h4 la lb lc ld le lf lg li
  clear a b c d e f g i
  obtain ⟨p1, ⟨hp1⟩⟩ : ∃ p, Box (x / 2 ^ 1 = p) := ⟨_, ⟨rfl⟩⟩
  obtain ⟨q1, ⟨hq1⟩⟩ : ∃ p, Box (p1 &&& 6148914691236517205 = p) := ⟨_, ⟨rfl⟩⟩
  obtain ⟨r1, ⟨hr1⟩⟩ : ∃ p, Box (x &&& 6148914691236517205 = p) := ⟨_, ⟨rfl⟩⟩
  obtain ⟨p2, ⟨hp2⟩⟩ : ∃ p, Box (y1 / 2 ^ 2 = p) := ⟨_, ⟨rfl⟩⟩
  obtain ⟨q2, ⟨hq2⟩⟩ : ∃ p, Box (p2 &&& 3689348814741910323 = p) := ⟨_, ⟨rfl⟩⟩
  obtain ⟨r2, ⟨hr2⟩⟩ : ∃ p, Box (y1 &&& 3689348814741910323 = p) := ⟨_, ⟨rfl⟩⟩
  obtain ⟨p3, ⟨hp3⟩⟩ : ∃ p, Box (y2 / 2 ^ 4 = p) := ⟨_, ⟨rfl⟩⟩
  obtain ⟨s3, ⟨hs3⟩⟩ : ∃ p, Box (p3 + y2 = p) := ⟨_, ⟨rfl⟩⟩
  obtain ⟨z, ⟨hz⟩⟩ : ∃ p, Box (y6 % 128 = p) := ⟨_, ⟨rfl⟩⟩
  rw [hz]
  have a4 : q1 + r1 = y1 := by rw [← h1, pop1, hr1, ← hq1, ← hp1]
  have b4 : q2 + r2 = y2 := by rw [← h2, pop2, hr2, ← hq2, ← hp2]
  have c4 : s3 &&& 1085102592571150095 = y3 := by rw [← h3, pop3, ← hs3, ← hp3]
  have ls : s3 < 2 ^ 64 := by rw [← hs3, ← hp3]; exact l3
  have lp1 : p1 < 2 ^ 64 := by rw [← hp1]; exact Nat.lt_of_le_of_lt (Nat.div_le_self _ _) hx
  have lp2 : p2 < 2 ^ 64 := by rw [← hp2]; exact Nat.lt_of_le_of_lt (Nat.div_le_self _ _) l1
  have a1 : (x : Int).fdiv (2 ^ min 1 IntKind.u64.bits) = (p1 : Int) := by rw [shr_u64 (by decide), hp1]
  have a2 : bits .and .u64 (p1 : Int) 6148914691236517205 = (q1 : Int) := by rw [← hq1]; exact band_u64 lp1
  have a3 : bits .and .u64 (x : Int) 6148914691236517205 = (r1 : Int) := by rw [← hr1]; exact band_u64 hx
  have b1 : (y1 : Int).fdiv (2 ^ min 2 IntKind.u64.bits) = (p2 : Int) := by rw [shr_u64 (by decide), hp2]
  have b2 : bits .and .u64 (p2 : Int) 3689348814741910323 = (q2 : Int) := by rw [← hq2]; exact band_u64 lp2
  have b3 : bits .and .u64 (y1 : Int) 3689348814741910323 = (r2 : Int) := by rw [← hr2]; exact band_u64 l1
  have c1 : (y2 : Int).fdiv (2 ^ min 4 IntKind.u64.bits) = (p3 : Int) := by rw [shr_u64 (by decide), hp3]
  have c3 : bits .and .u64 (s3 : Int) 1085102592571150095 = (y3 : Int) := by rw [← c4]; exact band_u64 ls
  have d1 : (y3 : Int).fdiv (2 ^ min 8 IntKind.u64.bits) = (p4 : Int) := by rw [shr_u64 (by decide), hp4]
  have d3 : (y4 : Int).fdiv (2 ^ min 16 IntKind.u64.bits) = (p5 : Int) := by rw [shr_u64 (by decide), hp5]
  have d5 : (y5 : Int).fdiv (2 ^ min 32 IntKind.u64.bits) = (p6 : Int) := by rw [shr_u64 (by decide), hp6]
  have d8 : bits .and .i64 (y6 : Int) 127 = (z : Int) := by rw [← hz]; exact band_127 k6
  clear h1 h2 h3 hp1 hq1 hr1 hp2 hq2 hr2 hp3 hp4 hp5 hp6 hz c4
  have w2 : ∀ {p q n : Nat}, p + q = n → n < 2 ^ 64 → IntKind.u64.wrap ((p : Int) + q) = (n : Int) := fun h h2 => by rw [wrap_u64 (by omega) (by omega)]; omega
  have a5 := w2 a4 l1
  have b5 := w2 b4 l2
  have c2 := w2 hs3 ls
  have d2 := w2 hy4 (by omega)
  have d4 := w2 hy5 (by omega)
  have d6 := w2 hy6 (by omega)
  clear w2 a4 b4 hs3 hy4 hy5 hy6
  have d7 : IntKind.i64.wrap (y6 : Int) = (y6 : Int) := wrap_i64 (by omega) (by omega)
  refine en1 Tryz.func95 Tryz.results95 mixed [] ?_
  intro e0 h0
  refine w_ fun d => ?_
  exact ⟨rfl, ext_⟩
theorem pop_word (a : BitVec 64) : cnt (fun i => a.toNat.testBit i) 64 = popW a := cnt_congr fun i _ => (BitVec.testBit_toNat a)
theorem ixfv {f : Fun8} {i : Int} {k : IntKind} {w : World} (h0 : 0 ≤ i) (h1 : i < 4) : iR Tryz.prog 48 (fv f) (.int k i) w = opt1 "part: no such cell" w ((#[vU (word f 0), vU (word f 1), vU (word f 2), vU (word f 3)] : Array Value)[i.toNat * 1]?) := ix48 h0 h1
attribute [push_cast] ixfv
theorem count_calls (f : Fun8) (w : World) : CallsR Tryz.prog 61 #[fv f] w fun r w' => r = .int .i64 (countF f : Nat) ∧ Ext w w' := by
  have hc : ∀ k w, CallsR Tryz.prog 95 #[vU (word f k)] w fun r w' => r = .int .i64 (popW (word f k) : Nat) ∧ Ext w w' := fun k w => by
    rw [← pop_word]; exact ones_calls _ (word f k).isLt w
  have hl : ∀ k, popW (word f k) ≤ 64 := fun k => Go.Bx.cnt_le _ _
  have hs : popW (word f 0) + popW (word f 1) + popW (word f 2) + popW (word f 3) = countF f := by
    rw [countF_def]
    show _ = countTo f 4
    rw [countTo_succ, countTo_succ, countTo_succ, countTo_succ]
    simp [countTo, cnt]
  have l0 := hl 0
  have l1 := hl 1
  have l2 := hl 2
  have l3 := hl 3
  obtain ⟨n, ⟨hn⟩⟩ : ∃ n, Box (countF f = n) := ⟨_, ⟨rfl⟩⟩
  rw [hn] at hs ⊢
  refine en1 Tryz.func61 Tryz.results61 mixed [] ?_
  intro e0 h0
  refine w_ fun d => ?_
  refine un_ 5 ?_
  refine w_ fun d => ?_
  refine callQ (hc 0 _) fun w1 hE1 hs1 => ?_
  refine w_ fun d => ?_
  refine callQ (hc 1 _) fun w2 hE2 hs2 => ?_
  refine w_ fun d => ?_
  refine callQ (hc 2 _) fun w3 hE3 hs3 => ?_
  refine w_ fun d => ?_
  refine callQ (hc 3 _) fun w4 hE4 hs4 => ?_
  refine w_ fun d => ?_
  exact ⟨congrArg _ (by omega), ext_⟩
end Go.Proofs.YtpeindhocndmnaaGreat

namespace Go.Bx
open Go
set_option linter.unusedSimpArgs false
set_option linter.unusedVariables false
section
variable {s : Md} {n m v : Int} {f : Fun8} {l : List Int}
theorem rc_den (G : s.Good []) (d : Den s n f) (h : s.Rc [n] m) : ∃ g, Den s m g ∧ ∀ v, depF g v = true → depF f v = true := by
  induction h with
  | root hm hh => rw [List.mem_singleton.1 hm]; exact ⟨f, d, fun _ h => h⟩
  | lo h hh ih =>
    obtain ⟨g, dg, hg⟩ := ih
    exact ⟨_, (G.sides dg h.has).1, fun v hv => hg v (dep_of_cof2 hv)⟩
  | hi h hh ih =>
    obtain ⟨g, dg, hg⟩ := ih
    exact ⟨_, (G.sides dg h.has).2, fun v hv => hg v (dep_of_cof2 hv)⟩
theorem rc_dep (G : s.Good []) (d : Den s n f) (h : s.Rc [n] m) : depF f (s.nd m).1 = true := by
  obtain ⟨g, dg, hg⟩ := rc_den G d h
  exact hg _ (G.top h.has dg)
theorem dep_rc (d : Den s n f) (h : depF f v = true) : ∃ m, s.Rc [n] m ∧ (s.nd m).1 = v := by
  induction d with
  | c0 => rw [dep_const] at h; cases h
  | c1 => rw [dep_const] at h; cases h
  | @node n u lo hi f0 f1 hn hx h0 h1 ih0 ih1 =>
    rcases dep_node h with e | e | e
    · exact ⟨n, .root (by simp) hn, by rw [hx]; exact e.symm⟩
    · obtain ⟨m, hm, hv⟩ := ih1 e
      refine ⟨m, hm.sub fun c hc hh => ?_, hv⟩
      rw [List.mem_singleton] at hc
      subst hc
      have := Md.Rc.hi (s := s) (rs := [n]) (n := n) (.root (by simp) hn) (by rw [hx]; exact hh)
      rwa [hx] at this
    · obtain ⟨m, hm, hv⟩ := ih0 e
      refine ⟨m, hm.sub fun c hc hh => ?_, hv⟩
      rw [List.mem_singleton] at hc
      subst hc
      have := Md.Rc.lo (s := s) (rs := [n]) (n := n) (.root (by simp) hn) (by rw [hx]; exact hh)
      rwa [hx] at this
def orV (s : Md) : List Int → Nat
  | [] => 0
  | n :: l => orV s l ||| 2 ^ (s.nd n).1.toNat
theorem orV_bit (k : Nat) : (orV s l).testBit k = true ↔ ∃ n ∈ l, (s.nd n).1.toNat = k := by
  induction l with
  | nil => simp [orV]
  | cons a l ih =>
    rw [orV, Nat.testBit_or, Bool.or_eq_true, ih, Nat.testBit_two_pow]
    simp only [List.mem_cons, exists_eq_or_imp, decide_eq_true_eq]
    exact Or.comm
theorem orV_lt (h : ∀ n ∈ l, (s.nd n).1.toNat < 8) : orV s l < 256 := by
  refine Nat.lt_pow_two_of_testBit (n := 8) _ fun i hi => ?_
  cases e : (orV s l).testBit i with
  | false => rfl
  | true => obtain ⟨n, hn, he⟩ := (orV_bit i).1 e; have := h n hn; omega
theorem add_or : ∀ k : Nat, k < 8 → ∀ x : Nat, x < 2 ^ k → x + 2 ^ k = x ||| 2 ^ k := by decide +kernel
theorem supTo_bit (f : Fun8) : ∀ k, k ≤ 8 → ∀ i, (supTo f k).testBit i = (decide (i < k) && depF f i)
  | 0, _, i => by simp [supTo]
  | k + 1, hk, i => by
    have ih := supTo_bit f k (by omega) i
    have hl := supTo_lt f k
    have e : supTo f (k + 1) = supTo f k + if depF f k then 2 ^ k else 0 := rfl
    rw [e]
    cases hd : depF f k
    · simp only [Bool.false_eq_true, if_false, Nat.add_zero]
      rw [ih]
      by_cases hik : i = k
      · subst hik; rw [hd]; simp
      · by_cases h : i < k
        · rw [decide_eq_true h, decide_eq_true (by omega)]
        · rw [decide_eq_false h, decide_eq_false (by omega)]
    · simp only [if_true]
      rw [add_or k (by omega) _ hl, Nat.testBit_or, ih, Nat.testBit_two_pow]
      by_cases hik : k = i
      · subst hik; rw [hd]; simp
      · rw [decide_eq_false hik, Bool.or_false]
        by_cases h : i < k
        · rw [decide_eq_true h, decide_eq_true (by omega)]
        · rw [decide_eq_false h, decide_eq_false (by omega)]
theorem orV_sup (G : s.Good []) (d : Den s n f) (hl : ∀ m, m ∈ l ↔ s.Rc [n] m) : orV s l = supF f := by
  refine Nat.eq_of_testBit_eq fun i => ?_
  rw [supF_def, supTo_bit f 8 (Nat.le_refl _) i, Bool.eq_iff_iff, orV_bit, Bool.and_eq_true, decide_eq_true_eq]
  constructor
  · rintro ⟨m, hm, he⟩
    have hr := (hl m).1 hm
    have ok := (G.node m hr.has (by simp)).var
    have hd := rc_dep G d hr
    rw [show (s.nd m).1 = (i : Int) by omega] at hd
    exact ⟨by omega, hd⟩
  · rintro ⟨_, hd⟩
    obtain ⟨m, hm, he⟩ := dep_rc d hd
    exact ⟨m, (hl m).2 hm, by rw [he]; rfl⟩
end
end Go.Bx

namespace Go.Proofs.YtpeindhocndmnaaGreat
open Go Go.Bx
set_option linter.unusedSimpArgs false
set_option linter.unusedVariables false
set_option maxRecDepth 100000
set_option maxHeartbeats 4000000
attribute [local irreducible] X XO XE XF XD XW thenX inX retX kN CallsR
theorem den_val {s : Md} {n : Int} {f : Fun8} (h : Den s n f) (hn : s.has n = false) (x : Nat) (hx : x < 256) : f.getLsbD x = decide (n = 1) := by
  rcases h.cases' with ⟨e, rfl⟩ | ⟨e, rfl⟩ | ⟨e, _⟩
  · subst e; rw [bt_const hx]; rfl
  · subst e; rw [bt_const hx]; rfl
  · rw [hn] at e; cases e
theorem den_go {s : Md} {n : Int} {f : Fun8} (G : s.Good []) (h : Den s n f) (hn : s.has n = true) (x : Nat) (hx : x < 256) : ∃ (k : Nat) (g : Fun8), k < 8 ∧ (s.nd n).1 = k ∧ Den s (if x.testBit k then (s.nd n).2.2 else (s.nd n).2.1) g ∧ g.getLsbD x = f.getLsbD x ∧ s.rk (if x.testBit k then (s.nd n).2.2 else (s.nd n).2.1) < s.rk n := by
  have ok := G.node n hn (by simp)
  have lt0 := G.rk_lt hn ok.lo
  have lt1 := G.rk_lt hn ok.hi
  obtain ⟨h1, h2⟩ := ok.var
  obtain ⟨f0, f1, d0, d1, e⟩ := h.at hn
  obtain ⟨k, hk⟩ := Int.eq_ofNat_of_zero_le h1
  refine ⟨k, if x.testBit k then f1 else f0, by omega, hk, ?_, ?_, ?_⟩
  · split
    · exact d1
    · exact d0
  · rw [e, bt_ite hx, hk, bt_var (by omega) hx]
    split <;> rfl
  · split
    · exact lt1
    · exact lt0
theorem shr_bit : ∀ X : Nat, X < 256 → ∀ k : Nat, k < 8 → bits .and .i64 ((X : Int).fdiv (2 ^ min k IntKind.i64.bits)) 1 = if X.testBit k then 1 else 0 := by decide +kernel
section
variable {own : Nat → Nat} {w : World} {p : Nat} {s : Md} {n : Int} {f : Fun8}
theorem rdCount_calls (h : StI own w p s []) (G : s.Good []) (dn : Den s n f) : Quiet Tryz.prog 23 #[.pointer (some ⟨p, 0, none⟩), .int .i64 n] w (.int .i64 (countF f : Nat)) := by
  intro u hu
  have t1 := (rdTop_calls G h dn).at hu
  have c1 : Sure Tryz.prog 61 #[fv f] _ := count_calls f
  clear h G dn
  refine en2 Tryz.func23 Tryz.results23 mixed [] ?_
  intro e0 h0 h1
  refine w_ fun d => ?_
  refine qq t1 fun w1 hE1 hs1 => ?_
  refine w_ fun d => ?_
  refine qq (c1.quiet (w := w1)) fun w2 hE2 hs2 => ?_
  refine w_ fun d => ?_
  exact ⟨rfl, ext_⟩
theorem rdValue_calls (h : StI own w p s []) (G : s.Good []) (dn : Den s n f) (x : Int) : Quiet Tryz.prog 21 #[.pointer (some ⟨p, 0, none⟩), .int .i64 n, .int .i64 x] w (.bool (atF f x)) := by
  intro u hu
  have hS := h.ext hu
  have W := G.wf
  by_cases hx0 : x < 0
  · have e : atF f x = false := by unfold atF; rw [decide_eq_false (by omega)]; rfl
    rw [e]
    clear e h hS G dn hu W
    refine en3 Tryz.func21 Tryz.results21 mixed [] ?_
    intro e0 h0 h1 h2
    refine w_ fun d => ?_
    exact ⟨rfl, ext_⟩
  have hx0' : 0 ≤ x := by omega
  by_cases hx1 : 256 ≤ x
  · have e : atF f x = false := by unfold atF; rw [decide_eq_false (show ¬ x < 256 by omega), Bool.false_and, Bool.and_false]
    rw [e]
    clear e h hS G dn hu W
    refine en3 Tryz.func21 Tryz.results21 mixed [] ?_
    intro e0 h0 h1 h2
    refine w_ fun d => ?_
    exact ⟨rfl, ext_⟩
  obtain ⟨X, rfl⟩ := Int.eq_ofNat_of_zero_le hx0'
  have hX : X < 256 := by omega
  have e : atF f X = f.getLsbD X := by unfold atF; rw [decide_eq_true hx0', decide_eq_true (show (X : Int) < 256 by omega)]; rfl
  rw [e]
  clear e h hx0 hx0' hx1
  refine en3 Tryz.func21 Tryz.results21 mixed [] ?_
  intro e0 h0 h1 h2
  refine w_ fun d => ?_
  refine log_ (fun m W e u' => ∃ n g, e 1 = .int .i64 n ∧ Box (Den s n g) ∧ Box (g.getLsbD X = f.getLsbD X) ∧ s.rk n = m ∧ Ext u u') (s.rk n) ?_ ?_
  · exact ⟨n, f, eA rfl, ⟨dn⟩, ⟨rfl⟩, rfl, ext_⟩
  clear dn
  rintro m e u' hf ⟨n, g, h1, ⟨dn⟩, ⟨hg⟩, hm, hE⟩
  have hn : n ≤ 9223372036854775807 := by
    rcases dn.there with e | e | e
    · omega
    · omega
    · have := W.lt e; have := wf_N W; omega
  have n1 := stNode_calls (hS.ext hE) W n hn
  cases hh : s.has n with
  | false =>
    have hv := den_val dn hh X hX
    rw [nod_no hh] at n1
    simp only [ndV] at n1
    rw [← hg, hv]
    clear hS G W dn hg hv hh hu
    refine w_ fun d => ?_
    refine qq n1 fun w1 hE1 hs1 => ?_
    refine w_ fun d => ?_
    exact ⟨rfl, ext_⟩
  | true =>
    obtain ⟨k, g', hk, hv, d', hg', hr⟩ := den_go G dn hh X hX
    rw [nod_has hh] at n1
    obtain ⟨⟨v, lo, hi⟩, hz⟩ : ∃ z, s.nd n = z := ⟨_, rfl⟩
    rw [hz] at n1 hv d' hr
    simp only [ndV] at n1
    dsimp only at hv d' hr
    subst hv
    have hgx : Box (g'.getLsbD X = f.getLsbD X) := ⟨hg'.trans hg⟩
    clear hS G W dn hg hg' hh hz hu
    refine w_ fun d => ?_
    refine qq n1 fun w1 hE1 hs1 => ?_
    have hsb := shr_bit X hX k hk
    cases hb : X.testBit k
    · rw [hb] at d' hr hsb
      simp only [Bool.false_eq_true, if_false, if_true] at d' hr hsb
      refine w_ fun d => ?_
      exact ⟨_, (by rw [← hm]; exact hr), lo, g', eA rfl, ⟨d'⟩, hgx, rfl, ext_⟩
    · rw [hb] at d' hr hsb
      simp only [Bool.false_eq_true, if_false, if_true] at d' hr hsb
      refine w_ fun d => ?_
      exact ⟨_, (by rw [← hm]; exact hr), hi, g', eA rfl, ⟨d'⟩, hgx, rfl, ext_⟩
theorem or_pow8 : ∀ k : Nat, k < 8 → ∀ s : Nat, s < 256 → bits .or .i64 (s : Int) ((2 ^ k : Nat) : Int) = ((s ||| 2 ^ k : Nat) : Int) := by decide +kernel
theorem step_one : ∀ v : Nat, v < 8 → IntKind.i64.wrap (1 * 2 ^ min v IntKind.i64.bits) = ((2 ^ v : Nat) : Int) := by decide +kernel
theorem rdSupport_calls (h : StI own w p s []) (G : s.Good []) (dn : Den s n f) : CallsR Tryz.prog 25 #[.pointer (some ⟨p, 0, none⟩), .int .i64 n] w fun r w' => r = .int .i64 (supF f : Nat) ∧ Ext w w' := by
  have W := G.wf
  have hn : n ≤ 9223372036854775807 := by
    rcases dn.there with e | e | e
    · omega
    · omega
    · have := W.lt e; have := wf_N W; omega
  have hal : s.all.length ≤ 20000 := by have := allTo_len (s := s) (k := s.N.length); rw [allTo_all] at this; have := wf_N W; omega
  have c1 := fun u (hE : Ext w u) (a : Option Addr) (hI : InI u a [n]) => rdReach_calls (c := 1) (h.ext hE) G hI (by simp) (fun m hm => by rw [List.mem_singleton.1 hm]; exact hn)
  refine en2 Tryz.func25 Tryz.results25 mixed [] ?_
  intro e0 h0 h1
  refine w_ fun d => ?_
  refine (c1 _ ext_ (some ⟨w.heap.size, 0, none⟩) (SlC.made (l := ints [n]) (hA rfl) (by simp)).inp).mono ?_
  rintro _ u1 ⟨a', c', l, rfl, hS, hnw, hE1, hP⟩
  have hEu1 : Ext w u1 := Ext.trans (by exact ext_) hE1
  have hll : l.length ≤ 20000 := by
    rw [hP.length_eq]
    exact Nat.le_trans (List.length_filter_le _ _) hal
  have hmem : ∀ m, m ∈ l ↔ s.Rc [n] m := fun m => by rw [hP.mem_iff, W.mem_reach]
  have hv8 : ∀ m ∈ l, ∃ k : Nat, k < 8 ∧ (s.nd m).1 = k := fun m hm => by
    obtain ⟨h1, h2⟩ := (G.node m ((hmem m).1 hm).has (by simp)).var
    obtain ⟨k, hk⟩ := Int.eq_ofNat_of_zero_le h1
    exact ⟨k, by omega, hk⟩
  have hsum : orV s l.reverse = supF f := orV_sup G dn fun m => by rw [List.mem_reverse]; exact hmem m
  have hlt : ∀ k, orV s (l.take k).reverse < 256 := fun k => orV_lt fun m hm => by
    obtain ⟨k, hk, e⟩ := hv8 m (List.mem_of_mem_take (List.mem_reverse.1 hm))
    rw [e]; simpa using hk
  clear c1 hP hnw hE1 hal
  refine w_ fun d => ?_
  refine lo_ (fun W e u => ∃ k x : Nat, k ≤ l.length ∧ e 15 = .int .i64 k ∧ e 5 = .int .i64 x ∧ Box (x = orV s (l.take k).reverse) ∧ Ext w u ∧ Ext u1 u) (fun e _ => l.length - nat (e 15)) ?_ ?_
  · exact ⟨0, 0, by omega, eA rfl, eA rfl, ⟨rfl⟩, ext_, ext_⟩
  rintro e u hf ⟨k, x, hk, h15, h5, ⟨hx⟩, hE, hE'⟩
  by_cases hkl : k < l.length
  · obtain ⟨m, hm⟩ : ∃ m, l[k]? = some m := ⟨_, List.getElem?_eq_getElem hkl⟩
    have hml := List.mem_of_getElem? hm
    obtain ⟨v, hv, ev⟩ := hv8 m hml
    have hh := ((hmem m).1 hml).has
    have hmb : m ≤ 9223372036854775807 := by have := W.lt hh; have := wf_N W; omega
    have n1 := stNode_calls (h.ext hE) W m hmb
    rw [nod_has hh] at n1
    have hx2 : x ||| 2 ^ v = orV s (l.take (k + 1)).reverse := by
      rw [hx, List.take_add_one, hm]
      simp only [Option.toList_some, List.reverse_append, List.reverse_cons, List.reverse_nil, List.nil_append, List.cons_append, orV]
      rw [ev]; rfl
    obtain ⟨⟨v', lo, hi⟩, hz⟩ : ∃ z, s.nd m = z := ⟨_, rfl⟩
    rw [hz] at n1 ev
    simp only [ndV] at n1
    dsimp only at ev
    subst ev
    have hlx := hlt k
    rw [← hx] at hlx
    have hst := step_one v hv
    have hor := or_pow8 v hv x hlx
    obtain ⟨p2, hp2⟩ : ∃ p : Nat, 2 ^ v = p := ⟨_, rfl⟩
    have hlx2 := hlt (k + 1)
    rw [hp2] at hst hor hx2
    rw [← hx2] at hlx2
    obtain ⟨y, hy⟩ : ∃ y, x ||| p2 = y := ⟨_, rfl⟩
    rw [hy] at hor hx2 hlx2
    have hp : p2 ≤ 128 := by rw [← hp2]; exact (by decide : ∀ k : Nat, k < 8 → 2 ^ k ≤ 128) v hv
    obtain ⟨g, cur, rfl, hg, hc, hlt3, hat⟩ := hS.at (i := k) (v := .int .i64 m) (by unfold ints; rw [List.getElem?_map, hm]; rfl)
    rw [List.length_map] at hc
    have hg' := hE'.at hg
    have lg := lt_of_heap hg'
    clear hx hz hh hml hm hv8 hmem hsum hlt hS hp2 hy h G dn W hlt3 hg
    refine w_ fun d => ?_
    refine qq n1 fun u2 hE2 hs2 => ?_
    refine w_ fun d => ?_
    exact ⟨⟨k + 1, y, by omega, eA rfl, eA rfl, ⟨hx2⟩, ext_, ext_⟩, mA⟩
  · obtain rfl : k = l.length := by omega
    rw [List.take_length, hsum] at hx
    clear hv8 hmem hsum hlt hS h G dn W
    refine w_ fun d => ?_
    exact ⟨rfl, ext_⟩
end
end Go.Proofs.YtpeindhocndmnaaGreat

namespace Go.Bx
open Go
set_option linter.unusedSimpArgs false
set_option linter.unusedVariables false
structure SwL (s : Md) (rs : List Int) (j : Nat) (s' : Md) : Prop where
  swp : Swp s rs s'
  low : ∀ n, s'.has n = true → lvl s.ord (s.nd n).1 < j → s.Rc rs n
noncomputable def Md.swJ (s : Md) (rs : List Int) (j : Nat) : Md := s.dropO (s.keep rs) s.all (s.ord.take j)
noncomputable def Md.swI (s : Md) (rs : List Int) (j : Nat) (v : Int) (i : Nat) : Md := (s.swJ rs j).dropV (s.keep rs) v (s.all.take i)
section
variable {s t : Md} {rs l : List Int} {j i : Nat} {v n : Int}
theorem Swp.all (h : Swp s rs t) : t.all = s.all.filter fun n => t.has n := by
  show (((List.range t.N.length).map fun j : Nat => (j : Int) + 2).filter fun n => t.has n) = (((List.range s.N.length).map fun j : Nat => (j : Int) + 2).filter fun n => s.has n).filter fun n => t.has n
  rw [List.filter_filter, h.N]
  refine List.filter_congr fun n _ => ?_
  cases e : t.has n with
  | false => rfl
  | true => rw [h.has n e]; rfl
end
end Go.Bx

namespace Go.Bx
open Go
set_option linter.unusedSimpArgs false
set_option linter.unusedVariables false
section
variable {s t : Md} {rs : List Int} {L : List Fun8} {n v : Int} {f : Fun8}
theorem top_nd (G : s.Good []) (d : Den s n f) (hn : s.has n = true) : 0 ≤ topF s.ord f ∧ topF s.ord f = (s.nd n).1 := by
  have h1 := G.top hn d
  obtain ⟨h2, h3⟩ := top_first G.wf.ord h1
  have h4 := (G.dep d (topF_dep h2)).2
  have hr := top_rng h2
  exact ⟨h2, G.wf.ord.inj hr (G.node n hn (by simp)).var (by omega)⟩
theorem rc_rch (G : s.Good []) (hr : ∀ r ∈ rs, ∃ f ∈ L, Den s r f) (h : s.Rc rs n) : ∃ f, Den s n f ∧ Rch s.ord L f := by
  induction h with
  | root hm hh => obtain ⟨f, hf, d⟩ := hr _ hm; exact ⟨f, d, .base hf⟩
  | @lo m h hh ih =>
    obtain ⟨f, d, r⟩ := ih
    obtain ⟨h2, h3⟩ := top_nd G d h.has
    exact ⟨_, (G.sides d h.has).1, .step r (by unfold kids; rw [if_pos h2, h3]; simp)⟩
  | @hi m h hh ih =>
    obtain ⟨f, d, r⟩ := ih
    obtain ⟨h2, h3⟩ := top_nd G d h.has
    exact ⟨_, (G.sides d h.has).2, .step r (by unfold kids; rw [if_pos h2, h3]; simp)⟩
theorem Swept.den (h : Swept s rs t) (d : Den s n f) : (s.has n = true → s.Rc rs n) → Den t n f := by
  induction d with
  | c0 => intro _; exact .c0
  | c1 => intro _; exact .c1
  | @node n u lo hi f0 f1 hn hx h0 h1 ih0 ih1 =>
    intro hc
    have hr := hc hn
    refine .node ((h.only n).2 hr) (by rw [h.swp.nd]; exact hx) (ih0 fun hl => ?_) (ih1 fun hl => ?_)
    · have := Md.Rc.lo hr (by rw [hx]; exact hl)
      rwa [hx] at this
    · have := Md.Rc.hi hr (by rw [hx]; exact hl)
      rwa [hx] at this
theorem Swept.back (h : Swept s rs t) (d : Den t n f) : Den s n f := d.keep h.swp.has fun _ _ => h.swp.nd.symm
theorem Swept.root (h : Swept s rs t) (d : Den s n f) (hn : n ∈ rs) : Den t n f := h.den d fun hh => .root hn hh
theorem Swept.full (h : Swept s rs t) (G : s.Good []) (hr : ∀ r ∈ rs, ∃ f ∈ L, Den s r f) : t.Full L := fun n f hn d => by
  obtain ⟨g, d', r⟩ := rc_rch G hr ((h.only n).1 hn)
  rw [(h.back d).fn d', h.swp.ord]; exact r
theorem Swept.size (h : Swept s rs t) (G : s.Good []) (hr : ∀ r ∈ rs, ∃ f ∈ L, Den s r f) (hl : ∀ f ∈ L, ∃ r ∈ rs, Den s r f) : t.a.many = sizeF s.ord L := by
  rw [← h.swp.ord]
  refine (h.full G hr).size h.swp.good fun f hf => ?_
  obtain ⟨r, hm, d⟩ := hl f hf
  exact ⟨r, h.root d hm⟩
theorem Swept.all (h : Swept s rs t) : t.all = s.reach rs := by
  rw [h.swp.all]
  unfold Md.reach
  refine List.filter_congr fun n _ => ?_
  rw [Bool.eq_iff_iff, h.only, Md.keep_iff]
theorem Swept.len (h : Swept s rs t) : ((s.reach rs).length : Int) = t.a.many := by rw [← h.all]; exact h.swp.good.wf.len_all
theorem reach_size (G : s.Good []) (hr : ∀ r ∈ rs, ∃ f ∈ L, Den s r f) (hl : ∀ f ∈ L, ∃ r ∈ rs, Den s r f) : (s.reach rs).length = sizeF s.ord L := by
  have h := G.swept (rs := rs)
  have h1 := h.size G hr hl
  have h2 := h.len
  omega
end
end Go.Bx

namespace Go.Proofs.YtpeindhocndmnaaGreat
open Go Go.Bx
set_option linter.unusedSimpArgs false
set_option linter.unusedVariables false
set_option maxRecDepth 100000
set_option maxHeartbeats 4000000
attribute [local irreducible] X XO XE XF XD XW thenX inX retX kN CallsR
theorem up8_b : kids plain (varF 1) = [constF false, constF true] := by decide +kernel
theorem up8_a : kids plain (andF (varF 0) (varF 1)) = [constF false, varF 1] := by decide +kernel
theorem up8_d : supF (andF (varF 0) (varF 1)) = 3 ∧ supF (varF 1) ≠ 0 := by decide +kernel
theorem up8_n : [andF (varF 0) (varF 1), varF 1].Nodup := by decide +kernel
theorem up8_c : countF (andF (varF 0) (varF 1)) = 64 := by decide +kernel
theorem up8_v : atF (andF (varF 0) (varF 1)) 3 = true ∧ atF (andF (varF 0) (varF 1)) 2 = false := by decide +kernel
theorem up8_s : sizeF plain [andF (varF 0) (varF 1)] = 2 := by
  have ha := up8_a
  have hb := up8_b
  have hd := up8_d
  have hn := up8_n
  have hk0 : kids plain (constF false) = [] := kids_flat sup_constF
  have hk1 : kids plain (constF true) = [] := kids_flat sup_constF
  have hs0 : supF (constF false) = 0 := sup_constF
  have hs1 : supF (constF true) = 0 := sup_constF
  generalize constF false = C0 at *
  generalize constF true = C1 at *
  generalize andF (varF 0) (varF 1) = X at *
  generalize varF 1 = V at *
  have hI : IsNodes plain [X] [X, V] := by
    refine ⟨hn, fun f => ⟨fun hf => ?_, fun ⟨hr, hs⟩ => ?_⟩⟩
    · have hX : Rch plain [X] X := .base (by simp)
      simp only [List.mem_cons, List.not_mem_nil, or_false] at hf
      rcases hf with rfl | rfl
      · exact ⟨hX, by rw [hd.1]; decide⟩
      · exact ⟨.step hX (by rw [ha]; simp), hd.2⟩
    · have key : ∀ g, Rch plain [X] g → g ∈ [X, V, C0, C1] := fun g hg => by
        induction hg with
        | base h => simp at h; simp [h]
        | step _ h ih =>
          simp only [List.mem_cons, List.not_mem_nil, or_false] at ih
          rcases ih with rfl | rfl | rfl | rfl
          · rw [ha] at h; simp at h; rcases h with h | h <;> simp [h]
          · rw [hb] at h; simp at h; rcases h with h | h <;> simp [h]
          · rw [hk0] at h; cases h
          · rw [hk1] at h; cases h
      have := key f hr
      simp only [List.mem_cons, List.not_mem_nil, or_false] at this ⊢
      rcases this with h | h | rfl | rfl
      · exact .inl h
      · exact .inr h
      · exact absurd hs0 hs
      · exact absurd hs1 hs
  exact hI.size.symm
section
variable {W w w' : World}
theorem up08_calls (w : World) : CallsR Tryz.prog 15 #[] w fun r w' => r = .bool true ∧ Ext w w' := by
  have xs := up8_s
  have xd := up8_d.1
  have xc := up8_c
  have xv := up8_v
  obtain ⟨A, hA1⟩ : ∃ X, varF 0 = X := ⟨_, rfl⟩
  obtain ⟨B, hB1⟩ : ∃ X, varF 1 = X := ⟨_, rfl⟩
  have r0 : Sure Tryz.prog 53 #[.int .i64 0] (fv (varF 0)) := refVar_calls 0
  have r1 : Sure Tryz.prog 53 #[.int .i64 1] (fv (varF 1)) := refVar_calls 1
  rw [hA1] at r0 xs xd xc xv
  rw [hB1] at r1 xs xd xc xv
  have r2 : Sure Tryz.prog 52 #[fv A, fv B] (fv (andF A B)) := refAnd_calls A B
  obtain ⟨X, hX⟩ : ∃ X, andF A B = X := ⟨_, rfl⟩
  rw [hX] at r2 xs xd xc xv
  clear hA1 hB1 hX
  have c0 := fun u (hE : Ext w u) => oneNew (M := 5) (by decide) (by decide) hE
  have R0 : Ro (Md.new 5) [] 5 := Ro.new (by decide) (by decide)
  refine en0 Tryz.func15 Tryz.results15 mixed [(6, [41])] ?_
  intro e0
  refine w_ fun d => ?_
  refine (c0 _ ext_).mono ?_
  rintro _ w1 ⟨ps, rfl, h1⟩
  refine w_ fun d => ?_
  refine qq (r0.quiet (w := w1)) fun w2 hE2 hs2 => ?_
  refine w_ fun d => ?_
  refine qq (r1.quiet (w := w2)) fun w3 hE3 hs3 => ?_
  refine w_ fun d => ?_
  refine qq (r2.quiet (w := w3)) fun w4 hE4 hs4 => ?_
  obtain ⟨own1, k1⟩ := (h1.ext ((hE2.trans hE3).trans hE4)).to
  have x4 : sizeF (Md.new 5).ord ([] ++ [X]) ≤ 2 := by rw [List.nil_append]; exact Nat.le_of_eq xs
  have hb0 := k1.fresh (k := w4.heap.size) (by omega)
  clear h1
  refine w_ fun d => ?_
  refine at_c fun v4 hv4 => ?_
  have hEv : Ext w4 v4 := by rw [hv4]; exact ext_
  have hbx : v4.heap[w4.heap.size]? = some (.cells #[vU (word X 0), vU (word X 1), vU (word X 2), vU (word X 3)] 48) := by rw [hv4]; exact hA rfl
  clear hv4
  refine (onBuild (k1.up hEv) R0 X (Int.ofNat_le.2 (Nat.le_trans x4 (by decide)))).mono ?_
  rintro _ w5 ⟨n, s, own, rfl, h5, hSw, R5, l5, d5⟩
  replace hbx := hSw.at hbx hb0
  have hbxl := lt_of_heap hbx
  have G := R5.good
  have ho : s.ord = plain := l5.ord
  have hm : s.a.many = 2 := by
    rw [R5.full.size G fun f hf => ⟨n, by rw [show f = X by simpa using hf]; exact d5⟩, ho]
    exact congrArg _ xs
  have hrl : (s.reach [n]).length = 2 := by
    rw [reach_size (L := [X]) G (fun r hr => ⟨X, by simp, by rw [List.mem_singleton.1 hr]; exact d5⟩) (fun f hf => ⟨n, by simp, by rw [List.mem_singleton.1 hf]; exact d5⟩), ho]
    exact xs
  have hW := h5.ext
  have hS := h5.sti
  have lv := stLive_calls hS G.wf
  rw [hm] at lv
  have t1 := rdTop_calls G hS d5
  have v3 := rdValue_calls hS G d5 3
  have v2 := rdValue_calls hS G d5 2
  have cn := rdCount_calls hS G d5
  have sp : Quiet Tryz.prog 25 #[.pointer (some ⟨ps, 0, none⟩), .int .i64 n] w5 (.int .i64 (supF X : Nat)) := fun u hu => rdSupport_calls (hS.ext hu) G d5
  have hnb := bt_rng G.wf d5
  have rc := fun u (hu : Ext w5 u) a (hI : InI u a [n]) => rdReach_calls (c := 1) (hS.ext hu) G hI (by simp) (fun m hm => by rw [List.mem_singleton.1 hm]; exact hnb)
  rw [xv.1] at v3
  rw [xv.2] at v2
  rw [xc] at cn
  rw [xd] at sp
  clear R0 c0 k1 R5 l5 d5 hm ho G hS h5 x4 xs xd xc xv r0 r1 r2 hSw hb0 hEv
  refine w_ fun d => ?_
  refine s_draw (XD_ext ?_)
  refine de_ ?_
  refine xe2w fun w6 hE6 => ?_
  have hW6 := hW.trans hE6
  have hb6 := hE6.at hbx
  have hl6 := lt_of_heap hb6
  have lv6 := lv.at hE6
  have t16 := t1.at hE6
  have v36 := v3.at hE6
  have v26 := v2.at hE6
  have cn6 := cn.at hE6
  have sp6 := sp.at hE6
  have rc6 := fun u (hu : Ext w6 u) => rc u (hE6.trans hu)
  clear lv t1 v3 v2 cn sp rc hbx hbxl
  refine krA ?_
  refine kv ?_
  refine de_ ?_
  refine xe2w fun w7 hE7 => ?_
  have hw7 : Ext w6 w7 := Ext.trans (by exact ext_) hE7
  have hI7 : InI w7 (some ⟨w6.heap.size, 0, none⟩) [n] := (SlC.made (l := ints [n]) (hE7.at (hA rfl)) (by simp)).inp
  refine krA ?_
  refine ke ?_
  refine (rc6 _ hw7 _ hI7).mono ?_
  rintro _ w8 ⟨a8, c8, l, rfl, hS8, hn8, hE8, hP⟩
  have hll : l.length = 2 := hP.length_eq.trans hrl
  have hw8 := hw7.trans hE8
  have hW8 := hW6.trans hw8
  have hb8 := hw8.at hb6
  have hl8 := lt_of_heap hb8
  have lv8 := lv6.at hw8
  have t18 := t16.at hw8
  have v38 := v36.at hw8
  have v28 := v26.at hw8
  have cn8 := cn6.at hw8
  have sp8 := sp6.at hw8
  clear lv6 t16 v36 v26 cn6 sp6 rc6 hb6 hl6 hS8 hn8 hP hI7
  refine de_ ?_
  refine xn_ fun w9 hE9 hs9 => ?_
  refine w_ fun d => ?_
  exact ⟨rfl, ext_⟩
end
end Go.Proofs.YtpeindhocndmnaaGreat

namespace Go.Bx
open Go
set_option linter.unusedSimpArgs false
set_option linter.unusedVariables false
noncomputable def Md.restr (s : Md) (a v : Int) (b : Bool) : (Int × Int) × Md := if s.there a && (decide (0 ≤ v) && decide (v < 8)) then s.bld (cofF (s.tab a) v b) else ((0, 1), s)
noncomputable def Md.both (s : Md) (a v : Int) (k : Md → Int → Int → (Int × Int) × Md) : (Int × Int) × Md :=
  if (s.restr a v false).1.2 = 0 then
    if ((s.restr a v false).2.restr a v true).1.2 = 0 then k ((s.restr a v false).2.restr a v true).2 (s.restr a v false).1.1 ((s.restr a v false).2.restr a v true).1.1
    else (s.restr a v false).2.restr a v true
  else s.restr a v false
noncomputable def Md.compose (s : Md) (a v g : Int) : (Int × Int) × Md := if s.there g && (decide (0 ≤ v) && decide (v < 8)) then s.both a v fun s lo hi => s.ite g hi lo else ((0, 1), s)
noncomputable def Md.exist (s : Md) (a v : Int) : (Int × Int) × Md := s.both a v fun s lo hi => s.ite lo 1 hi
noncomputable def Md.forall_ (s : Md) (a v : Int) : (Int × Int) × Md := s.both a v fun s lo hi => s.ite lo hi 0
section
variable {s s' : Md} {n m a b c v g : Int} {f h : Fun8} {rs : List Int}
noncomputable def Md.step (s : Md) (rs : List Int) (v : Int) (down : Bool) : Bool × Md :=
  if (s.swap (if down then lvl s.ord v else lvl s.ord v - 1)).1 = 0 then (true, (s.swap (if down then lvl s.ord v else lvl s.ord v - 1)).2.sweep rs) else (false, s)
structure Lk where
  s : Md
  best : Int
  few : Int
noncomputable def Lk.go (rs : List Int) (v grow : Int) (down : Bool) : Nat → Lk → Lk
  | 0, x => x
  | k + 1, x =>
    if lvl x.s.ord v = (if down then 7 else 0) then x
    else if (x.s.step rs v down).1 = false then x
    else
      let s' := (x.s.step rs v down).2
      let y : Lk := if s'.a.many < x.few then ⟨s', lvl s'.ord v, s'.a.many⟩ else ⟨s', x.best, x.few⟩
      if grow < s'.a.many then y else Lk.go rs v grow down k y
noncomputable def Md.back (rs : List Int) (v best : Int) : Nat → Md → Md
  | 0, s => s
  | k + 1, s => if lvl s.ord v = best then s else if (s.step rs v (decide (lvl s.ord v < best))).1 = false then s else Md.back rs v best k (s.step rs v (decide (lvl s.ord v < best))).2
noncomputable def Md.sift (s : Md) (rs : List Int) (v grow : Int) : Md :=
  let s1 := s.sweep rs
  let x := Lk.go rs v grow false 8 (Lk.go rs v grow true 8 ⟨s1, lvl s1.ord v, s1.a.many⟩)
  Md.back rs v x.best 8 x.s
noncomputable def Md.siftAll (rs : List Int) (grow : Int) (l : List Int) (s : Md) : Md := l.foldl (fun s v => s.sift rs v grow) s
end
end Go.Bx

namespace Go.Proofs.YtpeindhocndmnaaGreat
open Go Go.Bx
set_option linter.unusedSimpArgs false
set_option linter.unusedVariables false
set_option maxRecDepth 100000
set_option maxHeartbeats 4000000
attribute [local irreducible] X XO XE XF XD XW thenX inX retX kN CallsR
section
variable {own : Nat → Nat} {w w' w1 : World} {p : Nat} {s : Md} {n v a b c : Int} {f g : Fun8}
theorem rsBuild_flat (h : RsI own w p s) (G : s.Good []) (ht : topF s.ord f < 0) : Quiet Tryz.prog 31 #[.pointer (some ⟨p, 0, none⟩), fv f] w (.tuple #[.int .i64 (if f.getLsbD 0 then 1 else 0), .int .i64 0]) := by
  intro u hu
  have h := h.ext hu
  clear hu
  obtain ⟨pa, na, nc, sc, oc, hX⟩ := id h
  have hp := hX.at_
  have co := hX.rc.co
  have hsz := hX.rc.size
  have hpl := lt_of_heap hp
  have tp : Sure Tryz.prog 67 #[fv f, .agg oc] (.int .i64 (topF s.ord f)) := fun u => by
    have := refTop_calls f s.ord G.wf.ord.len u
    rwa [hX.oc.agg] at this
  have at0 := refAt_p f 0 (by decide)
  generalize topF s.ord f = v at ht tp
  clear hX h G
  refine en2 Tryz.func31 Tryz.results31 mixed [] ?_
  intro e0 h0 h1
  refine w_ fun d => ?_
  intro w1 hE1 hs1
  have h31 : w1.heap[u.heap.size]? = some (.cells #[vU (word f 0), vU (word f 1), vU (word f 2), vU (word f 3)] 48) := hE1.at (hA rfl)
  have l31 := lt_of_heap h31
  cases hb : f.getLsbD 0
  · rw [hb] at at0
    refine w_ fun d => ?_
    refine qq (at0.quiet (w := w1)) fun w2 hE2 hs2 => ?_
    refine w_ fun d => ?_
    exact ⟨rfl, ext_⟩
  · rw [hb] at at0
    refine w_ fun d => ?_
    refine qq (at0.quiet (w := w1)) fun w2 hE2 hs2 => ?_
    refine w_ fun d => ?_
    exact ⟨rfl, ext_⟩
theorem rsBuild_calls {p : Nat} : ∀ (k : Nat) (own : Nat → Nat) (w : World) (s : Md) (f : Fun8), RsI own w p s → s.Good [] → nv f ≤ k →
    CallsR Tryz.prog 31 #[.pointer (some ⟨p, 0, none⟩), fv f] w fun r w' => r = .tuple #[.int .i64 (s.bld f).1.1, .int .i64 (s.bld f).1.2] ∧ TrS own w p (s.bld f).2 w' := by
  intro k
  induction k using Nat.strongRecOn with
  | _ k ih =>
  intro own w s f h G hk
  by_cases ht0 : 0 ≤ topF s.ord f
  rotate_left
  · rw [bld_flat G ht0]
    refine (rsBuild_flat h G (by omega)).call.mono ?_
    rintro r w' ⟨rfl, hE⟩
    exact ⟨rfl, TrS.of_ext h hE⟩
  have hgo := bld_top G ht0
  have hdt := topF_dep ht0
  have nv0 := nv_cof (b := false) hdt
  have nv1 := nv_cof (b := true) hdt
  obtain ⟨pa, na, nc, sc, oc, hX⟩ := id h
  have hp := hX.at_
  have co := hX.rc.co
  have hsz := hX.rc.size
  have hpl := lt_of_heap hp
  have tp : Sure Tryz.prog 67 #[fv f, .agg oc] (.int .i64 (topF s.ord f)) := fun u => by
    have := refTop_calls f s.ord G.wf.ord.len u
    rwa [hX.oc.agg] at this
  clear hX
  generalize topF s.ord f = v at hgo ht0 hdt nv0 nv1 tp
  have c0 : Sure Tryz.prog 68 #[fv f, .int .i64 v, .bool false] (fv (cofF f v false)) := refCof_calls f v false
  have c1 : Sure Tryz.prog 68 #[fv f, .int .i64 v, .bool true] (fv (cofF f v true)) := refCof_calls f v true
  obtain ⟨R, hR⟩ : ∃ R, s.bld f = R := ⟨_, rfl⟩
  unfold SplB at hgo
  rw [hR] at hgo ⊢
  clear hR hdt
  have own0 : ∀ k, w.heap.size ≤ k → own k = 0 := fun k hk => by
    cases ho : own k with
    | zero => rfl
    | succ q => have := h.lt k (by omega); omega
  refine en2 Tryz.func31 Tryz.results31 mixed [] ?_
  intro e0 h0 h1
  refine w_ fun d => ?_
  intro w1 hE1 hs1
  have h31 : w1.heap[w.heap.size]? = some (.cells #[vU (word f 0), vU (word f 1), vU (word f 2), vU (word f 3)] 48) := hE1.at (hA rfl)
  have hE01 : Ext w w1 := Ext.trans (by exact ext_) hE1
  have h1' := h.ext hE01
  have l31 := lt_of_heap h31
  have o3 := own0 _ (Nat.le_refl w.heap.size)
  have hS1 : Sw own w own w1 := Sw.of_ext hE01
  clear hE1 hs1 hp hpl tp h own0 hE01
  refine w_ fun d => ?_
  refine qq (c0.quiet (w := w1)) fun w2 hE2 hs2 => ?_
  have h32 := hE2.at h31
  have l32 := lt_of_heap h32
  refine w_ fun d => ?_
  refine (ih _ (Nat.lt_of_lt_of_le nv0 hk) own w2 s _ (h1'.ext hE2) G (Nat.le_refl _)).mono ?_
  rintro r w3 ⟨hr, own1, hI1, hSw1⟩
  have hT1 := (hS1.ext hE2).trans hSw1
  obtain ⟨o31, e33⟩ := hSw1.out l32 o3
  have h33 := e33.trans h32
  have l33 := lt_of_heap h33
  rcases hgo with ⟨e0, eR⟩ | ⟨n0, s0, e0, G0, L0, D0, hgo⟩
  · rw [eR, e0]
    rw [e0] at hr
    dsimp only at hr
    subst hr
    clear ih
    refine w_ fun d => ?_
    exact ⟨rfl, own1, hI1, hT1⟩
  rw [e0] at hr hI1
  dsimp only at hr hI1
  subst hr
  clear hE2 hs2 h1' hS1 hSw1 e33 h32 l32 h31 l31
  refine w_ fun d => ?_
  refine qq (c1.quiet (w := w3)) fun w4 hE4 hs4 => ?_
  have h34 := hE4.at h33
  refine w_ fun d => ?_
  refine (ih _ (Nat.lt_of_lt_of_le nv1 hk) own1 w4 s0 _ (hI1.ext hE4) G0 (Nat.le_refl _)).mono ?_
  rintro r w5 ⟨hr, own2, hI2, hSw2⟩
  have hT2 := (hT1.ext hE4).trans hSw2
  rcases hgo with ⟨e1, eR⟩ | ⟨n1, s1, e1, G1, L1, D1, hgo⟩
  · rw [eR, e1]
    rw [e1] at hr
    dsimp only at hr
    subst hr
    clear ih
    refine w_ fun d => ?_
    exact ⟨rfl, own2, hI2, hT2⟩
  rw [e1] at hr hI2
  dsimp only at hr hI2
  subst hr
  have mk := rsMkP_calls (v := v) hI2 G1.wf (bt_rng G1.wf (D0.mono L1)) (bt_rng G1.wf D1)
  rw [← hgo] at mk
  clear ih hgo e0 e1 hI1 hE4 hs4
  refine w_ fun d => ?_
  refine mk.mono ?_
  rintro _ w6 ⟨rfl, own3, hI3, hS3⟩
  refine w_ fun d => ?_
  exact ⟨rfl, own3, hI3, hT2.trans hS3⟩
theorem rsBld_calls (h : RsI own w p s) (G : s.Good []) (f : Fun8) : CallsR Tryz.prog 31 #[.pointer (some ⟨p, 0, none⟩), fv f] w fun r w' => r = .tuple #[.int .i64 (s.bld f).1.1, .int .i64 (s.bld f).1.2] ∧ TrS own w p (s.bld f).2 w' := rsBuild_calls _ own w s f h G (Nat.le_refl _)
end
end Go.Proofs.YtpeindhocndmnaaGreat

namespace Go.Proofs.YtpeindhocndmnaaGreat
open Go Go.Bx
set_option linter.unusedSimpArgs false
set_option linter.unusedVariables false
set_option maxRecDepth 100000
set_option maxHeartbeats 4000000
attribute [local irreducible] X XO XE XF XD XW thenX inX retX kN CallsR
section
variable {W w w' w1 w2 : World} {p ps pm : Nat} {s s' sM : Md} {n v x y lo hi : Int}
theorem bld_rng8 (G : s.Good []) (f : Fun8) : 0 ≤ (s.bld f).1.2 ∧ (s.bld f).1.2 ≤ 8 := by
  rcases (G.bld f).itt.err with e | e | e <;> omega
theorem funAt8 {a : Option Addr} {l : List Fun8} (h : Inp w 4 a (l.map rowF)) {i : Nat} {f : Fun8} (hf : l[i]? = some f) :
    ∃ g o cs E fz, a = some ⟨g, o, none⟩ ∧ w.heap[g]? = some (.cells cs E fz) ∧ o + i * 4 + 4 ≤ cs.size ∧ Value.agg (cs.extract (o + i * 4) (o + i * 4 + 4)) = fv f := by
  rcases h with h | ⟨g, o, cs, E, fz, rfl, h2, h3⟩
  · rw [List.map_eq_nil_iff.1 h] at hf; simp at hf
  · have hr := h3 i (rowF f) (by rw [List.getElem?_map, hf]; rfl)
    obtain ⟨k1, k2⟩ := rowF_at (i := o + i * 4) hr
    exact ⟨g, o, cs, E, fz, rfl, h2, k1, k2⟩
theorem readBuilds_calls (most : Int) {l : List Dd07} {k : List Fun8} {a b : Option Addr} {c cb : Nat} (hI : Inp w 5 a (l.map encD)) (hok : ∀ d ∈ l, okD d) (hK : Inp w 4 b (k.map rowF)) (hl : l.length ≤ 140737488351232) (hk : k.length ≤ 140737488351232) :
    CallsR Tryz.prog 5 #[.int .i64 most, .slice a l.length c, .slice b k.length cb] w fun r w' => r = .bool true ∧ Ext w w' := by
  have up := up08_calls
  by_cases hm : 0 ≤ most ∧ most ≤ 20000
  rotate_left
  · have b0 := begin_none most hm
    clear hI hok hK hm
    refine en3 Tryz.func5 Tryz.results5 mixed [] ?_
    intro e0 h0 h1 h2
    refine w_ fun d => ?_
    refine (up _).mono ?_
    rintro _ w1 ⟨rfl, hE1⟩
    have hE1w : Ext w w1 := Ext.trans (by exact ext_) hE1
    refine w_ fun d => ?_
    refine qq (b0.quiet (w := w1)) fun w2 hE2 hs2 => ?_
    refine w_ fun d => ?_
    exact ⟨rfl, ext_⟩
  obtain ⟨h0', h1'⟩ := hm
  have b0 := begin_calls most h0' h1'
  have G0 : (Md.new most).Good [] := Md.Good.start h0' h1'
  by_cases hlen : l.length ≤ 100 ∧ k.length ≤ 10
  rotate_left
  · have fin : ∀ {w1 w2 : World} {ps pm : Nat}, PrI w1 w2 ps pm (Md.new most) (Md.new most) → Ext w1 w2 := fun h => h.world
    by_cases hl1 : l.length ≤ 100
    · have hl1' : ¬ (100 : Int) < l.length := by omega
      have hk1 : (10 : Int) < k.length := by
        have : ¬ k.length ≤ 10 := fun h => hlen ⟨hl1, h⟩
        omega
      clear hI hok hK G0 hlen hl1
      refine en3 Tryz.func5 Tryz.results5 mixed [] ?_
      intro e0 h0 h1 h2
      refine w_ fun d => ?_
      refine (up _).mono ?_
      rintro _ w1 ⟨rfl, hE1⟩
      have hE1w : Ext w w1 := Ext.trans (by exact ext_) hE1
      refine w_ fun d => ?_
      refine (b0 _).mono ?_
      rintro _ w2 ⟨ps, pm, rfl, hP⟩
      have hE2w := hE1w.trans (Ext.trans (by exact ext_) hP.world)
      clear hP b0 fin
      refine w_ fun d => ?_
      exact ⟨rfl, ext_⟩
    · have hl1' : (100 : Int) < l.length := by omega
      clear hI hok hK G0 hlen hl1
      refine en3 Tryz.func5 Tryz.results5 mixed [] ?_
      intro e0 h0 h1 h2
      refine w_ fun d => ?_
      refine (up _).mono ?_
      rintro _ w1 ⟨rfl, hE1⟩
      have hE1w : Ext w w1 := Ext.trans (by exact ext_) hE1
      refine w_ fun d => ?_
      refine (b0 _).mono ?_
      rintro _ w2 ⟨ps, pm, rfl, hP⟩
      have hE2w := hE1w.trans (Ext.trans (by exact ext_) hP.world)
      clear hP b0 fin
      refine w_ fun d => ?_
      exact ⟨rfl, ext_⟩
  have hlen' : ¬ (100 : Int) < l.length := by omega
  have hken' : ¬ (10 : Int) < k.length := by omega
  refine en3 Tryz.func5 Tryz.results5 mixed [] ?_
  intro e0 h0 h1 h2
  refine w_ fun d => ?_
  refine (up _).mono ?_
  rintro _ w1 ⟨rfl, hE1⟩
  have hE1w : Ext w w1 := Ext.trans (by exact ext_) hE1
  refine w_ fun d => ?_
  refine (b0 _).mono ?_
  rintro _ w2 ⟨ps, pm, rfl, hP⟩
  clear b0
  refine w_ fun d => ?_
  refine lo_ (fun _ e w' => ∃ (i : Nat) (s : Md), i ≤ l.length ∧ e 10 = .int .i64 i ∧ PrI w1 w' ps pm s s ∧ s.Good []) (fun e _ => l.length - nat (e 10)) ?_ ?_
  · exact ⟨0, _, by omega, eA rfl, hP.ext ext_, G0⟩
  clear hP G0
  rintro e u hf ⟨i, s, hi, h10, hPu, G⟩
  have hEu := hE1w.trans hPu.world
  by_cases hlt : i < l.length
  · obtain ⟨d, hd⟩ : ∃ d, l[i]? = some d := ⟨l[i], List.getElem?_eq_getElem hlt⟩
    obtain ⟨k1, k2, k3⟩ := hok d (List.mem_of_getElem? hd)
    obtain ⟨q, da, db, dc, r⟩ := d
    obtain ⟨g, o, ct, E, fz, rfl, hg, hsz, hex⟩ := deedAt (Inp.ext hI hEu) hd
    have hltl : (i : Int) < l.length := by omega
    have dd := fun u (h : PrI w1 u ps pm s s) => do_calls (q := q) (raw := r) h G k1 k2 k3
    clear hI hok hd k1 k2 k3 G hK
    refine w_ fun d => ?_
    refine (dd _ (hPu.ext ext_)).mono ?_
    rintro _ u2 ⟨s2, rfl, hP2, G2⟩
    refine w_ fun d => ?_
    exact ⟨⟨i + 1, s2, by omega, eA rfl, hP2.ext ext_, G2⟩, mA⟩
  obtain rfl : i = l.length := by omega
  clear hI hok hlt
  refine w_ fun d => ?_
  refine lo_ (fun _ e w' => ∃ (i : Nat) (s : Md), i ≤ k.length ∧ e 11 = .int .i64 i ∧ PrI w1 w' ps pm s s ∧ s.Good []) (fun e _ => k.length - nat (e 11)) ?_ ?_
  · exact ⟨0, s, by omega, eA rfl, hPu.ext ext_, G⟩
  clear hPu G hEu
  rintro e2 x hf2 ⟨i, s, hi, h11, hPu, G⟩
  have hEu := hE1w.trans hPu.world
  by_cases hlt : i < k.length
  rotate_left
  · obtain rfl : i = k.length := by omega
    clear hK hlt
    refine w_ fun d => ?_
    exact ⟨rfl, hEu⟩
  obtain ⟨f, hfi⟩ : ∃ f, k[i]? = some f := ⟨k[i], List.getElem?_eq_getElem hlt⟩
  obtain ⟨g, o, ct, E, fz, rfl, hg, hsz, hex⟩ := funAt8 (Inp.ext hK hEu) hfi
  have hltl : (i : Int) < k.length := by omega
  have gl := lt_of_heap hg
  have bI := fun W u (h : PrI W u ps pm s s) => h.turnI fun own ho => rdBuildTop_calls ho G f
  have bM := fun W u s1 (h : PrI W u ps pm s1 s) => h.turnM fun own ho => rsBld_calls ho G f
  have gb := (G.bld f).good
  have rb := bld_rng8 G f
  have cr := code_sure _ rb.1 rb.2
  generalize s.bld f = R at bI bM gb rb cr
  clear G rb
  refine w_ fun d => ?_
  refine (bI _ _ (hPu.ext ext_)).mono ?_
  rintro _ u2 ⟨rfl, hP2⟩
  obtain ⟨g', o', ct', E', fz', he, hg2, hsz2, hex2⟩ := funAt8 (Inp.ext hK (hE1w.trans hP2.world)) hfi
  cases he
  have gl2 := lt_of_heap hg2
  clear hg gl bI hK
  refine w_ fun d => ?_
  refine (bM _ _ _ (hP2.ext ext_)).mono ?_
  rintro _ u3 ⟨rfl, hP3⟩
  clear bM
  have sm := fun u (hE : Ext u3 u) => same_calls (hP3.ext hE) gb
  refine w_ fun d => ?_
  refine qq (cr.quiet (w := u3)) fun u4 hE4 hs4 => ?_
  refine w_ fun d => ?_
  refine (sm _ (hE4.trans ext_)).mono ?_
  rintro _ u5 ⟨rfl, hE5⟩
  refine w_ fun d => ?_
  exact ⟨⟨i + 1, R.2, by omega, eA rfl, hP3.ext ((hE4.trans (Ext.trans (by exact ext_) hE5)).trans ext_), gb⟩, mA⟩
end
end Go.Proofs.YtpeindhocndmnaaGreat

