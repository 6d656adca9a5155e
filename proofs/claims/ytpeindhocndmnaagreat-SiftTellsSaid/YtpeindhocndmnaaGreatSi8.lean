/- RsR, RsSw, RsSi, RsSi2, RsSi3, NodesW, PrL, Rs8, Law09, Bw7, Law13b: texts of this work, one behind the other. -/
import Derived.Test.YtpeindhocndmnaaGreatSi7
namespace Go.Proofs.YtpeindhocndmnaaGreat
open Go Go.Bx
set_option linter.unusedSimpArgs false
set_option linter.unusedVariables false
set_option maxRecDepth 100000
set_option maxHeartbeats 4000000
attribute [local irreducible] X XO XE XF XD XW thenX inX retX kN CallsR
def bools (l : List Bool) : List Value := l.map Value.bool
theorem ms_bools {w : World} {n : Nat} (hn : n ≤ 1099511627776) : msR Tryz.prog 103 (.int .i64 (n : Int)) (.int .i64 (n : Int)) w = .ok (.slice (some ⟨w.heap.size, 0, none⟩) n n) (w.alloc (.cells (bools (List.replicate n false)).toArray 4)) := by
  obtain ⟨i, hi, hs, hb, hz⟩ := ((TI.mk' (sz := 1) (by_ := 1) (z := Value.bool false) Tryz.underlying4 (by kernel_rfl)) : TI Tryz.prog 4 _ _ _ _).inf
  have := run_make (P := Tryz.prog) w 103 4 i _ Tryz.underlying103 hi hz .i64 .i64 (n : Int) (n : Int) (by omega) (by omega) (by rw [hb]; omega) (by omega)
  rw [msR, this]
  have e2 : ((n : Int)).toNat = n := by omega
  rw [e2, hs]
  congr 3
  apply Array.ext_getElem?
  intro j
  by_cases hj : j < n * 1
  · unfold madeCells
    rw [Array.getElem?_map, Array.getElem?_range, if_pos hj]
    have hj' : j < n := by omega
    simp [bools, List.getElem?_replicate, hj', Value.cells, Nat.mod_one]
  · rw [Array.getElem?_eq_none (by rw [size_madeCells]; omega), Array.getElem?_eq_none (by simp [bools]; omega)]
def seenL (s : Md) (K : List Int) : List Bool := (List.range (s.N.length + 2)).map fun j : Nat => decide ((j : Int) ∈ K)
def outTo (K : List Int) (k : Nat) : List Int := ((List.range k).map fun j : Nat => (j : Int) + 2).filter fun n => decide (n ∈ K)
section
variable {s : Md} {K : List Int} {n : Int}
theorem seenL_len : (seenL s K).length = s.N.length + 2 := by simp [seenL]
theorem seenL_nil : seenL s [] = List.replicate (s.N.length + 2) false := by
  apply List.ext_getElem?
  intro j
  simp only [seenL, List.getElem?_map, List.getElem?_replicate]
  by_cases h : j < s.N.length + 2
  · rw [List.getElem?_range h, if_pos h]; simp
  · rw [List.getElem?_eq_none (by simp; omega), if_neg h]; rfl
theorem seenL_at {j : Nat} (h : j < s.N.length + 2) : (seenL s K)[j]? = some (decide ((j : Int) ∈ K)) := by
  simp only [seenL, List.getElem?_map, List.getElem?_range h, Option.map_some]
theorem seenL_set {k : Nat} (h : k < s.N.length + 2) : (seenL s K).set k true = seenL s (K ++ [(k : Int)]) := by
  apply List.ext_getElem?
  intro j
  by_cases hj : j < s.N.length + 2
  · rw [seenL_at hj, List.getElem?_set]
    by_cases e : k = j
    · subst e
      rw [if_pos rfl, if_pos (by rw [seenL_len]; exact hj)]; simp
    · rw [if_neg e, seenL_at hj]
      have : ¬ (j : Int) = k := fun h => e (by omega)
      simp [this]
  · rw [List.getElem?_eq_none (by rw [List.length_set, seenL_len]; omega), List.getElem?_eq_none (by rw [seenL_len]; omega)]
theorem outTo_succ {k : Nat} : outTo K (k + 1) = outTo K k ++ if decide ((k : Int) + 2 ∈ K) then [(k : Int) + 2] else [] := by
  unfold outTo
  rw [List.range_succ, List.map_append, List.filter_append]
  congr 1
  simp only [List.map_cons, List.map_nil]
  by_cases h : (k : Int) + 2 ∈ K
  · rw [List.filter_cons_of_pos (by simp [h]), if_pos (by simp [h])]; rfl
  · rw [List.filter_cons_of_neg (by simp [h]), if_neg (by simp [h])]; rfl
theorem outTo_len {k : Nat} : (outTo K k).length ≤ k := Nat.le_trans (List.length_filter_le _ _) (by simp)
theorem outTo_reach {rs : List Int} (h : Rdf s rs K []) (W : s.WF) : outTo K s.N.length = s.reach rs := by
  refine h.reach W ?_ fun x => ?_
  · refine List.Pairwise.filter _ ?_
    rw [List.pairwise_map]
    exact List.Pairwise.imp (fun h => by omega) List.pairwise_lt_range
  · unfold outTo
    rw [List.mem_filter, List.mem_map, decide_eq_true_eq]
    refine ⟨fun h => h.2, fun hx => ⟨?_, hx⟩⟩
    have := W.lt (h.rch x hx).has
    exact ⟨(x - 2).toNat, List.mem_range.2 (by omega), by omega⟩
end
section
variable {own : Nat → Nat} {w : World} {p : Nat} {rs : List Int} {s : Md}
theorem rsReach_calls {a : Option Addr} {c : Nat} (h : RsI own w p s) (G : s.Good []) (hI : InI w a rs) (hl : rs.length ≤ 1000000) (hn : ∀ n ∈ rs, n ≤ 9223372036854775807) :
    CallsR Tryz.prog 29 #[.pointer (some ⟨p, 0, none⟩), .slice a rs.length c] w fun r w' => ∃ a' c', r = .slice a' (s.reach rs).length c' ∧ SlC w' 3 a' c' (ints (s.reach rs)) ∧ (∀ g, blk a' = some g → w.heap.size ≤ g) ∧ Ext w w' := by
  have W := G.wf
  have hN := wf_N W
  have hal : s.all.length ≤ 20000 := by have := allTo_len (s := s) (k := s.N.length); rw [allTo_all] at this; omega
  have nd := fun u (hE : Ext w u) n hn => (rsNode_calls (h.ext hE) W n hn)
  obtain ⟨pa, na, nc, sc, oc, hX⟩ := h
  have hp := hX.at_
  have c2 := hX.rc.c1
  have hsz := hX.rc.size
  have hpl := lt_of_heap hp
  have e2 : (s.N.length : Int) + 2 = ((s.N.length + 2 : Nat) : Int) := by omega
  have mb := fun w => ms_bools (w := w) (n := s.N.length + 2) (by omega)
  simp only [← e2] at mb
  clear hX
  obtain ⟨CS, hCS⟩ : ∃ C, (bools (List.replicate (s.N.length + 2) false)).toArray = C := ⟨_, rfl⟩
  have hs0 : SlC (w.alloc (.cells CS 4)) 4 (some ⟨w.heap.size, 0, none⟩) (s.N.length + 2) (bools (seenL s [])) := by
    have := SlC.made (w := w.alloc (.cells CS 4)) (E := 4) (l := bools (seenL s [])) (g := w.heap.size) (by rw [seenL_nil, hCS]; exact alloc_new) (by rw [bools, List.length_map, seenL_len]; omega)
    rwa [show (bools (seenL s [])).length = s.N.length + 2 by rw [bools, List.length_map, seenL_len]] at this
  have hw0 : SlC ((w.alloc (.cells CS 4)).alloc (.cells #[] 3)) 3 (some ⟨w.heap.size + 1, 0, none⟩) 0 (ints []) := SlC.made (l := []) (hA rfl) (by simp)
  have hE2 : Ext w ((w.alloc (.cells CS 4)).alloc (.cells #[] 3)) := ext_
  obtain ⟨aw, cw, w3, hr3, hw3, hC3, hB3⟩ := SlC.appI hw0 (c := c) (Inp.ext hI hE2) (by simp; omega)
  rw [List.nil_append] at hr3 hw3
  have hs3 := (hs0.alloc (o := .cells #[] 3)).chg hC3 fun g hg h2 => by have h3 := blk_g h2; have h4 := blk_g hg; omega
  have hE3 : Ext w w3 := hC3.toExt hE2 fun k hk hf => by have := blk_g hf; omega
  have hnw3 : ∀ g, blk aw = some g → w.heap.size ≤ g := fun g hg => by
    rcases hB3 g hg with h | ⟨h, _⟩
    · have := blk_g h; omega
    · simp only [alloc_size] at h; omega
  have hp3 := hE3.at hp
  rw [hCS] at mb
  simp only [show ([] : List Int).length = 0 from rfl] at hr3
  clear hw0 hC3 hB3 hs0 hE2 hCS e2
  refine en2 Tryz.func29 Tryz.results29 mixed [] ?_
  intro e0 h0 h1
  refine w_ fun d => ?_
  obtain ⟨bs, hbs⟩ : ∃ b, w.heap.size = b := ⟨_, rfl⟩
  have hbs' : w.heap.size ≤ bs := by omega
  rw [hbs] at hs3 ⊢
  have hbq : Box (w.heap.size = bs) := ⟨hbs⟩
  clear hbs
  refine log_ (fun m W e u => ∃ (i : Nat) (aw : Option Addr) (cw : Nat) (wl K : List Int), e 7 = .int .i64 i ∧ e 6 = .slice aw wl.length cw ∧ i ≤ wl.length ∧ SlC u 3 aw cw (ints wl) ∧ (∀ g, blk aw = some g → w.heap.size ≤ g) ∧ SlC u 4 (some ⟨bs, 0, none⟩) (s.N.length + 2) (bools (seenL s K)) ∧ Ext w u ∧ Box (Rdf s rs K (wl.drop i)) ∧ Box (∀ x ∈ wl, x ≤ 9223372036854775807) ∧ wl.length ≤ rs.length + 2 * K.length ∧ 3 * (s.all.length - K.length) + (wl.length - i) = m) (3 * s.all.length + rs.length) ?_ ?_
  · exact ⟨0, aw, cw, rs, [], eA rfl, eA rfl, by omega, hw3.ext ext_, hnw3, hs3.ext ext_, hE3.trans ext_, ⟨.init⟩, ⟨hn⟩, by simp, by simp⟩
  clear hw3 hnw3 hs3 hE3 hp3 hn hr3 mb
  rintro m e u hf ⟨i, aw, cw, wl, K, h7, h6, hi, hW, hnw, hS, hE, ⟨hD⟩, ⟨hn⟩, hwl, hm⟩
  have hKl := hD.len W
  have hSN : ∀ j : Nat, j < s.N.length + 2 → (bools (seenL s K))[j]? = some (.bool (decide ((j : Int) ∈ K))) := fun j hj => by unfold bools; rw [List.getElem?_map, seenL_at hj]; rfl
  by_cases hil : i < wl.length
  rotate_left
  · -- all was met
    have hnil : wl.drop i = [] := List.drop_of_length_le (by omega)
    rw [hnil] at hD
    have hout := outTo_reach hD W
    have hil' : ¬ (i : Int) < wl.length := by omega
    clear hD hW hnw hn nd hnil
    refine w_ fun d => ?_
    refine lo_ (fun _ e u => ∃ (k : Nat) (a' : Option Addr) (c' : Nat), k ≤ s.N.length ∧ e 11 = .int .i64 ((k : Int) + 2) ∧ e 10 = .slice a' (outTo K k).length c' ∧ SlC u 3 a' c' (ints (outTo K k)) ∧ (∀ g, blk a' = some g → w.heap.size ≤ g ∧ g ≠ bs) ∧ SlC u 4 (some ⟨bs, 0, none⟩) (s.N.length + 2) (bools (seenL s K)) ∧ Ext w u) (fun e _ => s.N.length + 2 - nat (e 11)) ?_ ?_
    · exact ⟨0, none, 0, by omega, eA rfl, eA rfl, SlC.nil _ _, (fun g h => by cases h), hS.ext ext_, hE.trans ext_⟩
    clear hS hE
    rintro e2 x hf2 ⟨k, a', c', hk, h11, h10, hO, hno, hS, hE⟩
    have hol := outTo_len (K := K) (k := k)
    by_cases hkl : k < s.N.length
    rotate_left
    · obtain rfl : k = s.N.length := by omega
      rw [hout] at h10 hO
      clear hout hSN hS hol
      refine w_ fun d => ?_
      exact ⟨a', c', rfl, hO.ext ext_, fun g hg => by have := (hno g hg).1; obtain ⟨h⟩ := hbq; omega, ext_⟩
    have hsn := hSN (k + 2) (by omega)
    obtain ⟨gs, curs, hgse, hgs, hcs, hlts, hats⟩ := hS.at hsn
    cases hgse
    have lgs := lt_of_heap hgs
    have hos := outTo_succ (K := K) (k := k)
    rw [show ((k + 2 : Nat) : Int) = (k : Int) + 2 by omega] at hats
    have nl : (k : Int) + 2 < ((s.N.length + 2 : Nat) : Int) := by omega
    have tn : ((k : Int) + 2).toNat = k + 2 := by omega
    have e3 : (k : Int) + 2 + 1 = ((k + 1 : Nat) : Int) + 2 := by omega
    have p1 : ∀ {v}, Ext x v → SlC v 4 (some ⟨bs, 0, none⟩) (s.N.length + 2) (bools (seenL s K)) := fun h => hS.ext h
    by_cases hkK : (k : Int) + 2 ∈ K
    · rw [decide_eq_true hkK] at hats
      rw [if_pos (by simp [hkK])] at hos
      obtain ⟨a6, c6, w6, hr6, hO6, hC6, hs6, hB6⟩ := pushI hO (by omega) ((k : Int) + 2)
      have hS6 := hS.chg hC6 fun g hg h2 => (hno g h2).2 (blk_g hg).symm
      have hw6 : Ext w w6 := hC6.toExt hE fun g hg hb => by have := (hno g hb).1; omega
      have hl6 : (outTo K k ++ [(k : Int) + 2]).length = (outTo K k).length + 1 := by simp
      have hbx := lt_of_heap hgs
      have hno6 : ∀ g, blk a6 = some g → w.heap.size ≤ g ∧ g ≠ bs := fun g hg => by
        rcases hB6 g hg with h | ⟨h, _⟩
        · exact hno g h
        · have := hE.size; omega
      clear hO hC6 hB6 hS hsn hlts hkK hSN p1 hno hout hE
      refine w_ fun d => ?_
      exact ⟨⟨k + 1, a6, c6, by omega, (by rw [← e3]; exact eA rfl), by rw [hos, hl6]; exact eA rfl, by rw [hos]; exact hO6.ext ext_, hno6, hS6.ext ext_, hw6.trans ext_⟩, mA⟩
    · rw [decide_eq_false hkK] at hats
      rw [if_neg (by simp [hkK]), List.append_nil] at hos
      clear hS hsn hlts hkK hSN hout
      refine w_ fun d => ?_
      exact ⟨⟨k + 1, a', c', by omega, (by rw [← e3]; exact eA rfl), by rw [hos]; exact eA rfl, by rw [hos]; exact hO.ext ext_, hno, p1 ext_, hE.trans ext_⟩, mA⟩
  obtain ⟨n, hni⟩ : ∃ n, wl[i]? = some n := ⟨_, List.getElem?_eq_getElem hil⟩
  have hnm := List.mem_of_getElem? hni
  have hnb := hn n hnm
  have hdr : wl.drop i = n :: wl.drop (i + 1) := by
    rw [List.drop_eq_getElem_cons hil, (List.getElem?_eq_some_iff.1 hni).2]
  have hil' : (i : Int) < wl.length := by omega
  obtain ⟨gw, cur, rfl, hgw, hcw, hlt, hat⟩ := hW.at (i := i) (v := .int .i64 n) (by unfold ints; rw [List.getElem?_map, hni]; rfl)
  rw [List.length_map] at hcw
  have lg := lt_of_heap hgw
  have n1 := nd u hE n hnb
  have q1 : ∀ {v}, Ext u v → SlC v 3 (some ⟨gw, 0, none⟩) cw (ints wl) := fun h => hW.ext h
  have q2 : ∀ {v}, Ext u v → SlC v 4 (some ⟨bs, 0, none⟩) (s.N.length + 2) (bools (seenL s K)) := fun h => hS.ext h
  have q3 : ∀ {v}, Ext u v → Ext w v := fun h => hE.trans h
  have hsk : s.has n = false ∨ n ∈ K → Box (Rdf s rs K (wl.drop (i + 1))) := fun hk => ⟨hD.skip hk (fun x hx => by rw [hdr] at hx; rcases List.mem_cons.1 hx with h | h; exact .inl h; exact .inr h) (fun x hx => by rw [hdr]; exact List.mem_cons_of_mem _ hx)⟩
  cases hh : s.has n with
  | false =>
    rw [nod_no hh] at n1
    simp only [ndV] at n1
    have hsk' := hsk (.inl hh)
    clear hsk hD hdr hh hni hnm hSN nd hW hS hE hlt
    refine w_ fun d => ?_
    refine qq n1 fun u2 hE2 hs2 => ?_
    refine w_ fun d => ?_
    exact ⟨_, (by omega), i + 1, _, cw, wl, K, eA rfl, eA rfl, by omega, q1 (hE2.trans ext_), hnw, q2 (hE2.trans ext_), q3 (hE2.trans ext_), hsk', ⟨hn⟩, hwl, rfl⟩
  | true =>
    rw [nod_has hh] at n1
    have hln := W.lt hh
    have hsn := hSN n.toNat (by omega)
    rw [show ((n.toNat : Nat) : Int) = n by omega] at hsn
    obtain ⟨gs, curs, hgse, hgs, hcs, hlts, hats⟩ := hS.at hsn
    cases hgse
    have lgs := lt_of_heap hgs
    have n0 : 0 ≤ n := by omega
    have nl : n < ((s.N.length + 2 : Nat) : Int) := by omega
    have hne : gw ≠ bs := fun e => by rw [e, hgs] at hgw; cases hgw
    by_cases hK : n ∈ K
    · have hsk' := hsk (.inr hK)
      rw [decide_eq_true hK] at hats
      obtain ⟨⟨v, lo, hi'⟩, hz⟩ : ∃ z, s.nd n = z := ⟨_, rfl⟩
      rw [hz] at n1
      simp only [ndV] at n1
      clear hsk hD hdr hh hni hnm hSN nd hW hS hE hlt hsn hlts hz
      refine w_ fun d => ?_
      refine qq n1 fun u2 hE2 hs2 => ?_
      have hgw2 := hE2.at hgw
      have lg2 := lt_of_heap hgw2
      have hgs2 := hE2.at hgs
      have lgs2 := lt_of_heap hgs2
      refine w_ fun d => ?_
      exact ⟨_, (by omega), i + 1, _, cw, wl, K, eA rfl, eA rfl, by omega, q1 (hE2.trans ext_), hnw, q2 (hE2.trans ext_), q3 (hE2.trans ext_), hsk', ⟨hn⟩, hwl, rfl⟩
    · rw [decide_eq_false hK] at hats
      have ok := G.node n hh (by simp)
      have blo := (Md.below_lt W ok.lo).1
      have bhi := (Md.below_lt W ok.hi).1
      have hKl2 := hD.len' W hh hK
      have hD' : Rdf s rs (K ++ [n]) (wl.drop (i + 1) ++ [(s.nd n).2.1, (s.nd n).2.2]) := hD.go hh hK (by rw [hdr]; simp) (fun x hx => by rw [hdr] at hx; rcases List.mem_cons.1 hx with h | h; exact .inl h; exact .inr (by simp [h])) (fun x hx => by rw [hdr]; simp at hx ⊢; rcases hx with h | h | h <;> simp [h]) (by simp) (by simp)
      obtain ⟨⟨v, lo, hi'⟩, hz⟩ : ∃ z, s.nd n = z := ⟨_, rfl⟩
      rw [hz] at n1 hD' blo bhi
      simp only [ndV] at n1
      dsimp only at hD' blo bhi
      have hdr2 : wl.drop (i + 1) ++ [lo, hi'] = (wl ++ [lo, hi']).drop (i + 1) := by rw [List.drop_append_of_le_length (by omega)]
      rw [hdr2] at hD'
      have hnb2 : ∀ x ∈ wl ++ [lo, hi'], x ≤ 9223372036854775807 := fun x hx => by
        simp only [List.mem_append, List.mem_cons, List.not_mem_nil, or_false] at hx
        rcases hx with h | h | h
        · exact hn x h
        · omega
        · omega
      have hset : ∀ (v : World), SlC v 4 (some ⟨bs, 0, none⟩) (s.N.length + 2) (bools (seenL s K)) → v.heap[bs]? = some (.cells curs 4) → SlC (upd v bs (.cells (curs.setIfInBounds n.toNat (.bool true)) 4)) 4 (some ⟨bs, 0, none⟩) (s.N.length + 2) (bools (seenL s (K ++ [n]))) := fun v hv hb => by
        have := hv.set hb (i := n.toNat) (by rw [bools, List.length_map, seenL_len]; omega) (.bool true)
        have h2 := seenL_set (s := s) (K := K) (k := n.toNat) (by omega)
        rw [show ((n.toNat : Nat) : Int) = n by omega] at h2
        rw [← h2, bools, List.map_set]
        exact this
      clear hsk hD hdr hh hni hnm hSN nd hlt hsn hlts hz ok hdr2 hW hS hE
      have hats' : Box (curs[n.toNat]? = some (Value.bool false)) := ⟨hats⟩
      clear hats
      refine w_ fun d => ?_
      refine qq n1 fun u2 hE2 hs2 => ?_
      have hgw2 := hE2.at hgw
      have lg2 := lt_of_heap hgw2
      have hgs2 := hE2.at hgs
      have lgs2 := lt_of_heap hgs2
      refine w_ fun d => ?_
      refine at_o fun u3 hu3 => ?_
      have hE3 : Ext u2 u3 := by rw [hu3]; exact ext_
      have hx3 : u3.heap[u2.heap.size]? = some (.cells #[.int .i64 v, .int .i64 lo, .int .i64 hi'] 90) := by rw [hu3]; exact hA rfl
      have hE23 := hE2.trans hE3
      have hW3 := q1 hE23
      have hS3 := q2 hE23
      have hw3 := q3 hE23
      have hgw3 := hE3.at hgw2
      have lg3 := lt_of_heap hgw3
      have hgs3 := hE3.at hgs2
      have lgs3 := lt_of_heap hgs3
      obtain ⟨hats⟩ := hats'
      have hcz : n.toNat < curs.size := (Array.getElem?_eq_some_iff.1 hats).1
      have hxl := lt_of_heap hx3
      obtain ⟨bx, hbx⟩ : ∃ b, u2.heap.size = b := ⟨_, rfl⟩
      rw [hbx] at hx3 hxl ⊢
      have hxs : bx ≠ bs := fun e => by rw [e, hgs3] at hx3; cases hx3
      have hxg : bx ≠ gw := fun e => by rw [e, hgw3] at hx3; cases hx3
      clear hu3 hE2 hE3 hE23 hgw2 hgs2 lg2 lgs2 hbx q1 q2 q3 hs2
      -- the mark
      have hS4 := hset u3 hS3 hgs3
      obtain ⟨CB, hCB⟩ : ∃ C, curs.setIfInBounds n.toNat (.bool true) = C := ⟨_, rfl⟩
      rw [hCB] at hS4
      have hW4 := hW3.upd (b := bs) (o := .cells CB 4) (fun g hg => by rw [← blk_g hg]; exact hne)
      have hw4 : Ext w (upd u3 bs (.cells CB 4)) := hw3.upd hbs' _
      have hx4 : (upd u3 bs (.cells CB 4)).heap[bx]? = some (.cells #[.int .i64 v, .int .i64 lo, .int .i64 hi'] 90) := by rw [upd_other (Ne.symm hxs)]; exact hx3
      have hxl4 := lt_of_heap hx4
      obtain ⟨a6, c6, w6, hr6, hW6, hC6, hs6, hB6⟩ := pushI2 hW4 (by omega) lo hi'
      have hS6 := hS4.chg hC6 fun g hg h2 => by
        have e1 := blk_g hg
        have e2 := blk_g h2
        exact hne (e2.trans e1.symm)
      have hw6 : Ext w w6 := hC6.toExt hw4 fun g hg hb => by have := hnw g hb; omega
      have hnw6 : ∀ g, blk a6 = some g → w.heap.size ≤ g := fun g hg => by
        rcases hB6 g hg with h | ⟨h, _⟩
        · exact hnw g h
        · have := hw4.size; omega
      simp only [upd_size] at hr6
      have e1 : (wl ++ [lo, hi']).length = wl.length + 2 := by simp
      have e2 : (K ++ [n]).length = K.length + 1 := by simp
      subst hCB
      clear hC6 hB6 hS4 hW4 hw4 hW3 hS3 hw3 hset
      refine w_ fun d => ?_
      exact ⟨_, (by rw [e1, e2]; omega), i + 1, a6, c6, wl ++ [lo, hi'], K ++ [n], eA rfl, by rw [e1]; exact eA rfl, by rw [e1]; omega, hW6.ext ext_, hnw6, hS6.ext ext_, hw6.trans ext_, ⟨hD'⟩, ⟨hnb2⟩, by rw [e1, e2]; omega, rfl⟩
end
end Go.Proofs.YtpeindhocndmnaaGreat

namespace Go.Proofs.YtpeindhocndmnaaGreat
open Go Go.Bx
set_option linter.unusedSimpArgs false
set_option linter.unusedVariables false
set_option maxRecDepth 100000
set_option maxHeartbeats 4000000
attribute [local irreducible] X XO XE XF XD XW thenX inX retX kN CallsR
section
variable {own : Nat → Nat} {w : World} {p : Nat} {rs : List Int} {s : Md}
theorem rsSweep_calls {a : Option Addr} {c : Nat} (h : RsI own w p s) (G : s.Good []) (hI : InI w a rs) (hl : rs.length ≤ 1000000) (hn : ∀ n ∈ rs, n ≤ 9223372036854775807) :
    CallsR Tryz.prog 43 #[.pointer (some ⟨p, 0, none⟩), .slice a rs.length c] w fun r w' => r = .int .i64 (s.a.many - (s.sweep rs).a.many) ∧ TrS own w p (s.sweep rs) w' := by
  have W := G.wf
  have hN := wf_N W
  have hal : s.all.length ≤ 20000 := by have := allTo_len (s := s) (k := s.N.length); rw [allTo_all] at this; omega
  have hrl : (s.reach rs).length ≤ 20000 := Nat.le_trans (List.length_filter_le _ _) hal
  have hmem : ∀ m, decide (m ∈ s.reach rs) = s.keep rs m := fun m => by
    rw [Bool.eq_iff_iff, decide_eq_true_eq, W.mem_reach, Md.keep_iff]
  have c1 := fun u (hE : Ext w u) => rsReach_calls (c := c) (h.ext hE) G (Inp.ext hI hE) hl hn
  have own0 : ∀ k, w.heap.size ≤ k → own k = 0 := fun k hk => by
    cases ho : own k with
    | zero => rfl
    | succ q => have := h.lt k (by omega); omega
  clear hI hl hn
  refine en2 Tryz.func43 Tryz.results43 mixed [] ?_
  intro e0 h0 h1
  refine w_ fun d => ?_
  refine (c1 _ ext_).mono ?_
  rintro _ v2 ⟨aK, cK, rfl, hSK, hnK, hE1⟩
  have hEw : Ext w v2 := Ext.trans (by exact ext_) hE1
  have hI2 := h.ext hEw
  have hoK : ∀ g, blk aK = some g → own g = 0 := fun g hg => own0 g (by have := hnK g hg; omega)
  have hst : ∀ own1 x, Sw own v2 own1 x → SlC x 3 aK cK (ints (s.reach rs)) := fun own1 x hS => hSK.keep fun g hg => (hS.out (hSK.lt hg) (hoK g hg)).2
  clear c1 hE1 hnK hSK
  obtain ⟨Rc, hRc⟩ : ∃ R, s.reach rs = R := ⟨_, rfl⟩
  rw [hRc] at hst hmem hrl
  simp only [hRc]
  clear hRc
  refine w_ fun d => ?_
  refine lo_ (fun W e u => ∃ (j : Nat) (own1 : Nat → Nat), j ≤ 8 ∧ e 7 = .int .i64 j ∧ e 6 = .int .i64 (s.a.many - (s.swJ rs j).a.many) ∧ RsI own1 u p (s.swJ rs j) ∧ Sw own v2 own1 u) (fun e _ => 8 - nat (e 7)) ?_ ?_
  · exact ⟨0, own, by omega, eA rfl, (by rw [swJ_zero, Int.sub_self]; exact eA rfl), hI2.ext ext_, Sw.of_ext ext_⟩
  clear hI2
  rintro e2 x hf2 ⟨j, own1, hj, h7, h6, hIj, hSj⟩
  by_cases hj8 : j < 8
  rotate_left
  · obtain rfl : j = 8 := by omega
    rw [swJ_all W] at h6 hIj
    clear hst hmem
    refine w_ fun d => ?_
    exact ⟨rfl, own1, hIj.ext ext_, (Sw.of_ext hEw).trans (hSj.ext ext_)⟩
  obtain ⟨v, hv⟩ : ∃ v, s.ord[j]? = some v := ⟨_, List.getElem?_eq_getElem (by rw [W.ord.len]; omega)⟩
  have hL := SwL.at (rs := rs) G j hj
  have hJ := swJ_succ (rs := rs) hv
  rw [hL.thin G hv] at hJ
  obtain ⟨T, hT⟩ : ∃ T, s.swJ rs j = T := ⟨_, rfl⟩
  rw [hT] at hL hJ h6 hIj
  have GT := hL.swp.good
  have hTN : T.N = s.N := hL.swp.N
  have hTal : T.all.length ≤ 20000 := by have := allTo_len (s := T) (k := T.N.length); rw [allTo_all, hTN] at this; omega
  have cA := fun u (hE : Ext x u) => rsAll_calls (hIj.ext hE) GT.wf
  have own10 : ∀ k, x.heap.size ≤ k → own1 k = 0 := fun k hk => by
    cases ho : own1 k with
    | zero => rfl
    | succ q => have := hIj.lt k (by omega); omega
  refine w_ fun d => ?_
  refine (cA _ ext_).mono ?_
  rintro _ x2 ⟨aA, cA', rfl, hSA, hnA, hEA⟩
  have hEx : Ext x x2 := Ext.trans (by exact ext_) hEA
  have hI2 := hIj.ext hEx
  have hSx := hSj.ext hEx
  have hoA : ∀ g, blk aA = some g → own1 g = 0 := fun g hg => own10 g (by have := hnA g hg; omega)
  have hstA : ∀ own2 y, Sw own1 x2 own2 y → SlC y 3 aA cA' (ints T.all) := fun own2 y hS => hSA.keep fun g hg => (hS.out (hSA.lt hg) (hoA g hg)).2
  clear cA hEA hnA hSA hIj hSj hoA own10 hEx
  refine w_ fun d => ?_
  refine lo_ (fun W e u => ∃ (i : Nat) (own2 : Nat → Nat), i ≤ T.all.length ∧ e 9 = .int .i64 i ∧ e 6 = .int .i64 (s.a.many - (T.dropV (s.keep rs) v (T.all.take i)).a.many) ∧ RsI own2 u p (T.dropV (s.keep rs) v (T.all.take i)) ∧ Sw own1 x2 own2 u) (fun e _ => T.all.length - nat (e 9)) ?_ ?_
  · exact ⟨0, own1, by omega, eA rfl, eA h6, hI2.ext ext_, Sw.of_ext ext_⟩
  clear h6 hI2
  rintro e3 y hf3 ⟨i, own2, hi, h9, h6, hI, hS⟩
  have hSv := hSx.trans hS
  by_cases hil : i < T.all.length
  rotate_left
  · obtain rfl : i = T.all.length := by omega
    rw [List.take_length, ← hJ] at h6 hI
    clear hst hstA hL hmem
    refine w_ fun d => ?_
    exact ⟨⟨j + 1, own2, by omega, eA rfl, eA h6, hI.ext ext_, hSv.ext ext_⟩, mA⟩
  obtain ⟨hSw, hAh⟩ := hL.in G hv (T.all.take i)
  have hhas := (Swp.lev (rs := rs) G (T.all.take i) hL.swp (hL.ahd G hv)).2.2
  obtain ⟨n, hn⟩ : ∃ n, T.all[i]? = some n := ⟨_, List.getElem?_eq_getElem hil⟩
  have hTn := GT.wf.mem_all.1 (List.mem_of_getElem? hn)
  have hnt : n ∉ T.all.take i := fun hm => by
    have h3 := Md.nodup_all (s := T)
    rw [← List.take_append_drop i T.all, List.nodup_append] at h3
    exact h3.2.2 n hm n (List.mem_of_getElem? (i := 0) (by rw [List.getElem?_drop]; simpa using hn)) rfl
  have hUn := hhas n
  rw [hTn] at hUn
  simp only [decide_eq_false hnt, Bool.false_and, Bool.not_false, Bool.and_true] at hUn
  have hD := dropV_take (t := T) (v := v) hn (s.keep rs)
  have hln := GT.wf.lt hTn
  rw [hTN] at hln
  obtain ⟨U, hU⟩ : ∃ U, T.dropV (s.keep rs) v (T.all.take i) = U := ⟨_, rfl⟩
  rw [hU] at hD hSw hAh h6 hI hUn
  have hUN : U.N = s.N := hSw.N
  have WU := hSw.good.wf
  have hSl := hstA _ _ hS
  have hSK := hst _ _ hSv
  have iq := rin7_calls (c := cK) hSK.inp (by omega) n
  rw [hmem] at iq
  have hfr := fun z own3 (hIz : RsI own3 z p U) => rsFree_calls hIz WU (n := n) (by omega)
  obtain ⟨g, cur, rfl, hg, hc, hlt3, hat3⟩ := hSl.at (i := i) (v := .int .i64 n) (by unfold ints; rw [List.getElem?_map, hn]; rfl)
  rw [List.length_map] at hc
  have lg := lt_of_heap hg
  have hmU := WU.ar.many_le
  have hms := W.ar.many_le
  have hmoU := WU.ar.most
  have hmo := W.ar.most
  obtain ⟨pa, na, nc, sc, oc, hX⟩ := id hI
  have hp := hX.at_
  have cn := hX.rc.c1
  have ox := hX.rc.at_ord hX.oc (show U.ord[j]? = some v by rw [hSw.ord]; exact hv)
  have hsz := hX.rc.size
  have hpl := lt_of_heap hp
  obtain ⟨⟨v', lo, hi'⟩, hz⟩ : ∃ z, U.N[(n - 2).toNat]? = some z := ⟨_, List.getElem?_eq_getElem (by rw [hUN]; omega)⟩
  have hnd : U.nd n = (v', lo, hi') := by unfold Md.nd; rw [List.getD, hz]; rfl
  obtain ⟨g2, cur2, rfl, hg2, hc2, hlt2, x0, x1, x2', hsz3, hex⟩ := hX.no.at hz
  have hgl2 := lt_of_heap hg2
  rw [hUN] at cn hlt2
  have hl0 : 0 ≤ n - 2 := by omega
  have hN' : n ≤ 1000000 := by omega
  have hjn : (j : Int) < 8 := by omega
  have hiT : (i : Int) < T.all.length := by omega
  have hng : n - 2 < (s.N.length : Int) := by omega
  clear hst hstA hL hhas hnt hTn hX hz hSl hSK hmem hJ hn
  by_cases hvv : v' = v
  · subst hvv
    have hof : U.of n v' = true := by unfold Md.of; rw [hUn, hnd]; simp
    cases hk : s.keep rs n with
    | true =>
      rw [hk] at iq
      rw [drop1_no (show (U.of n v' && !s.keep rs n) = false by rw [hk]; simp)] at hD
      rw [← hD] at h6 hI
      clear hfr hSw hAh hD WU hnd hUn hof hk
      refine w_ fun d => ?_
      intro y2 hEy hsy
      refine w_ fun d => ?_
      exact ⟨⟨i + 1, own2, by omega, eA rfl, eA h6, (hI.ext hEy).ext ext_, (hS.ext hEy).ext ext_⟩, mA⟩
    | false =>
      rw [hk] at iq
      obtain ⟨hF, hM⟩ := hSw.freed G hAh hof hk
      rw [drop1_yes hof hk] at hD
      rw [hF] at hfr
      clear hSw hAh WU hnd hUn hof hk hF
      refine w_ fun d => ?_
      intro y2 hEy hsy
      have hgy := hEy.at hg
      have hgly := lt_of_heap hgy
      refine w_ fun d => ?_
      refine (hfr _ own2 ((hI.ext hEy).ext ext_)).mono ?_
      rintro _ y3 ⟨rfl, own3, hI3, hS3⟩
      have hS4 := (hS.ext (hEy.trans ext_)).trans hS3
      refine w_ fun d => ?_
      rw [← hD] at hI3
      exact ⟨⟨i + 1, own3, by omega, eA rfl, (by rw [hD, hM, show s.a.many - (U.a.many - 1) = s.a.many - U.a.many + 1 by omega]; exact eA rfl), hI3.ext ext_, hS4.ext ext_⟩, mA⟩
  · rw [drop1_no (show (U.of n v && !s.keep rs n) = false by unfold Md.of; rw [hnd, decide_eq_false hvv, Bool.and_false]; rfl)] at hD
    rw [← hD] at h6 hI
    have hvb : (v' == v) = false := by simpa using hvv
    clear hfr hSw hAh hD WU iq hnd hUn
    refine w_ fun d => ?_
    exact ⟨⟨i + 1, own2, by omega, eA rfl, eA h6, hI.ext ext_, hS.ext ext_⟩, mA⟩
end
end Go.Proofs.YtpeindhocndmnaaGreat

namespace Go.Proofs.YtpeindhocndmnaaGreat
open Go Go.Bx
set_option linter.unusedSimpArgs false
set_option linter.unusedVariables false
set_option maxRecDepth 100000
set_option maxHeartbeats 4000000
attribute [local irreducible] X XO XE XF XD XW thenX inX retX kN CallsR
structure MvM (own : Nat → Nat) (w : World) (p : Nat) (s : Md) (rs : List Int) (ar : Option Addr) (cr : Nat) : Prop where
  rsi : RsI own w p s
  sl : SlC w 3 ar cr (ints rs)
  ow : ∀ g, blk ar = some g → own g = 0
section
variable {own own' : Nat → Nat} {w w' : World} {p : Nat} {s s' : Md} {rs : List Int} {ar : Option Addr} {cr : Nat} {v : Int}
theorem MvM.up (h : MvM own w p s rs ar cr) (hE : Ext w w') : MvM own w' p s rs ar cr := ⟨h.rsi.ext hE, h.sl.ext hE, h.ow⟩
theorem MvM.turn (h : MvM own w p s rs ar cr) (hS : Sw own w own' w') (hI : RsI own' w' p s') : MvM own' w' p s' rs ar cr := ⟨hI, hS.slc h.sl h.ow, fun g hg => hS.own0 (h.sl.lt hg) (h.ow g hg)⟩
theorem rsStep_calls (h : MvM own w p s rs ar cr) (G : s.Good []) (hv : 0 ≤ v ∧ v < 8) (hl : rs.length ≤ 1000000) (hn : ∀ n ∈ rs, n ≤ 9223372036854775807) (down : Bool) :
    CallsR Tryz.prog 45 #[.pointer (some ⟨p, 0, none⟩), .slice ar rs.length cr, .int .i64 v, .bool down] w fun r w' => ∃ own', r = .bool (s.step rs v down).1 ∧ MvM own' w' p (s.step rs v down).2 rs ar cr ∧ Sw own w own' w' := by
  have hlv := G.wf.ord.lt hv
  obtain ⟨lv, hlv'⟩ : ∃ lv, lv = if down then lvl s.ord v else lvl s.ord v - 1 := ⟨_, rfl⟩
  rw [step_eq hlv']
  obtain ⟨Gs, _, hbad⟩ := G.swap lv
  have G2 := Gs.good
  have c1 := fun u (hE : Ext w u) => rsSwap_calls (h.rsi.ext hE) G lv
  obtain ⟨⟨e, s2⟩, hR⟩ : ∃ R, s.swap lv = R := ⟨_, rfl⟩
  rw [hR] at c1 G2 hbad ⊢
  dsimp only at c1 G2 hbad ⊢
  have c2 := fun own u (hu : MvM own u p s2 rs ar cr) => rsSweep_calls (c := cr) hu.rsi G2 hu.sl.inp hl hn
  obtain ⟨pa, na, nc, sc, oc, hX⟩ := id h.rsi
  have hp := hX.at_
  have hpl := lt_of_heap hp
  have co := hX.rc.co
  have hsz := hX.rc.size
  have lq := refLevel_oc hX.oc v
  clear hX hR Gs G hl hn
  cases down with
  | true =>
    simp only [if_true] at hlv'
    subst hlv'
    refine en4 Tryz.func45 Tryz.results45 mixed [] ?_
    intro e0 h0 h1 h2 h3
    refine w_ fun d => ?_
    refine qq (lq.quiet (w := w)) fun u1 hE1 hs1 => ?_
    refine w_ fun d => ?_
    refine (c1 _ (hE1.trans ext_)).mono ?_
    rintro _ u2 ⟨rfl, own2, hI2, hS2⟩
    have hSw2 : Sw own w own2 u2 := (Sw.of_ext (hE1.trans ext_)).trans hS2
    have hM2 := h.turn hSw2 hI2
    clear c1 hI2 hS2 hp hpl
    by_cases he : e = 0
    · subst he
      simp only [if_true]
      refine w_ fun d => ?_
      refine (c2 _ _ (hM2.up (by exact ext_))).mono ?_
      rintro _ u3 ⟨rfl, own3, hI3, hS3⟩
      have hS23 : Sw own2 u2 own3 u3 := (Sw.of_ext (by exact ext_)).trans hS3
      have hM3 := hM2.turn hS23 hI3
      have hSw3 := hSw2.trans hS23
      clear c2 hM2 hI3 hS3 hS23 hSw2
      refine w_ fun d => ?_
      exact ⟨own3, rfl, hM3.up ext_, hSw3.ext ext_⟩
    · rw [hbad he] at hM2
      rw [if_neg he]
      have heb : (e == 0) = false := by simpa using he
      clear c2
      refine w_ fun d => ?_
      exact ⟨own2, rfl, hM2.up ext_, hSw2.ext ext_⟩
  | false =>
    simp only [Bool.false_eq_true, if_false] at hlv'
    subst hlv'
    refine en4 Tryz.func45 Tryz.results45 mixed [] ?_
    intro e0 h0 h1 h2 h3
    refine w_ fun d => ?_
    refine qq (lq.quiet (w := w)) fun u1 hE1 hs1 => ?_
    refine w_ fun d => ?_
    refine (c1 _ (hE1.trans ext_)).mono ?_
    rintro _ u2 ⟨rfl, own2, hI2, hS2⟩
    have hSw2 : Sw own w own2 u2 := (Sw.of_ext (hE1.trans ext_)).trans hS2
    have hM2 := h.turn hSw2 hI2
    clear c1 hI2 hS2 hp hpl
    by_cases he : e = 0
    · subst he
      simp only [if_true]
      refine w_ fun d => ?_
      refine (c2 _ _ (hM2.up (by exact ext_))).mono ?_
      rintro _ u3 ⟨rfl, own3, hI3, hS3⟩
      have hS23 : Sw own2 u2 own3 u3 := (Sw.of_ext (by exact ext_)).trans hS3
      have hM3 := hM2.turn hS23 hI3
      have hSw3 := hSw2.trans hS23
      clear c2 hM2 hI3 hS3 hS23 hSw2
      refine w_ fun d => ?_
      exact ⟨own3, rfl, hM3.up ext_, hSw3.ext ext_⟩
    · rw [hbad he] at hM2
      rw [if_neg he]
      have heb : (e == 0) = false := by simpa using he
      clear c2
      refine w_ fun d => ?_
      exact ⟨own2, rfl, hM2.up ext_, hSw2.ext ext_⟩
end
end Go.Proofs.YtpeindhocndmnaaGreat

namespace Go.Proofs.YtpeindhocndmnaaGreat
open Go Go.Bx
set_option linter.unusedSimpArgs false
set_option linter.unusedVariables false
set_option maxRecDepth 100000
set_option maxHeartbeats 4000000
attribute [local irreducible] X XO XE XF XD XW thenX inX retX kN CallsR
section
variable {own own' : Nat → Nat} {w w' : World} {p : Nat} {s s' : Md} {rs : List Int} {ar : Option Addr} {cr : Nat} {v grow : Int}
theorem rsFacts (h : RsI own w p s) (W : s.WF) : ∃ sc oc pa, ∃ K : Nat, ∃ ta tc C, w.heap[p]? = some (.cells sc 84) ∧ sc.size = 10 ∧ sc[0]? = some (.pointer (some ⟨pa, 0, none⟩)) ∧ sc.extract 2 10 = oc ∧ OrdC s.ord oc ∧ w.heap[pa]? = some (.cells C 86) ∧ C.size = 4 ∧ C[1]? = some (.slice ta K tc) ∧ (K : Int) = s.a.many := by
  obtain ⟨pa, na, nc, sc, oc, h⟩ := h
  obtain ⟨K, ta, tc, fa, fc, hA⟩ := h.ar
  exact ⟨sc, oc, pa, K.length, ta, tc, _, h.at_, h.rc.size, h.rc.c0, h.rc.co, h.oc, hA.at_, rfl, rfl, hA.len W.ar⟩
theorem rsSiftNo_calls {a : Option Addr} {c : Nat} (hno : v < 0 ∨ 8 ≤ v ∨ grow < 0) : Quiet Tryz.prog 13 #[.pointer (some ⟨p, 0, none⟩), .slice a rs.length c, .int .i64 v, .int .i64 grow] w (.int .i64 1) := by
  intro u hu
  clear hu
  by_cases h0' : v < 0
  · clear hno
    refine en4 Tryz.func13 Tryz.results13 mixed [] ?_
    intro e0 h0 h1 h2 h3
    refine w_ fun d => ?_
    exact ⟨rfl, ext_⟩
  · by_cases h1' : 7 < v
    · clear hno
      refine en4 Tryz.func13 Tryz.results13 mixed [] ?_
      intro e0 h0 h1 h2 h3
      refine w_ fun d => ?_
      exact ⟨rfl, ext_⟩
    · have hg : grow < 0 := by omega
      clear hno
      refine en4 Tryz.func13 Tryz.results13 mixed [] ?_
      intro e0 h0 h1 h2 h3
      refine w_ fun d => ?_
      exact ⟨rfl, ext_⟩
theorem rsSift_calls (h : MvM own w p s rs ar cr) (G : s.Good []) (hl : rs.length ≤ 1000000) (hn : ∀ n ∈ rs, n ≤ 9223372036854775807) (hv : 0 ≤ v ∧ v < 8) (hg : 0 ≤ grow) :
    CallsR Tryz.prog 13 #[.pointer (some ⟨p, 0, none⟩), .slice ar rs.length cr, .int .i64 v, .int .i64 grow] w fun r w' => r = .int .i64 0 ∧ ∃ own', MvM own' w' p (s.sift rs v grow) rs ar cr ∧ Sw own w own' w' := by
  have c1 := fun u (hE : Ext w u) => rsSweep_calls (c := cr) (h.rsi.ext hE) G (h.sl.ext hE).inp hl hn
  have S := G.swept (rs := rs)
  have G1 := S.swp.good
  have v7 : ¬ 7 < v := by omega
  have v0 : ¬ v < 0 := by omega
  have hg' : ¬ grow < 0 := by omega
  unfold Md.sift
  generalize s.sweep rs = s1 at *
  obtain ⟨X1, hX1⟩ : ∃ X, Lk.go rs v grow true 8 ⟨s1, lvl s1.ord v, s1.a.many⟩ = X := ⟨_, rfl⟩
  obtain ⟨X2, hX2⟩ : ∃ X, Lk.go rs v grow false 8 X1 = X := ⟨_, rfl⟩
  simp only [hX1, hX2]
  have r1 := go_rng (rs := rs) (grow := grow) (down := true) hv 8 ⟨s1, lvl s1.ord v, s1.a.many⟩ G1 (G1.wf.ord.lt hv)
  have g1 := go_good (rs := rs) (grow := grow) (down := true) hv 8 ⟨s1, lvl s1.ord v, s1.a.many⟩ G1
  rw [hX1] at r1 g1
  have r2 := go_rng (rs := rs) (grow := grow) (down := false) hv 8 X1 g1 r1
  rw [hX2] at r2
  clear r1 g1
  refine en4 Tryz.func13 Tryz.results13 mixed [] ?_
  intro e0 h0 h1 h2 h3
  refine w_ fun d => ?_
  refine (c1 _ ext_).mono ?_
  rintro _ u1 ⟨rfl, own1, hI1, hS1⟩
  have hSw1 : Sw own w own1 u1 := (Sw.of_ext (by exact ext_)).trans hS1
  have hM1 := h.turn hSw1 hI1
  obtain ⟨sc, oc, pa, K, ta, tc, C, hp, hsz, c0, co, hoc, hpa, hCs, hC1, hK⟩ := rsFacts hI1 G1.wf
  have lq := refLevel_oc hoc v
  have hpl := lt_of_heap hp
  have hpal := lt_of_heap hpa
  clear c1 h hI1 hS1 S G hoc
  refine w_ fun d => ?_
  refine qq (lq.quiet (w := u1)) fun u2 hE2 hs2 => ?_
  have hp2 := hE2.at hp
  have hpa2 := hE2.at hpa
  have hpl2 := lt_of_heap hp2
  have hpal2 := lt_of_heap hpa2
  refine w_ fun d => ?_
  have hM2 := hM1.up (hE2.trans (by exact ext_))
  refine lo_ (fun _ e u => ∃ (j : Nat) (x : Lk) (ow : Nat → Nat), j ≤ 2 ∧ e 11 = .int .i64 j ∧ e 9 = .int .i64 x.best ∧ e 10 = .int .i64 x.few ∧ MvM ow u p x.s rs ar cr ∧ Box (x.s.Good []) ∧ Sw own w ow u ∧ Box ((j = 0 ∧ x = ⟨s1, lvl s1.ord v, s1.a.many⟩) ∨ (j = 1 ∧ x = X1) ∨ (j = 2 ∧ x = X2))) (fun e _ => 2 - nat (e 11)) ?_ ?_
  · exact ⟨0, ⟨s1, lvl s1.ord v, s1.a.many⟩, own1, by omega, eA rfl, eA rfl, (by rw [← hK]; exact eA rfl), hM1.up (hE2.trans ext_), ⟨G1⟩, hSw1.ext (hE2.trans ext_), ⟨.inl ⟨rfl, rfl⟩⟩⟩
  clear hM1 hM2 hSw1 G1 hp hpa hp2 hpa2 hpl hpal hpl2 hpal2 c0 co hC1 hCs hsz hK lq
  rintro e u hf ⟨j, x, ow, hj, h11, h9, h10, hM, ⟨G⟩, hSw, ⟨hx⟩⟩
  by_cases hj2 : j < 2
  rotate_left
  · obtain rfl : j = 2 := by omega
    obtain rfl : x = X2 := by
      rcases hx with ⟨h, _⟩ | ⟨h, _⟩ | ⟨_, h⟩
      · cases h
      · cases h
      · exact h
    clear hx hX1 hX2
    have hlv := G.wf.ord.lt hv
    obtain ⟨Rf, hRf⟩ : ∃ z, Md.back rs v x.best 8 x.s = z := ⟨_, rfl⟩
    rw [hRf]
    obtain ⟨S7, B7, F7⟩ := x
    dsimp only at h9 h10 hM G r2 hRf hlv
    refine w_ fun d => ?_
    refine log_ (fun k W e u => ∃ (s : Md) (ow : Nat → Nat), MvM ow u p s rs ar cr ∧ Box (s.Good []) ∧ Sw own w ow u ∧ Box (Md.back rs v B7 k s = Rf) ∧ (B7 - lvl s.ord v ≤ k ∧ lvl s.ord v - B7 ≤ k)) 8 ?_ ?_
    · exact ⟨S7, ow, hM.up ext_, ⟨G⟩, hSw.ext ext_, ⟨hRf⟩, by omega⟩
    clear hM hSw hRf G hlv
    rintro k e9 u9 hf9 ⟨s, ow, hM, ⟨G⟩, hSw, ⟨hbk⟩, hd1, hd2⟩
    have hlv := G.wf.ord.lt hv
    obtain ⟨sc, oc, pa, K, ta, tc, C, hp, hsz, c0, co, hoc, hpa, hCs, hC1, hK⟩ := rsFacts hM.rsi G.wf
    have lq := refLevel_oc hoc v
    have hpl := lt_of_heap hp
    clear hoc hpa hCs hC1 hK c0
    by_cases hxx : lvl s.ord v = B7
    · rw [back_end hxx] at hbk
      subst hbk
      have hbx : (lvl s.ord v == B7) = true := by simpa using hxx
      obtain ⟨L7, hL7⟩ : ∃ z, lvl s.ord v = z := ⟨_, rfl⟩
      rw [hL7] at lq hxx hbx
      subst hxx
      have fin : ∀ {u}, Ext u9 u → ∃ own', MvM own' u p s rs ar cr ∧ Sw own w own' u := fun h => ⟨ow, hM.up h, hSw.ext h⟩
      clear hM hSw G hlv hL7 hd1 hd2
      refine w_ fun d => ?_
      refine qq (lq.quiet (w := u9)) fun y1 hE1 hs1 => ?_
      refine w_ fun d => ?_
      exact ⟨rfl, fin (hE1.trans ext_)⟩
    have hbx : (lvl s.ord v == B7) = false := by simpa using hxx
    obtain ⟨k, rfl⟩ : ∃ q, k = q + 1 := ⟨k - 1, by omega⟩
    by_cases hlt : lvl s.ord v < B7
    · have hdd : decide (lvl s.ord v < B7) = true := decide_eq_true hlt
      have c1 := fun u2 (hE : Ext u9 u2) => rsStep_calls (hM.up hE) G hv hl hn true
      cases hs : (s.step rs v true).1 with
      | false =>
        rw [hs] at c1
        rw [step_no hs] at c1
        rw [back_no hxx hdd hs] at hbk
        subst hbk
        obtain ⟨L7, hL7⟩ : ∃ z, lvl s.ord v = z := ⟨_, rfl⟩
        rw [hL7] at lq hxx hbx hlt
        clear hM G hlv hL7 hd1 hd2 hdd hs
        refine w_ fun d => ?_
        refine qq (lq.quiet (w := u9)) fun y1 hE1 hs1 => ?_
        have hp1 := hE1.at hp
        have hpl1 := lt_of_heap hp1
        refine w_ fun d => ?_
        refine qq (lq.quiet (w := y1)) fun y2 hE2 hs2 => ?_
        refine w_ fun d => ?_
        refine (c1 _ ((hE1.trans hE2).trans ext_)).mono ?_
        rintro _ y3 ⟨ow2, rfl, hM3, hS3⟩
        have hSw3 := (hSw.ext ((hE1.trans hE2).trans (by exact ext_))).trans hS3
        have fin : ∀ {u}, Ext y3 u → ∃ own', MvM own' u p s rs ar cr ∧ Sw own w own' u := fun h => ⟨ow2, hM3.up h, hSw3.ext h⟩
        clear c1 hSw hS3
        refine w_ fun d => ?_
        exact ⟨rfl, fin ext_⟩
      | true =>
        obtain ⟨G2, hl2⟩ := step_good G hv hs
        rw [hs] at c1
        rw [back_yes hxx hdd hs] at hbk
        obtain ⟨s2, hs2⟩ : ∃ z, (s.step rs v true).2 = z := ⟨_, rfl⟩
        rw [hs2] at c1 G2 hl2 hbk
        have hd1' : B7 - lvl s2.ord v ≤ k ∧ lvl s2.ord v - B7 ≤ k := by rw [hl2]; simp; omega
        obtain ⟨L7, hL7⟩ : ∃ z, lvl s.ord v = z := ⟨_, rfl⟩
        rw [hL7] at lq hxx hbx hlt
        clear hM G hlv hL7 hd1 hd2 hdd hs hs2 hl2
        refine w_ fun d => ?_
        refine qq (lq.quiet (w := u9)) fun y1 hE1 hs1 => ?_
        have hp1 := hE1.at hp
        have hpl1 := lt_of_heap hp1
        refine w_ fun d => ?_
        refine qq (lq.quiet (w := y1)) fun y2 hE2 hs2 => ?_
        refine w_ fun d => ?_
        refine (c1 _ ((hE1.trans hE2).trans ext_)).mono ?_
        rintro _ y3 ⟨ow2, rfl, hM3, hS3⟩
        have hSw3 := (hSw.ext ((hE1.trans hE2).trans (by exact ext_))).trans hS3
        clear c1 hSw hS3
        refine w_ fun d => ?_
        exact ⟨k, by omega, s2, ow2, hM3.up ext_, ⟨G2⟩, hSw3.ext ext_, ⟨hbk⟩, hd1'⟩
    · have hdd : decide (lvl s.ord v < B7) = false := decide_eq_false hlt
      have c1 := fun u2 (hE : Ext u9 u2) => rsStep_calls (hM.up hE) G hv hl hn false
      cases hs : (s.step rs v false).1 with
      | false =>
        rw [hs] at c1
        rw [step_no hs] at c1
        rw [back_no hxx hdd hs] at hbk
        subst hbk
        obtain ⟨L7, hL7⟩ : ∃ z, lvl s.ord v = z := ⟨_, rfl⟩
        rw [hL7] at lq hxx hbx hlt
        clear hM G hlv hL7 hd1 hd2 hdd hs
        refine w_ fun d => ?_
        refine qq (lq.quiet (w := u9)) fun y1 hE1 hs1 => ?_
        have hp1 := hE1.at hp
        have hpl1 := lt_of_heap hp1
        refine w_ fun d => ?_
        refine qq (lq.quiet (w := y1)) fun y2 hE2 hs2 => ?_
        refine w_ fun d => ?_
        refine (c1 _ ((hE1.trans hE2).trans ext_)).mono ?_
        rintro _ y3 ⟨ow2, rfl, hM3, hS3⟩
        have hSw3 := (hSw.ext ((hE1.trans hE2).trans (by exact ext_))).trans hS3
        have fin : ∀ {u}, Ext y3 u → ∃ own', MvM own' u p s rs ar cr ∧ Sw own w own' u := fun h => ⟨ow2, hM3.up h, hSw3.ext h⟩
        clear c1 hSw hS3
        refine w_ fun d => ?_
        exact ⟨rfl, fin ext_⟩
      | true =>
        obtain ⟨G2, hl2⟩ := step_good G hv hs
        rw [hs] at c1
        rw [back_yes hxx hdd hs] at hbk
        obtain ⟨s2, hs2⟩ : ∃ z, (s.step rs v false).2 = z := ⟨_, rfl⟩
        rw [hs2] at c1 G2 hl2 hbk
        have hd1' : B7 - lvl s2.ord v ≤ k ∧ lvl s2.ord v - B7 ≤ k := by rw [hl2]; simp; omega
        obtain ⟨L7, hL7⟩ : ∃ z, lvl s.ord v = z := ⟨_, rfl⟩
        rw [hL7] at lq hxx hbx hlt
        clear hM G hlv hL7 hd1 hd2 hdd hs hs2 hl2
        refine w_ fun d => ?_
        refine qq (lq.quiet (w := u9)) fun y1 hE1 hs1 => ?_
        have hp1 := hE1.at hp
        have hpl1 := lt_of_heap hp1
        refine w_ fun d => ?_
        refine qq (lq.quiet (w := y1)) fun y2 hE2 hs2 => ?_
        refine w_ fun d => ?_
        refine (c1 _ ((hE1.trans hE2).trans ext_)).mono ?_
        rintro _ y3 ⟨ow2, rfl, hM3, hS3⟩
        have hSw3 := (hSw.ext ((hE1.trans hE2).trans (by exact ext_))).trans hS3
        clear c1 hSw hS3
        refine w_ fun d => ?_
        exact ⟨k, by omega, s2, ow2, hM3.up ext_, ⟨G2⟩, hSw3.ext ext_, ⟨hbk⟩, hd1'⟩
  have hcase : (j = 0 ∧ x = ⟨s1, lvl s1.ord v, s1.a.many⟩) ∨ (j = 1 ∧ x = X1) := by
    rcases hx with h | h | ⟨h, _⟩
    · exact .inl h
    · exact .inr h
    · omega
  clear hx hj hj2
  rcases hcase with ⟨rfl, rfl⟩ | ⟨rfl, rfl⟩
  · have hYg : Lk.go rs v grow true 8 (⟨s1, lvl s1.ord v, s1.a.many⟩ : Lk) = X1 := hX1
    have hlv0 := G.wf.ord.lt hv
    refine w_ fun d => ?_
    refine log_ (fun k W e u => ∃ (x : Lk) (ow : Nat → Nat), e 9 = .int .i64 x.best ∧ e 10 = .int .i64 x.few ∧ MvM ow u p x.s rs ar cr ∧ Box (x.s.Good []) ∧ Sw own w ow u ∧ Box (Lk.go rs v grow true k x = X1) ∧ 7 - lvl x.s.ord v ≤ (k : Int)) 8 ?_ ?_
    · exact ⟨(⟨s1, lvl s1.ord v, s1.a.many⟩ : Lk), ow, eA h9, eA h10, hM.up ext_, ⟨G⟩, hSw.ext ext_, ⟨hYg⟩, by first | omega | (dsimp only at hlv0 ⊢; omega)⟩
    clear hM hSw hYg G hlv0 h9 h10 hX1 hX2
    rintro k e9 u9 hf9 ⟨x, ow, h9, h10, hM, ⟨G⟩, hSw, ⟨hgo⟩, hd⟩
    have hlv := G.wf.ord.lt hv
    obtain ⟨sc, oc, pa, K, ta, tc, C, hp, hsz, c0, co, hoc, hpa, hCs, hC1, hK⟩ := rsFacts hM.rsi G.wf
    have lq := refLevel_oc hoc v
    have hpl := lt_of_heap hp
    clear hoc hpa hCs hC1 hK c0
    by_cases hxx : lvl x.s.ord v = 7
    · rw [go_end (by simpa using hxx)] at hgo
      subst hgo
      have hM' : ∀ {u}, Ext u9 u → MvM ow u p x.s rs ar cr := fun h => hM.up h
      have hSw' : ∀ {u}, Ext u9 u → Sw own w ow u := fun h => hSw.ext h
      obtain ⟨L7, hL7⟩ : ∃ z, lvl x.s.ord v = z := ⟨_, rfl⟩
      rw [hL7] at lq hxx
      subst hxx
      clear hM hSw hlv hL7 hd
      refine w_ fun d => ?_
      refine qq (lq.quiet (w := u9)) fun y1 hE1 hs1 => ?_
      refine w_ fun d => ?_
      exact ⟨⟨1, x, ow, by omega, eA rfl, eA h9, eA h10, hM' (hE1.trans ext_), ⟨G⟩, hSw' (hE1.trans ext_), ⟨.inr (.inl ⟨rfl, rfl⟩)⟩⟩, mA⟩
    have hxb : (lvl x.s.ord v == 7) = false := by simpa using hxx
    have hxe : ¬ lvl x.s.ord v = (if true then 7 else 0) := by simpa using hxx
    obtain ⟨k, rfl⟩ : ∃ q, k = q + 1 := ⟨k - 1, by omega⟩
    have c1 := fun u2 (hE : Ext u9 u2) => rsStep_calls (hM.up hE) G hv hl hn true
    cases hs : (x.s.step rs v true).1 with
    | false =>
      rw [hs] at c1
      rw [step_no hs] at c1
      rw [go_no hxe hs] at hgo
      subst hgo
      obtain ⟨L7, hL7⟩ : ∃ z, lvl x.s.ord v = z := ⟨_, rfl⟩
      rw [hL7] at lq hxx hxb
      clear hM hlv hL7 hd hxe hs
      refine w_ fun d => ?_
      refine qq (lq.quiet (w := u9)) fun y1 hE1 hs1 => ?_
      refine w_ fun d => ?_
      refine (c1 _ (hE1.trans ext_)).mono ?_
      rintro _ y3 ⟨ow2, rfl, hM3, hS3⟩
      have hSw3 := (hSw.ext (hE1.trans (by exact ext_))).trans hS3
      clear c1 hSw hS3
      refine w_ fun d => ?_
      exact ⟨⟨1, x, ow2, by omega, eA rfl, eA h9, eA h10, hM3.up ext_, ⟨G⟩, hSw3.ext ext_, ⟨.inr (.inl ⟨rfl, rfl⟩)⟩⟩, mA⟩
    | true =>
      obtain ⟨G2, hl2⟩ := step_good G hv hs
      have hgy := fun b f hbf => go_yes (grow := grow) (k := k) (b := b) (f := f) hxe hs rfl hbf
      rw [hs] at c1
      obtain ⟨s2, hs2⟩ : ∃ z, (x.s.step rs v true).2 = z := ⟨_, rfl⟩
      rw [hs2] at c1 G2 hl2 hgy
      have hlv2 := G2.wf.ord.lt hv
      have hd2 : 7 - lvl s2.ord v ≤ (k : Int) := by rw [hl2]; simp; omega
      have mb := G2.wf.ar.many_le
      have mo := G2.wf.ar.most
      obtain ⟨L7, hL7⟩ : ∃ z, lvl x.s.ord v = z := ⟨_, rfl⟩
      rw [hL7] at lq hxx hxb
      clear hM hlv hL7 hd hxe hs hs2 hl2
      refine w_ fun d => ?_
      refine qq (lq.quiet (w := u9)) fun y1 hE1 hs1 => ?_
      refine w_ fun d => ?_
      refine (c1 _ (hE1.trans ext_)).mono ?_
      rintro _ y3 ⟨ow2, rfl, hM3, hS3⟩
      have hSw3 := (hSw.ext (hE1.trans (by exact ext_))).trans hS3
      obtain ⟨sc2, oc2, pa2, K2, ta2, tc2, C2, hp2, hsz2, c02, co2, hoc2, hpa2, hCs2, hC12, hK2⟩ := rsFacts hM3.rsi G2.wf
      have lq2 := refLevel_oc hoc2 v
      have hpl2 := lt_of_heap hp2
      have hpal2 := lt_of_heap hpa2
      rw [← hK2] at hgy mb
      obtain ⟨L2, hL2⟩ : ∃ z, lvl s2.ord v = z := ⟨_, rfl⟩
      rw [hL2] at lq2
      clear c1 hSw hS3 hoc2 hK2 hp hpl hsz co lq
      by_cases hf' : (K2 : Int) < x.few
      · have hgy' := hgy L2 K2 (.inl ⟨hf', hL2.symm, rfl⟩)
        rw [hgo] at hgy'
        by_cases hgr : grow < (K2 : Int)
        · rw [if_pos hgr] at hgy'
          subst hgy'
          clear hgy hgo
          refine w_ fun d => ?_
          refine qq (lq2.quiet (w := y3)) fun y4 hE4 hs4 => ?_
          refine w_ fun d => ?_
          exact ⟨⟨1, _, ow2, by omega, eA rfl, eA rfl, eA rfl, hM3.up (hE4.trans ext_), ⟨G2⟩, hSw3.ext (hE4.trans ext_), ⟨.inr (.inl ⟨rfl, rfl⟩)⟩⟩, mA⟩
        · rw [if_neg hgr] at hgy'
          clear hgy hgo
          refine w_ fun d => ?_
          refine qq (lq2.quiet (w := y3)) fun y4 hE4 hs4 => ?_
          refine w_ fun d => ?_
          exact ⟨k, by omega, ⟨s2, L2, K2⟩, ow2, eA rfl, eA rfl, hM3.up (hE4.trans ext_), ⟨G2⟩, hSw3.ext (hE4.trans ext_), ⟨hgy'.symm⟩, hd2⟩
      · have hgy' := hgy x.best x.few (.inr ⟨hf', rfl, rfl⟩)
        rw [hgo] at hgy'
        by_cases hgr : grow < (K2 : Int)
        · rw [if_pos hgr] at hgy'
          subst hgy'
          clear hgy hgo
          refine w_ fun d => ?_
          exact ⟨⟨1, ⟨s2, x.best, x.few⟩, ow2, by omega, eA rfl, eA h9, eA h10, hM3.up ext_, ⟨G2⟩, hSw3.ext ext_, ⟨.inr (.inl ⟨rfl, rfl⟩)⟩⟩, mA⟩
        · rw [if_neg hgr] at hgy'
          clear hgy hgo
          refine w_ fun d => ?_
          exact ⟨k, by omega, ⟨s2, x.best, x.few⟩, ow2, eA h9, eA h10, hM3.up ext_, ⟨G2⟩, hSw3.ext ext_, ⟨hgy'.symm⟩, hd2⟩
  · have hYg : Lk.go rs v grow false 8 x = X2 := hX2
    have hlv0 := G.wf.ord.lt hv
    refine w_ fun d => ?_
    refine log_ (fun k W e u => ∃ (x : Lk) (ow : Nat → Nat), e 9 = .int .i64 x.best ∧ e 10 = .int .i64 x.few ∧ MvM ow u p x.s rs ar cr ∧ Box (x.s.Good []) ∧ Sw own w ow u ∧ Box (Lk.go rs v grow false k x = X2) ∧ lvl x.s.ord v ≤ (k : Int)) 8 ?_ ?_
    · exact ⟨x, ow, eA h9, eA h10, hM.up ext_, ⟨G⟩, hSw.ext ext_, ⟨hYg⟩, by first | omega | (dsimp only at hlv0 ⊢; omega)⟩
    clear hM hSw hYg G hlv0 h9 h10 hX1 hX2
    rintro k e9 u9 hf9 ⟨x, ow, h9, h10, hM, ⟨G⟩, hSw, ⟨hgo⟩, hd⟩
    have hlv := G.wf.ord.lt hv
    obtain ⟨sc, oc, pa, K, ta, tc, C, hp, hsz, c0, co, hoc, hpa, hCs, hC1, hK⟩ := rsFacts hM.rsi G.wf
    have lq := refLevel_oc hoc v
    have hpl := lt_of_heap hp
    clear hoc hpa hCs hC1 hK c0
    by_cases hxx : lvl x.s.ord v = 0
    · rw [go_end (by simpa using hxx)] at hgo
      subst hgo
      have hM' : ∀ {u}, Ext u9 u → MvM ow u p x.s rs ar cr := fun h => hM.up h
      have hSw' : ∀ {u}, Ext u9 u → Sw own w ow u := fun h => hSw.ext h
      obtain ⟨L7, hL7⟩ : ∃ z, lvl x.s.ord v = z := ⟨_, rfl⟩
      rw [hL7] at lq hxx
      subst hxx
      clear hM hSw hlv hL7 hd
      refine w_ fun d => ?_
      refine qq (lq.quiet (w := u9)) fun y1 hE1 hs1 => ?_
      refine w_ fun d => ?_
      exact ⟨⟨2, x, ow, by omega, eA rfl, eA h9, eA h10, hM' (hE1.trans ext_), ⟨G⟩, hSw' (hE1.trans ext_), ⟨.inr (.inr ⟨rfl, rfl⟩)⟩⟩, mA⟩
    have hxb : (lvl x.s.ord v == 0) = false := by simpa using hxx
    have hxe : ¬ lvl x.s.ord v = (if false then 7 else 0) := by simpa using hxx
    obtain ⟨k, rfl⟩ : ∃ q, k = q + 1 := ⟨k - 1, by omega⟩
    have c1 := fun u2 (hE : Ext u9 u2) => rsStep_calls (hM.up hE) G hv hl hn false
    cases hs : (x.s.step rs v false).1 with
    | false =>
      rw [hs] at c1
      rw [step_no hs] at c1
      rw [go_no hxe hs] at hgo
      subst hgo
      obtain ⟨L7, hL7⟩ : ∃ z, lvl x.s.ord v = z := ⟨_, rfl⟩
      rw [hL7] at lq hxx hxb
      clear hM hlv hL7 hd hxe hs
      refine w_ fun d => ?_
      refine qq (lq.quiet (w := u9)) fun y1 hE1 hs1 => ?_
      refine w_ fun d => ?_
      refine (c1 _ (hE1.trans ext_)).mono ?_
      rintro _ y3 ⟨ow2, rfl, hM3, hS3⟩
      have hSw3 := (hSw.ext (hE1.trans (by exact ext_))).trans hS3
      clear c1 hSw hS3
      refine w_ fun d => ?_
      exact ⟨⟨2, x, ow2, by omega, eA rfl, eA h9, eA h10, hM3.up ext_, ⟨G⟩, hSw3.ext ext_, ⟨.inr (.inr ⟨rfl, rfl⟩)⟩⟩, mA⟩
    | true =>
      obtain ⟨G2, hl2⟩ := step_good G hv hs
      have hgy := fun b f hbf => go_yes (grow := grow) (k := k) (b := b) (f := f) hxe hs rfl hbf
      rw [hs] at c1
      obtain ⟨s2, hs2⟩ : ∃ z, (x.s.step rs v false).2 = z := ⟨_, rfl⟩
      rw [hs2] at c1 G2 hl2 hgy
      have hlv2 := G2.wf.ord.lt hv
      have hd2 : lvl s2.ord v ≤ (k : Int) := by rw [hl2]; simp; omega
      have mb := G2.wf.ar.many_le
      have mo := G2.wf.ar.most
      obtain ⟨L7, hL7⟩ : ∃ z, lvl x.s.ord v = z := ⟨_, rfl⟩
      rw [hL7] at lq hxx hxb
      clear hM hlv hL7 hd hxe hs hs2 hl2
      refine w_ fun d => ?_
      refine qq (lq.quiet (w := u9)) fun y1 hE1 hs1 => ?_
      refine w_ fun d => ?_
      refine (c1 _ (hE1.trans ext_)).mono ?_
      rintro _ y3 ⟨ow2, rfl, hM3, hS3⟩
      have hSw3 := (hSw.ext (hE1.trans (by exact ext_))).trans hS3
      obtain ⟨sc2, oc2, pa2, K2, ta2, tc2, C2, hp2, hsz2, c02, co2, hoc2, hpa2, hCs2, hC12, hK2⟩ := rsFacts hM3.rsi G2.wf
      have lq2 := refLevel_oc hoc2 v
      have hpl2 := lt_of_heap hp2
      have hpal2 := lt_of_heap hpa2
      rw [← hK2] at hgy mb
      obtain ⟨L2, hL2⟩ : ∃ z, lvl s2.ord v = z := ⟨_, rfl⟩
      rw [hL2] at lq2
      clear c1 hSw hS3 hoc2 hK2 hp hpl hsz co lq
      by_cases hf' : (K2 : Int) < x.few
      · have hgy' := hgy L2 K2 (.inl ⟨hf', hL2.symm, rfl⟩)
        rw [hgo] at hgy'
        by_cases hgr : grow < (K2 : Int)
        · rw [if_pos hgr] at hgy'
          subst hgy'
          clear hgy hgo
          refine w_ fun d => ?_
          refine qq (lq2.quiet (w := y3)) fun y4 hE4 hs4 => ?_
          refine w_ fun d => ?_
          exact ⟨⟨2, _, ow2, by omega, eA rfl, eA rfl, eA rfl, hM3.up (hE4.trans ext_), ⟨G2⟩, hSw3.ext (hE4.trans ext_), ⟨.inr (.inr ⟨rfl, rfl⟩)⟩⟩, mA⟩
        · rw [if_neg hgr] at hgy'
          clear hgy hgo
          refine w_ fun d => ?_
          refine qq (lq2.quiet (w := y3)) fun y4 hE4 hs4 => ?_
          refine w_ fun d => ?_
          exact ⟨k, by omega, ⟨s2, L2, K2⟩, ow2, eA rfl, eA rfl, hM3.up (hE4.trans ext_), ⟨G2⟩, hSw3.ext (hE4.trans ext_), ⟨hgy'.symm⟩, hd2⟩
      · have hgy' := hgy x.best x.few (.inr ⟨hf', rfl, rfl⟩)
        rw [hgo] at hgy'
        by_cases hgr : grow < (K2 : Int)
        · rw [if_pos hgr] at hgy'
          subst hgy'
          clear hgy hgo
          refine w_ fun d => ?_
          exact ⟨⟨2, ⟨s2, x.best, x.few⟩, ow2, by omega, eA rfl, eA h9, eA h10, hM3.up ext_, ⟨G2⟩, hSw3.ext ext_, ⟨.inr (.inr ⟨rfl, rfl⟩)⟩⟩, mA⟩
        · rw [if_neg hgr] at hgy'
          clear hgy hgo
          refine w_ fun d => ?_
          exact ⟨k, by omega, ⟨s2, x.best, x.few⟩, ow2, eA h9, eA h10, hM3.up ext_, ⟨G2⟩, hSw3.ext ext_, ⟨hgy'.symm⟩, hd2⟩
end
end Go.Proofs.YtpeindhocndmnaaGreat

namespace Go.Proofs.YtpeindhocndmnaaGreat
open Go Go.Bx
set_option linter.unusedSimpArgs false
set_option linter.unusedVariables false
set_option maxRecDepth 100000
set_option maxHeartbeats 4000000
attribute [local irreducible] X XO XE XF XD XW thenX inX retX kN CallsR
section
variable {own own' : Nat → Nat} {w w' : World} {p : Nat} {s : Md} {rs : List Int} {ar : Option Addr} {cr : Nat} {grow : Int}
theorem rsSiAllNo_calls {a : Option Addr} {c : Nat} (hg : grow < 0) : Quiet Tryz.prog 11 #[.pointer (some ⟨p, 0, none⟩), .slice a rs.length c, .int .i64 grow] w (.int .i64 1) := by
  intro u hu
  clear hu
  refine en3 Tryz.func11 Tryz.results11 mixed [] ?_
  intro e0 h0 h1 h2
  refine w_ fun d => ?_
  exact ⟨rfl, ext_⟩
theorem rsSiAll_calls (h : MvM own w p s rs ar cr) (G : s.Good []) (hl : rs.length ≤ 1000000) (hn : ∀ n ∈ rs, n ≤ 9223372036854775807) (hg : 0 ≤ grow) :
    CallsR Tryz.prog 11 #[.pointer (some ⟨p, 0, none⟩), .slice ar rs.length cr, .int .i64 grow] w fun r w' => r = .int .i64 0 ∧ ∃ own', MvM own' w' p (siftK rs grow s 8) rs ar cr ∧ Sw own w own' w' := by
  have hg' : ¬ grow < 0 := by omega
  refine en3 Tryz.func11 Tryz.results11 mixed [] ?_
  intro e0 h0 h1 h2
  refine w_ fun d => ?_
  refine lo_ (fun W e u => ∃ (k : Nat) (ow : Nat → Nat), k ≤ 8 ∧ e 7 = .int .i64 k ∧ MvM ow u p (siftK rs grow s k) rs ar cr ∧ Sw own w ow u) (fun e _ => 8 - nat (e 7)) ?_ ?_
  · exact ⟨0, own, by omega, eA rfl, h.up ext_, Sw.of_ext ext_⟩
  clear h
  rintro e u hf ⟨k, ow, hk, h9, hM, hSw⟩
  by_cases hk8 : k < 8
  · have c1 := fun u2 (hE : Ext u u2) => rsSift_calls (grow := grow) (v := (k : Int)) (hM.up hE) (siftK_good G k hk) hl hn ⟨by omega, by omega⟩ hg
    clear hM G hn
    refine w_ fun d => ?_
    refine (c1 _ ext_).mono ?_
    rintro _ u2 ⟨rfl, ow2, hM2, hS2⟩
    have hSw2 := (hSw.ext (by exact ext_)).trans hS2
    clear c1 hSw hS2
    refine w_ fun d => ?_
    exact ⟨⟨k + 1, ow2, by omega, eA rfl, hM2.up ext_, hSw2.ext ext_⟩, mA⟩
  · obtain rfl : k = 8 := by omega
    clear G hn
    refine w_ fun d => ?_
    exact ⟨rfl, ow, hM.up ext_, hSw.ext ext_⟩
end
end Go.Proofs.YtpeindhocndmnaaGreat

namespace Go.Proofs.YtpeindhocndmnaaGreat
open Go Go.Bx
set_option linter.unusedSimpArgs false
set_option linter.unusedVariables false
set_option maxRecDepth 100000
set_option maxHeartbeats 4000000
attribute [local irreducible] X XO XE XF XD XW thenX inX retX kN CallsR
section
variable {w : World} {p : Nat} {own : Nat → Nat} {s : Md}
def nodesL (s : Md) (l : List Int) : List Int := l.map fun x => pickN s x (decide (x < 0))
theorem nodesL_succ {l : List Int} {i : Nat} {x : Int} (h : l[i]? = some x) : nodesL s (l.take (i + 1)) = nodesL s (l.take i) ++ [pickN s x (decide (x < 0))] := by
  unfold nodesL
  rw [List.take_add_one, h, List.map_append]; rfl
theorem nodes_calls00 {a : Option Addr} {c : Nat} {l : List Int} (h : RsI own w p s) (W : s.WF) (hI : InI w a l) (hl : l.length ≤ 1000) :
    CallsR Tryz.prog 8 #[.pointer (some ⟨p, 0, none⟩), .slice a l.length c] w fun r w' => ∃ a' c', r = .slice a' (nodesL s l).length c' ∧ SlC w' 3 a' c' (ints (nodesL s l)) ∧ (∀ g, blk a' = some g → w.heap.size ≤ g) ∧ Ext w w' := by
  have nd := fun u (hE : Ext w u) n raw => lnode_calls (h.ext hE) W n raw
  clear h
  refine en2 Tryz.func8 Tryz.results8 mixed [] ?_
  intro e0 h0 h1
  refine w_ fun d => ?_
  refine lo_ (fun _ e u => ∃ (i : Nat) (a' : Option Addr) (c' : Nat), i ≤ l.length ∧ e 6 = .int .i64 i ∧ e 5 = .slice a' (nodesL s (l.take i)).length c' ∧ SlC u 3 a' c' (ints (nodesL s (l.take i))) ∧ (∀ g, blk a' = some g → w.heap.size ≤ g) ∧ Ext w u) (fun e _ => l.length - nat (e 6)) ?_ ?_
  · exact ⟨0, none, 0, by omega, eA rfl, eA rfl, SlC.nil _ _, (fun g h => by cases h), ext_⟩
  rintro e u hf ⟨i, a', c', hi, h6, h5, hS, hn, hE⟩
  by_cases hlt : i < l.length
  rotate_left
  · obtain rfl : i = l.length := by omega
    rw [List.take_length] at h5 hS
    clear nd hlt hI
    refine w_ fun d => ?_
    exact ⟨a', c', rfl, hS.ext ext_, hn, ext_⟩
  obtain ⟨x, hx⟩ : ∃ x, l[i]? = some x := ⟨l[i], List.getElem?_eq_getElem hlt⟩
  rcases InI.at (Inp.ext hI hE) with rfl | ⟨b1, o1, cs1, E1, fz1, rfl, hb1, hat1⟩
  · simp at hlt
  have hat1 := hat1 i x hx
  have hltk : (i : Int) < l.length := by omega
  have lb := lt_of_heap hb1
  have hsc := nodesL_succ (s := s) hx
  have n1 := nd u hE x (decide (x < 0))
  obtain ⟨L, hL⟩ : ∃ L, nodesL s (l.take i) = L := ⟨_, rfl⟩
  obtain ⟨y, hy⟩ : ∃ y, pickN s x (decide (x < 0)) = y := ⟨_, rfl⟩
  have hLl : L.length ≤ 1000 := by rw [← hL]; unfold nodesL; rw [List.length_map, List.length_take]; omega
  rw [hy] at n1 hsc
  rw [hL] at hsc h5 hS
  clear nd hI hx hL hy
  refine w_ fun d => ?_
  refine s_draw (XD_ext ?_)
  refine de_ ?_
  refine xe2w fun w5 hE5 => ?_
  refine krA ?_
  refine kv ?_
  refine de_ ?_
  refine xe2w fun w6 hE6 => ?_
  have hE56 : Ext w5 w6 := Ext.trans (by exact ext_) hE6
  have hI6 : InI w6 (some ⟨w5.heap.size, 0, none⟩) [y] := (SlC.made (l := ints [y]) (hE6.at (hA rfl)) (by simp)).inp
  have hS6 := (hS.ext hE5).ext hE56
  obtain ⟨a7, c7, w7, hr7, hS7, hC7, hB7⟩ := SlC.appI hS6 (c := 1) hI6 (by simp; omega)
  have hl7 : (L ++ [y]).length = L.length + 1 := by simp
  have hw6 := (hE.trans hE5).trans hE56
  have hw7 : Ext w w7 := hC7.toExt hw6 fun g hg hb => by have := hn g hb; omega
  have hn7 : ∀ g, blk a7 = some g → w.heap.size ≤ g := fun g hg => by
    rcases hB7 g hg with h | ⟨h, _⟩
    · exact hn g h
    · have := hw6.size; omega
  rw [hl7] at hr7
  simp only [show ([y] : List Int).length = 1 from rfl] at hr7
  refine krA ?_
  refine kv ?_
  refine de_ ?_
  refine xn_ fun w8 hE8 hs8 => ?_
  clear hS6 hC7 hB7 hS hE56 hE6
  refine w_ fun d => ?_
  exact ⟨⟨i + 1, a7, c7, by omega, eA rfl, by rw [hsc, hl7]; exact eA rfl, by rw [hsc]; exact (hS7.ext hE8).ext ext_, hn7, (hw7.trans hE8).trans ext_⟩, mA⟩
end
end Go.Proofs.YtpeindhocndmnaaGreat

namespace Go.Proofs.YtpeindhocndmnaaGreat
open Go Go.Bx
set_option linter.unusedSimpArgs false
set_option linter.unusedVariables false
set_option maxRecDepth 100000
set_option maxHeartbeats 4000000
attribute [local irreducible] X XO XE XF XD XW thenX inX retX kN CallsR
section
variable {W w w' w1 w2 : World} {ps pm : Nat} {s s' sM : Md} {a : Option Addr} {cap : Nat} {l : List Int}
def PrL (W w : World) (ps pm : Nat) (s sM : Md) (a : Option Addr) (cap : Nat) (l : List Int) : Prop :=
  ∃ ownI ownM, StI ownI w ps s [] ∧ RsI ownM w pm sM ∧ (∀ k, ownI k ≠ 0 → ownM k = 0) ∧ (∀ k, ownI k ≠ 0 → W.heap.size ≤ k) ∧ (∀ k, ownM k ≠ 0 → W.heap.size ≤ k) ∧ Ext W w ∧ SlC w 3 a cap (ints l) ∧ (∀ g, blk a = some g → ownI g = 0) ∧ ∀ g, blk a = some g → ownM g = 0
theorem PrL.of (h : PrI W w ps pm s sM) (hE : Ext w w') (hS : SlC w' 3 a cap (ints l)) (hn : ∀ g, blk a = some g → w.heap.size ≤ g) : PrL W w' ps pm s sM a cap l := by
  obtain ⟨o, oM, h1, h2, h3, h4, h5, h6⟩ := h
  refine ⟨o, oM, h1.ext hE, h2.ext hE, h3, h4, h5, h6.trans hE, hS, fun g hg => ?_, fun g hg => ?_⟩
  · have := hn g hg
    cases ho : o g with
    | zero => rfl
    | succ q => have := h1.lt g (by omega); omega
  · have := hn g hg
    cases ho : oM g with
    | zero => rfl
    | succ q => have := h2.lt g (by omega); omega
theorem PrL.ext (h : PrL W w ps pm s sM a cap l) (hE : Ext w w') : PrL W w' ps pm s sM a cap l := by
  obtain ⟨o, oM, h1, h2, h3, h4, h5, h6, h7, h8⟩ := h
  exact ⟨o, oM, h1.ext hE, h2.ext hE, h3, h4, h5, h6.trans hE, h7.ext hE, h8⟩
theorem PrL.pri (h : PrL W w ps pm s sM a cap l) : PrI W w ps pm s sM := by
  obtain ⟨o, oM, h1, h2, h3, h4, h5, h6, _⟩ := h
  exact ⟨o, oM, h1, h2, h3, h4, h5, h6⟩
theorem PrL.turnS {f : FuncId} {args : Array Value} {R : Value → Prop} (h : PrL W w ps pm s sM a cap l) (hc : ∀ own, StI own w ps s [] → SlC w 3 a cap (ints l) → (∀ g, blk a = some g → own g = 0) → CallsR Tryz.prog f args w fun r w' => R r ∧ TrI own w ps s' [] w') :
    CallsR Tryz.prog f args w fun r w' => R r ∧ PrL W w' ps pm s' sM a cap l := by
  obtain ⟨o, b, h1, h2, h3, h4, h5, h6, h7, h8, h9⟩ := h
  refine (hc o h1 h7 h8).mono ?_
  rintro r w' ⟨hr, a', g1, ho, hC⟩
  have hs := hC.size
  have hsW := h6.size
  refine ⟨hr, a', b, g1, h2.keep (fun k hk => hC.heap k (h2.lt k hk) fun hf => hk (h3 k hf)) hs, fun k hk => ?_, fun k hk => ?_, h5, hC.toExt h6 fun k hk hf => by have := h4 k hf; omega, h7.keep fun g hg => hC.heap g (h7.lt hg) fun hf => hf (h8 g hg), fun g hg => (ho g (h7.lt hg)).trans (h8 g hg), h9⟩
  · by_cases hl : k < w.heap.size
    · exact h3 k (by rw [← ho k hl]; exact hk)
    · cases hb : b k with
      | zero => rfl
      | succ m => exact absurd (h2.lt k (by omega)) hl
  · by_cases hl : k < w.heap.size
    · exact h4 k (by rw [← ho k hl]; exact hk)
    · omega
theorem PrL.turnM {f : FuncId} {args : Array Value} {R : Value → Prop} {sM' : Md} (h : PrL W w ps pm s sM a cap l) (hc : ∀ own, RsI own w pm sM → SlC w 3 a cap (ints l) → (∀ g, blk a = some g → own g = 0) → CallsR Tryz.prog f args w fun r w' => R r ∧ TrS own w pm sM' w') :
    CallsR Tryz.prog f args w fun r w' => R r ∧ PrI W w' ps pm s sM' := by
  obtain ⟨a, b, h1, h2, h3, h4, h5, h6, h7, h8, h9⟩ := h
  refine (hc b h2 h7 h9).mono ?_
  rintro r w' ⟨hr, b', g1, hSw⟩
  have hs := hSw.ch.size
  have hsW := h6.size
  have h3' : ∀ k, b k ≠ 0 → a k = 0 := fun k hk => by
    cases ha : a k with
    | zero => rfl
    | succ m => exact absurd (h3 k (by omega)) hk
  refine ⟨hr, a, b', h1.keep (fun k hk => hSw.ch.heap k (h1.lt k hk) fun hf => hk (h3' k hf)) hs, g1, fun k hk => ?_, h4, fun k hk => ?_, hSw.ch.toExt h6 fun k hk hf => by have := h5 k hf; omega⟩
  · have hl := h1.lt k hk
    rw [hSw.ho k hl]; exact h3 k hk
  · by_cases hl : k < w.heap.size
    · exact h5 k (by rw [← hSw.ho k hl]; exact hk)
    · omega
end
end Go.Proofs.YtpeindhocndmnaaGreat

namespace Go.Proofs.YtpeindhocndmnaaGreat
open Go Go.Bx
set_option linter.unusedSimpArgs false
set_option linter.unusedVariables false
set_option maxRecDepth 100000
set_option maxHeartbeats 4000000
attribute [local irreducible] X XO XE XF XD XW thenX inX retX kN CallsR
section
variable {own : Nat → Nat} {w w' w1 : World} {p : Nat} {s : Md} {n v a b c : Int} {f g : Fun8}
theorem rsBuild_flat (h : RsI own w p s) (G : s.Good []) (ht : topF s.ord f < 0) : Quiet Tryz.prog 31 #[.pointer (some ⟨p, 0, none⟩), fv f] w (.tuple #[.int .i64 (if f.getLsbD 0 then 1 else 0), .int .i64 0]) := by
  intro u hu
  have h := h.ext hu
  clear hu
  obtain ⟨pa, na, nc, sc, oc, hX⟩ := id h
  have hp := hX.at_
  have co := hX.rc.co
  have hsz := hX.rc.size
  have hpl := lt_of_heap hp
  have tp : Sure Tryz.prog 67 #[fv f, .agg oc] (.int .i64 (topF s.ord f)) := fun u => by
    have := refTop_calls f s.ord G.wf.ord.len u
    rwa [hX.oc.agg] at this
  have at0 := refAt_p f 0 (by decide)
  generalize topF s.ord f = v at ht tp
  clear hX h G
  refine en2 Tryz.func31 Tryz.results31 mixed [] ?_
  intro e0 h0 h1
  refine w_ fun d => ?_
  intro w1 hE1 hs1
  have h31 : w1.heap[u.heap.size]? = some (.cells #[vU (word f 0), vU (word f 1), vU (word f 2), vU (word f 3)] 48) := hE1.at (hA rfl)
  have l31 := lt_of_heap h31
  cases hb : f.getLsbD 0
  · rw [hb] at at0
    refine w_ fun d => ?_
    refine qq (at0.quiet (w := w1)) fun w2 hE2 hs2 => ?_
    refine w_ fun d => ?_
    exact ⟨rfl, ext_⟩
  · rw [hb] at at0
    refine w_ fun d => ?_
    refine qq (at0.quiet (w := w1)) fun w2 hE2 hs2 => ?_
    refine w_ fun d => ?_
    exact ⟨rfl, ext_⟩
theorem rsBuild_calls {p : Nat} : ∀ (k : Nat) (own : Nat → Nat) (w : World) (s : Md) (f : Fun8), RsI own w p s → s.Good [] → nv f ≤ k →
    CallsR Tryz.prog 31 #[.pointer (some ⟨p, 0, none⟩), fv f] w fun r w' => r = .tuple #[.int .i64 (s.bld f).1.1, .int .i64 (s.bld f).1.2] ∧ TrS own w p (s.bld f).2 w' := by
  intro k
  induction k using Nat.strongRecOn with
  | _ k ih =>
  intro own w s f h G hk
  by_cases ht0 : 0 ≤ topF s.ord f
  rotate_left
  · rw [bld_flat G ht0]
    refine (rsBuild_flat h G (by omega)).call.mono ?_
    rintro r w' ⟨rfl, hE⟩
    exact ⟨rfl, TrS.of_ext h hE⟩
  have hgo := bld_top G ht0
  have hdt := topF_dep ht0
  have nv0 := nv_cof (b := false) hdt
  have nv1 := nv_cof (b := true) hdt
  obtain ⟨pa, na, nc, sc, oc, hX⟩ := id h
  have hp := hX.at_
  have co := hX.rc.co
  have hsz := hX.rc.size
  have hpl := lt_of_heap hp
  have tp : Sure Tryz.prog 67 #[fv f, .agg oc] (.int .i64 (topF s.ord f)) := fun u => by
    have := refTop_calls f s.ord G.wf.ord.len u
    rwa [hX.oc.agg] at this
  clear hX
  generalize topF s.ord f = v at hgo ht0 hdt nv0 nv1 tp
  have c0 : Sure Tryz.prog 68 #[fv f, .int .i64 v, .bool false] (fv (cofF f v false)) := refCof_calls f v false
  have c1 : Sure Tryz.prog 68 #[fv f, .int .i64 v, .bool true] (fv (cofF f v true)) := refCof_calls f v true
  obtain ⟨R, hR⟩ : ∃ R, s.bld f = R := ⟨_, rfl⟩
  unfold SplB at hgo
  rw [hR] at hgo ⊢
  clear hR hdt
  have own0 : ∀ k, w.heap.size ≤ k → own k = 0 := fun k hk => by
    cases ho : own k with
    | zero => rfl
    | succ q => have := h.lt k (by omega); omega
  refine en2 Tryz.func31 Tryz.results31 mixed [] ?_
  intro e0 h0 h1
  refine w_ fun d => ?_
  intro w1 hE1 hs1
  have h31 : w1.heap[w.heap.size]? = some (.cells #[vU (word f 0), vU (word f 1), vU (word f 2), vU (word f 3)] 48) := hE1.at (hA rfl)
  have hE01 : Ext w w1 := Ext.trans (by exact ext_) hE1
  have h1' := h.ext hE01
  have l31 := lt_of_heap h31
  have o3 := own0 _ (Nat.le_refl w.heap.size)
  have hS1 : Sw own w own w1 := Sw.of_ext hE01
  clear hE1 hs1 hp hpl tp h own0 hE01
  refine w_ fun d => ?_
  refine qq (c0.quiet (w := w1)) fun w2 hE2 hs2 => ?_
  have h32 := hE2.at h31
  have l32 := lt_of_heap h32
  refine w_ fun d => ?_
  refine (ih _ (Nat.lt_of_lt_of_le nv0 hk) own w2 s _ (h1'.ext hE2) G (Nat.le_refl _)).mono ?_
  rintro r w3 ⟨hr, own1, hI1, hSw1⟩
  have hT1 := (hS1.ext hE2).trans hSw1
  obtain ⟨o31, e33⟩ := hSw1.out l32 o3
  have h33 := e33.trans h32
  have l33 := lt_of_heap h33
  rcases hgo with ⟨e0, eR⟩ | ⟨n0, s0, e0, G0, L0, D0, hgo⟩
  · rw [eR, e0]
    rw [e0] at hr
    dsimp only at hr
    subst hr
    clear ih
    refine w_ fun d => ?_
    exact ⟨rfl, own1, hI1, hT1⟩
  rw [e0] at hr hI1
  dsimp only at hr hI1
  subst hr
  clear hE2 hs2 h1' hS1 hSw1 e33 h32 l32 h31 l31
  refine w_ fun d => ?_
  refine qq (c1.quiet (w := w3)) fun w4 hE4 hs4 => ?_
  have h34 := hE4.at h33
  refine w_ fun d => ?_
  refine (ih _ (Nat.lt_of_lt_of_le nv1 hk) own1 w4 s0 _ (hI1.ext hE4) G0 (Nat.le_refl _)).mono ?_
  rintro r w5 ⟨hr, own2, hI2, hSw2⟩
  have hT2 := (hT1.ext hE4).trans hSw2
  rcases hgo with ⟨e1, eR⟩ | ⟨n1, s1, e1, G1, L1, D1, hgo⟩
  · rw [eR, e1]
    rw [e1] at hr
    dsimp only at hr
    subst hr
    clear ih
    refine w_ fun d => ?_
    exact ⟨rfl, own2, hI2, hT2⟩
  rw [e1] at hr hI2
  dsimp only at hr hI2
  subst hr
  have mk := rsMkP_calls (v := v) hI2 G1.wf (bt_rng G1.wf (D0.mono L1)) (bt_rng G1.wf D1)
  rw [← hgo] at mk
  clear ih hgo e0 e1 hI1 hE4 hs4
  refine w_ fun d => ?_
  refine mk.mono ?_
  rintro _ w6 ⟨rfl, own3, hI3, hS3⟩
  refine w_ fun d => ?_
  exact ⟨rfl, own3, hI3, hT2.trans hS3⟩
theorem rsBld_calls (h : RsI own w p s) (G : s.Good []) (f : Fun8) : CallsR Tryz.prog 31 #[.pointer (some ⟨p, 0, none⟩), fv f] w fun r w' => r = .tuple #[.int .i64 (s.bld f).1.1, .int .i64 (s.bld f).1.2] ∧ TrS own w p (s.bld f).2 w' := rsBuild_calls _ own w s f h G (Nat.le_refl _)
end
end Go.Proofs.YtpeindhocndmnaaGreat

namespace Go.Proofs.YtpeindhocndmnaaGreat
open Go Go.Bx
set_option linter.unusedSimpArgs false
set_option linter.unusedVariables false
set_option maxRecDepth 100000
set_option maxHeartbeats 4000000
attribute [local irreducible] X XO XE XF XD XW thenX inX retX kN CallsR
def okL (l : List Int) : Prop := ∀ n ∈ l, okI n
section
variable {W w w' w1 w2 : World} {p ps pm pc : Nat} {s s' sM : Md} {n v x y lo hi : Int}
theorem _root_.Go.Bx.Md.Good.bld_rng (G : s.Good []) (f : Fun8) : 0 ≤ (s.bld f).1.2 ∧ (s.bld f).1.2 ≤ 8 := by
  rcases (G.bld f).itt.err with e | e | e <;> omega
theorem built_none (most : Int) {l : List Fun8} {k : List Int} {a b : Option Addr} {ca cb : Nat} (h : ¬ (0 ≤ most ∧ most ≤ 20000) ∨ 6 < l.length ∨ 30 < k.length) (hl : l.length ≤ 140737488351232) (hk : k.length ≤ 140737488351232) :
    CallsR Tryz.prog 7 #[.int .i64 most, .slice a l.length ca, .slice b k.length cb] w fun r w' => r = .tuple #[.pointer none, .pointer none, .int .i64 0] ∧ Ext w w' := by
  by_cases hm : 0 ≤ most ∧ most ≤ 20000
  · have b0 := begin_calls most hm.1 hm.2
    have h2 := h.resolve_left fun h => h hm
    clear h hm
    by_cases h6 : 6 < l.length
    · have h6' : (6 : Int) < l.length := by omega
      clear h2
      refine en3 Tryz.func7 Tryz.results7 mixed [] ?_
      intro e0 h0 h1 h2
      refine w_ fun d => ?_
      refine (b0 _).mono ?_
      rintro _ w1 ⟨ps, pm, rfl, hP⟩
      have hE := hP.world
      clear hP b0
      refine w_ fun d => ?_
      exact ⟨rfl, ext_⟩
    · have h7 := h2.resolve_left h6
      have h6' : ¬ (6 : Int) < l.length := by omega
      have h7' : (30 : Int) < k.length := by omega
      clear h2 h6
      refine en3 Tryz.func7 Tryz.results7 mixed [] ?_
      intro e0 h0 h1 h2
      refine w_ fun d => ?_
      refine (b0 _).mono ?_
      rintro _ w1 ⟨ps, pm, rfl, hP⟩
      have hE := hP.world
      clear hP b0
      refine w_ fun d => ?_
      exact ⟨rfl, ext_⟩
  · have b0 := begin_none most hm
    clear h hm
    refine en3 Tryz.func7 Tryz.results7 mixed [] ?_
    intro e0 h0 h1 h2
    refine w_ fun d => ?_
    refine qq (b0.quiet (w := w)) fun w2 hE2 hs2 => ?_
    refine w_ fun d => ?_
    exact ⟨rfl, ext_⟩
theorem funAt {a : Option Addr} {l : List Fun8} (h : Inp w 4 a (l.map rowF)) {i : Nat} {f : Fun8} (hf : l[i]? = some f) :
    ∃ g o cs E fz, a = some ⟨g, o, none⟩ ∧ w.heap[g]? = some (.cells cs E fz) ∧ o + i * 4 + 4 ≤ cs.size ∧ Value.agg (cs.extract (o + i * 4) (o + i * 4 + 4)) = fv f := by
  rcases h with h | ⟨g, o, cs, E, fz, rfl, h2, h3⟩
  · rw [List.map_eq_nil_iff.1 h] at hf; simp at hf
  · have hr := h3 i (rowF f) (by rw [List.getElem?_map, hf]; rfl)
    obtain ⟨k1, k2⟩ := rowF_at (i := o + i * 4) hr
    exact ⟨g, o, cs, E, fz, rfl, h2, k1, k2⟩
theorem built_calls (most : Int) {l : List Fun8} {k : List Int} {a b : Option Addr} {ca cb : Nat} (h0' : 0 ≤ most) (h1' : most ≤ 20000) (hl : l.length ≤ 6) (hk : k.length ≤ 30) (hI : Inp w 4 a (l.map rowF)) (hK : InI w b k) :
    CallsR Tryz.prog 7 #[.int .i64 most, .slice a l.length ca, .slice b k.length cb] w fun r w' => ∃ ps pm s, r = .tuple #[.pointer (some ⟨ps, 0, none⟩), .pointer (some ⟨pm, 0, none⟩), .int .i64 1] ∧ PrI w w' ps pm s s ∧ s.Good [] := by
  have b0 := begin_calls most h0' h1'
  have G0 : (Md.new most).Good [] := Md.Good.start h0' h1'
  have hl' : ¬ (6 : Int) < l.length := by omega
  have hk' : ¬ (30 : Int) < k.length := by omega
  refine en3 Tryz.func7 Tryz.results7 mixed [] ?_
  intro e0 h0 h1 h2
  refine w_ fun d => ?_
  refine (b0 _).mono ?_
  rintro _ w1 ⟨ps, pm, rfl, hP⟩
  have hP : PrI w w1 ps pm (Md.new most) (Md.new most) := by
    obtain ⟨a, b, q1, q2, q3, q4, q5, q6⟩ := hP
    exact ⟨a, b, q1, q2, q3, fun k hk => by have := q4 k hk; simpa only [dr_heap] using this, fun k hk => by have := q5 k hk; simpa only [dr_heap] using this, Ext.trans (by exact ext_) q6⟩
  clear b0
  refine w_ fun d => ?_
  refine lo_ (fun _ e w' => ∃ (i : Nat) (s : Md), i ≤ l.length ∧ e 11 = .int .i64 i ∧ PrI w w' ps pm s s ∧ s.Good []) (fun e _ => l.length - nat (e 11)) ?_ ?_
  · exact ⟨0, _, by omega, eA rfl, hP.ext ext_, G0⟩
  rintro e u hf ⟨i, s, hi, h11, hPu, G⟩
  have hEu := hPu.world
  by_cases hlt : i < l.length
  · obtain ⟨f, hfi⟩ : ∃ f, l[i]? = some f := ⟨l[i], List.getElem?_eq_getElem hlt⟩
    obtain ⟨g, o, ct, E, fz, rfl, hg, hsz, hex⟩ := funAt (Inp.ext hI hEu) hfi
    have hltl : (i : Int) < l.length := by omega
    have gl := lt_of_heap hg
    have bI := fun W u (h : PrI W u ps pm s s) => h.turnI fun own ho => rdBuildTop_calls ho G f
    have bM := fun W u s1 (h : PrI W u ps pm s1 s) => h.turnM fun own ho => rsBld_calls ho G f
    have gb := (G.bld f).good
    have rb := G.bld_rng f
    have cr := code_sure _ rb.1 rb.2
    generalize s.bld f = R at bI bM gb rb cr
    clear hK G0 hP G rb
    refine w_ fun d => ?_
    refine (bI _ _ (hPu.ext ext_)).mono ?_
    rintro _ u2 ⟨rfl, hP2⟩
    obtain ⟨g', o', ct', E', fz', he, hg2, hsz2, hex2⟩ := funAt (Inp.ext hI hP2.world) hfi
    cases he
    have gl2 := lt_of_heap hg2
    clear hg gl bI hI
    refine w_ fun d => ?_
    refine (bM _ _ _ (hP2.ext ext_)).mono ?_
    rintro _ u3 ⟨rfl, hP3⟩
    clear bM
    refine w_ fun d => ?_
    refine qq (cr.quiet (w := u3)) fun u4 hE4 hs4 => ?_
    refine w_ fun d => ?_
    exact ⟨⟨i + 1, R.2, by omega, eA rfl, hP3.ext ext_, gb⟩, mA⟩
  · obtain rfl : i = l.length := by omega
    clear hI hlt hP G0
    refine w_ fun d => ?_
    refine lo_ (fun _ e w' => ∃ (i : Nat) (s : Md), i ≤ k.length ∧ e 16 = .int .i64 i ∧ PrI w w' ps pm s s ∧ s.Good []) (fun e _ => k.length - nat (e 16)) ?_ ?_
    · exact ⟨0, _, by omega, eA rfl, hPu.ext ext_, G⟩
    rintro e2 v hf2 ⟨i, s2, hi2, h16, hPv, G2⟩
    have hEv := hPv.world
    by_cases hlt : i < k.length
    · obtain ⟨x, hx⟩ : ∃ x, k[i]? = some x := ⟨k[i], List.getElem?_eq_getElem hlt⟩
      rcases InI.at (Inp.ext hK hEv) with rfl | ⟨b1, o1, cs1, E1, fz1, rfl, hb1, hat1⟩
      · simp at hlt
      have hat1 := hat1 i x hx
      have pk := pick_sure x 7 (by decide) (by decide)
      have hltk : (i : Int) < k.length := by omega
      generalize x % 7 = y at pk
      have bI := fun W u (h : PrI W u ps pm s2 s2) => h.turnI fun own ho => stSwap_calls ho G2 y
      have bM := fun W u s1 (h : PrI W u ps pm s1 s2) => h.turnM fun own ho => rsSwap_calls ho G2 y
      have gb := (G2.swap y).1.good
      have rb := swap_rng (s := s2) (n := y)
      have cr := code_sure _ rb.1 rb.2
      generalize s2.swap y = R at bI bM gb rb cr
      clear hK G2 G rb hx hPu
      refine w_ fun d => ?_
      refine qq (pk.quiet (w := v)) fun v1 hE1 hs1 => ?_
      refine w_ fun d => ?_
      refine (bI _ _ ((hPv.ext hE1).ext ext_)).mono ?_
      rintro _ u2 ⟨rfl, hP2⟩
      refine w_ fun d => ?_
      refine qq (cr.quiet (w := u2)) fun u4 hE4 hs4 => ?_
      refine w_ fun d => ?_
      refine (bM _ _ _ ((hP2.ext hE4).ext ext_)).mono ?_
      rintro _ u3 ⟨rfl, hP3⟩
      clear bM bI
      refine w_ fun d => ?_
      exact ⟨⟨i + 1, R.2, by omega, eA rfl, hP3.ext ext_, gb⟩, mA⟩
    · obtain rfl : i = k.length := by omega
      clear hK hlt hPu G
      refine w_ fun d => ?_
      refine (same_calls (hPv.ext ext_) G2).mono ?_
      rintro _ u3 ⟨rfl, hE3⟩
      have hP3 := (hPv.ext (by exact ext_)).ext hE3
      refine w_ fun d => ?_
      exact ⟨ps, pm, s2, rfl, hP3.ext ext_, G2⟩
end
end Go.Proofs.YtpeindhocndmnaaGreat

namespace Go.Bx
open Go
set_option linter.unusedSimpArgs false
set_option linter.unusedVariables false
section
variable {P : Program} {f : FuncId} {fn : Func} {c : Code} {w : World} {R : Value → World → Prop} {bs : Bigs} {g : GCode} {rs : Array ResultVar} {v0 v1 v2 v3 v4 v5 v6 : Value}
theorem calls7 (hf : P.funcs[f]? = some fn) (hb : fn.body = some c) (hm : P.follows .mixedOrders = true) {bs : Bigs} (hk : (okN bs fn.ntmps c && decide (fn.ntmps ≤ 1000000) && decide (7 ≤ fn.ntmps)) = true)
    (h : ∀ e : Env, e 0 = v0 → e 1 = v1 → e 2 = v2 → e 3 = v3 → e 4 = v4 → e 5 = v5 → e 6 = v6 → X P (comp bs c) (retX P fn.results R) e w) : CallsR P f #[v0, v1, v2, v3, v4, v5, v6] w R := calls_of_X hf hb hm hk (h _ rfl rfl rfl rfl rfl rfl rfl)
theorem en7 (hf : P.funcs[f]? = some fn) (hr : fn.results = rs) (hm : P.follows .mixedOrders = true) (bs : Bigs) (h : ∀ e : Env, e 0 = v0 → e 1 = v1 → e 2 = v2 → e 3 = v3 → e 4 = v4 → e 5 = v5 → e 6 = v6 → X P g (retX P rs R) e w) (hb : fn.body = some c := by rfl)
    (hg : cs bs c .skip = g := by (simp only [cs, gop, gslot, dops, bigOf, setK, drawOf, drawOf2, dopsW, setW, dopsR, setR, kindOf, List.lookup, List.map_cons, List.map_nil, Option.bind_some, List.getElem?_toArray, List.getElem?_cons_zero, List.getElem?_cons_succ, Option.getD_some, Option.getD_none, List.contains_nil, List.contains_cons, Bool.false_eq_true, ↓reduceIte, Nat.reduceAdd, Nat.reduceBEq, Bool.or_false, Bool.or_true, Bool.true_or] <;> rfl))
    (hk : (okN bs fn.ntmps c && decide (fn.ntmps ≤ 1000000) && decide (7 ≤ fn.ntmps)) = true := by kernel_rfl) : CallsR P f #[v0, v1, v2, v3, v4, v5, v6] w R := calls7 hf hb hm hk fun e h0 h1 h2 h3 h4 h5 h6 => X_comp (hg ▸ hr ▸ h e h0 h1 h2 h3 h4 h5 h6)
end
end Go.Bx

namespace Go.Proofs.YtpeindhocndmnaaGreat
open Go Go.Bx
set_option linter.unusedSimpArgs false
set_option linter.unusedVariables false
set_option maxRecDepth 100000
set_option maxHeartbeats 4000000
attribute [local irreducible] X XO XE XF XD XW thenX inX retX kN CallsR
section
variable {w : World}
theorem Sw.trs {own own' : Nat → Nat} {w' : World} {p : Nat} {s' : Md} (h : Sw own w own' w') (hI : RsI own' w' p s') : TrS own w p s' w' := ⟨own', hI, h⟩
theorem siftTells_calls (most : Int) {l : List Fun8} {k rs : List Int} {a b c : Option Addr} {ca cb cc : Nat} (v grow : Int) (all : Bool) (hI : Inp w 4 a (l.map rowF)) (hK : InI w b k) (hQ : InI w c rs) (hok : ∀ n ∈ rs, okI n) (hl : l.length ≤ 140737488351232) (hk : k.length ≤ 140737488351232) (hq : rs.length ≤ 140737488351232) :
    CallsR Tryz.prog 3 #[.int .i64 most, .slice a l.length ca, .slice b k.length cb, .slice c rs.length cc, .int .i64 v, .int .i64 grow, .bool all] w fun r w' => r = .bool true ∧ Ext w w' := by
  have up := up13_calls
  by_cases hno : ¬ (0 ≤ most ∧ most ≤ 20000) ∨ 6 < l.length ∨ 30 < k.length
  · have b0 := fun w => built_none (a := a) (b := b) (ca := ca) (cb := cb) (w := w) most hno hl hk
    clear hI hK hQ hok hno
    refine en7 Tryz.func3 Tryz.results3 mixed [] ?_
    intro e0 h0 h1 h2 h3 h4 h5 h6
    refine w_ fun d => ?_
    refine (up _).mono ?_
    rintro _ w1 ⟨rfl, hE1⟩
    refine w_ fun d => ?_
    refine (b0 _).mono ?_
    rintro _ w2 ⟨rfl, hE2⟩
    clear up b0
    refine w_ fun d => ?_
    exact ⟨rfl, ext_⟩
  have hyes : (0 ≤ most ∧ most ≤ 20000) ∧ l.length ≤ 6 ∧ k.length ≤ 30 := by
    refine ⟨Classical.byContradiction fun h => hno (.inl h), ?_, ?_⟩
    · have : ¬ 6 < l.length := fun h => hno (.inr (.inl h)); omega
    · have : ¬ 30 < k.length := fun h => hno (.inr (.inr h)); omega
  clear hno
  obtain ⟨⟨m0, m1⟩, l6, k30⟩ := hyes
  have b0 := fun w hI hK => built_calls (a := a) (b := b) (ca := ca) (cb := cb) (w := w) most m0 m1 l6 k30 hI hK
  by_cases hqn : rs.length ≤ 20
  rotate_left
  · have hqn' : (20 : Int) < rs.length := by omega
    clear hQ hok hqn
    refine en7 Tryz.func3 Tryz.results3 mixed [] ?_
    intro e0 h0 h1 h2 h3 h4 h5 h6
    refine w_ fun d => ?_
    refine (up _).mono ?_
    rintro _ w1 ⟨rfl, hE1⟩
    have hE1w : Ext w w1 := Ext.trans (by exact ext_) hE1
    refine w_ fun d => ?_
    refine (b0 _ (Inp.ext hI hE1w) (Inp.ext hK hE1w)).mono ?_
    rintro _ w2 ⟨ps, pm, s, rfl, hP, G⟩
    have hE2 := hP.world
    clear up b0 hP G hI hK
    refine w_ fun d => ?_
    exact ⟨rfl, ext_⟩
  have hqn' : ¬ (20 : Int) < rs.length := by omega
  refine en7 Tryz.func3 Tryz.results3 mixed [] ?_
  intro e0 h0 h1 h2 h3 h4 h5 h6
  refine w_ fun d => ?_
  refine (up _).mono ?_
  rintro _ w1 ⟨rfl, hE1⟩
  have hE1w : Ext w w1 := Ext.trans (by exact ext_) hE1
  refine w_ fun d => ?_
  refine (b0 _ (Inp.ext hI hE1w) (Inp.ext hK hE1w)).mono ?_
  rintro _ w2 ⟨ps, pm, s, rfl, hP, G⟩
  have hE2w := hE1w.trans hP.world
  obtain ⟨oM, hM⟩ := hP.m
  have nw := fun u (hE : Ext w2 u) => nodes_calls00 (c := cc) (hM.ext hE) G.wf (Inp.ext (Inp.ext hQ hE2w) hE) (by omega)
  have hok2 : ∀ n ∈ nodesL s rs, n ≤ 9223372036854775807 := fun n hn => by
    obtain ⟨x, hx, rfl⟩ := List.mem_map.1 hn
    exact pickN_le G.wf (hok x hx).2
  have hl2 : (nodesL s rs).length ≤ 20 := by unfold nodesL; rw [List.length_map]; omega
  obtain ⟨L, hL⟩ : ∃ L, nodesL s rs = L := ⟨_, rfl⟩
  rw [hL] at nw hok2 hl2
  clear hI hK hQ hok up b0 hL hM hE1
  refine w_ fun d => ?_
  refine at_c fun x0 hx0 => ?_
  have hE0 : Ext w2 x0 := by rw [hx0]; exact ext_
  clear hx0
  refine (nw _ hE0).mono ?_
  rintro _ w3 ⟨aL, cL, rfl, hS3, hn3, hE3⟩
  have hPL := PrL.of (hP.ext hE0) hE3 hS3 hn3
  have hEw3 := hE1w.trans hPL.pri.world
  clear nw hP hE3 hE2w hS3 hn3 hE0
  have code0 := code_sure 0 (by decide) (by decide)
  have code1 := code_sure 1 (by decide) (by decide)
  rw [errV0] at code0
  by_cases hno : grow < 0 ∨ (all = false ∧ (v < 0 ∨ 8 ≤ v))
  · have q1 := fun (hv : grow < 0 ∨ v < 0 ∨ 8 ≤ v) => siftNo_calls (p := ps) (v := v) (rs := L) (a := aL) (c := cL) (w := w3) (grow := grow) (by omega)
    have q2 := fun (hv : grow < 0 ∨ v < 0 ∨ 8 ≤ v) => rsSiftNo_calls (p := pm) (v := v) (rs := L) (a := aL) (c := cL) (w := w3) (grow := grow) (by omega)
    have q3 := fun (hg : grow < 0) => siAllNo_calls (p := ps) (rs := L) (a := aL) (c := cL) (w := w3) (grow := grow) hg
    have q4 := fun (hg : grow < 0) => rsSiAllNo_calls (p := pm) (rs := L) (a := aL) (c := cL) (w := w3) (grow := grow) hg
    have sm := fun u (hE : Ext w3 u) => same_calls (hPL.pri.ext hE) G
    clear hok2 G hPL
    cases all with
    | true =>
      have hg : grow < 0 := by simpa using hno
      have q3 := q3 hg
      have q4 := q4 hg
      clear q1 q2 hno hg
      refine w_ fun d => ?_
      refine qq q3 fun u1 hE1 hs1 => ?_
      have q4 := q4.at hE1
      refine w_ fun d => ?_
      refine qq (code1.quiet (w := u1)) fun u2 hE2 hs2 => ?_
      have q4 := q4.at hE2
      have hE12 := hE1.trans hE2
      refine w_ fun d => ?_
      refine qq q4 fun u3 hE3 hs3 => ?_
      have hE13 := hE12.trans hE3
      clear q3 q4
      refine w_ fun d => ?_
      refine (sm _ (hE13.trans ext_)).mono ?_
      rintro _ u4 ⟨rfl, hE4⟩
      clear sm
      refine w_ fun d => ?_
      exact ⟨rfl, ext_⟩
    | false =>
      have hg : grow < 0 ∨ v < 0 ∨ 8 ≤ v := by simpa using hno
      have q1 := q1 hg
      have q2 := q2 hg
      clear q3 q4 hno hg
      refine w_ fun d => ?_
      refine qq q1 fun u1 hE1 hs1 => ?_
      have q2 := q2.at hE1
      refine w_ fun d => ?_
      refine qq (code1.quiet (w := u1)) fun u2 hE2 hs2 => ?_
      have q2 := q2.at hE2
      have hE12 := hE1.trans hE2
      refine w_ fun d => ?_
      refine qq q2 fun u3 hE3 hs3 => ?_
      have hE13 := hE12.trans hE3
      clear q1 q2
      refine w_ fun d => ?_
      refine (sm _ (hE13.trans ext_)).mono ?_
      rintro _ u4 ⟨rfl, hE4⟩
      clear sm
      refine w_ fun d => ?_
      exact ⟨rfl, ext_⟩
  have hg : 0 ≤ grow := by omega
  have hvv : all = false → 0 ≤ v ∧ v < 8 := fun h => by
    refine ⟨?_, ?_⟩
    · have : ¬ v < 0 := fun h2 => hno (.inr ⟨h, .inl h2⟩)
      omega
    · have : ¬ 8 ≤ v := fun h2 => hno (.inr ⟨h, .inr h2⟩)
      omega
  clear hno
  have hl3 : L.length ≤ 1000000 := by omega
  cases all with
  | true =>
    have G2 := siftK_good (rs := L) (grow := grow) G 8 (by decide)
    have sI := fun y (h : PrL w1 y ps pm s s aL cL L) => h.turnS (s' := siftK L grow s 8) (R := fun r => r = .nilIface) (fun own ho hS h0 => (siAll_calls ho G hS h0 hl3 hok2 hg).mono fun r w' ⟨hr, o', hI, hSw⟩ => ⟨hr, hSw.tri hI⟩)
    have sM := fun y s1 (h : PrL w1 y ps pm s1 s aL cL L) => h.turnM (sM' := siftK L grow s 8) (R := fun r => r = .int .i64 0) (fun own ho hS h0 => (rsSiAll_calls ⟨ho, hS, h0⟩ G hl3 hok2 hg).mono fun r w' ⟨hr, o', hI, hSw⟩ => ⟨hr, hSw.trs hI.rsi⟩)
    generalize siftK L grow s 8 = s2 at *
    clear hvv hok2 G hg
    refine w_ fun d => ?_
    refine (sI _ (hPL.ext ext_)).mono ?_
    rintro _ x2 ⟨rfl, hP2⟩
    clear sI hPL
    refine w_ fun d => ?_
    refine qq (code0.quiet (w := x2)) fun x3 hE3 hs3 => ?_
    refine w_ fun d => ?_
    refine (sM _ _ ((hP2.ext hE3).ext ext_)).mono ?_
    rintro _ x4 ⟨rfl, hP4⟩
    clear sM hP2
    have sm := fun u (hE : Ext x4 u) => same_calls (hP4.ext hE) G2
    have hW := hE1w.trans hP4.world
    clear hP4 G2 hE3
    refine w_ fun d => ?_
    refine (sm _ ext_).mono ?_
    rintro _ u4 ⟨rfl, hE4⟩
    clear sm
    refine w_ fun d => ?_
    exact ⟨rfl, ext_⟩
  | false =>
    have hv := hvv rfl
    have G2 := sift_good (rs := L) (grow := grow) G hv
    have sI := fun y (h : PrL w1 y ps pm s s aL cL L) => h.turnS (s' := s.sift L v grow) (R := fun r => r = .nilIface) (fun own ho hS h0 => (siSift_calls ho G hS h0 hl3 hok2 hv hg).mono fun r w' ⟨hr, o', hI, hSw⟩ => ⟨hr, hSw.tri hI⟩)
    have sM := fun y s1 (h : PrL w1 y ps pm s1 s aL cL L) => h.turnM (sM' := s.sift L v grow) (R := fun r => r = .int .i64 0) (fun own ho hS h0 => (rsSift_calls ⟨ho, hS, h0⟩ G hl3 hok2 hv hg).mono fun r w' ⟨hr, o', hI, hSw⟩ => ⟨hr, hSw.trs hI.rsi⟩)
    generalize s.sift L v grow = s2 at *
    clear hvv hok2 G hg hv
    refine w_ fun d => ?_
    refine (sI _ (hPL.ext ext_)).mono ?_
    rintro _ x2 ⟨rfl, hP2⟩
    clear sI hPL
    refine w_ fun d => ?_
    refine qq (code0.quiet (w := x2)) fun x3 hE3 hs3 => ?_
    refine w_ fun d => ?_
    refine (sM _ _ ((hP2.ext hE3).ext ext_)).mono ?_
    rintro _ x4 ⟨rfl, hP4⟩
    clear sM hP2
    have sm := fun u (hE : Ext x4 u) => same_calls (hP4.ext hE) G2
    have hW := hE1w.trans hP4.world
    clear hP4 G2 hE3
    refine w_ fun d => ?_
    refine (sm _ ext_).mono ?_
    rintro _ u4 ⟨rfl, hE4⟩
    clear sm
    refine w_ fun d => ?_
    exact ⟨rfl, ext_⟩
end
end Go.Proofs.YtpeindhocndmnaaGreat

