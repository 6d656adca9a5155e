/- RsR, Law08d: texts of this work, one behind the other. -/
import Derived.Test.YtpeindhocndmnaaGreatRt7
namespace Go.Proofs.YtpeindhocndmnaaGreat
open Go Go.Bx
set_option linter.unusedSimpArgs false
set_option linter.unusedVariables false
set_option maxRecDepth 100000
set_option maxHeartbeats 4000000
attribute [local irreducible] X XO XE XF XD XW thenX inX retX kN CallsR
def bools (l : List Bool) : List Value := l.map Value.bool
theorem ms_bools {w : World} {n : Nat} (hn : n ≤ 1099511627776) : msR Tryz.prog 103 (.int .i64 (n : Int)) (.int .i64 (n : Int)) w = .ok (.slice (some ⟨w.heap.size, 0, none⟩) n n) (w.alloc (.cells (bools (List.replicate n false)).toArray 4)) := by
  obtain ⟨i, hi, hs, hb, hz⟩ := ((TI.mk' (sz := 1) (by_ := 1) (z := Value.bool false) Tryz.underlying4 (by kernel_rfl)) : TI Tryz.prog 4 _ _ _ _).inf
  have := run_make (P := Tryz.prog) w 103 4 i _ Tryz.underlying103 hi hz .i64 .i64 (n : Int) (n : Int) (by omega) (by omega) (by rw [hb]; omega) (by omega)
  rw [msR, this]
  have e2 : ((n : Int)).toNat = n := by omega
  rw [e2, hs]
  congr 3
  apply Array.ext_getElem?
  intro j
  by_cases hj : j < n * 1
  · unfold madeCells
    rw [Array.getElem?_map, Array.getElem?_range, if_pos hj]
    have hj' : j < n := by omega
    simp [bools, List.getElem?_replicate, hj', Value.cells, Nat.mod_one]
  · rw [Array.getElem?_eq_none (by rw [size_madeCells]; omega), Array.getElem?_eq_none (by simp [bools]; omega)]
def seenL (s : Md) (K : List Int) : List Bool := (List.range (s.N.length + 2)).map fun j : Nat => decide ((j : Int) ∈ K)
def outTo (K : List Int) (k : Nat) : List Int := ((List.range k).map fun j : Nat => (j : Int) + 2).filter fun n => decide (n ∈ K)
section
variable {s : Md} {K : List Int} {n : Int}
theorem seenL_len : (seenL s K).length = s.N.length + 2 := by simp [seenL]
theorem seenL_nil : seenL s [] = List.replicate (s.N.length + 2) false := by
  apply List.ext_getElem?
  intro j
  simp only [seenL, List.getElem?_map, List.getElem?_replicate]
  by_cases h : j < s.N.length + 2
  · rw [List.getElem?_range h, if_pos h]; simp
  · rw [List.getElem?_eq_none (by simp; omega), if_neg h]; rfl
theorem seenL_at {j : Nat} (h : j < s.N.length + 2) : (seenL s K)[j]? = some (decide ((j : Int) ∈ K)) := by
  simp only [seenL, List.getElem?_map, List.getElem?_range h, Option.map_some]
theorem seenL_set {k : Nat} (h : k < s.N.length + 2) : (seenL s K).set k true = seenL s (K ++ [(k : Int)]) := by
  apply List.ext_getElem?
  intro j
  by_cases hj : j < s.N.length + 2
  · rw [seenL_at hj, List.getElem?_set]
    by_cases e : k = j
    · subst e
      rw [if_pos rfl, if_pos (by rw [seenL_len]; exact hj)]; simp
    · rw [if_neg e, seenL_at hj]
      have : ¬ (j : Int) = k := fun h => e (by omega)
      simp [this]
  · rw [List.getElem?_eq_none (by rw [List.length_set, seenL_len]; omega), List.getElem?_eq_none (by rw [seenL_len]; omega)]
theorem outTo_succ {k : Nat} : outTo K (k + 1) = outTo K k ++ if decide ((k : Int) + 2 ∈ K) then [(k : Int) + 2] else [] := by
  unfold outTo
  rw [List.range_succ, List.map_append, List.filter_append]
  congr 1
  simp only [List.map_cons, List.map_nil]
  by_cases h : (k : Int) + 2 ∈ K
  · rw [List.filter_cons_of_pos (by simp [h]), if_pos (by simp [h])]; rfl
  · rw [List.filter_cons_of_neg (by simp [h]), if_neg (by simp [h])]; rfl
theorem outTo_len {k : Nat} : (outTo K k).length ≤ k := Nat.le_trans (List.length_filter_le _ _) (by simp)
theorem outTo_reach {rs : List Int} (h : Rdf s rs K []) (W : s.WF) : outTo K s.N.length = s.reach rs := by
  refine h.reach W ?_ fun x => ?_
  · refine List.Pairwise.filter _ ?_
    rw [List.pairwise_map]
    exact List.Pairwise.imp (fun h => by omega) List.pairwise_lt_range
  · unfold outTo
    rw [List.mem_filter, List.mem_map, decide_eq_true_eq]
    refine ⟨fun h => h.2, fun hx => ⟨?_, hx⟩⟩
    have := W.lt (h.rch x hx).has
    exact ⟨(x - 2).toNat, List.mem_range.2 (by omega), by omega⟩
end
section
variable {own : Nat → Nat} {w : World} {p : Nat} {rs : List Int} {s : Md}
theorem rsReach_calls {a : Option Addr} {c : Nat} (h : RsI own w p s) (G : s.Good []) (hI : InI w a rs) (hl : rs.length ≤ 1000000) (hn : ∀ n ∈ rs, n ≤ 9223372036854775807) :
    CallsR Tryz.prog 29 #[.pointer (some ⟨p, 0, none⟩), .slice a rs.length c] w fun r w' => ∃ a' c', r = .slice a' (s.reach rs).length c' ∧ SlC w' 3 a' c' (ints (s.reach rs)) ∧ (∀ g, blk a' = some g → w.heap.size ≤ g) ∧ Ext w w' := by
  have W := G.wf
  have hN := wf_N W
  have hal : s.all.length ≤ 20000 := by have := allTo_len (s := s) (k := s.N.length); rw [allTo_all] at this; omega
  have nd := fun u (hE : Ext w u) n hn => (rsNode_calls (h.ext hE) W n hn)
  obtain ⟨pa, na, nc, sc, oc, hX⟩ := h
  have hp := hX.at_
  have c2 := hX.rc.c1
  have hsz := hX.rc.size
  have hpl := lt_of_heap hp
  have e2 : (s.N.length : Int) + 2 = ((s.N.length + 2 : Nat) : Int) := by omega
  have mb := fun w => ms_bools (w := w) (n := s.N.length + 2) (by omega)
  simp only [← e2] at mb
  clear hX
  obtain ⟨CS, hCS⟩ : ∃ C, (bools (List.replicate (s.N.length + 2) false)).toArray = C := ⟨_, rfl⟩
  have hs0 : SlC (w.alloc (.cells CS 4)) 4 (some ⟨w.heap.size, 0, none⟩) (s.N.length + 2) (bools (seenL s [])) := by
    have := SlC.made (w := w.alloc (.cells CS 4)) (E := 4) (l := bools (seenL s [])) (g := w.heap.size) (by rw [seenL_nil, hCS]; exact alloc_new) (by rw [bools, List.length_map, seenL_len]; omega)
    rwa [show (bools (seenL s [])).length = s.N.length + 2 by rw [bools, List.length_map, seenL_len]] at this
  have hw0 : SlC ((w.alloc (.cells CS 4)).alloc (.cells #[] 3)) 3 (some ⟨w.heap.size + 1, 0, none⟩) 0 (ints []) := SlC.made (l := []) (hA rfl) (by simp)
  have hE2 : Ext w ((w.alloc (.cells CS 4)).alloc (.cells #[] 3)) := ext_
  obtain ⟨aw, cw, w3, hr3, hw3, hC3, hB3⟩ := SlC.appI hw0 (c := c) (Inp.ext hI hE2) (by simp; omega)
  rw [List.nil_append] at hr3 hw3
  have hs3 := (hs0.alloc (o := .cells #[] 3)).chg hC3 fun g hg h2 => by have h3 := blk_g h2; have h4 := blk_g hg; omega
  have hE3 : Ext w w3 := hC3.toExt hE2 fun k hk hf => by have := blk_g hf; omega
  have hnw3 : ∀ g, blk aw = some g → w.heap.size ≤ g := fun g hg => by
    rcases hB3 g hg with h | ⟨h, _⟩
    · have := blk_g h; omega
    · simp only [alloc_size] at h; omega
  have hp3 := hE3.at hp
  rw [hCS] at mb
  simp only [show ([] : List Int).length = 0 from rfl] at hr3
  clear hw0 hC3 hB3 hs0 hE2 hCS e2
  refine en2 Tryz.func29 Tryz.results29 mixed [] ?_
  intro e0 h0 h1
  refine w_ fun d => ?_
  obtain ⟨bs, hbs⟩ : ∃ b, w.heap.size = b := ⟨_, rfl⟩
  have hbs' : w.heap.size ≤ bs := by omega
  rw [hbs] at hs3 ⊢
  have hbq : Box (w.heap.size = bs) := ⟨hbs⟩
  clear hbs
  refine log_ (fun m W e u => ∃ (i : Nat) (aw : Option Addr) (cw : Nat) (wl K : List Int), e 7 = .int .i64 i ∧ e 6 = .slice aw wl.length cw ∧ i ≤ wl.length ∧ SlC u 3 aw cw (ints wl) ∧ (∀ g, blk aw = some g → w.heap.size ≤ g) ∧ SlC u 4 (some ⟨bs, 0, none⟩) (s.N.length + 2) (bools (seenL s K)) ∧ Ext w u ∧ Box (Rdf s rs K (wl.drop i)) ∧ Box (∀ x ∈ wl, x ≤ 9223372036854775807) ∧ wl.length ≤ rs.length + 2 * K.length ∧ 3 * (s.all.length - K.length) + (wl.length - i) = m) (3 * s.all.length + rs.length) ?_ ?_
  · exact ⟨0, aw, cw, rs, [], eA rfl, eA rfl, by omega, hw3.ext ext_, hnw3, hs3.ext ext_, hE3.trans ext_, ⟨.init⟩, ⟨hn⟩, by simp, by simp⟩
  clear hw3 hnw3 hs3 hE3 hp3 hn hr3 mb
  rintro m e u hf ⟨i, aw, cw, wl, K, h7, h6, hi, hW, hnw, hS, hE, ⟨hD⟩, ⟨hn⟩, hwl, hm⟩
  have hKl := hD.len W
  have hSN : ∀ j : Nat, j < s.N.length + 2 → (bools (seenL s K))[j]? = some (.bool (decide ((j : Int) ∈ K))) := fun j hj => by unfold bools; rw [List.getElem?_map, seenL_at hj]; rfl
  by_cases hil : i < wl.length
  rotate_left
  · -- all was met
    have hnil : wl.drop i = [] := List.drop_of_length_le (by omega)
    rw [hnil] at hD
    have hout := outTo_reach hD W
    have hil' : ¬ (i : Int) < wl.length := by omega
    clear hD hW hnw hn nd hnil
    refine w_ fun d => ?_
    refine lo_ (fun _ e u => ∃ (k : Nat) (a' : Option Addr) (c' : Nat), k ≤ s.N.length ∧ e 11 = .int .i64 ((k : Int) + 2) ∧ e 10 = .slice a' (outTo K k).length c' ∧ SlC u 3 a' c' (ints (outTo K k)) ∧ (∀ g, blk a' = some g → w.heap.size ≤ g ∧ g ≠ bs) ∧ SlC u 4 (some ⟨bs, 0, none⟩) (s.N.length + 2) (bools (seenL s K)) ∧ Ext w u) (fun e _ => s.N.length + 2 - nat (e 11)) ?_ ?_
    · exact ⟨0, none, 0, by omega, eA rfl, eA rfl, SlC.nil _ _, (fun g h => by cases h), hS.ext ext_, hE.trans ext_⟩
    clear hS hE
    rintro e2 x hf2 ⟨k, a', c', hk, h11, h10, hO, hno, hS, hE⟩
    have hol := outTo_len (K := K) (k := k)
    by_cases hkl : k < s.N.length
    rotate_left
    · obtain rfl : k = s.N.length := by omega
      rw [hout] at h10 hO
      clear hout hSN hS hol
      refine w_ fun d => ?_
      exact ⟨a', c', rfl, hO.ext ext_, fun g hg => by have := (hno g hg).1; obtain ⟨h⟩ := hbq; omega, ext_⟩
    have hsn := hSN (k + 2) (by omega)
    obtain ⟨gs, curs, hgse, hgs, hcs, hlts, hats⟩ := hS.at hsn
    cases hgse
    have lgs := lt_of_heap hgs
    have hos := outTo_succ (K := K) (k := k)
    rw [show ((k + 2 : Nat) : Int) = (k : Int) + 2 by omega] at hats
    have nl : (k : Int) + 2 < ((s.N.length + 2 : Nat) : Int) := by omega
    have tn : ((k : Int) + 2).toNat = k + 2 := by omega
    have e3 : (k : Int) + 2 + 1 = ((k + 1 : Nat) : Int) + 2 := by omega
    have p1 : ∀ {v}, Ext x v → SlC v 4 (some ⟨bs, 0, none⟩) (s.N.length + 2) (bools (seenL s K)) := fun h => hS.ext h
    by_cases hkK : (k : Int) + 2 ∈ K
    · rw [decide_eq_true hkK] at hats
      rw [if_pos (by simp [hkK])] at hos
      obtain ⟨a6, c6, w6, hr6, hO6, hC6, hs6, hB6⟩ := pushI hO (by omega) ((k : Int) + 2)
      have hS6 := hS.chg hC6 fun g hg h2 => (hno g h2).2 (blk_g hg).symm
      have hw6 : Ext w w6 := hC6.toExt hE fun g hg hb => by have := (hno g hb).1; omega
      have hl6 : (outTo K k ++ [(k : Int) + 2]).length = (outTo K k).length + 1 := by simp
      have hbx := lt_of_heap hgs
      have hno6 : ∀ g, blk a6 = some g → w.heap.size ≤ g ∧ g ≠ bs := fun g hg => by
        rcases hB6 g hg with h | ⟨h, _⟩
        · exact hno g h
        · have := hE.size; omega
      clear hO hC6 hB6 hS hsn hlts hkK hSN p1 hno hout hE
      refine w_ fun d => ?_
      exact ⟨⟨k + 1, a6, c6, by omega, (by rw [← e3]; exact eA rfl), by rw [hos, hl6]; exact eA rfl, by rw [hos]; exact hO6.ext ext_, hno6, hS6.ext ext_, hw6.trans ext_⟩, mA⟩
    · rw [decide_eq_false hkK] at hats
      rw [if_neg (by simp [hkK]), List.append_nil] at hos
      clear hS hsn hlts hkK hSN hout
      refine w_ fun d => ?_
      exact ⟨⟨k + 1, a', c', by omega, (by rw [← e3]; exact eA rfl), by rw [hos]; exact eA rfl, by rw [hos]; exact hO.ext ext_, hno, p1 ext_, hE.trans ext_⟩, mA⟩
  obtain ⟨n, hni⟩ : ∃ n, wl[i]? = some n := ⟨_, List.getElem?_eq_getElem hil⟩
  have hnm := List.mem_of_getElem? hni
  have hnb := hn n hnm
  have hdr : wl.drop i = n :: wl.drop (i + 1) := by
    rw [List.drop_eq_getElem_cons hil, (List.getElem?_eq_some_iff.1 hni).2]
  have hil' : (i : Int) < wl.length := by omega
  obtain ⟨gw, cur, rfl, hgw, hcw, hlt, hat⟩ := hW.at (i := i) (v := .int .i64 n) (by unfold ints; rw [List.getElem?_map, hni]; rfl)
  rw [List.length_map] at hcw
  have lg := lt_of_heap hgw
  have n1 := nd u hE n hnb
  have q1 : ∀ {v}, Ext u v → SlC v 3 (some ⟨gw, 0, none⟩) cw (ints wl) := fun h => hW.ext h
  have q2 : ∀ {v}, Ext u v → SlC v 4 (some ⟨bs, 0, none⟩) (s.N.length + 2) (bools (seenL s K)) := fun h => hS.ext h
  have q3 : ∀ {v}, Ext u v → Ext w v := fun h => hE.trans h
  have hsk : s.has n = false ∨ n ∈ K → Box (Rdf s rs K (wl.drop (i + 1))) := fun hk => ⟨hD.skip hk (fun x hx => by rw [hdr] at hx; rcases List.mem_cons.1 hx with h | h; exact .inl h; exact .inr h) (fun x hx => by rw [hdr]; exact List.mem_cons_of_mem _ hx)⟩
  cases hh : s.has n with
  | false =>
    rw [nod_no hh] at n1
    simp only [ndV] at n1
    have hsk' := hsk (.inl hh)
    clear hsk hD hdr hh hni hnm hSN nd hW hS hE hlt
    refine w_ fun d => ?_
    refine qq n1 fun u2 hE2 hs2 => ?_
    refine w_ fun d => ?_
    exact ⟨_, (by omega), i + 1, _, cw, wl, K, eA rfl, eA rfl, by omega, q1 (hE2.trans ext_), hnw, q2 (hE2.trans ext_), q3 (hE2.trans ext_), hsk', ⟨hn⟩, hwl, rfl⟩
  | true =>
    rw [nod_has hh] at n1
    have hln := W.lt hh
    have hsn := hSN n.toNat (by omega)
    rw [show ((n.toNat : Nat) : Int) = n by omega] at hsn
    obtain ⟨gs, curs, hgse, hgs, hcs, hlts, hats⟩ := hS.at hsn
    cases hgse
    have lgs := lt_of_heap hgs
    have n0 : 0 ≤ n := by omega
    have nl : n < ((s.N.length + 2 : Nat) : Int) := by omega
    have hne : gw ≠ bs := fun e => by rw [e, hgs] at hgw; cases hgw
    by_cases hK : n ∈ K
    · have hsk' := hsk (.inr hK)
      rw [decide_eq_true hK] at hats
      obtain ⟨⟨v, lo, hi'⟩, hz⟩ : ∃ z, s.nd n = z := ⟨_, rfl⟩
      rw [hz] at n1
      simp only [ndV] at n1
      clear hsk hD hdr hh hni hnm hSN nd hW hS hE hlt hsn hlts hz
      refine w_ fun d => ?_
      refine qq n1 fun u2 hE2 hs2 => ?_
      have hgw2 := hE2.at hgw
      have lg2 := lt_of_heap hgw2
      have hgs2 := hE2.at hgs
      have lgs2 := lt_of_heap hgs2
      refine w_ fun d => ?_
      exact ⟨_, (by omega), i + 1, _, cw, wl, K, eA rfl, eA rfl, by omega, q1 (hE2.trans ext_), hnw, q2 (hE2.trans ext_), q3 (hE2.trans ext_), hsk', ⟨hn⟩, hwl, rfl⟩
    · rw [decide_eq_false hK] at hats
      have ok := G.node n hh (by simp)
      have blo := (Md.below_lt W ok.lo).1
      have bhi := (Md.below_lt W ok.hi).1
      have hKl2 := hD.len' W hh hK
      have hD' : Rdf s rs (K ++ [n]) (wl.drop (i + 1) ++ [(s.nd n).2.1, (s.nd n).2.2]) := hD.go hh hK (by rw [hdr]; simp) (fun x hx => by rw [hdr] at hx; rcases List.mem_cons.1 hx with h | h; exact .inl h; exact .inr (by simp [h])) (fun x hx => by rw [hdr]; simp at hx ⊢; rcases hx with h | h | h <;> simp [h]) (by simp) (by simp)
      obtain ⟨⟨v, lo, hi'⟩, hz⟩ : ∃ z, s.nd n = z := ⟨_, rfl⟩
      rw [hz] at n1 hD' blo bhi
      simp only [ndV] at n1
      dsimp only at hD' blo bhi
      have hdr2 : wl.drop (i + 1) ++ [lo, hi'] = (wl ++ [lo, hi']).drop (i + 1) := by rw [List.drop_append_of_le_length (by omega)]
      rw [hdr2] at hD'
      have hnb2 : ∀ x ∈ wl ++ [lo, hi'], x ≤ 9223372036854775807 := fun x hx => by
        simp only [List.mem_append, List.mem_cons, List.not_mem_nil, or_false] at hx
        rcases hx with h | h | h
        · exact hn x h
        · omega
        · omega
      have hset : ∀ (v : World), SlC v 4 (some ⟨bs, 0, none⟩) (s.N.length + 2) (bools (seenL s K)) → v.heap[bs]? = some (.cells curs 4) → SlC (upd v bs (.cells (curs.setIfInBounds n.toNat (.bool true)) 4)) 4 (some ⟨bs, 0, none⟩) (s.N.length + 2) (bools (seenL s (K ++ [n]))) := fun v hv hb => by
        have := hv.set hb (i := n.toNat) (by rw [bools, List.length_map, seenL_len]; omega) (.bool true)
        have h2 := seenL_set (s := s) (K := K) (k := n.toNat) (by omega)
        rw [show ((n.toNat : Nat) : Int) = n by omega] at h2
        rw [← h2, bools, List.map_set]
        exact this
      clear hsk hD hdr hh hni hnm hSN nd hlt hsn hlts hz ok hdr2 hW hS hE
      have hats' : Box (curs[n.toNat]? = some (Value.bool false)) := ⟨hats⟩
      clear hats
      refine w_ fun d => ?_
      refine qq n1 fun u2 hE2 hs2 => ?_
      have hgw2 := hE2.at hgw
      have lg2 := lt_of_heap hgw2
      have hgs2 := hE2.at hgs
      have lgs2 := lt_of_heap hgs2
      refine w_ fun d => ?_
      refine at_o fun u3 hu3 => ?_
      have hE3 : Ext u2 u3 := by rw [hu3]; exact ext_
      have hx3 : u3.heap[u2.heap.size]? = some (.cells #[.int .i64 v, .int .i64 lo, .int .i64 hi'] 90) := by rw [hu3]; exact hA rfl
      have hE23 := hE2.trans hE3
      have hW3 := q1 hE23
      have hS3 := q2 hE23
      have hw3 := q3 hE23
      have hgw3 := hE3.at hgw2
      have lg3 := lt_of_heap hgw3
      have hgs3 := hE3.at hgs2
      have lgs3 := lt_of_heap hgs3
      obtain ⟨hats⟩ := hats'
      have hcz : n.toNat < curs.size := (Array.getElem?_eq_some_iff.1 hats).1
      have hxl := lt_of_heap hx3
      obtain ⟨bx, hbx⟩ : ∃ b, u2.heap.size = b := ⟨_, rfl⟩
      rw [hbx] at hx3 hxl ⊢
      have hxs : bx ≠ bs := fun e => by rw [e, hgs3] at hx3; cases hx3
      have hxg : bx ≠ gw := fun e => by rw [e, hgw3] at hx3; cases hx3
      clear hu3 hE2 hE3 hE23 hgw2 hgs2 lg2 lgs2 hbx q1 q2 q3 hs2
      -- the mark
      have hS4 := hset u3 hS3 hgs3
      obtain ⟨CB, hCB⟩ : ∃ C, curs.setIfInBounds n.toNat (.bool true) = C := ⟨_, rfl⟩
      rw [hCB] at hS4
      have hW4 := hW3.upd (b := bs) (o := .cells CB 4) (fun g hg => by rw [← blk_g hg]; exact hne)
      have hw4 : Ext w (upd u3 bs (.cells CB 4)) := hw3.upd hbs' _
      have hx4 : (upd u3 bs (.cells CB 4)).heap[bx]? = some (.cells #[.int .i64 v, .int .i64 lo, .int .i64 hi'] 90) := by rw [upd_other (Ne.symm hxs)]; exact hx3
      have hxl4 := lt_of_heap hx4
      obtain ⟨a6, c6, w6, hr6, hW6, hC6, hs6, hB6⟩ := pushI2 hW4 (by omega) lo hi'
      have hS6 := hS4.chg hC6 fun g hg h2 => by
        have e1 := blk_g hg
        have e2 := blk_g h2
        exact hne (e2.trans e1.symm)
      have hw6 : Ext w w6 := hC6.toExt hw4 fun g hg hb => by have := hnw g hb; omega
      have hnw6 : ∀ g, blk a6 = some g → w.heap.size ≤ g := fun g hg => by
        rcases hB6 g hg with h | ⟨h, _⟩
        · exact hnw g h
        · have := hw4.size; omega
      simp only [upd_size] at hr6
      have e1 : (wl ++ [lo, hi']).length = wl.length + 2 := by simp
      have e2 : (K ++ [n]).length = K.length + 1 := by simp
      subst hCB
      clear hC6 hB6 hS4 hW4 hw4 hW3 hS3 hw3 hset
      refine w_ fun d => ?_
      exact ⟨_, (by rw [e1, e2]; omega), i + 1, a6, c6, wl ++ [lo, hi'], K ++ [n], eA rfl, by rw [e1]; exact eA rfl, by rw [e1]; omega, hW6.ext ext_, hnw6, hS6.ext ext_, hw6.trans ext_, ⟨hD'⟩, ⟨hnb2⟩, by rw [e1, e2]; omega, rfl⟩
end
end Go.Proofs.YtpeindhocndmnaaGreat

namespace Go.Proofs.YtpeindhocndmnaaGreat
open Go Go.Bx
set_option linter.unusedSimpArgs false
set_option linter.unusedVariables false
set_option maxRecDepth 100000
set_option maxHeartbeats 4000000
attribute [local irreducible] X XO XE XF XD XW thenX inX retX kN CallsR
section
variable {own ownM : Nat → Nat} {w : World} {p pm : Nat} {s : Md} {n : Int} {f : Fun8}
theorem rdTopNone_calls (G : s.Good []) (hS : StI own w p s []) (hn : n ≤ 9223372036854775807) (hh : s.has n = false) : Quiet Tryz.prog 20 #[.pointer (some ⟨p, 0, none⟩), .int .i64 n] w (fv (constF (decide (n = 1)))) := by
  intro u hu
  have hSu := hS.ext hu
  have tn := fun v (hE : Ext u v) b => rdTable_none (hSu.ext hE) G.wf hn hh b
  obtain ⟨C, hC⟩ : ∃ X, constF (decide (n = 1)) = X := ⟨_, rfl⟩
  rw [hC] at tn ⊢
  clear hS hu hSu hC hh hn G
  refine en2 Tryz.func20 Tryz.results20 mixed [] ?_
  intro e0 h0 h1
  refine w_ fun d => ?_
  refine (tn _ ext_ _).mono ?_
  rintro _ u2 ⟨rfl, hE⟩
  have h3 : u2.heap[u.heap.size]? = some (.cells #[.int .u64 0, .int .u64 0, .int .u64 0, .int .u64 0] 48) := hE.at (hA rfl)
  have hl3 := lt_of_heap h3
  have hE2 : Ext u u2 := Ext.trans (by exact ext_) hE
  clear tn hE
  refine w_ fun d => ?_
  exact ⟨rfl, ext_⟩
theorem rdValueNone_calls (h : StI own w p s []) (G : s.Good []) (hn : n ≤ 9223372036854775807) (hh : s.has n = false) (x : Int) : Quiet Tryz.prog 21 #[.pointer (some ⟨p, 0, none⟩), .int .i64 n, .int .i64 x] w (.bool (atF (constF (decide (n = 1))) x)) := by
  intro u hu
  have hS := h.ext hu
  by_cases hx0 : x < 0
  · have e : atF (constF (decide (n = 1))) x = false := by unfold atF; rw [decide_eq_false (by omega)]; rfl
    rw [e]
    clear e h hS G hu hh hn
    refine en3 Tryz.func21 Tryz.results21 mixed [] ?_
    intro e0 h0 h1 h2
    refine w_ fun d => ?_
    exact ⟨rfl, ext_⟩
  have hx0' : 0 ≤ x := by omega
  by_cases hx1 : 256 ≤ x
  · have e : atF (constF (decide (n = 1))) x = false := by unfold atF; rw [decide_eq_false (show ¬ x < 256 by omega), Bool.false_and, Bool.and_false]
    rw [e]
    clear e h hS G hu hh hn
    refine en3 Tryz.func21 Tryz.results21 mixed [] ?_
    intro e0 h0 h1 h2
    refine w_ fun d => ?_
    exact ⟨rfl, ext_⟩
  obtain ⟨X, rfl⟩ := Int.eq_ofNat_of_zero_le hx0'
  have hX : X < 256 := by omega
  have e : atF (constF (decide (n = 1))) X = decide (n = 1) := by
    unfold atF
    rw [decide_eq_true hx0', decide_eq_true (show (X : Int) < 256 by omega)]
    exact bt_const (b := decide (n = 1)) hX
  rw [e]
  have n1 := stNode_calls hS G.wf n hn
  rw [nod_no hh] at n1
  simp only [ndV] at n1
  clear e h hx0 hx0' hx1 hS G hu hh hn
  refine en3 Tryz.func21 Tryz.results21 mixed [] ?_
  intro e0 h0 h1 h2
  refine w_ fun d => ?_
  refine un_ 1 ?_
  refine w_ fun d => ?_
  refine qq n1 fun w1 hE1 hs1 => ?_
  refine w_ fun d => ?_
  exact ⟨rfl, ext_⟩
theorem rdCountNone_calls (h : StI own w p s []) (G : s.Good []) (hn : n ≤ 9223372036854775807) (hh : s.has n = false) : Quiet Tryz.prog 23 #[.pointer (some ⟨p, 0, none⟩), .int .i64 n] w (.int .i64 (countF (constF (decide (n = 1))) : Nat)) := by
  intro u hu
  have t1 := (rdTopNone_calls G h hn hh).at hu
  obtain ⟨C, hC⟩ : ∃ X, constF (decide (n = 1)) = X := ⟨_, rfl⟩
  rw [hC] at t1 ⊢
  have c1 : Sure Tryz.prog 61 #[fv C] _ := count_calls C
  clear h G hn hh hC
  refine en2 Tryz.func23 Tryz.results23 mixed [] ?_
  intro e0 h0 h1
  refine w_ fun d => ?_
  refine qq t1 fun w1 hE1 hs1 => ?_
  refine w_ fun d => ?_
  refine qq (c1.quiet (w := w1)) fun w2 hE2 hs2 => ?_
  refine w_ fun d => ?_
  exact ⟨rfl, ext_⟩
theorem rdSupportNone_calls (h : StI own w p s []) (G : s.Good []) (hn : n ≤ 9223372036854775807) (hh : s.has n = false) : Quiet Tryz.prog 25 #[.pointer (some ⟨p, 0, none⟩), .int .i64 n] w (.int .i64 (supF (constF (decide (n = 1))) : Nat)) := by
  intro u hu
  rw [sup_constF]
  have hr : s.reach [n] = [] := by
    rw [List.eq_nil_iff_forall_not_mem]
    intro m hm
    have h := G.wf.mem_reach.1 hm
    have key : ∀ k, s.Rc [n] k → False := fun k hk => by
      induction hk with
      | root hm hh2 => rw [List.mem_singleton.1 hm, hh] at hh2; cases hh2
      | lo _ _ ih => exact ih
      | hi _ _ ih => exact ih
    exact key m h
  have c1 := fun v (hE : Ext u v) (a : Option Addr) (hI : InI v a [n]) => rdReach_calls (c := 1) ((h.ext hu).ext hE) G hI (by simp) (fun m hm => by rw [List.mem_singleton.1 hm]; exact hn)
  rw [hr] at c1
  clear h G hn hh hr hu
  refine en2 Tryz.func25 Tryz.results25 mixed [] ?_
  intro e0 h0 h1
  refine w_ fun d => ?_
  refine (c1 _ ext_ (some ⟨u.heap.size, 0, none⟩) (SlC.made (l := ints [n]) (hA rfl) (by simp)).inp).mono ?_
  rintro _ u1 ⟨a', c', l, rfl, hS, _, hE1, rfl⟩
  have hEu1 : Ext u u1 := Ext.trans (by exact ext_) hE1
  simp only [List.length_nil]
  clear c1
  refine w_ fun d => ?_
  refine un_ 1 ?_
  refine w_ fun d => ?_
  exact ⟨rfl, ext_⟩
theorem readN {N : Int} (hS : StI own w p s []) (hM : RsI ownM w pm s) (G : s.Good []) (hn : N ≤ 9223372036854775807) (x : Int) : ∃ F : Fun8,
    Quiet Tryz.prog 19 #[.pointer (some ⟨pm, 0, none⟩), .int .i64 N] w (fv F) ∧
    Quiet Tryz.prog 20 #[.pointer (some ⟨p, 0, none⟩), .int .i64 N] w (fv F) ∧
    Quiet Tryz.prog 21 #[.pointer (some ⟨p, 0, none⟩), .int .i64 N, .int .i64 x] w (.bool (atF F x)) ∧
    Quiet Tryz.prog 23 #[.pointer (some ⟨p, 0, none⟩), .int .i64 N] w (.int .i64 (countF F : Nat)) ∧
    Quiet Tryz.prog 25 #[.pointer (some ⟨p, 0, none⟩), .int .i64 N] w (.int .i64 (supF F : Nat)) := by
  by_cases ht : s.there N = true
  · have d := G.there_den ht
    exact ⟨_, rsTable_calls hM G d, rdTop_calls G hS d, rdValue_calls hS G d x, rdCount_calls hS G d, fun u hu => rdSupport_calls (hS.ext hu) G d⟩
  · have hh : s.has N = false := by
      cases h : s.has N with
      | false => rfl
      | true => exact absurd (by unfold Md.there; rw [h, Bool.or_true, Bool.or_true]) ht
    exact ⟨_, rsTable_none hM G.wf hn hh, rdTopNone_calls G hS hn hh, rdValueNone_calls hS G hn hh x, rdCountNone_calls hS G hn hh, rdSupportNone_calls hS G hn hh⟩
end
section
variable {w : World}
theorem readTells_calls (most : Int) {l : List Dd07} {rs : List Int} {a b : Option Addr} {c cb : Nat} (n : Int) (raw : Bool) (x : Int) (hn : okI n) (hI : Inp w 5 a (l.map encD)) (hok : ∀ d ∈ l, okD d) (hK : InI w b rs) (hkr : ∀ n ∈ rs, okI n) (hl : l.length ≤ 140737488351232) (hrl : rs.length ≤ 140737488351232) :
    CallsR Tryz.prog 4 #[.int .i64 most, .slice a l.length c, .int .i64 n, .bool raw, .int .i64 x, .slice b rs.length cb] w fun r w' => r = .bool true ∧ Ext w w' := by
  have up := up08_calls
  by_cases hm : 0 ≤ most ∧ most ≤ 20000
  rotate_left
  · have b0 := begin_none most hm
    clear hI hok hK hm hkr hn
    refine en6 Tryz.func4 Tryz.results4 mixed [] ?_
    intro e0 h0 h1 h2 h3 h4 h5
    refine w_ fun d => ?_
    refine (up _).mono ?_
    rintro _ w1 ⟨rfl, hE1⟩
    have hE1w : Ext w w1 := Ext.trans (by exact ext_) hE1
    refine w_ fun d => ?_
    refine qq (b0.quiet (w := w1)) fun w2 hE2 hs2 => ?_
    refine w_ fun d => ?_
    exact ⟨rfl, ext_⟩
  obtain ⟨h0', h1'⟩ := hm
  have b0 := begin_calls most h0' h1'
  have G0 : (Md.new most).Good [] := Md.Good.start h0' h1'
  by_cases hlen : l.length ≤ 100 ∧ rs.length ≤ 50
  rotate_left
  · have hno : ((100 : Int) < l.length) ∨ (¬ (100 : Int) < l.length ∧ (50 : Int) < rs.length) := by omega
    clear hI hok hK hkr G0 hlen hn
    rcases hno with hn1 | ⟨hn1, hn2⟩
    all_goals
      refine en6 Tryz.func4 Tryz.results4 mixed [] ?_
      intro e0 h0 h1 h2 h3 h4 h5
      refine w_ fun d => ?_
      refine (up _).mono ?_
      rintro _ w1 ⟨rfl, hE1⟩
      have hE1w : Ext w w1 := Ext.trans (by exact ext_) hE1
      refine w_ fun d => ?_
      refine (b0 _).mono ?_
      rintro _ w2 ⟨ps, pm, rfl, hP⟩
      have hE2w := hE1w.trans (Ext.trans (by exact ext_) hP.world)
      clear hP b0
      refine w_ fun d => ?_
      exact ⟨rfl, ext_⟩
  have hl1 : ¬ (100 : Int) < l.length := by omega
  have hr1 : ¬ (50 : Int) < rs.length := by omega
  refine en6 Tryz.func4 Tryz.results4 mixed [] ?_
  intro e0 h0 h1 h2 h3 h4 h5
  refine w_ fun d => ?_
  refine (up _).mono ?_
  rintro _ w1 ⟨rfl, hE1⟩
  have hE1w : Ext w w1 := Ext.trans (by exact ext_) hE1
  refine w_ fun d => ?_
  refine (b0 _).mono ?_
  rintro _ w2 ⟨ps, pm, rfl, hP⟩
  clear b0
  refine w_ fun d => ?_
  refine lo_ (fun _ e w' => ∃ (i : Nat) (s : Md), i ≤ l.length ∧ e 16 = .int .i64 i ∧ PrI w1 w' ps pm s s ∧ s.Good []) (fun e _ => l.length - nat (e 16)) ?_ ?_
  · exact ⟨0, _, by omega, eA rfl, hP.ext ext_, G0⟩
  clear hP G0
  rintro e u hf ⟨i, s, hi, h16, hPu, G⟩
  have hEu := hE1w.trans hPu.world
  by_cases hlt : i < l.length
  · obtain ⟨dd, hd⟩ : ∃ d, l[i]? = some d := ⟨l[i], List.getElem?_eq_getElem hlt⟩
    obtain ⟨k1, k2, k3⟩ := hok dd (List.mem_of_getElem? hd)
    obtain ⟨q, da, db, dc, r⟩ := dd
    obtain ⟨g, o, ct, E, fz, rfl, hg, hsz, hex⟩ := deedAt (Inp.ext hI hEu) hd
    have hltl : (i : Int) < l.length := by omega
    have dd := fun u (h : PrI w1 u ps pm s s) => do_calls (q := q) (raw := r) h G k1 k2 k3
    clear hI hok hd k1 k2 k3 G hK hkr
    refine w_ fun d => ?_
    refine (dd _ (hPu.ext ext_)).mono ?_
    rintro _ u2 ⟨s2, rfl, hP2, G2⟩
    refine w_ fun d => ?_
    exact ⟨⟨i + 1, s2, by omega, eA rfl, hP2.ext ext_, G2⟩, mA⟩
  obtain rfl : i = l.length := by omega
  clear hI hok hlt
  have Ws := G.wf
  obtain ⟨oI, hSI⟩ := hPu.i
  obtain ⟨oM, hSM⟩ := hPu.m
  have nd := lnode_calls hSM Ws n raw
  have hpn := pickN_le Ws (n := n) (raw := raw) hn.2
  obtain ⟨N, hN⟩ : ∃ N, pickN s n raw = N := ⟨_, rfl⟩
  rw [hN] at nd hpn
  obtain ⟨F, tm, t1, v1, k1, s1⟩ := readN hSI hSM G hpn x
  have ra : Sure Tryz.prog 22 #[fv F, .int .i64 x] (.bool (atF F x)) := refAt_calls F x
  have rk : Sure Tryz.prog 24 #[fv F] (.int .i64 (countF F : Nat)) := refCount_calls F
  have rsu : Sure Tryz.prog 26 #[fv F] (.int .i64 (supF F : Nat)) := refSupport_calls F
  have nw := fun y (hE : Ext u y) => nodes_calls00 (c := cb) (hSM.ext hE) Ws (Inp.ext (Inp.ext hK hEu) hE) (by omega)
  have hok2 : ∀ n ∈ nodesL s rs, n ≤ 9223372036854775807 := fun n hn => by
    obtain ⟨x, hx, rfl⟩ := List.mem_map.1 hn
    exact pickN_le Ws (hkr x hx).2
  have hl2 : (nodesL s rs).length ≤ 50 := by unfold nodesL; rw [List.length_map]; omega
  obtain ⟨L, hL⟩ : ∃ L, nodesL s rs = L := ⟨_, rfl⟩
  rw [hL] at nw hok2 hl2
  have hal : ∀ K, (s.reach K).length ≤ 20000 := fun K => by
    have := allTo_len (s := s) (k := s.N.length)
    rw [allTo_all] at this
    have := wf_N Ws
    have : (s.reach K).length ≤ s.all.length := List.length_filter_le _ _
    omega
  have rI := fun y (hE : Ext u y) a c (hI : InI y a L) => rdReach_calls (c := c) (hSI.ext hE) G hI (by omega) hok2
  have rM := fun y (hE : Ext u y) a c (hI : InI y a L) => rsReach_calls (c := c) (hSM.ext hE) G hI (by omega) hok2
  have rI2 := fun y (hE : Ext u y) => rdReach_calls (c := cb) (hSI.ext hE) G (Inp.ext (Inp.ext hK hEu) hE) (by omega) (fun n hn => (hkr n hn).2)
  have rM2 := fun y (hE : Ext u y) => rsReach_calls (c := cb) (hSM.ext hE) G (Inp.ext (Inp.ext hK hEu) hE) (by omega) (fun n hn => (hkr n hn).2)
  have hA1 := hal L
  have hA2 := hal rs
  generalize s.reach L = KL at rI rM hA1
  generalize s.reach rs = KR at rI2 rM2 hA2
  have hEu0 := hEu
  clear hal hok2 hkr hK hSI hSM hPu hL hN hpn G Ws hn hEu
  refine w_ fun d => ?_
  refine qq nd fun y1 hE1 hs1 => ?_
  have tm := tm.at hE1
  refine w_ fun d => ?_
  refine qq tm fun y2 hE2 hs2 => ?_
  have hE12 := hE1.trans hE2
  refine w_ fun d => ?_
  refine at_w fun y3 hy3 => ?_
  have hE3 : Ext y2 y3 := by rw [hy3]; exact ext_
  have hb : y3.heap[y2.heap.size]? = some (.cells #[vU (word F 0), vU (word F 1), vU (word F 2), vU (word F 3)] 48) := by rw [hy3]; exact hA rfl
  have lb := lt_of_heap hb
  have hE13 := hE12.trans hE3
  have t1 := t1.at hE13
  have v1 := v1.at hE13
  have k1 := k1.at hE13
  have s1 := s1.at hE13
  generalize y2.heap.size = bF at *
  clear hy3 tm nd hE1 hE2 hs1 hs2 hE12 hE3
  refine w_ fun d => ?_
  intro y4 hE4 hs4
  have hE14 := hE13.trans hE4
  clear t1 v1 k1 s1 ra rk rsu hb
  refine w_ fun d => ?_
  refine at_c fun y5 hy5 => ?_
  have hE5 : Ext y4 y5 := by rw [hy5]; exact ext_
  clear hy5
  have hE15 := hE14.trans hE5
  refine (nw _ hE15).mono ?_
  rintro _ y6 ⟨aL, cL, rfl, hS6, _, hE6⟩
  have hE16 := hE15.trans hE6
  clear nw hE15 hE6 hE5 hE14 hE13 hE4
  refine w_ fun d => ?_
  refine at_c fun y7 hy7 => ?_
  have hE7 : Ext y6 y7 := by rw [hy7]; exact ext_
  clear hy7
  refine (rI _ (hE16.trans hE7) _ _ (hS6.ext hE7).inp).mono ?_
  rintro _ y8 ⟨a8, c8, l8, rfl, hS8, _, hE8, he8⟩
  subst he8
  have hE18 := (hE16.trans hE7).trans hE8
  refine w_ fun d => ?_
  refine at_c fun y9 hy9 => ?_
  have hE9 : Ext y8 y9 := by rw [hy9]; exact ext_
  clear hy9
  refine (rM _ (hE18.trans hE9) _ _ (((hS6.ext hE7).ext hE8).ext hE9).inp).mono ?_
  rintro _ y10 ⟨a10, c10, rfl, hS10, _, hE10⟩
  have hE110 := (hE18.trans hE9).trans hE10
  have iq := ints_same (c := c8) (d := c10) ((hS8.ext hE9).ext hE10).inp hS10.inp (by omega)
  clear rI rM hS6 hS8 hS10 hE7 hE8 hE9 hE10 hE16 hE18
  refine w_ fun d => ?_
  refine qq iq fun y11 hE11 hs11 => ?_
  have hE111 := hE110.trans hE11
  refine w_ fun d => ?_
  refine at_c fun y12 hy12 => ?_
  have hE12 : Ext y11 y12 := by rw [hy12]; exact ext_
  clear hy12
  refine (rI2 _ (hE111.trans hE12)).mono ?_
  rintro _ y13 ⟨a13, c13, l13, rfl, hS13, _, hE13, he13⟩
  subst he13
  have hE113 := (hE111.trans hE12).trans hE13
  refine w_ fun d => ?_
  refine at_c fun y14 hy14 => ?_
  have hE14 : Ext y13 y14 := by rw [hy14]; exact ext_
  clear hy14
  refine (rM2 _ (hE113.trans hE14)).mono ?_
  rintro _ y15 ⟨a15, c15, rfl, hS15, _, hE15⟩
  have hE115 := (hE113.trans hE14).trans hE15
  have iq2 := ints_same (c := c13) (d := c15) ((hS13.ext hE14).ext hE15).inp hS15.inp (by omega)
  clear rI2 rM2 hS13 hS15 iq hE12 hE13 hE14 hE15 hE110 hE111 hE113
  refine w_ fun d => ?_
  refine qq iq2 fun y16 hE16 hs16 => ?_
  have hWf := (hEu0.trans hE115).trans hE16
  refine w_ fun d => ?_
  exact ⟨rfl, ext_⟩
end
end Go.Proofs.YtpeindhocndmnaaGreat

