/- Walks of layer 18: answers. -/
import Derived.Test.YtghcmogbmaedfaaWire5
namespace Go.Proofs.Ytghcmogbmaedfaa
open Go Go.Bx
set_option linter.unusedSimpArgs false
set_option linter.unusedVariables false
set_option maxRecDepth 100000
set_option maxHeartbeats 4000000
attribute [local irreducible] X XO XE XF XD XW thenX inX retX kN CallsR
abbrev rsA (r : RS) : Array Value := #[.int .i64 r.code, .int .i64 r.tn, .int .u64 (r.val : Int), .int .i64 r.charge, .int .i64 r.cost]
def rs0 : RS := ⟨0, 0, 0, 0, 0⟩
theorem mayR_no {r : RS} (h : ¬ (0 ≤ r.code ∧ r.code ≤ 7 ∧ 0 ≤ r.tn ∧ r.tn ≤ 8 ∧ 0 ≤ r.charge ∧ r.charge ≤ 65535 ∧ 0 ≤ r.cost)) : mayR r = false := decide_eq_false h
theorem mayR_yes {r : RS} (h : 0 ≤ r.code ∧ r.code ≤ 7 ∧ 0 ≤ r.tn ∧ r.tn ≤ 8 ∧ 0 ≤ r.charge ∧ r.charge ≤ 65535 ∧ 0 ≤ r.cost) : mayR r = true := decide_eq_true h
theorem mayResp_calls (r : RS) (w : World) : CallsR Try.prog 79 #[rsV r] w fun v w' => v = .bool (mayR r) ∧ Ext w w' := by
  refine en1 Try.func79 Try.results79 mixed [] ?_
  intro e0 h0
  by_cases t1 : r.code < 0
  · have hm := mayR_no (r := r) (by omega)
    refine w_ fun d => ?_
    exact ⟨by rw [hm], ext_⟩
  by_cases t2 : 7 < r.code
  · have hm := mayR_no (r := r) (by omega)
    refine w_ fun d => ?_
    exact ⟨by rw [hm], ext_⟩
  by_cases t3 : r.tn < 0
  · have hm := mayR_no (r := r) (by omega)
    refine w_ fun d => ?_
    exact ⟨by rw [hm], ext_⟩
  by_cases t4 : 8 < r.tn
  · have hm := mayR_no (r := r) (by omega)
    refine w_ fun d => ?_
    exact ⟨by rw [hm], ext_⟩
  by_cases t5 : r.charge < 0
  · have hm := mayR_no (r := r) (by omega)
    refine w_ fun d => ?_
    exact ⟨by rw [hm], ext_⟩
  by_cases t6 : 65535 < r.charge
  · have hm := mayR_no (r := r) (by omega)
    refine w_ fun d => ?_
    exact ⟨by rw [hm], ext_⟩
  by_cases t7 : r.cost < 0
  · have hm := mayR_no (r := r) (by omega)
    refine w_ fun d => ?_
    exact ⟨by rw [hm], ext_⟩
  · have hm := mayR_yes (r := r) (by omega)
    refine w_ fun d => ?_
    exact ⟨by rw [hm], ext_⟩
theorem putResp_calls (r : RS) (hr : r.ok) (w : World) : CallsR Try.prog 58 #[rsV r] w fun v w' =>
    ((mayR r = true ∧ ∃ a cap, v = .tuple #[.slice a (putR r).length cap, .nilIface] ∧ SlB w' a cap (putR r) ∧ ∀ g, blk a = some g → w.heap.size ≤ g) ∨ (mayR r = false ∧ v = .tuple #[.slice none 0 0, .iface 81 (.int .i64 1)])) ∧ Ext w w' := by
  have cm := mayResp_calls r
  cases hm : mayR r
  · rw [hm] at cm
    refine en1 Try.func58 Try.results58 mixed [(4, [4, 8]), (1004, [6])] ?_
    intro e0 h0
    refine w_ fun d => ?_
    refine callQ (cm _) fun w1 hE1 hs1 => ?_
    refine w_ fun d => ?_
    exact ⟨.inr ⟨rfl, rfl⟩, ext_⟩
  rw [hm] at cm
  obtain ⟨m1, m2, m3, m4, m5, m6, m7⟩ := of_decide_eq_true hm
  have u1 := u64_toU r.charge
  have u2 := u64_toU r.cost
  refine en1 Try.func58 Try.results58 mixed [(4, [4, 8]), (1004, [6])] ?_
  intro e0 h0
  refine w_ fun d => ?_
  refine callQ (cm _) fun w1 hE1 hs1 => ?_
  refine w_ fun d => ?_
  have hrow : (#[.int .u8 r.code, .int .u8 r.tn] : Array Value) = rowsB [r.code.toNat, r.tn.toNat] := by
    have e1 : ((r.code.toNat : Nat) : Int) = r.code := by omega
    have e2 : ((r.tn.toNat : Nat) : Int) = r.tn := by omega
    simp [rowsB, byteRow, e1, e2]
  have hn1 := number_calls [r.code.toNat, r.tn.toNat] r.val 8 (by decide) (by simp) (some ⟨w1.heap.size, 0, none⟩) 2 (w1.alloc (.cells #[.int .u8 r.code, .int .u8 r.tn] 5)) (madeB alloc_new hrow (by simp) rfl)
  refine hn1.mono ?_
  clear hrow hn1
  rintro _ w2 ⟨⟨a2, cap2, rfl, sl2, new2⟩, hC2⟩
  have hE2 : Ext w w2 := hC2.toExt ext_ fun k hk h => by have := blk_g h; omega
  have hb2 : w2.heap[w.heap.size]? = some (.cells (rsA r) 52 (0, 0)) := by
    rw [hC2.heap _ (by simp only [alloc_size]; omega) (fun h => by have := blk_g h; omega)]; exact hA rfl
  have hs2 := hC2.size
  simp only [alloc_size] at hs2 new2
  have hn2 : ∀ g, blk a2 = some g → w.heap.size + 1 ≤ g := fun g hg => by
    rcases new2 g hg with h | h
    · have := blk_g h; omega
    · omega
  generalize hX : [r.code.toNat, r.tn.toNat] ++ hiB 8 r.val = X at *
  have hXl : X.length = 10 := by rw [← hX]; simp [hiB_len]
  clear hC2 new2
  refine w_ fun d => ?_
  have hlb2 := lt_of_heap hb2
  refine s_wide ?_
  refine XW_ext (D := fun u => u.heap[w.heap.size]? = some (.cells (rsA r) 52 (0, 0))) (fun u hu => by rw [hu.heap _ hlb2]; exact hb2) ?_
  refine dw_ ?_
  refine xf2 fun u3 hE3 => ?_
  refine krA ?_
  refine ke ?_
  have hn3 := number_calls X (toU r.charge) 2 (by decide) (by omega) a2 cap2 u3 (Sl.ext sl2 hE3)
  rw [hXl] at hn3
  refine hn3.mono ?_
  clear hn3
  rintro _ w4 ⟨⟨a4, cap4, rfl, sl4, new4⟩, hC4⟩
  have hlE3 := hE3.size
  have hb4 : w4.heap[w.heap.size]? = some (.cells (rsA r) 52 (0, 0)) := by
    rw [hC4.heap _ (by omega) (fun h => by have := hn2 _ h; omega), hE3.heap _ hlb2]; exact hb2
  have hE4 : Ext w w4 := hC4.toExt (hE2.trans hE3) fun k hk h => by have := hn2 _ h; omega
  have hn4 : ∀ g, blk a4 = some g → w.heap.size + 1 ≤ g := fun g hg => by
    rcases new4 g hg with h | h
    · exact hn2 g h
    · omega
  have hlb4 := lt_of_heap hb4
  generalize hY : X ++ hiB 2 (toU r.charge) = Y at *
  have hYl : Y.length = 12 := by rw [← hY, List.length_append, hiB_len]; omega
  refine ⟨fun u hu => by rw [hu.heap _ hlb4]; exact hb4, ?_⟩
  refine dw_ ?_
  refine xf3 (v := .int .i64 r.cost) (fun u hu => by have hu' : u.heap[w.heap.size]? = some (.cells (rsA r) 52 (0, 0)) := hu; exact rgA) ?_
  refine dw_ ?_
  refine xf2 fun u5 hE5 => ?_
  refine krA ?_
  refine ke ?_
  have hn5 := number_calls Y (toU r.cost) 8 (by decide) (by omega) a4 cap4 u5 (Sl.ext sl4 hE5)
  rw [hYl] at hn5
  refine hn5.mono ?_
  clear hn5
  rintro _ w6 ⟨⟨a6, cap6, rfl, sl6, new6⟩, hC6⟩
  have hlE5 := hE5.size
  have hb6 : w6.heap[w.heap.size]? = some (.cells (rsA r) 52 (0, 0)) := by
    rw [hC6.heap _ (by omega) (fun h => by have := hn4 _ h; omega), hE5.heap _ hlb4]; exact hb4
  have hE6 : Ext w w6 := hC6.toExt (hE4.trans hE5) fun k hk h => by have := hn4 _ h; omega
  have hn6 : ∀ g, blk a6 = some g → w.heap.size ≤ g := fun g hg => by
    rcases new6 g hg with h | h
    · have := hn4 g h; omega
    · omega
  have hlb6 := lt_of_heap hb6
  refine ⟨fun u hu => by rw [hu.heap _ hlb6]; exact hb6, ?_⟩
  refine dw_ ?_
  refine xf_nil fun w7 hE7 => ?_
  have hp : Y ++ hiB 8 (toU r.cost) = putR r := by rw [← hY, ← hX]; simp [putR]
  rw [hp] at sl6 ⊢
  refine w_ fun d => ?_
  exact ⟨.inl ⟨rfl, a6, cap6, rfl, Sl.ext sl6 hE7, hn6⟩, hE6.trans hE7⟩
theorem getResp_calls (bs : List Nat) (hb : ∀ x ∈ bs, x < 256) (a : Option Addr) (cap : Nat) (hcap : bs.length ≤ cap) (hl : bs.length ≤ 1000) (w : World) (hI : Inp w 1 a (bs.map byteRow)) :
    CallsR Try.prog 63 #[.slice a bs.length cap] w fun v w' => ((∃ r, getR bs = some r ∧ v = .tuple #[rsV r, .nilIface]) ∨ (getR bs = none ∧ v = .tuple #[rsV rs0, .iface 81 (.int .i64 7)])) ∧ Ext w w' := by
  by_cases h20 : bs.length = 20
  case neg =>
    have hn : getR bs = none := if_neg h20
    refine en1 Try.func63 Try.results63 mixed [(1003, [2, 6, 10, 13, 17])] ?_
    intro e0 h0
    refine w_ fun d => ?_
    refine rcuA ?_
    exact ⟨.inr ⟨hn, rfl⟩, ext_⟩
  have hr0 : getR bs = if mayR (rsOf bs) then some (rsOf bs) else none := if_pos h20
  obtain ⟨x0, hx0⟩ : ∃ x, bs[0]? = some x := ⟨bs[0], List.getElem?_eq_getElem (by omega)⟩
  obtain ⟨x1, hx1⟩ : ∃ x, bs[1]? = some x := ⟨bs[1], List.getElem?_eq_getElem (by omega)⟩
  have hb0 := hb x0 (List.mem_of_getElem? hx0)
  have hb1 := hb x1 (List.mem_of_getElem? hx1)
  have hlt : ∀ i n : Nat, n ≤ 8 → numB ((bs.drop i).take n) < 18446744073709551616 := fun i n hn => by
    have h1 := num_lt (l := (bs.drop i).take n) fun x hx => hb x (List.mem_of_mem_drop (List.mem_of_mem_take hx))
    have h2 : ((bs.drop i).take n).length ≤ 8 := by rw [List.length_take]; omega
    have h3 : 256 ^ ((bs.drop i).take n).length ≤ 256 ^ 8 := Nat.pow_le_pow_right (by decide) h2
    have e8 : 256 ^ 8 = 18446744073709551616 := by decide
    omega
  have hd12 : bs.drop 12 = (bs.drop 12).take 8 := (List.take_of_length_le (by rw [List.length_drop]; omega)).symm
  have hrs : rsOf bs = ⟨x0, x1, numB ((bs.drop 2).take 8), toS (numB ((bs.drop 10).take 2)), toS (numB ((bs.drop 12).take 8))⟩ := by
    rw [rsOf, ← hd12, List.getD_eq_getElem?_getD, List.getD_eq_getElem?_getD, hx0, hx1]; rfl
  rw [hrs] at hr0
  have cv := fun (i n : Nat) (hn : n ≤ 8) (hin : i + n ≤ 20) (w' : World) (hE : Ext w w') => value_calls ((bs.drop i).take n) (by rw [List.length_take]; omega) (fun x hx => hb x (List.mem_of_mem_drop (List.mem_of_mem_take hx))) (cutAddr a 1 i cap) (cap - i) w' (inp_take n (inp_cut (i := i) (hI.ext hE) hcap))
  have ct : ∀ i n : Nat, i + n ≤ 20 → ((bs.drop i).take n).length = n := fun i n h => by rw [List.length_take, List.length_drop]; omega
  have cv1 : Quiet Try.prog 81 #[.slice (cutAddr a 1 2 cap) 8 (cap - 2)] w _ := fun u hu => by have := cv 2 8 (by decide) (by decide) u hu; rw [ct 2 8 (by decide)] at this; exact this
  have cv2 : Quiet Try.prog 81 #[.slice (cutAddr a 1 10 cap) 2 (cap - 10)] w _ := fun u hu => by have := cv 10 2 (by decide) (by decide) u hu; rw [ct 10 2 (by decide)] at this; exact this
  have cv3 : Quiet Try.prog 81 #[.slice (cutAddr a 1 12 cap) 8 (cap - 12)] w _ := fun u hu => by have := cv 12 8 (by decide) (by decide) u hu; rw [ct 12 8 (by decide)] at this; exact this
  have l1 := hlt 2 8 (by decide)
  have l2 := hlt 10 2 (by decide)
  have l3 := hlt 12 8 (by decide)
  obtain ⟨b, o, c, E, fz, rfl, hbk, hcc⟩ := inp_all hI (fun h => by rw [h] at h20; cases h20)
  have c0 := hcc 0 x0 hx0
  have c1 := hcc 1 x1 hx1
  rw [Nat.add_zero] at c0
  have hlb := lt_of_heap hbk
  rw [h20]
  rw [h20] at hcap
  clear cv ct hlt hrs hd12 hcc hx0 hx1
  generalize numB ((bs.drop 2).take 8) = v1 at *
  generalize numB ((bs.drop 10).take 2) = v2 at *
  generalize numB ((bs.drop 12).take 8) = v3 at *
  have t2 := i64_toS l2
  have t3 := i64_toS l3
  generalize toS v2 = s2 at *
  generalize toS v3 = s3 at *
  have cm := mayResp_calls ⟨x0, x1, v1, s2, s3⟩
  clear hb hI
  generalize getR bs = G at *
  refine en1 Try.func63 Try.results63 mixed [(1003, [2, 6, 10, 13, 17])] ?_
  intro e0 h0
  refine w_ fun d => ?_
  have hEz : Ext w (w.alloc (.cells #[.int .i64 0, .int .i64 0, .int .u64 0, .int .i64 0, .int .i64 0] 52)) := ext_
  have d1 := cv1.at hEz
  have d2 := cv2.at hEz
  have d3 := cv3.at hEz
  clear hEz cv1 cv2 cv3
  refine s_wide (xw_ ?_)
  refine dw_ ?_
  refine xf2A fun u2 hE2 hw2 => ?_
  have hs2 := sz_ hE2
  refine krA ?_
  refine kv ?_
  refine ⟨ext_, ?_⟩
  refine dw_ ?_
  refine xf2A fun u3 hE3 hw3 => ?_
  have hs3 := sz_ hw3
  refine krA ?_
  refine ks ?_
  refine ⟨ext_, ?_⟩
  refine dw_ ?_
  refine xf_nil fun w4 hE4 => ?_
  have hs4 := sz_ hE4
  refine w_ fun d => ?_
  cases hmr : mayR ⟨x0, x1, v1, s2, s3⟩
  · rw [hmr] at hr0 cm
    have hn : G = none := by rw [hr0]; rfl
    refine callQ (cm _) fun w5 hE5 hs5 => ?_
    clear hr0
    refine w_ fun d => ?_
    refine rcuA ?_
    exact ⟨.inr ⟨hn, rfl⟩, ext_⟩
  · rw [hmr] at hr0 cm
    have hn : G = some ⟨x0, x1, v1, s2, s3⟩ := by rw [hr0]; rfl
    refine callQ (cm _) fun w5 hE5 hs5 => ?_
    clear hr0
    refine w_ fun d => ?_
    refine rcuA ?_
    exact ⟨.inl ⟨_, hn, rfl⟩, ext_⟩
end Go.Proofs.Ytghcmogbmaedfaa
