/- Walks of the reference of layer 18: answers. -/
import Derived.Test.YtghcmogbmaedfaaRef15e
namespace Go.Proofs.Ytghcmogbmaedfaa
open Go Go.Bx
set_option linter.unusedSimpArgs false
set_option linter.unusedVariables false
set_option maxRecDepth 100000
set_option maxHeartbeats 4000000
attribute [local irreducible] X XO XE XF XD XW thenX inX retX kN CallsR
theorem refMayResp_calls (r : RS) (w : World) : CallsR Try.prog 59 #[rsV r] w fun v w' => v = .bool (mayR r) ∧ Ext w w' := by
  refine en1 Try.func59 Try.results59 mixed [] ?_
  intro e0 h0
  by_cases t1 : r.code < 0
  · have hm := mayR_no (r := r) (by omega)
    refine w_ fun d => ?_
    exact ⟨by rw [hm], ext_⟩
  by_cases t2 : 7 < r.code
  · have hm := mayR_no (r := r) (by omega)
    refine w_ fun d => ?_
    exact ⟨by rw [hm], ext_⟩
  by_cases t3 : r.tn < 0
  · have hm := mayR_no (r := r) (by omega)
    refine w_ fun d => ?_
    exact ⟨by rw [hm], ext_⟩
  by_cases t4 : 8 < r.tn
  · have hm := mayR_no (r := r) (by omega)
    refine w_ fun d => ?_
    exact ⟨by rw [hm], ext_⟩
  by_cases t5 : r.charge < 0
  · have hm := mayR_no (r := r) (by omega)
    refine w_ fun d => ?_
    exact ⟨by rw [hm], ext_⟩
  by_cases t6 : 65535 < r.charge
  · have hm := mayR_no (r := r) (by omega)
    refine w_ fun d => ?_
    exact ⟨by rw [hm], ext_⟩
  by_cases t7 : r.cost < 0
  · have hm := mayR_no (r := r) (by omega)
    refine w_ fun d => ?_
    exact ⟨by rw [hm], ext_⟩
  · have hm := mayR_yes (r := r) (by omega)
    refine w_ fun d => ?_
    exact ⟨by rw [hm], ext_⟩
theorem refGetResp_calls (bs : List Nat) (hb : ∀ x ∈ bs, x < 256) (a : Option Addr) (cap : Nat) (hcap : bs.length ≤ cap) (hl : bs.length ≤ 1000) (w : World) (hI : Inp w 1 a (bs.map byteRow)) :
    CallsR Try.prog 64 #[.slice a bs.length cap] w fun v w' => ((∃ r, getR bs = some r ∧ v = .tuple #[rsV r, .bool true]) ∨ (getR bs = none ∧ v = .tuple #[rsV rs0, .bool false])) ∧ Ext w w' := by
  by_cases h20 : bs.length = 20
  case neg =>
    have hn : getR bs = none := if_neg h20
    refine en1 Try.func64 Try.results64 mixed [(1003, [2, 6, 10, 13, 17])] ?_
    intro e0 h0
    refine w_ fun d => ?_
    refine rcuA ?_
    exact ⟨.inr ⟨hn, rfl⟩, ext_⟩
  have hr0 : getR bs = if mayR (rsOf bs) then some (rsOf bs) else none := if_pos h20
  obtain ⟨x0, hx0⟩ : ∃ x, bs[0]? = some x := ⟨bs[0], List.getElem?_eq_getElem (by omega)⟩
  obtain ⟨x1, hx1⟩ : ∃ x, bs[1]? = some x := ⟨bs[1], List.getElem?_eq_getElem (by omega)⟩
  have hb0 := hb x0 (List.mem_of_getElem? hx0)
  have hb1 := hb x1 (List.mem_of_getElem? hx1)
  have hlt : ∀ i n : Nat, n ≤ 8 → numB ((bs.drop i).take n) < 18446744073709551616 := fun i n hn => by
    have h1 := num_lt (l := (bs.drop i).take n) fun x hx => hb x (List.mem_of_mem_drop (List.mem_of_mem_take hx))
    have h2 : ((bs.drop i).take n).length ≤ 8 := by rw [List.length_take]; omega
    have h3 : 256 ^ ((bs.drop i).take n).length ≤ 256 ^ 8 := Nat.pow_le_pow_right (by decide) h2
    have e8 : 256 ^ 8 = 18446744073709551616 := by decide
    omega
  have hd12 : bs.drop 12 = (bs.drop 12).take 8 := (List.take_of_length_le (by rw [List.length_drop]; omega)).symm
  have hrs : rsOf bs = ⟨x0, x1, numB ((bs.drop 2).take 8), toS (numB ((bs.drop 10).take 2)), toS (numB ((bs.drop 12).take 8))⟩ := by
    rw [rsOf, ← hd12, List.getD_eq_getElem?_getD, List.getD_eq_getElem?_getD, hx0, hx1]; rfl
  rw [hrs] at hr0
  have cv := fun (i n : Nat) (hn : n ≤ 8) (hin : i + n ≤ 20) (w' : World) (hE : Ext w w') => num_calls ((bs.drop i).take n) (by rw [List.length_take]; omega) (fun x hx => hb x (List.mem_of_mem_drop (List.mem_of_mem_take hx))) (cutAddr a 1 i cap) (cap - i) w' (inp_take n (inp_cut (i := i) (hI.ext hE) hcap))
  have ct : ∀ i n : Nat, i + n ≤ 20 → ((bs.drop i).take n).length = n := fun i n h => by rw [List.length_take, List.length_drop]; omega
  have cv1 : Quiet Try.prog 83 #[.slice (cutAddr a 1 2 cap) 8 (cap - 2)] w _ := fun u hu => by have := cv 2 8 (by decide) (by decide) u hu; rw [ct 2 8 (by decide)] at this; exact this
  have cv2 : Quiet Try.prog 83 #[.slice (cutAddr a 1 10 cap) 2 (cap - 10)] w _ := fun u hu => by have := cv 10 2 (by decide) (by decide) u hu; rw [ct 10 2 (by decide)] at this; exact this
  have cv3 : Quiet Try.prog 83 #[.slice (cutAddr a 1 12 cap) 8 (cap - 12)] w _ := fun u hu => by have := cv 12 8 (by decide) (by decide) u hu; rw [ct 12 8 (by decide)] at this; exact this
  have l1 := hlt 2 8 (by decide)
  have l2 := hlt 10 2 (by decide)
  have l3 := hlt 12 8 (by decide)
  obtain ⟨b, o, c, E, fz, rfl, hbk, hcc⟩ := inp_all hI (fun h => by rw [h] at h20; cases h20)
  have c0 := hcc 0 x0 hx0
  have c1 := hcc 1 x1 hx1
  rw [Nat.add_zero] at c0
  have hlb := lt_of_heap hbk
  rw [h20]
  rw [h20] at hcap
  clear cv ct hlt hrs hd12 hcc hx0 hx1
  generalize numB ((bs.drop 2).take 8) = v1 at *
  generalize numB ((bs.drop 10).take 2) = v2 at *
  generalize numB ((bs.drop 12).take 8) = v3 at *
  have t2 := i64_toS l2
  have t3 := i64_toS l3
  generalize toS v2 = s2 at *
  generalize toS v3 = s3 at *
  have cm := refMayResp_calls ⟨x0, x1, v1, s2, s3⟩
  clear hb hI
  generalize getR bs = G at *
  refine en1 Try.func64 Try.results64 mixed [(1003, [2, 6, 10, 13, 17])] ?_
  intro e0 h0
  refine w_ fun d => ?_
  have hEz : Ext w (w.alloc (.cells #[.int .i64 0, .int .i64 0, .int .u64 0, .int .i64 0, .int .i64 0] 52)) := ext_
  have d1 := cv1.at hEz
  have d2 := cv2.at hEz
  have d3 := cv3.at hEz
  clear hEz cv1 cv2 cv3
  refine s_wide (xw_ ?_)
  refine dw_ ?_
  refine xf2A fun u2 hE2 hw2 => ?_
  have hs2 := sz_ hE2
  refine krA ?_
  refine kv ?_
  refine ⟨ext_, ?_⟩
  refine dw_ ?_
  refine xf2A fun u3 hE3 hw3 => ?_
  have hs3 := sz_ hw3
  refine krA ?_
  refine ks ?_
  refine ⟨ext_, ?_⟩
  refine dw_ ?_
  refine xf_nil fun w4 hE4 => ?_
  have hs4 := sz_ hE4
  refine w_ fun d => ?_
  cases hmr : mayR ⟨x0, x1, v1, s2, s3⟩
  · rw [hmr] at hr0 cm
    have hn : G = none := by rw [hr0]; rfl
    refine callQ (cm _) fun w5 hE5 hs5 => ?_
    clear hr0
    refine w_ fun d => ?_
    refine rcuA ?_
    exact ⟨.inr ⟨hn, rfl⟩, ext_⟩
  · rw [hmr] at hr0 cm
    have hn : G = some ⟨x0, x1, v1, s2, s3⟩ := by rw [hr0]; rfl
    refine callQ (cm _) fun w5 hE5 hs5 => ?_
    clear hr0
    refine w_ fun d => ?_
    refine rcuA ?_
    exact ⟨.inl ⟨_, hn, rfl⟩, ext_⟩
end Go.Proofs.Ytghcmogbmaedfaa
