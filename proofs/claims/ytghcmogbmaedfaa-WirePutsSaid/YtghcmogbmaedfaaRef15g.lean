/- Walks of the reference of layer 18: an answer's bytes. -/
import Derived.Test.YtghcmogbmaedfaaRef15f
namespace Go.Proofs.Ytghcmogbmaedfaa
open Go Go.Bx
set_option linter.unusedSimpArgs false
set_option linter.unusedVariables false
set_option maxRecDepth 100000
set_option maxHeartbeats 4000000
attribute [local irreducible] X XO XE XF XD XW thenX inX retX kN CallsR
theorem refPutResp_calls (r : RS) (hr : r.ok) (hm : mayR r = true) (w : World) : CallsR Try.prog 60 #[rsV r] w fun v w' =>
    (∃ a cap, v = .slice a (putR r).length cap ∧ SlB w' a cap (putR r) ∧ ∀ g, blk a = some g → w.heap.size ≤ g) ∧ Ext w w' := by
  obtain ⟨m1, m2, m3, m4, m5, m6, m7⟩ := of_decide_eq_true hm
  have u1 := u64_toU r.charge
  have u2 := u64_toU r.cost
  refine en1 Try.func60 Try.results60 mixed [(1001, [1, 4, 8, 1010]), (2001, [9])] ?_
  intro e0 h0
  refine w_ fun d => ?_
  have hrow : (#[.int .u8 r.code, .int .u8 r.tn] : Array Value) = rowsB [r.code.toNat, r.tn.toNat] := by
    have e1 : ((r.code.toNat : Nat) : Int) = r.code := by omega
    have e2 : ((r.tn.toNat : Nat) : Int) = r.tn := by omega
    simp [rowsB, byteRow, e1, e2]
  refine s_rel (xy_ (fun _ v u => ∃ a cap, v = .slice a (hiB 8 r.val).length cap ∧ SlB u a cap (hiB 8 r.val) ∧ ∀ g, blk a = some g → w.heap.size ≤ g) (fun _ v u u' ⟨a, cap, h1, h2, h3⟩ hE => ⟨a, cap, h1, Sl.ext h2 hE, h3⟩) ?_)
  refine dr_ ?_
  refine xr2 (fun _ v u u' ⟨a, cap, h1, h2, h3⟩ hE => ⟨a, cap, h1, Sl.ext h2 hE, h3⟩) fun u2 hE2 => ?_
  have hs2 := sz_ hE2
  refine krA ?_
  refine kv ?_
  refine ⟨(Ext.refl _).alloc _, fun u hu => hE2.trans (((Ext.refl _).alloc _).trans hu), ?_⟩
  refine dr_ ?_
  refine xr5 (fun u hu => (high_calls r.val 8 (by decide) hr.val u).mono fun v u' ⟨⟨a, cap, h1, h2, h3⟩, hE⟩ => ⟨⟨a, cap, h1, h2, fun g hg => by have := h3 g hg; have := hu.size; simp only [alloc_size] at this; omega⟩, hE⟩) (fun v ⟨u0, _, a0, cap0, hv, _⟩ => ?_)
  subst hv
  refine xr3 fun u3 hC3 => ?_
  obtain ⟨hE3, a1, cap1, he, slh, nh⟩ := hC3
  cases he
  have hs3 := hE3.size
  simp only [alloc_size] at hs3
  have slb : SlB u3 (some ⟨u2.heap.size, 0, none⟩) 2 [r.code.toNat, r.tn.toNat] := Sl.ext (madeB alloc_new rfl (by simp) rfl) hE3
  obtain ⟨a4, cap4, u4, hr4, sl4, hC4, hF4⟩ := appB (c := cap0) slb (Sl.inp slh) (by rw [hiB_len]; simp)
  have hr4' : apR Try.prog 53 (.slice (some ⟨u2.heap.size, 0, none⟩) 2 2) (.slice a0 (hiB 8 r.val).length cap0) u3 = .ok (.slice a4 ([r.code.toNat, r.tn.toNat] ++ hiB 8 r.val).length cap4) u4 := hr4
  refine krA ?_
  refine kv ?_
  refine dr_ ?_
  refine xr_nil fun w5 hE5 => ?_
  have hb3 : u3.heap[w.heap.size]? = some (.cells (rsA r) 52 (0, 0)) := hA rfl
  have hE23 : Ext w u3 := ext_
  have hE4 : Ext w u4 := hC4.toExt hE23 fun k hk h => by have := blk_g h; omega
  have hlb3 := lt_of_heap hb3
  have hb4 : u4.heap[w.heap.size]? = some (.cells (rsA r) 52 (0, 0)) := by rw [hC4.heap _ hlb3 (fun h => by have := blk_g h; omega)]; exact hb3
  have hlb4 := lt_of_heap hb4
  have hn4 : ∀ g, blk a4 = some g → w.heap.size + 1 ≤ g := fun g hg => by
    rcases hF4 g hg with h | h
    · have := blk_g h; omega
    · omega
  have sl5 := Sl.ext sl4 hE5
  have hb5 : w5.heap[w.heap.size]? = some (.cells (rsA r) 52 (0, 0)) := by rw [hE5.heap _ hlb4]; exact hb4
  have hlb5 := lt_of_heap hb5
  have hE05 : Ext w w5 := hE4.trans hE5
  clear hr4 hr4' sl4 hC4 hF4 slb slh nh hE3 hE2 hb3 hb4 hE4 hE5 hE23 hrow hlb3 hlb4 hs3 hs2
  generalize hX : [r.code.toNat, r.tn.toNat] ++ hiB 8 r.val = X at *
  have hXl : X.length = 10 := by rw [← hX]; simp [hiB_len]
  clear hXl
  have hXl2 : X.length ≤ 10 := by rw [← hX]; simp [hiB_len]
  refine w_ fun d => ?_
  refine (high_calls (toU r.charge) 2 (by decide) (by unfold toU; omega) _).mono ?_
  rintro _ w6 ⟨⟨ah, ch, rfl, slh, nh⟩, hE6⟩
  have hs6 := hE6.size
  obtain ⟨a7, cap7, w7, hr7, sl7, hC7, hF7⟩ := appB (c := ch) (Sl.ext sl5 hE6) (Sl.inp slh) (by rw [hiB_len]; omega)
  have hb7 : w7.heap[w.heap.size]? = some (.cells (rsA r) 52 (0, 0)) := by rw [hC7.heap _ (by omega) (fun h => by have := hn4 _ h; omega), hE6.heap _ hlb5]; exact hb5
  have hE7 : Ext w w7 := hC7.toExt (hE05.trans hE6) fun k hk h => by have := hn4 _ h; omega
  have hlb7 := lt_of_heap hb7
  have hn7 : ∀ g, blk a7 = some g → w.heap.size + 1 ≤ g := fun g hg => by
    rcases hF7 g hg with h | h
    · exact hn4 g h
    · omega
  have hYl : (X ++ hiB 2 (toU r.charge)).length ≤ 12 := by rw [List.length_append, hiB_len]; omega
  generalize hY : X ++ hiB 2 (toU r.charge) = Y at *
  refine w_ fun d => ?_
  refine (high_calls (toU r.cost) 8 (by decide) (by unfold toU; omega) _).mono ?_
  rintro _ w8 ⟨⟨ai, ci, rfl, sli, ni⟩, hE8⟩
  have hs8 := hE8.size
  obtain ⟨a9, cap9, w9, hr9, sl9, hC9, hF9⟩ := appB (c := ci) (Sl.ext sl7 hE8) (Sl.inp sli) (by rw [hiB_len]; omega)
  have hE9 : Ext w w9 := hC9.toExt (hE7.trans hE8) fun k hk h => by have := hn7 _ h; omega
  refine w_ fun d => ?_
  have hp : Y ++ hiB 8 (toU r.cost) = putR r := by rw [← hY, ← hX]; simp [putR]
  rw [hp] at sl9 ⊢
  exact ⟨⟨a9, cap9, rfl, sl9, fun g hg => by
    rcases hF9 g hg with h | h
    · have := hn7 g h; omega
    · omega⟩, hE9⟩
end Go.Proofs.Ytghcmogbmaedfaa
