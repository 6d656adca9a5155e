/- Layer 18's first law, walked: the bytes of requests and answers. -/
import Derived.Test.YtghcmogbmaedfaaLaw18b
import Derived.Test.YtghcmogbmaedfaaRef15g
namespace Go.Proofs.Ytghcmogbmaedfaa
open Go Go.Bx
set_option linter.unusedSimpArgs false
set_option linter.unusedVariables false
set_option maxRecDepth 100000
set_option maxHeartbeats 4000000
attribute [local irreducible] X XO XE XF XD XW thenX inX retX kN CallsR
theorem wirePuts_calls (r : RQ) (hr : r.ok) (s : RS) (hs : s.ok) (w : World) : CallsR Try.prog 9 #[rqV r, rsV s] w fun v w' => v = .bool true ∧ Ext w w' := by
  have cc : Sure Try.prog 57 #[.iface 81 (.int .i64 1)] (.int .i64 1) := code_1
  refine en2 Try.func9 Try.results9 mixed [(1004, [6, 7, 18]), (2004, [8, 3009]), (1009, [7, 8]), (2009, [9, 3010])] ?_
  intro e0 h0 h1
  refine w_ fun d => ?_
  refine callQ (up18_calls _) fun w1 hE1 hs1 => ?_
  refine w_ fun d => ?_
  refine (put_calls r hr _).mono ?_
  rintro _ w2 ⟨h | h, hE2⟩
  · obtain ⟨hmr, a, cap, rfl, sl, new⟩ := h
    obtain ⟨b, c, T, fz, rfl, hbk, hby⟩ := sl_bytes sl (putB_ne r)
    have hlb := lt_of_heap hbk
    have hs2 := sz_ hE2
    have cm := refMay_calls r
    rw [hmr] at cm
    clear sl new
    refine w_ fun d => ?_
    refine callQ (cm _) fun w3 hE3 hs3 => ?_
    refine w_ fun d => ?_
    have hlt := put_lt hmr
    refine s_rel (xy_ (fun _ v u => ∃ a cap, v = .slice a (putB r).length cap ∧ SlB u a cap (putB r)) (fun _ v u u' ⟨a, cap, h1, h2⟩ hE => ⟨a, cap, h1, Sl.ext h2 hE⟩) ?_)
    refine dg_ ?_
    refine xr5 (fun u hu => (refPut_calls r hr hmr u).mono fun v u' ⟨⟨a, cap, h1, h2, _⟩, hE⟩ => ⟨⟨a, cap, h1, h2⟩, hE⟩) (fun v ⟨u0, _, a0, cap0, hv, _⟩ => ?_)
    subst hv
    refine dg_ ?_
    refine xr1 (v := .string (ba (putB r))) (fun u hu => by
      obtain ⟨_, a', cap', he, sl'⟩ := hu
      cases he
      obtain ⟨b3, c3, T3, fz3, rfl, hbk3, hby3⟩ := sl_bytes sl' (putB_ne r)
      exact rgA) ?_
    refine dg_ ?_
    refine xr_nil fun w5 hw5 => ?_
    have hE5 := hw5.1
    have hs5 := sz_ hE5
    clear hw5
    refine w_ fun d => ?_
    refine (putResp_calls s hs _).mono ?_
    rintro _ w6 ⟨h | h, hEw6⟩
    · obtain ⟨hms, aS, caps, rfl, sls, news⟩ := h
      obtain ⟨b2, c2, T2, fz2, rfl, hbk2, hby2⟩ := sl_bytes sls (putR_ne s)
      have hlb2 := lt_of_heap hbk2
      have hsw6 := sz_ hEw6
      have cms := refMayResp_calls s
      rw [hms] at cms
      clear sls news
      refine w_ fun d => ?_
      refine callQ (cms _) fun w8 hE8 hs8 => ?_
      refine w_ fun d => ?_
      have hlt2 := putR_lt hms
      refine s_rel (xy_ (fun _ v u => ∃ a cap, v = .slice a (putR s).length cap ∧ SlB u a cap (putR s)) (fun _ v u u' ⟨a, cap, h1, h2⟩ hE => ⟨a, cap, h1, Sl.ext h2 hE⟩) ?_)
      refine dg_ ?_
      refine xr5 (fun u hu => (refPutResp_calls s hs hms u).mono fun v u' ⟨⟨a, cap, h1, h2, _⟩, hE⟩ => ⟨⟨a, cap, h1, h2⟩, hE⟩) (fun v ⟨u0, _, a0, cap0, hv, _⟩ => ?_)
      subst hv
      refine dg_ ?_
      refine xr1 (v := .string (ba (putR s))) (fun u hu => by
        obtain ⟨_, a', cap', he, sl'⟩ := hu
        cases he
        obtain ⟨b3, c3, T3, fz3, rfl, hbk3, hby3⟩ := sl_bytes sl' (putR_ne s)
        exact rgA) ?_
      refine dg_ ?_
      refine xr_nil fun w9 hw9 => ?_
      have hE9 := hw9.1
      clear hw9
      refine w_ fun d => ?_
      exact ⟨rfl, ext_⟩
    · obtain ⟨hms, rfl⟩ := h
      have hsw6 := sz_ hEw6
      have cms := refMayResp_calls s
      rw [hms] at cms
      refine w_ fun d => ?_
      refine callQ (cms _) fun w8 hE8 hs8 => ?_
      refine w_ fun d => ?_
      refine callQ (code_1 _) fun w9 hE9 hs9 => ?_
      refine w_ fun d => ?_
      exact ⟨rfl, ext_⟩
  · obtain ⟨hmr, rfl⟩ := h
    have hs2 := sz_ hE2
    have cm := refMay_calls r
    rw [hmr] at cm
    refine w_ fun d => ?_
    refine callQ (cm _) fun w3 hE3 hs3 => ?_
    refine w_ fun d => ?_
    refine s_rel (xy_ (fun _ v u => False) (fun _ v u u' h hE => h) ?_)
    refine dg_ ?_
    refine xr_nil fun w5 hE5 => ?_
    have hs5 := sz_ hE5
    refine w_ fun d => ?_
    refine (putResp_calls s hs _).mono ?_
    rintro _ w6 ⟨h | h, hEw6⟩
    · obtain ⟨hms, aS, caps, rfl, sls, news⟩ := h
      obtain ⟨b2, c2, T2, fz2, rfl, hbk2, hby2⟩ := sl_bytes sls (putR_ne s)
      have hlb2 := lt_of_heap hbk2
      have hsw6 := sz_ hEw6
      have cms := refMayResp_calls s
      rw [hms] at cms
      clear sls news
      refine w_ fun d => ?_
      refine callQ (cms _) fun w8 hE8 hs8 => ?_
      refine w_ fun d => ?_
      have hlt2 := putR_lt hms
      refine s_rel (xy_ (fun _ v u => ∃ a cap, v = .slice a (putR s).length cap ∧ SlB u a cap (putR s)) (fun _ v u u' ⟨a, cap, h1, h2⟩ hE => ⟨a, cap, h1, Sl.ext h2 hE⟩) ?_)
      refine dg_ ?_
      refine xr5 (fun u hu => (refPutResp_calls s hs hms u).mono fun v u' ⟨⟨a, cap, h1, h2, _⟩, hE⟩ => ⟨⟨a, cap, h1, h2⟩, hE⟩) (fun v ⟨u0, _, a0, cap0, hv, _⟩ => ?_)
      subst hv
      refine dg_ ?_
      refine xr1 (v := .string (ba (putR s))) (fun u hu => by
        obtain ⟨_, a', cap', he, sl'⟩ := hu
        cases he
        obtain ⟨b3, c3, T3, fz3, rfl, hbk3, hby3⟩ := sl_bytes sl' (putR_ne s)
        exact rgA) ?_
      refine dg_ ?_
      refine xr_nil fun w9 hw9 => ?_
      have hE9 := hw9.1
      clear hw9
      refine w_ fun d => ?_
      exact ⟨rfl, ext_⟩
    · obtain ⟨hms, rfl⟩ := h
      have hsw6 := sz_ hEw6
      have cms := refMayResp_calls s
      rw [hms] at cms
      refine w_ fun d => ?_
      refine callQ (cms _) fun w8 hE8 hs8 => ?_
      refine w_ fun d => ?_
      refine callQ (code_1 _) fun w9 hE9 hs9 => ?_
      refine w_ fun d => ?_
      exact ⟨rfl, ext_⟩
end Go.Proofs.Ytghcmogbmaedfaa
