/- Layer 18's laws, walked: what is shared; the bytes of requests and answers got. -/
import Derived.Test.YtghcmogbmaedfaaWire6
import Derived.Test.YtghcmogbmaedfaaBxStr2
namespace Go.Proofs.Ytghcmogbmaedfaa
open Go Go.Bx
set_option linter.unusedSimpArgs false
set_option linter.unusedVariables false
set_option maxRecDepth 100000
set_option maxHeartbeats 4000000
attribute [local irreducible] X XO XE XF XD XW thenX inX retX kN CallsR
section
variable {w : World} {b o n cp : Nat} {c : Array Value} {T : TypeId} {fz : Nat × Nat} {bs cs : List Nat} {x y : Operand}
theorem cvB (hb : w.heap[b]? = some (.cells c T fz)) (h : BytesAt c o n bs) : cvO Try.prog 53 9 b o n cp w (some (.cells c T fz)) hb = .ok (.string (ba bs)) w := cvO_bytes T53 T9 T5 hb h
theorem cvB0 : cvR Try.prog 53 9 (.slice none 0 0) w = .ok (.string (ba [])) w := cvR_none T53 T9 T5
theorem strEql (hb : ∀ x ∈ bs, x < 256) (hc : ∀ x ∈ cs, x < 256) : binR Try.prog .eql 9 x y (.string (ba bs)) (.string (ba cs)) w = .ok (.bool (decide (bs = cs))) w := by rw [binR_eqlS, ba_eq hb hc]
theorem strNeq (hb : ∀ x ∈ bs, x < 256) (hc : ∀ x ∈ cs, x < 256) : binR Try.prog .neq 9 x y (.string (ba bs)) (.string (ba cs)) w = .ok (.bool (!decide (bs = cs))) w := by rw [binR_neqS, ba_eq hb hc]
end
attribute [push_cast] cvB cvB0 strEql strNeq
theorem sl_bytes {w : World} {a : Option Addr} {cap : Nat} {bs : List Nat} (h : SlB w a cap bs) (hne : bs ≠ []) : ∃ b c T fz, a = some ⟨b, 0, none⟩ ∧ w.heap[b]? = some (.cells c T fz) ∧ BytesAt c 0 bs.length bs := by
  rcases h.l.row with ⟨h1, h2, _⟩ | ⟨g, cur, rfl, hg, _⟩
  · exact absurd (List.map_eq_nil_iff.1 (List.eq_nil_of_length_eq_zero h2)) hne
  · obtain ⟨b, o, c, T, fz, h1, h2, h3⟩ := inp_all (Sl.inp h) hne
    cases h1
    exact ⟨g, c, T, fz, rfl, h2, rfl, h3⟩
theorem inp_bytes {w : World} {a : Option Addr} {bs : List Nat} (h : Inp w 1 a (bs.map byteRow)) (hne : bs ≠ []) : ∃ b o c T fz, a = some ⟨b, o, none⟩ ∧ w.heap[b]? = some (.cells c T fz) ∧ BytesAt c o bs.length bs := by
  obtain ⟨b, o, c, T, fz, h1, h2, h3⟩ := inp_all h hne
  exact ⟨b, o, c, T, fz, h1, h2, rfl, h3⟩
theorem code_nil (w : World) : CallsR Try.prog 57 #[.nilIface] w fun r w' => r = .int .i64 0 ∧ Ext w w' := by
  refine en1 Try.func57 Try.results57 mixed [] ?_
  intro e0 h0
  refine w_ fun d => ?_
  exact ⟨rfl, ext_⟩
theorem code_1 (w : World) : CallsR Try.prog 57 #[.iface 81 (.int .i64 1)] w fun r w' => r = .int .i64 1 ∧ Ext w w' := by
  refine en1 Try.func57 Try.results57 mixed [] ?_
  intro e0 h0
  refine w_ fun d => ?_
  refine un_ 3 ?_
  refine w_ fun d => ?_
  exact ⟨rfl, ext_⟩
theorem code_7 (w : World) : CallsR Try.prog 57 #[.iface 81 (.int .i64 7)] w fun r w' => r = .int .i64 7 ∧ Ext w w' := by
  refine en1 Try.func57 Try.results57 mixed [] ?_
  intro e0 h0
  refine w_ fun d => ?_
  refine un_ 9 ?_
  refine w_ fun d => ?_
  exact ⟨rfl, ext_⟩
def upR : RQ := ⟨5, 1, 0, 0, 0, 3, 0⟩
theorem upR_ok : upR.ok := ⟨by decide, by decide, by decide, by decide, by decide, by decide, by decide⟩
theorem upR_may : mayF upR = true := by decide
theorem upR_put : putB upR = [5, 1, 3] := by decide
theorem upR_get : getF [5, 1, 3] = some upR := by decide
theorem up18_calls (w : World) : CallsR Try.prog 53 #[] w fun r w' => r = .bool true ∧ Ext w w' := by
  have cp := put_calls upR upR_ok
  rw [upR_may, upR_put] at cp
  have cg := fun (a : Option Addr) (cap : Nat) (h : 3 ≤ cap) (w : World) (hI : Inp w 1 a ([5, 1, 3].map byteRow)) => get_calls [5, 1, 3] (by decide) (by decide) a cap h w hI
  rw [upR_get] at cg
  refine en0 Try.func53 Try.results53 mixed [] ?_
  intro e0
  refine w_ fun d => ?_
  refine (cp _).mono ?_
  rintro _ w1 ⟨h | h, hE1⟩
  case inr => exact absurd h.1 (by decide)
  obtain ⟨_, a, cap, rfl, sl, new⟩ := h
  obtain ⟨b, c, T, fz, rfl, hbk, hby⟩ := sl_bytes sl (by simp)
  have hs1 := sz_ hE1
  have hlb := lt_of_heap hbk
  simp only [List.length_cons, List.length_nil] at hby
  clear sl new cp
  refine w_ fun d => ?_
  have slg : SlB (w1.alloc (.cells #[.int .u8 5, .int .u8 1, .int .u8 3] 5)) (some ⟨w1.heap.size, 0, none⟩) 3 [5, 1, 3] := madeB alloc_new rfl (by simp) rfl
  refine (cg _ 3 (by decide) _ (Sl.inp slg)).mono ?_
  clear slg cg
  rintro _ w2 ⟨h | h, hE2⟩
  case inr => cases h.1
  obtain ⟨r, hr, rfl⟩ := h
  cases hr
  have hs2 := sz_ hE2
  have hb2 : BytesAt #[.int .u8 5, .int .u8 1, .int .u8 3] 0 3 [5, 1, 3] := ⟨rfl, fun i x hx => by
    match i, hx with
    | 0, hx => cases hx; rfl
    | 1, hx => cases hx; rfl
    | 2, hx => cases hx; rfl
    | i + 3, hx => simp at hx⟩
  have hlt : ∀ x ∈ [5, 1, 3], x < 256 := by decide
  refine w_ fun d => ?_
  exact ⟨rfl, ext_⟩
end Go.Proofs.Ytghcmogbmaedfaa
