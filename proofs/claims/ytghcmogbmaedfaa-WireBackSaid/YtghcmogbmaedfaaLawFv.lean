/- A handed-in function of eight variables. -/
import Derived.Test.YtghcmogbmaedfaaLawKit
import Derived.Test.YtghcmogbmaedfaaFv
namespace Go.Bx
open Go Go.ChangeShapes Go.WideShapes Go.ChangeAt Go.RowKit
section
variable {H : Type} {enc : TypeId × Value → H} {P : Program}
theorem wf_u64 {x : Int} (h : (Lit.int .u64 x).wf = true) : 0 ≤ x ∧ x < 18446744073709551616 := by
  simp [Lit.wf] at h
  have h1 : IntKind.u64.min = 0 := by decide
  have h2 : IntKind.u64.max = 18446744073709551615 := by decide +kernel
  omega
theorem open_func {r : Reach} {W w : World} {base b0 : Nat} {spare : Nat → Bool} {held : Bool} {t e : TypeId} {v : Value} {d : DataW H} {ps : List MemPlace} (ht : P.underlying t = some (.array 4 e)) (he : P.underlying e = some (.int .u64)) (hce : P.cellsOf e = 1) (hct : P.cellsOf t = 4)
    (hval : Value.okWide P W r b0 t v) (hd : DataW.Trod enc P w base spare held t v d ps) : ∃ f : Fun8, v = fv f := by
  obtain ⟨l, hl, rfl, hw⟩ := open_ints ht he hce hct hval hd
  obtain ⟨a, b, c, d, rfl⟩ := list4 hl
  have ha := wf_u64 (hw a (by simp))
  have hb := wf_u64 (hw b (by simp))
  have hc := wf_u64 (hw c (by simp))
  have hd := wf_u64 (hw d (by simp))
  refine ⟨join fun k => BitVec.ofNat 64 (([a, b, c, d].getD k 0).toNat), ?_⟩
  rw [← w4_join]
  simp only [List.map_cons, List.map_nil, isU ha.1 ha.2, isU hb.1 hb.2, isU hc.1 hc.2, isU hd.1 hd.2]
  rfl
end
end Go.Bx
