/- Layer 18: 'the request, and the answer, that any bytes are' (WireGets), as given: for every input. -/
import Derived.Test.YtghcmogbmaedfaaLaw18b
import Derived.Test.YtghcmogbmaedfaaLawFv
import Derived.Test.YtghcmogbmaedfaaRows
namespace Go.Proofs.Ytghcmogbmaedfaa
open Go Go.Bx Go.ChangeShapes Go.WideShapes Go.ChangeAt Go.RowKit
set_option linter.unusedVariables false
set_option maxRecDepth 100000
theorem own : ownKnob Try.prog.godebug = none := by kernel_rfl
theorem laidOut : laidOutB Try.prog = true := by kernel_rfl
theorem wf_u8 {x : Int} (h : (Lit.int .u8 x).wf = true) : 0 ≤ x ∧ x < 256 := by
  simp [Lit.wf] at h
  have h1 : IntKind.u8.min = 0 := by decide
  have h2 : IntKind.u8.max = 255 := by decide +kernel
  omega
theorem dec_byte {H : Type} {enc : TypeId × Value → H} {W : World} {base : Nat} {spare : Nat → Bool} {held : Bool} : ∀ n cs x, DataW.trod enc Try.prog W base spare held n 5 cs = some x → ∃ y : Nat, cs = byteRow y ∧ y < 256 := by
  intro n cs x h
  obtain ⟨y, h1, h2⟩ := dec_int Try.underlying5 n cs x h
  have := wf_u8 h2
  refine ⟨y.toNat, ?_, by omega⟩
  rw [h1, byteRow]
  congr 2
  omega

theorem wireGets_lifted (os : Os) (started : os.Started) (H : Type) (enc : TypeId × Value → H) :
    ReturnsInHanded {} Try.checked os 10 .any (Rows.wireGetsSpec.pre6 enc Try.prog Try.f10 Rows.wireGetsRow.domain false) (Rows.wireGetsSpec.post enc Try.prog Try.f10 false true false false) := by
  refine returnsInHanded_of_change_sized (C := Try.checked) own started (by kernel_rfl) Try.func10
    (ChangeSpec.witness6 (enc := enc) (C := Try.checked) false ⟨#[], #[.slice none 0 0], []⟩ 8 (by kernel_rfl) (by kernel_rfl) (by kernel_rfl) (by kernel_rfl)) ?_
  intro W base args ds gs before hval0 hW hcnd hsz0 _
  have hsz : (DataW.weightsEach Try.prog (Try.f10.params.toList ++ Rows.wireGetsSpec.plain.varTypes Try.prog) (ds ++ gs)).all (· ≤ reachBytes) = true := hsz0
  have hval : ∀ (j : Nat) t v, Try.f10.params[j]? = some t → args[j]? = some v → Value.okWide Try.prog W .any base t v := hval0
  have hW' := hW
  obtain ⟨p, q, hA0, hV, rfl, hfz, hnd⟩ := hW
  have hA : DataW.TrodAll enc Try.prog W 0 (fun _ => true) true Try.f10.params.toList args.toList ds p := hA0
  rw [Try.params10] at hA hval hsz
  obtain ⟨v0, vs0, d0, ds0, p0, q0, hargs, rfl, rfl, h0, r0⟩ := trodAll_cons hA
  obtain ⟨rfl, rfl, rfl⟩ := trodAll_nil r0
  obtain rfl : args = #[v0] := by cases args; simp_all
  obtain ⟨rfl, rfl⟩ := trodVars_none hV
  obtain ⟨a0, b0, c0, rfl, I0, w0, l0, m0⟩ := open_rows Try.underlying53 (s := 1) (by kernel_rfl) (by decide) dec_byte (hval 0 _ v0 rfl rfl) h0
  have S0 := sl_sized Try.underlying53 (Nat.le_of_ble_eq_true (by kernel_rfl)) hsz 0 rfl rfl h0
  refine (wireGets_calls a0 w0 b0 c0 l0 (Nat.le_trans (Nat.le_trans l0 m0) (by decide)) W I0).mono fun v W' ⟨hv, hE⟩ => ?_
  subst hv
  exact law_post laidOut (by kernel_rfl) rfl rfl Try.underlying4 hW' ⟨rfl, rfl, rfl⟩ hE
theorem wireGets_over : Rows.wireGetsRow.holds Try.pinned (OpenSpec.ofChange Rows.wireGetsSpec) :=
  OpenClaim.holds_of_wide 10 Try.f10 rfl rfl rfl rfl rfl rfl rfl ⟨rfl, rfl, rfl, rfl, rfl⟩ rfl rfl rfl rfl rfl (by kernel_rfl) Try.func10 (by kernel_rfl)
    (of_decide_eq_true (by kernel_rfl)) (by unfold Func.isWrapper; first | (rw [if_pos (by decide +kernel)]; kernel_rfl) | (rw [if_neg (by decide +kernel)]; exact ⟨rfl, rfl⟩))
    (fun os started H enc _ => wireGets_lifted os started H enc)
theorem wireGets_holds : Rows.WireGetsSaid := wireGets_over
#print axioms wireGets_holds
end Go.Proofs.Ytghcmogbmaedfaa
