/- Layer 14: 'the new store is in the plain order, has just as many nodes as the roots' functions need there, and each root reads as it did; with one node less there would be no room' (CanonSmall), as given: for every input. -/
import Derived.Test.YtpeindhocndmnaaCc7
namespace Go.Proofs.Ytpeindhocndmnaa
open Go Go.Bx Go.ChangeShapes Go.WideShapes Go.ChangeAt Go.RowKit
set_option linter.unusedVariables false
set_option maxRecDepth 100000
theorem canonSmall_lifted (os : Os) (started : os.Started) (H : Type) (enc : TypeId × Value → H) :
    ReturnsInHanded {} Try.checked os 7 .any (Rows.canonSmallSpec.pre6 enc Try.prog Try.f7 Rows.canonSmallRow.domain false) (Rows.canonSmallSpec.post enc Try.prog Try.f7 false true false false) := by
  refine returnsInHanded_of_change_sized (C := Try.checked) own started (by kernel_rfl) Try.func7
    (ChangeSpec.witness6 (enc := enc) (C := Try.checked) false ⟨#[], #[.slice none 0 0, .slice none 0 0], []⟩ 8 (by kernel_rfl) (by kernel_rfl) (by kernel_rfl) (by kernel_rfl)) ?_
  intro W base args ds gs before hval0 hW hcnd hsz0 _
  have hsz : (DataW.weightsEach Try.prog (Try.f7.params.toList ++ Rows.canonSmallSpec.plain.varTypes Try.prog) (ds ++ gs)).all (· ≤ reachBytes) = true := hsz0
  have hval : ∀ (j : Nat) t v, Try.f7.params[j]? = some t → args[j]? = some v → Value.okWide Try.prog W .any base t v := hval0
  have hW' := hW
  obtain ⟨p, q, hA0, hV, rfl, hfz, hnd⟩ := hW
  have hA : DataW.TrodAll enc Try.prog W 0 (fun _ => true) true Try.f7.params.toList args.toList ds p := hA0
  rw [Try.params7] at hA hval hsz
  obtain ⟨v0, vs0, d0, ds0, p0, q0, hargs, rfl, rfl, h0, r0⟩ := trodAll_cons hA
  obtain ⟨v1, vs1, d1, ds1, p1, q1, rfl, rfl, rfl, h1, r1⟩ := trodAll_cons r0
  obtain ⟨rfl, rfl, rfl⟩ := trodAll_nil r1
  obtain rfl : args = #[v0, v1] := by cases args; simp_all
  obtain ⟨rfl, rfl⟩ := trodVars_none hV
  obtain ⟨a0, b0, c0, rfl, I0, w0, l0, m0⟩ := open_rows Try.underlying65 (s := 4) (by kernel_rfl) (by decide) dec_func (hval 0 _ v0 rfl rfl) h0
  have S0 := sl_sized Try.underlying65 (Nat.le_of_ble_eq_true (by kernel_rfl)) hsz 0 rfl rfl h0
  obtain ⟨a1, b1, c1, rfl, I1, w1, l1, m1⟩ := open_rows Try.underlying34 (s := 1) (by kernel_rfl) (by decide) dec_num (hval 1 _ v1 rfl rfl) h1
  have S1 := sl_sized Try.underlying34 (Nat.le_of_ble_eq_true (by kernel_rfl)) hsz 1 rfl rfl h1
  refine (canonSmall_calls I0 (inI_of I1) S0 S1).mono fun v W' ⟨hv, hE⟩ => ?_
  subst hv
  exact law_post laidOut (by kernel_rfl) rfl rfl Try.underlying4 hW' ⟨rfl, rfl, rfl⟩ hE
theorem canonSmall_over : Rows.canonSmallRow.holds Try.pinned (OpenSpec.ofChange Rows.canonSmallSpec) :=
  OpenClaim.holds_of_wide 7 Try.f7 rfl rfl rfl rfl rfl rfl rfl ⟨rfl, rfl, rfl, rfl, rfl⟩ rfl rfl rfl rfl rfl (by kernel_rfl) Try.func7 (by kernel_rfl)
    (of_decide_eq_true (by kernel_rfl)) (by unfold Func.isWrapper; first | (rw [if_pos (by decide +kernel)]; kernel_rfl) | (rw [if_neg (by decide +kernel)]; exact ⟨rfl, rfl⟩))
    (fun os started H enc _ => canonSmall_lifted os started H enc)
theorem canonSmall_holds : Rows.CanonSmallSaid := canonSmall_over
#print axioms canonSmall_holds
end Go.Proofs.Ytpeindhocndmnaa

