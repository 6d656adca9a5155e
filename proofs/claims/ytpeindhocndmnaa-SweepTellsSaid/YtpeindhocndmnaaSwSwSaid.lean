/- Layer 12: 'how many nodes are freed, of any roots, in any store that any deeds make, what is left, and what numbers come then' (SweepTells), as given: for every input. -/
import Derived.Test.YtpeindhocndmnaaSw7
namespace Go.Proofs.Ytpeindhocndmnaa
open Go Go.Bx Go.ChangeShapes Go.WideShapes Go.ChangeAt Go.RowKit
set_option linter.unusedVariables false
set_option maxRecDepth 100000
theorem sweepTells_lifted (os : Os) (started : os.Started) (H : Type) (enc : TypeId × Value → H) :
    ReturnsInHanded {} Try.checked os 12 .any (Rows.sweepTellsSpec.pre6 enc Try.prog Try.f12 Rows.sweepTellsRow.domain false) (Rows.sweepTellsSpec.post enc Try.prog Try.f12 false true false false) := by
  refine returnsInHanded_of_change_sized (C := Try.checked) own started (by kernel_rfl) Try.func12
    (ChangeSpec.witness6 (enc := enc) (C := Try.checked) false ⟨#[], #[.int .i64 0, .slice none 0 0, .slice none 0 0, .slice none 0 0], []⟩ 8 (by kernel_rfl) (by kernel_rfl) (by kernel_rfl) (by kernel_rfl)) ?_
  intro W base args ds gs before hval0 hW hcnd hsz0 _
  have hsz : (DataW.weightsEach Try.prog (Try.f12.params.toList ++ Rows.sweepTellsSpec.plain.varTypes Try.prog) (ds ++ gs)).all (· ≤ reachBytes) = true := hsz0
  have hval : ∀ (j : Nat) t v, Try.f12.params[j]? = some t → args[j]? = some v → Value.okWide Try.prog W .any base t v := hval0
  have hW' := hW
  obtain ⟨p, q, hA0, hV, rfl, hfz, hnd⟩ := hW
  have hA : DataW.TrodAll enc Try.prog W 0 (fun _ => true) true Try.f12.params.toList args.toList ds p := hA0
  rw [Try.params12] at hA hval hsz
  obtain ⟨v0, vs0, d0, ds0, p0, q0, hargs, rfl, rfl, h0, r0⟩ := trodAll_cons hA
  obtain ⟨v1, vs1, d1, ds1, p1, q1, rfl, rfl, rfl, h1, r1⟩ := trodAll_cons r0
  obtain ⟨v2, vs2, d2, ds2, p2, q2, rfl, rfl, rfl, h2, r2⟩ := trodAll_cons r1
  obtain ⟨v3, vs3, d3, ds3, p3, q3, rfl, rfl, rfl, h3, r3⟩ := trodAll_cons r2
  obtain ⟨rfl, rfl, rfl⟩ := trodAll_nil r3
  obtain rfl : args = #[v0, v1, v2, v3] := by cases args; simp_all
  obtain ⟨rfl, rfl⟩ := trodVars_none hV
  obtain ⟨a0, rfl, rfl, rfl, w0⟩ := open_int Try.underlying3 (hval 0 _ v0 rfl rfl) h0
  obtain ⟨a1, b1, c1, rfl, I1, w1, l1, m1⟩ := open_rows Try.underlying22 (s := 5) (by kernel_rfl) (by decide) dec_deed07 (hval 1 _ v1 rfl rfl) h1
  have S1 := sl_sized Try.underlying22 (Nat.le_of_ble_eq_true (by kernel_rfl)) hsz 1 rfl rfl h1
  obtain ⟨a2, b2, c2, rfl, I2, w2, l2, m2⟩ := open_rows Try.underlying34 (s := 1) (by kernel_rfl) (by decide) dec_num (hval 2 _ v2 rfl rfl) h2
  have S2 := sl_sized Try.underlying34 (Nat.le_of_ble_eq_true (by kernel_rfl)) hsz 2 rfl rfl h2
  obtain ⟨a3, b3, c3, rfl, I3, w3, l3, m3⟩ := open_rows Try.underlying22 (s := 5) (by kernel_rfl) (by decide) dec_deed07 (hval 3 _ v3 rfl rfl) h3
  have S3 := sl_sized Try.underlying22 (Nat.le_of_ble_eq_true (by kernel_rfl)) hsz 3 rfl rfl h3
  refine (sweepTells_calls a0 I1 w1 (inI_of I2) w2 I3 w3 S1 S2 S3).mono fun v W' ⟨hv, hE⟩ => ?_
  subst hv
  exact law_post laidOut (by kernel_rfl) rfl rfl Try.underlying4 hW' ⟨rfl, rfl, rfl⟩ hE
theorem sweepTells_over : Rows.sweepTellsRow.holds Try.pinned (OpenSpec.ofChange Rows.sweepTellsSpec) :=
  OpenClaim.holds_of_wide 12 Try.f12 rfl rfl rfl rfl rfl rfl rfl ⟨rfl, rfl, rfl, rfl, rfl⟩ rfl rfl rfl rfl rfl (by kernel_rfl) Try.func12 (by kernel_rfl)
    (of_decide_eq_true (by kernel_rfl)) (by unfold Func.isWrapper; first | (rw [if_pos (by decide +kernel)]; kernel_rfl) | (rw [if_neg (by decide +kernel)]; exact ⟨rfl, rfl⟩))
    (fun os started H enc _ => sweepTells_lifted os started H enc)
theorem sweepTells_holds : Rows.SweepTellsSaid := sweepTells_over
#print axioms sweepTells_holds
end Go.Proofs.Ytpeindhocndmnaa

