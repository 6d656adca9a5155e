/- Layer 13: 'with room, the roots read as they did, as many nodes are left as they need in the order that there is, no more than behind a sweep ahead of it; the other variables stand to each other as they did' (SiftKeeps), as given: for every input. -/
import Derived.Test.YtpeindhocndmnaaSg7
namespace Go.Proofs.Ytpeindhocndmnaa
open Go Go.Bx Go.ChangeShapes Go.WideShapes Go.ChangeAt Go.RowKit
set_option linter.unusedVariables false
set_option maxRecDepth 100000
theorem siftKeeps_lifted (os : Os) (started : os.Started) (H : Type) (enc : TypeId × Value → H) :
    ReturnsInHanded {} Try.checked os 15 .any (Rows.siftKeepsSpec.pre6 enc Try.prog Try.f15 Rows.siftKeepsRow.domain false) (Rows.siftKeepsSpec.post enc Try.prog Try.f15 false true false false) := by
  refine returnsInHanded_of_change_sized (C := Try.checked) own started (by kernel_rfl) Try.func15
    (ChangeSpec.witness6 (enc := enc) (C := Try.checked) false ⟨#[], #[.slice none 0 0, .slice none 0 0, .int .i64 0, .int .i64 0], []⟩ 8 (by kernel_rfl) (by kernel_rfl) (by kernel_rfl) (by kernel_rfl)) ?_
  intro W base args ds gs before hval0 hW hcnd hsz0 _
  have hsz : (DataW.weightsEach Try.prog (Try.f15.params.toList ++ Rows.siftKeepsSpec.plain.varTypes Try.prog) (ds ++ gs)).all (· ≤ reachBytes) = true := hsz0
  have hval : ∀ (j : Nat) t v, Try.f15.params[j]? = some t → args[j]? = some v → Value.okWide Try.prog W .any base t v := hval0
  have hW' := hW
  obtain ⟨p, q, hA0, hV, rfl, hfz, hnd⟩ := hW
  have hA : DataW.TrodAll enc Try.prog W 0 (fun _ => true) true Try.f15.params.toList args.toList ds p := hA0
  rw [Try.params15] at hA hval hsz
  obtain ⟨v0, vs0, d0, ds0, p0, q0, hargs, rfl, rfl, h0, r0⟩ := trodAll_cons hA
  obtain ⟨v1, vs1, d1, ds1, p1, q1, rfl, rfl, rfl, h1, r1⟩ := trodAll_cons r0
  obtain ⟨v2, vs2, d2, ds2, p2, q2, rfl, rfl, rfl, h2, r2⟩ := trodAll_cons r1
  obtain ⟨v3, vs3, d3, ds3, p3, q3, rfl, rfl, rfl, h3, r3⟩ := trodAll_cons r2
  obtain ⟨rfl, rfl, rfl⟩ := trodAll_nil r3
  obtain rfl : args = #[v0, v1, v2, v3] := by cases args; simp_all
  obtain ⟨rfl, rfl⟩ := trodVars_none hV
  obtain ⟨a0, b0, c0, rfl, I0, w0, l0, m0⟩ := open_rows Try.underlying65 (s := 4) (by kernel_rfl) (by decide) dec_func (hval 0 _ v0 rfl rfl) h0
  have S0 := sl_sized Try.underlying65 (Nat.le_of_ble_eq_true (by kernel_rfl)) hsz 0 rfl rfl h0
  obtain ⟨a1, b1, c1, rfl, I1, w1, l1, m1⟩ := open_rows Try.underlying34 (s := 1) (by kernel_rfl) (by decide) dec_num (hval 1 _ v1 rfl rfl) h1
  have S1 := sl_sized Try.underlying34 (Nat.le_of_ble_eq_true (by kernel_rfl)) hsz 1 rfl rfl h1
  obtain ⟨a2, rfl, rfl, rfl, w2⟩ := open_int Try.underlying3 (hval 2 _ v2 rfl rfl) h2
  obtain ⟨a3, rfl, rfl, rfl, w3⟩ := open_int Try.underlying3 (hval 3 _ v3 rfl rfl) h3
  refine (siftKeeps_calls a2 a3 I0 (inI_of I1) S0 S1).mono fun v W' ⟨hv, hE⟩ => ?_
  subst hv
  exact law_post laidOut (by kernel_rfl) rfl rfl Try.underlying4 hW' ⟨rfl, rfl, rfl⟩ hE
theorem siftKeeps_over : Rows.siftKeepsRow.holds Try.pinned (OpenSpec.ofChange Rows.siftKeepsSpec) :=
  OpenClaim.holds_of_wide 15 Try.f15 rfl rfl rfl rfl rfl rfl rfl ⟨rfl, rfl, rfl, rfl, rfl⟩ rfl rfl rfl rfl rfl (by kernel_rfl) Try.func15 (by kernel_rfl)
    (of_decide_eq_true (by kernel_rfl)) (by unfold Func.isWrapper; first | (rw [if_pos (by decide +kernel)]; kernel_rfl) | (rw [if_neg (by decide +kernel)]; exact ⟨rfl, rfl⟩))
    (fun os started H enc _ => siftKeeps_lifted os started H enc)
theorem siftKeeps_holds : Rows.SiftKeepsSaid := siftKeeps_over
#print axioms siftKeeps_holds
end Go.Proofs.Ytpeindhocndmnaa

