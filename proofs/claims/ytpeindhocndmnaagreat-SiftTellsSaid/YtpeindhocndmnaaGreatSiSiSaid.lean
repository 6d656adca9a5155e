/- Layer 13: 'what any variable's, or all variables' moving comes to, with any bound, of any roots, in any store: each error, all nodes, the order' (SiftTells), as given: for every input. -/
import Derived.Test.YtpeindhocndmnaaGreatSi8
namespace Go.Proofs.YtpeindhocndmnaaGreat
open Go Go.Bx Go.ChangeShapes Go.WideShapes Go.ChangeAt Go.RowKit
set_option linter.unusedVariables false
set_option maxRecDepth 100000
theorem siftTells_lifted (os : Os) (started : os.Started) (H : Type) (enc : TypeId × Value → H) :
    ReturnsInHanded {} Tryz.checked os 3 .any (Rows.siftTellsSpec.pre6 enc Tryz.prog Tryz.f3 Rows.siftTellsRow.domain false) (Rows.siftTellsSpec.post enc Tryz.prog Tryz.f3 false true false false) := by
  refine returnsInHanded_of_change_sized (C := Tryz.checked) own started (by kernel_rfl) Tryz.func3
    (ChangeSpec.witness6 (enc := enc) (C := Tryz.checked) false ⟨#[], #[.int .i64 0, .slice none 0 0, .slice none 0 0, .slice none 0 0, .int .i64 0, .int .i64 0, .bool false], []⟩ 8 (by kernel_rfl) (by kernel_rfl) (by kernel_rfl) (by kernel_rfl)) ?_
  intro W base args ds gs before hval0 hW hcnd hsz0 _
  have hsz : (DataW.weightsEach Tryz.prog (Tryz.f3.params.toList ++ Rows.siftTellsSpec.plain.varTypes Tryz.prog) (ds ++ gs)).all (· ≤ reachBytes) = true := hsz0
  have hval : ∀ (j : Nat) t v, Tryz.f3.params[j]? = some t → args[j]? = some v → Value.okWide Tryz.prog W .any base t v := hval0
  have hW' := hW
  obtain ⟨p, q, hA0, hV, rfl, hfz, hnd⟩ := hW
  have hA : DataW.TrodAll enc Tryz.prog W 0 (fun _ => true) true Tryz.f3.params.toList args.toList ds p := hA0
  rw [Tryz.params3] at hA hval hsz
  obtain ⟨v0, vs0, d0, ds0, p0, q0, hargs, rfl, rfl, h0, r0⟩ := trodAll_cons hA
  obtain ⟨v1, vs1, d1, ds1, p1, q1, rfl, rfl, rfl, h1, r1⟩ := trodAll_cons r0
  obtain ⟨v2, vs2, d2, ds2, p2, q2, rfl, rfl, rfl, h2, r2⟩ := trodAll_cons r1
  obtain ⟨v3, vs3, d3, ds3, p3, q3, rfl, rfl, rfl, h3, r3⟩ := trodAll_cons r2
  obtain ⟨v4, vs4, d4, ds4, p4, q4, rfl, rfl, rfl, h4, r4⟩ := trodAll_cons r3
  obtain ⟨v5, vs5, d5, ds5, p5, q5, rfl, rfl, rfl, h5, r5⟩ := trodAll_cons r4
  obtain ⟨v6, vs6, d6, ds6, p6, q6, rfl, rfl, rfl, h6, r6⟩ := trodAll_cons r5
  obtain ⟨rfl, rfl, rfl⟩ := trodAll_nil r6
  obtain rfl : args = #[v0, v1, v2, v3, v4, v5, v6] := by cases args; simp_all
  obtain ⟨rfl, rfl⟩ := trodVars_none hV
  obtain ⟨a0, rfl, rfl, rfl, w0⟩ := open_int Tryz.underlying3 (hval 0 _ v0 rfl rfl) h0
  obtain ⟨a1, b1, c1, rfl, I1, w1, l1, m1⟩ := open_rows Tryz.underlying22 (s := 4) (by kernel_rfl) (by decide) dec_func (hval 1 _ v1 rfl rfl) h1
  have S1 := sl_sized Tryz.underlying22 (Nat.le_of_ble_eq_true (by kernel_rfl)) hsz 1 rfl rfl h1
  obtain ⟨a2, b2, c2, rfl, I2, w2, l2, m2⟩ := open_rows Tryz.underlying23 (s := 1) (by kernel_rfl) (by decide) dec_num (hval 2 _ v2 rfl rfl) h2
  have S2 := sl_sized Tryz.underlying23 (Nat.le_of_ble_eq_true (by kernel_rfl)) hsz 2 rfl rfl h2
  obtain ⟨a3, b3, c3, rfl, I3, w3, l3, m3⟩ := open_rows Tryz.underlying23 (s := 1) (by kernel_rfl) (by decide) dec_num (hval 3 _ v3 rfl rfl) h3
  have S3 := sl_sized Tryz.underlying23 (Nat.le_of_ble_eq_true (by kernel_rfl)) hsz 3 rfl rfl h3
  obtain ⟨a4, rfl, rfl, rfl, w4⟩ := open_int Tryz.underlying3 (hval 4 _ v4 rfl rfl) h4
  obtain ⟨a5, rfl, rfl, rfl, w5⟩ := open_int Tryz.underlying3 (hval 5 _ v5 rfl rfl) h5
  obtain ⟨a6, rfl, rfl, rfl⟩ := open_bool Tryz.underlying4 (hval 6 _ v6 rfl rfl) h6
  refine (siftTells_calls a0 a4 a5 a6 I1 (inI_of I2) (inI_of I3) w3 S1 S2 S3).mono fun v W' ⟨hv, hE⟩ => ?_
  subst hv
  exact law_post laidOut (by kernel_rfl) rfl rfl Tryz.underlying4 hW' ⟨rfl, rfl, rfl⟩ hE
theorem siftTells_over : Rows.siftTellsRow.holds Tryz.pinned (OpenSpec.ofChange Rows.siftTellsSpec) :=
  OpenClaim.holds_of_wide 3 Tryz.f3 rfl rfl rfl rfl rfl rfl rfl ⟨rfl, rfl, rfl, rfl, rfl⟩ rfl rfl rfl rfl rfl (by kernel_rfl) Tryz.func3 (by kernel_rfl)
    (of_decide_eq_true (by kernel_rfl)) (by unfold Func.isWrapper; first | (rw [if_pos (by decide +kernel)]; kernel_rfl) | (rw [if_neg (by decide +kernel)]; exact ⟨rfl, rfl⟩))
    (fun os started H enc _ => siftTells_lifted os started H enc)
theorem siftTells_holds : Rows.SiftTellsSaid := siftTells_over
#print axioms siftTells_holds
end Go.Proofs.YtpeindhocndmnaaGreat

