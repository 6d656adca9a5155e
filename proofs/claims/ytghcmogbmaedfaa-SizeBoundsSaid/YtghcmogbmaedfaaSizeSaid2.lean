/- Layer 3: 'no more nodes than both parts; in an order of all, 77 at most' (SizeBounds), as given: for every input. -/
import Derived.Test.YtghcmogbmaedfaaLaw03b
import Derived.Test.YtghcmogbmaedfaaLawFv
import Derived.Test.YtghcmogbmaedfaaRows
namespace Go.Proofs.Ytghcmogbmaedfaa
open Go Go.Bx Go.ChangeShapes Go.WideShapes Go.ChangeAt Go.RowKit
set_option linter.unusedVariables false
set_option maxRecDepth 100000
theorem own : ownKnob Try.prog.godebug = none := by kernel_rfl
theorem laidOut : laidOutB Try.prog = true := by kernel_rfl
theorem dec_func {H : Type} {enc : TypeId × Value → H} {W : World} {base : Nat} {spare : Nat → Bool} {held : Bool} : ∀ n cs x, DataW.trod enc Try.prog W base spare held n 24 cs = some x → ∃ y : Fun8, cs = rowF y ∧ True := by
  intro n cs x h
  obtain ⟨xs, m, rfl, _, hl, hxl, hf⟩ := DataW.trod_array Try.underlying24 h
  have hc4 : Try.prog.cellsOf 22 = 1 := by kernel_rfl
  have hc : Try.prog.cellsOf 24 = 4 := by kernel_rfl
  rw [hc] at hl
  match cs, hl with
  | [c0, c1, c2, c3], _ =>
    match xs, hxl with
    | [x0, x1, x2, x3], _ =>
      obtain ⟨y0, e0, _, w0⟩ := DataW.trod_int Try.underlying22 (hf 0 (by decide))
      obtain ⟨y1, e1, _, w1⟩ := DataW.trod_int Try.underlying22 (hf 1 (by decide))
      obtain ⟨y2, e2, _, w2⟩ := DataW.trod_int Try.underlying22 (hf 2 (by decide))
      obtain ⟨y3, e3, _, w3⟩ := DataW.trod_int Try.underlying22 (hf 3 (by decide))
      simp [hc4] at e0 e1 e2 e3
      subst e0 e1 e2 e3
      have h0 := wf_u64 w0
      have h1 := wf_u64 w1
      have h2 := wf_u64 w2
      have h3 := wf_u64 w3
      refine ⟨join fun k => BitVec.ofNat 64 (([y0, y1, y2, y3].getD k 0).toNat), ?_, trivial⟩
      show _ = (vcs (fv _))
      have : (Value.agg #[.int .u64 y0, .int .u64 y1, .int .u64 y2, .int .u64 y3]) = fv (join fun k => BitVec.ofNat 64 (([y0, y1, y2, y3].getD k 0).toNat)) := by
        rw [← w4_join]
        simp only [isU h0.1 h0.2, isU h1.1 h1.2, isU h2.1 h2.2, isU h3.1 h3.2]
        rfl
      rw [← this]; rfl

theorem sizeBounds_lifted (os : Os) (started : os.Started) (H : Type) (enc : TypeId × Value → H) :
    ReturnsInHanded {} Try.checked os 8 .any (Rows.sizeBoundsSpec.pre6 enc Try.prog Try.f8 Rows.sizeBoundsRow.domain false) (Rows.sizeBoundsSpec.post enc Try.prog Try.f8 false true false false) := by
  refine returnsInHanded_of_change_sized (C := Try.checked) own started (by kernel_rfl) Try.func8
    (ChangeSpec.witness6 (enc := enc) (C := Try.checked) false ⟨#[], #[.slice none 0 0, .slice none 0 0, .agg #[.int .i64 0, .int .i64 0, .int .i64 0, .int .i64 0, .int .i64 0, .int .i64 0, .int .i64 0, .int .i64 0], .agg #[.int .u64 0, .int .u64 0, .int .u64 0, .int .u64 0]], []⟩ 8 (by kernel_rfl) (by kernel_rfl) (by kernel_rfl) (by kernel_rfl)) ?_
  intro W base args ds gs before hval0 hW hcnd hsz0 _
  have hsz : (DataW.weightsEach Try.prog (Try.f8.params.toList ++ Rows.sizeBoundsSpec.plain.varTypes Try.prog) (ds ++ gs)).all (· ≤ reachBytes) = true := hsz0
  have hval : ∀ (j : Nat) t v, Try.f8.params[j]? = some t → args[j]? = some v → Value.okWide Try.prog W .any base t v := hval0
  have hW' := hW
  obtain ⟨p, q, hA0, hV, rfl, hfz, hnd⟩ := hW
  have hA : DataW.TrodAll enc Try.prog W 0 (fun _ => true) true Try.f8.params.toList args.toList ds p := hA0
  rw [Try.params8] at hA hval hsz
  obtain ⟨v0, vs0, d0, ds0, p0, q0, hargs, rfl, rfl, h0, r0⟩ := trodAll_cons hA
  obtain ⟨v1, vs1, d1, ds1, p1, q1, rfl, rfl, rfl, h1, r1⟩ := trodAll_cons r0
  obtain ⟨v2, vs2, d2, ds2, p2, q2, rfl, rfl, rfl, h2, r2⟩ := trodAll_cons r1
  obtain ⟨v3, vs3, d3, ds3, p3, q3, rfl, rfl, rfl, h3, r3⟩ := trodAll_cons r2
  obtain ⟨rfl, rfl, rfl⟩ := trodAll_nil r3
  obtain rfl : args = #[v0, v1, v2, v3] := by cases args; simp_all
  obtain ⟨rfl, rfl⟩ := trodVars_none hV
  obtain ⟨a0, b0, c0, rfl, I0, w0, l0, m0⟩ := open_rows Try.underlying41 (s := 4) (by kernel_rfl) (by decide) dec_func (hval 0 _ v0 rfl rfl) h0
  have S0 := sl_sized Try.underlying41 (Nat.le_of_ble_eq_true (by kernel_rfl)) hsz 0 rfl rfl h0
  obtain ⟨a1, b1, c1, rfl, I1, w1, l1, m1⟩ := open_rows Try.underlying41 (s := 4) (by kernel_rfl) (by decide) dec_func (hval 1 _ v1 rfl rfl) h1
  have S1 := sl_sized Try.underlying41 (Nat.le_of_ble_eq_true (by kernel_rfl)) hsz 1 rfl rfl h1
  obtain ⟨a2, l2, rfl, w2⟩ := open_arr8 Try.underlying42 Try.underlying3 (by kernel_rfl) (by kernel_rfl) (hval 2 _ v2 rfl rfl) h2
  obtain ⟨a3, rfl⟩ := open_func Try.underlying24 Try.underlying22 (by kernel_rfl) (by kernel_rfl) (hval 3 _ v3 rfl rfl) h3
  refine (sizeBounds_calls a0 a1 b0 b1 c0 c1 a2 l2 a3 W I0 I1 S0 S1).mono fun v W' ⟨hv, hE⟩ => ?_
  subst hv
  exact law_post laidOut (by kernel_rfl) rfl rfl Try.underlying4 hW' ⟨rfl, rfl, rfl⟩ hE
theorem sizeBounds_over : Rows.sizeBoundsRow.holds Try.pinned (OpenSpec.ofChange Rows.sizeBoundsSpec) :=
  OpenClaim.holds_of_wide 8 Try.f8 rfl rfl rfl rfl rfl rfl rfl ⟨rfl, rfl, rfl, rfl, rfl⟩ rfl rfl rfl rfl rfl (by kernel_rfl) Try.func8 (by kernel_rfl)
    (of_decide_eq_true (by kernel_rfl)) (by unfold Func.isWrapper; first | (rw [if_pos (by decide +kernel)]; kernel_rfl) | (rw [if_neg (by decide +kernel)]; exact ⟨rfl, rfl⟩))
    (fun os started H enc _ => sizeBounds_lifted os started H enc)
theorem sizeBounds_holds : Rows.SizeBoundsSaid := sizeBounds_over
#print axioms sizeBounds_holds
end Go.Proofs.Ytghcmogbmaedfaa
