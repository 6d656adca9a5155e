/- Layer 5: 'what any deeds come to, one behind the other' (UniqPlays), as given: for every input. -/
import Derived.Test.YtjdomnpfgdbckaaUniqPlays
import Derived.Test.YtjdomnpfgdbckaaLawKit
import Derived.Test.YtjdomnpfgdbckaaRows
namespace Go.Proofs.Ytjdomnpfgdbckaa
open Go Go.Bx Go.ChangeShapes Go.WideShapes Go.ChangeAt Go.RowKit
set_option linter.unusedVariables false
set_option maxRecDepth 100000
theorem own : ownKnob Try.prog.godebug = none := by kernel_rfl
theorem laidOut : laidOutB Try.prog = true := by kernel_rfl
theorem dec_deed05 {H : Type} {enc : TypeId × Value → H} {W : World} {base : Nat} {spare : Nat → Bool} {held : Bool} : ∀ n cs x, DataW.trod enc Try.prog W base spare held n 102 cs = some x → ∃ y : Dd, cs = encU y ∧ True := by
  intro n cs x h
  obtain ⟨xs, m, rfl, _, hl, hxl, hf⟩ := DataW.trod_struct Try.underlying102 h
  have hc3 : Try.prog.cellsOf 3 = 1 := by kernel_rfl
  have hc : Try.prog.cellsOf 102 = 4 := by kernel_rfl
  rw [hc] at hl
  match cs, hl with
  | [c0, c1, c2, c3], _ =>
    match xs, hxl with
    | [x0, x1, x2, x3], _ =>
      have h0 := hf 0 _ rfl
      have h1 := hf 1 _ rfl
      have h2 := hf 2 _ rfl
      have h3 := hf 3 _ rfl
      obtain ⟨y0, e0, _, _⟩ := DataW.trod_int Try.underlying3 h0
      obtain ⟨y1, e1, _, _⟩ := DataW.trod_int Try.underlying3 h1
      obtain ⟨y2, e2, _, _⟩ := DataW.trod_int Try.underlying3 h2
      obtain ⟨y3, e3, _, _⟩ := DataW.trod_int Try.underlying3 h3
      simp [hc3] at e0 e1 e2 e3
      subst e0 e1 e2 e3
      exact ⟨(y0, y1, y2, y3), rfl, trivial⟩

theorem uniqPlays_lifted (os : Os) (started : os.Started) (H : Type) (enc : TypeId × Value → H) :
    ReturnsInHanded {} Try.checked os 13 .any (Rows.uniqPlaysSpec.pre6 enc Try.prog Try.f13 Rows.uniqPlaysRow.domain false) (Rows.uniqPlaysSpec.post enc Try.prog Try.f13 false true false false) := by
  refine returnsInHanded_of_change_sized (C := Try.checked) own started (by kernel_rfl) Try.func13
    (ChangeSpec.witness6 (enc := enc) (C := Try.checked) false ⟨#[], #[.slice none 0 0], []⟩ 8 (by kernel_rfl) (by kernel_rfl) (by kernel_rfl) (by kernel_rfl)) ?_
  intro W base args ds gs before hval0 hW hcnd hsz0 _
  have hsz : (DataW.weightsEach Try.prog (Try.f13.params.toList ++ Rows.uniqPlaysSpec.plain.varTypes Try.prog) (ds ++ gs)).all (· ≤ reachBytes) = true := hsz0
  have hval : ∀ (j : Nat) t v, Try.f13.params[j]? = some t → args[j]? = some v → Value.okWide Try.prog W .any base t v := hval0
  have hW' := hW
  obtain ⟨p, q, hA0, hV, rfl, hfz, hnd⟩ := hW
  have hA : DataW.TrodAll enc Try.prog W 0 (fun _ => true) true Try.f13.params.toList args.toList ds p := hA0
  rw [Try.params13] at hA hval hsz
  obtain ⟨v0, vs0, d0, ds0, p0, q0, hargs, rfl, rfl, h0, r0⟩ := trodAll_cons hA
  obtain ⟨rfl, rfl, rfl⟩ := trodAll_nil r0
  obtain rfl : args = #[v0] := by cases args; simp_all
  obtain ⟨rfl, rfl⟩ := trodVars_none hV
  obtain ⟨a0, b0, c0, rfl, I0, w0, l0, m0⟩ := open_rows Try.underlying94 (s := 4) (by kernel_rfl) (by decide) dec_deed05 (hval 0 _ v0 rfl rfl) h0
  refine (uniqPlays_calls c0 I0 (Nat.le_trans (Nat.le_trans l0 m0) (by decide))).mono fun v W' ⟨hv, hE⟩ => ?_
  subst hv
  exact law_post laidOut (by kernel_rfl) rfl rfl Try.underlying4 hW' ⟨rfl, rfl, rfl⟩ hE
theorem uniqPlays_over : Rows.uniqPlaysRow.holds Try.pinned (OpenSpec.ofChange Rows.uniqPlaysSpec) :=
  OpenClaim.holds_of_wide 13 Try.f13 rfl rfl rfl rfl rfl rfl rfl ⟨rfl, rfl, rfl, rfl, rfl⟩ rfl rfl rfl rfl rfl (by kernel_rfl) Try.func13 (by kernel_rfl)
    (of_decide_eq_true (by kernel_rfl)) (by unfold Func.isWrapper; first | (rw [if_pos (by decide +kernel)]; kernel_rfl) | (rw [if_neg (by decide +kernel)]; exact ⟨rfl, rfl⟩))
    (fun os started H enc _ => uniqPlays_lifted os started H enc)
theorem uniqPlays_holds : Rows.UniqPlaysSaid := uniqPlays_over
#print axioms uniqPlays_holds
end Go.Proofs.Ytjdomnpfgdbckaa
