/- Layer 18: 'what was put is got; what is got, put, is those bytes' (WireBack), as given: for every input. -/
import Derived.Test.YtghcmogbmaedfaaLaw18c
import Derived.Test.YtghcmogbmaedfaaWireOpen
import Derived.Test.YtghcmogbmaedfaaRows
namespace Go.Proofs.Ytghcmogbmaedfaa
open Go Go.Bx Go.ChangeShapes Go.WideShapes Go.ChangeAt Go.RowKit
set_option linter.unusedVariables false
set_option maxRecDepth 100000
theorem own : ownKnob Try.prog.godebug = none := by kernel_rfl
theorem laidOut : laidOutB Try.prog = true := by kernel_rfl
theorem wireBack_int (r : RQ) (hr : r.ok) (s : RS) (hs : s.ok) (bs : List Nat) (hb : ∀ x ∈ bs, x < 256) (a : Option Addr) (cap : Nat) (hcap : bs.length ≤ cap) (hL : bs.length ≤ 9223372036854775807) (m : Int) (hm : 0 ≤ m ∧ m < 256) (w : World) (hI : Inp w 1 a (bs.map byteRow)) :
    CallsR Try.prog 11 #[rqV r, rsV s, .slice a bs.length cap, .int .u8 m] w fun v w' => v = .bool true ∧ Ext w w' := by
  obtain ⟨n, rfl⟩ := Int.eq_ofNat_of_zero_le hm.1
  exact wireBack_calls r hr s hs bs hb a cap hcap hL n (by omega) w hI

theorem wireBack_lifted (os : Os) (started : os.Started) (H : Type) (enc : TypeId × Value → H) :
    ReturnsInHanded {} Try.checked os 11 .any (Rows.wireBackSpec.pre6 enc Try.prog Try.f11 Rows.wireBackRow.domain false) (Rows.wireBackSpec.post enc Try.prog Try.f11 false true false false) := by
  refine returnsInHanded_of_change_sized (C := Try.checked) own started (by kernel_rfl) Try.func11
    (ChangeSpec.witness6 (enc := enc) (C := Try.checked) false ⟨#[], #[.agg #[.int .i64 0, .int .i64 0, .int .u64 0, .int .u64 0, .int .u64 0, .int .i64 0, .int .i64 0], .agg #[.int .i64 0, .int .i64 0, .int .u64 0, .int .i64 0, .int .i64 0], .slice none 0 0, .int .u8 0], []⟩ 8 (by kernel_rfl) (by kernel_rfl) (by kernel_rfl) (by kernel_rfl)) ?_
  intro W base args ds gs before hval0 hW hcnd hsz0 _
  have hsz : (DataW.weightsEach Try.prog (Try.f11.params.toList ++ Rows.wireBackSpec.plain.varTypes Try.prog) (ds ++ gs)).all (· ≤ reachBytes) = true := hsz0
  have hval : ∀ (j : Nat) t v, Try.f11.params[j]? = some t → args[j]? = some v → Value.okWide Try.prog W .any base t v := hval0
  have hW' := hW
  obtain ⟨p, q, hA0, hV, rfl, hfz, hnd⟩ := hW
  have hA : DataW.TrodAll enc Try.prog W 0 (fun _ => true) true Try.f11.params.toList args.toList ds p := hA0
  rw [Try.params11] at hA hval hsz
  obtain ⟨v0, vs0, d0, ds0, p0, q0, hargs, rfl, rfl, h0, r0⟩ := trodAll_cons hA
  obtain ⟨v1, vs1, d1, ds1, p1, q1, rfl, rfl, rfl, h1, r1⟩ := trodAll_cons r0
  obtain ⟨v2, vs2, d2, ds2, p2, q2, rfl, rfl, rfl, h2, r2⟩ := trodAll_cons r1
  obtain ⟨v3, vs3, d3, ds3, p3, q3, rfl, rfl, rfl, h3, r3⟩ := trodAll_cons r2
  obtain ⟨rfl, rfl, rfl⟩ := trodAll_nil r3
  obtain rfl : args = #[v0, v1, v2, v3] := by cases args; simp_all
  obtain ⟨rfl, rfl⟩ := trodVars_none hV
  obtain ⟨a0, rfl, w0⟩ := open_req (hval 0 _ v0 rfl rfl) h0
  obtain ⟨a1, rfl, w1⟩ := open_resp (hval 1 _ v1 rfl rfl) h1
  obtain ⟨a2, b2, c2, rfl, I2, w2, l2, m2⟩ := open_rows Try.underlying53 (s := 1) (by kernel_rfl) (by decide) dec_byte (hval 2 _ v2 rfl rfl) h2
  have S2 := sl_sized Try.underlying53 (Nat.le_of_ble_eq_true (by kernel_rfl)) hsz 2 rfl rfl h2
  obtain ⟨a3, rfl, rfl, rfl, w3⟩ := open_int Try.underlying5 (hval 3 _ v3 rfl rfl) h3
  refine (wireBack_int a0 w0 a1 w1 a2 w2 b2 c2 l2 (Nat.le_trans (Nat.le_trans l2 m2) (by decide)) a3 (wf_u8 w3) W I2).mono fun v W' ⟨hv, hE⟩ => ?_
  subst hv
  exact law_post laidOut (by kernel_rfl) rfl rfl Try.underlying4 hW' ⟨rfl, rfl, rfl⟩ hE
theorem wireBack_over : Rows.wireBackRow.holds Try.pinned (OpenSpec.ofChange Rows.wireBackSpec) :=
  OpenClaim.holds_of_wide 11 Try.f11 rfl rfl rfl rfl rfl rfl rfl ⟨rfl, rfl, rfl, rfl, rfl⟩ rfl rfl rfl rfl rfl (by kernel_rfl) Try.func11 (by kernel_rfl)
    (of_decide_eq_true (by kernel_rfl)) (by unfold Func.isWrapper; first | (rw [if_pos (by decide +kernel)]; kernel_rfl) | (rw [if_neg (by decide +kernel)]; exact ⟨rfl, rfl⟩))
    (fun os started H enc _ => wireBack_lifted os started H enc)
theorem wireBack_holds : Rows.WireBackSaid := wireBack_over
#print axioms wireBack_holds
end Go.Proofs.Ytghcmogbmaedfaa
