/- Handed-in requests, answers, bytes. -/
import Derived.Test.YtghcmogbmaedfaaLawFv
import Derived.Test.YtghcmogbmaedfaaWireOps
namespace Go.Proofs.Ytghcmogbmaedfaa
open Go Go.Bx Go.ChangeShapes Go.WideShapes Go.ChangeAt Go.RowKit
set_option linter.unusedVariables false
set_option maxRecDepth 100000
theorem wf_u8 {x : Int} (h : (Lit.int .u8 x).wf = true) : 0 ≤ x ∧ x < 256 := by
  simp [Lit.wf] at h
  have h1 : IntKind.u8.min = 0 := by decide
  have h2 : IntKind.u8.max = 255 := by decide +kernel
  omega
theorem wf_i64 {x : Int} (h : (Lit.int .i64 x).wf = true) : -9223372036854775808 ≤ x ∧ x < 9223372036854775808 := by
  simp [Lit.wf] at h
  have h1 : IntKind.i64.min = -9223372036854775808 := by decide
  have h2 : IntKind.i64.max = 9223372036854775807 := by decide +kernel
  omega
section
variable {H : Type} {enc : TypeId × Value → H} {r : Reach} {W w : World} {base b0 : Nat} {spare : Nat → Bool} {held : Bool} {v : Value} {d : DataW H} {ps : List MemPlace}
theorem dec_byte : ∀ n cs x, DataW.trod enc Try.prog W base spare held n 5 cs = some x → ∃ y : Nat, cs = byteRow y ∧ y < 256 := by
  intro n cs x h
  obtain ⟨y, h1, h2⟩ := dec_int Try.underlying5 n cs x h
  have := wf_u8 h2
  refine ⟨y.toNat, ?_, by omega⟩
  rw [h1, byteRow]
  congr 2
  omega
theorem open_req (hval : Value.okWide Try.prog W r b0 50 v) (hd : DataW.Trod enc Try.prog w base spare held 50 v d ps) : ∃ q : RQ, v = rqV q ∧ q.ok := by
  obtain ⟨cs, rfl, hsz, _⟩ : ∃ cs, v = .agg cs ∧ cs.size = Try.prog.cellsOf 50 ∧ Row.okWide Try.prog W r b0 50 cs := by
    simpa [Value.okWide, Try.underlying50] using hval
  obtain ⟨fuel, hf⟩ := hd
  have hcI : Try.prog.cellsOf 3 = 1 := by kernel_rfl
  have hcU : Try.prog.cellsOf 22 = 1 := by kernel_rfl
  have hc : Try.prog.cellsOf 50 = 7 := by kernel_rfl
  obtain ⟨xs, m, rfl, _, hl, hxl, hg⟩ := DataW.trod_struct Try.underlying50 hf
  rw [hc] at hsz
  obtain ⟨l⟩ := cs
  have hl7 : l.length = 7 := hsz
  match l, hl7 with
  | [c0, c1, c2, c3, c4, c5, c6], _ =>
    match xs, hxl with
    | [x0, x1, x2, x3, x4, x5, x6], _ =>
      obtain ⟨y0, e0, _, w0⟩ := DataW.trod_int Try.underlying3 (hg 0 _ rfl)
      obtain ⟨y1, e1, _, w1⟩ := DataW.trod_int Try.underlying3 (hg 1 _ rfl)
      obtain ⟨y2, e2, _, w2⟩ := DataW.trod_int Try.underlying22 (hg 2 _ rfl)
      obtain ⟨y3, e3, _, w3⟩ := DataW.trod_int Try.underlying22 (hg 3 _ rfl)
      obtain ⟨y4, e4, _, w4⟩ := DataW.trod_int Try.underlying22 (hg 4 _ rfl)
      obtain ⟨y5, e5, _, w5⟩ := DataW.trod_int Try.underlying3 (hg 5 _ rfl)
      obtain ⟨y6, e6, _, w6⟩ := DataW.trod_int Try.underlying3 (hg 6 _ rfl)
      simp [hcI, hcU, Value.cells] at e0 e1 e2 e3 e4 e5 e6
      subst e0 e1 e2 e3 e4 e5 e6
      have u2 := wf_u64 w2
      have u3 := wf_u64 w3
      have u4 := wf_u64 w4
      refine ⟨⟨y0, y1, y2.toNat, y3.toNat, y4.toNat, y5, y6⟩, ?_, ⟨wf_i64 w0, wf_i64 w1, by simp only; omega, by simp only; omega, by simp only; omega, wf_i64 w5, wf_i64 w6⟩⟩
      have h2 : ((y2.toNat : Nat) : Int) = y2 := by omega
      have h3 : ((y3.toNat : Nat) : Int) = y3 := by omega
      have h4 : ((y4.toNat : Nat) : Int) = y4 := by omega
      simp only [rqV, h2, h3, h4]
theorem open_resp (hval : Value.okWide Try.prog W r b0 52 v) (hd : DataW.Trod enc Try.prog w base spare held 52 v d ps) : ∃ q : RS, v = rsV q ∧ q.ok := by
  obtain ⟨cs, rfl, hsz, _⟩ : ∃ cs, v = .agg cs ∧ cs.size = Try.prog.cellsOf 52 ∧ Row.okWide Try.prog W r b0 52 cs := by
    simpa [Value.okWide, Try.underlying52] using hval
  obtain ⟨fuel, hf⟩ := hd
  have hcI : Try.prog.cellsOf 3 = 1 := by kernel_rfl
  have hcU : Try.prog.cellsOf 22 = 1 := by kernel_rfl
  have hc : Try.prog.cellsOf 52 = 5 := by kernel_rfl
  obtain ⟨xs, m, rfl, _, hl, hxl, hg⟩ := DataW.trod_struct Try.underlying52 hf
  rw [hc] at hsz
  obtain ⟨l⟩ := cs
  have hl5 : l.length = 5 := hsz
  match l, hl5 with
  | [c0, c1, c2, c3, c4], _ =>
    match xs, hxl with
    | [x0, x1, x2, x3, x4], _ =>
      obtain ⟨y0, e0, _, w0⟩ := DataW.trod_int Try.underlying3 (hg 0 _ rfl)
      obtain ⟨y1, e1, _, w1⟩ := DataW.trod_int Try.underlying3 (hg 1 _ rfl)
      obtain ⟨y2, e2, _, w2⟩ := DataW.trod_int Try.underlying22 (hg 2 _ rfl)
      obtain ⟨y3, e3, _, w3⟩ := DataW.trod_int Try.underlying3 (hg 3 _ rfl)
      obtain ⟨y4, e4, _, w4⟩ := DataW.trod_int Try.underlying3 (hg 4 _ rfl)
      simp [hcI, hcU, Value.cells] at e0 e1 e2 e3 e4
      subst e0 e1 e2 e3 e4
      have u2 := wf_u64 w2
      refine ⟨⟨y0, y1, y2.toNat, y3, y4⟩, ?_, ⟨wf_i64 w0, wf_i64 w1, by simp only; omega, wf_i64 w3, wf_i64 w4⟩⟩
      have h2 : ((y2.toNat : Nat) : Int) = y2 := by omega
      simp only [rsV, h2]
end
end Go.Proofs.Ytghcmogbmaedfaa
