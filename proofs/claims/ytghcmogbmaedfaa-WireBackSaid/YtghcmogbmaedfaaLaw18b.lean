/- Layer 18's second law, walked: bytes got. -/
import Derived.Test.YtghcmogbmaedfaaLaw18
import Derived.Test.YtghcmogbmaedfaaRef15f
namespace Go.Proofs.Ytghcmogbmaedfaa
open Go Go.Bx
set_option linter.unusedSimpArgs false
set_option linter.unusedVariables false
set_option maxRecDepth 100000
set_option maxHeartbeats 4000000
attribute [local irreducible] X XO XE XF XD XW thenX inX retX kN CallsR
section
variable {bs : List Nat} (hb : ∀ x ∈ bs, x < 256) (hl : bs.length ≤ 1000) {a : Option Addr} {cap : Nat} (hcap : bs.length ≤ cap) {W w : World} (hI : Inp W 1 a (bs.map byteRow)) (hE : Ext W w)
include hb hl hcap hI hE
theorem get_some {r : RQ} (hg : getF bs = some r) : CallsR Try.prog 61 #[.slice a bs.length cap] w fun v w' => v = .tuple #[rqV r, .nilIface] ∧ Ext w w' :=
  (get_calls bs hb hl a cap hcap w (hI.ext hE)).mono fun v w' h => by
    rcases h with ⟨⟨s, h1, h2⟩ | ⟨h1, _⟩, h3⟩
    · rw [hg] at h1; cases h1; exact ⟨h2, h3⟩
    · rw [hg] at h1; cases h1
theorem get_none (hg : getF bs = none) : CallsR Try.prog 61 #[.slice a bs.length cap] w fun v w' => v = .tuple #[rqV rq0, .iface 81 (.int .i64 7)] ∧ Ext w w' :=
  (get_calls bs hb hl a cap hcap w (hI.ext hE)).mono fun v w' h => by
    rcases h with ⟨⟨s, h1, h2⟩ | ⟨h1, h2⟩, h3⟩
    · rw [hg] at h1; cases h1
    · exact ⟨h2, h3⟩
theorem refGet_some {r : RQ} (hg : getF bs = some r) : CallsR Try.prog 62 #[.slice a bs.length cap] w fun v w' => v = .tuple #[rqV r, .bool true] ∧ Ext w w' :=
  (refGet_calls bs hb hl a cap hcap w (hI.ext hE)).mono fun v w' h => by
    rcases h with ⟨⟨s, h1, h2⟩ | ⟨h1, _⟩, h3⟩
    · rw [hg] at h1; cases h1; exact ⟨h2, h3⟩
    · rw [hg] at h1; cases h1
theorem refGet_none (hg : getF bs = none) : CallsR Try.prog 62 #[.slice a bs.length cap] w fun v w' => v = .tuple #[rqV rq0, .bool false] ∧ Ext w w' :=
  (refGet_calls bs hb hl a cap hcap w (hI.ext hE)).mono fun v w' h => by
    rcases h with ⟨⟨s, h1, h2⟩ | ⟨h1, h2⟩, h3⟩
    · rw [hg] at h1; cases h1
    · exact ⟨h2, h3⟩
theorem getR_some {r : RS} (hg : getR bs = some r) : CallsR Try.prog 63 #[.slice a bs.length cap] w fun v w' => v = .tuple #[rsV r, .nilIface] ∧ Ext w w' :=
  (getResp_calls bs hb a cap hcap hl w (hI.ext hE)).mono fun v w' h => by
    rcases h with ⟨⟨s, h1, h2⟩ | ⟨h1, _⟩, h3⟩
    · rw [hg] at h1; cases h1; exact ⟨h2, h3⟩
    · rw [hg] at h1; cases h1
theorem getR_none (hg : getR bs = none) : CallsR Try.prog 63 #[.slice a bs.length cap] w fun v w' => v = .tuple #[rsV rs0, .iface 81 (.int .i64 7)] ∧ Ext w w' :=
  (getResp_calls bs hb a cap hcap hl w (hI.ext hE)).mono fun v w' h => by
    rcases h with ⟨⟨s, h1, h2⟩ | ⟨h1, h2⟩, h3⟩
    · rw [hg] at h1; cases h1
    · exact ⟨h2, h3⟩
theorem refGetR_some {r : RS} (hg : getR bs = some r) : CallsR Try.prog 64 #[.slice a bs.length cap] w fun v w' => v = .tuple #[rsV r, .bool true] ∧ Ext w w' :=
  (refGetResp_calls bs hb a cap hcap hl w (hI.ext hE)).mono fun v w' h => by
    rcases h with ⟨⟨s, h1, h2⟩ | ⟨h1, _⟩, h3⟩
    · rw [hg] at h1; cases h1; exact ⟨h2, h3⟩
    · rw [hg] at h1; cases h1
theorem refGetR_none (hg : getR bs = none) : CallsR Try.prog 64 #[.slice a bs.length cap] w fun v w' => v = .tuple #[rsV rs0, .bool false] ∧ Ext w w' :=
  (refGetResp_calls bs hb a cap hcap hl w (hI.ext hE)).mono fun v w' h => by
    rcases h with ⟨⟨s, h1, h2⟩ | ⟨h1, h2⟩, h3⟩
    · rw [hg] at h1; cases h1
    · exact ⟨h2, h3⟩
end
theorem wireGets_calls (bs : List Nat) (hb : ∀ x ∈ bs, x < 256) (a : Option Addr) (cap : Nat) (hcap : bs.length ≤ cap) (hL : bs.length ≤ 9223372036854775807) (w : World) (hI : Inp w 1 a (bs.map byteRow)) :
    CallsR Try.prog 10 #[.slice a bs.length cap] w fun v w' => v = .bool true ∧ Ext w w' := by
  refine en1 Try.func10 Try.results10 mixed [] ?_
  intro e0 h0
  refine w_ fun d => ?_
  refine callQ (up18_calls _) fun w1 hE1 hs1 => ?_
  by_cases hl : bs.length ≤ 1000
  case neg =>
    refine w_ fun d => ?_
    exact ⟨rfl, ext_⟩
  refine w_ fun d => ?_
  cases hg : getF bs with
  | none =>
    refine callQ (get_none hb hl hcap hI ext_ hg) fun w2 hE2 hs2 => ?_
    refine w_ fun d => ?_
    refine callQ (refGet_none hb hl hcap hI ext_ hg) fun w3 hE3 hs3 => ?_
    refine w_ fun d => ?_
    cases hr : getR bs with
    | none =>
      refine callQ (getR_none hb hl hcap hI ext_ hr) fun w4 hE4 hs4 => ?_
      refine w_ fun d => ?_
      refine callQ (refGetR_none hb hl hcap hI ext_ hr) fun w5 hE5 hs5 => ?_
      refine w_ fun d => ?_
      refine callQ (code_7 _) fun w6 hE6 hs6 => ?_
      refine w_ fun d => ?_
      refine callQ (code_7 _) fun w7 hE7 hs7 => ?_
      refine w_ fun d => ?_
      exact ⟨rfl, ext_⟩
    | some s =>
      refine callQ (getR_some hb hl hcap hI ext_ hr) fun w4 hE4 hs4 => ?_
      refine w_ fun d => ?_
      refine callQ (refGetR_some hb hl hcap hI ext_ hr) fun w5 hE5 hs5 => ?_
      refine w_ fun d => ?_
      refine callQ (code_7 _) fun w6 hE6 hs6 => ?_
      refine w_ fun d => ?_
      exact ⟨rfl, ext_⟩
  | some r =>
    refine callQ (get_some hb hl hcap hI ext_ hg) fun w2 hE2 hs2 => ?_
    refine w_ fun d => ?_
    refine callQ (refGet_some hb hl hcap hI ext_ hg) fun w3 hE3 hs3 => ?_
    refine w_ fun d => ?_
    cases hr : getR bs with
    | none =>
      refine callQ (getR_none hb hl hcap hI ext_ hr) fun w4 hE4 hs4 => ?_
      refine w_ fun d => ?_
      refine callQ (refGetR_none hb hl hcap hI ext_ hr) fun w5 hE5 hs5 => ?_
      refine w_ fun d => ?_
      refine callQ (code_7 _) fun w6 hE6 hs6 => ?_
      refine w_ fun d => ?_
      exact ⟨rfl, ext_⟩
    | some s =>
      refine callQ (getR_some hb hl hcap hI ext_ hr) fun w4 hE4 hs4 => ?_
      refine w_ fun d => ?_
      refine callQ (refGetR_some hb hl hcap hI ext_ hr) fun w5 hE5 hs5 => ?_
      refine w_ fun d => ?_
      exact ⟨rfl, ext_⟩
theorem putR_ne (r : RS) : putR r ≠ [] := by simp [putR]
theorem putB_ne (r : RQ) : putB r ≠ [] := by simp [putB]
theorem putB_len {r : RQ} (h : mayF r = true) : 2 ≤ (putB r).length ∧ (putB r).length ≤ 26 := by
  have hin := (may_parts h).1
  obtain ⟨k, hk, hk2, _⟩ := pl_in hin
  have hn := (parts_nodup_all k hk2).2.1
  rw [← hk] at hn
  have key : ∀ l : List Nat, (bodyB r l).length ≤ 8 * l.length := fun l => by
    induction l with
    | nil => simp [bodyB]
    | cons p l ih => rw [body_cons, List.length_append, hiB_len, List.length_cons]; have := wide_le p; omega
  have := key (pl r.op)
  simp only [putB, List.length_cons]
  omega
end Go.Proofs.Ytghcmogbmaedfaa
