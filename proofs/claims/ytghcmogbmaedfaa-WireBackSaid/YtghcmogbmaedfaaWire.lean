/- Walks of layer 18: requests and answers as bytes. -/
import Derived.Test.YtghcmogbmaedfaaWireOps
namespace Go.Proofs.Ytghcmogbmaedfaa
open Go Go.Bx
set_option linter.unusedSimpArgs false
set_option linter.unusedVariables false
set_option maxRecDepth 100000
set_option maxHeartbeats 4000000
attribute [local irreducible] X XO XE XF XD XW thenX inX retX kN CallsR
theorem pl_vals (k : Nat) (hk : k < 22) : pl (k : Int) = [[], [4], [], [0], [5], [3], [0], [0, 1], [0, 1], [0, 1], [0, 1, 2], [0, 3, 5], [0, 3, 1], [0, 3], [0, 3], [0, 3], [0], [0], [0], [0, 1], [0], []].getD k [] :=
  (by decide : ∀ k : Nat, k < 22 → pl (k : Int) = [[], [4], [], [0], [5], [3], [0], [0, 1], [0, 1], [0, 1], [0, 1, 2], [0, 3, 5], [0, 3, 1], [0, 3], [0, 3], [0, 3], [0], [0], [0], [0, 1], [0], []].getD k []) k hk
theorem parts_calls (op : Int) (w : World) : CallsR Try.prog 71 #[.int .i64 op] w fun r w' => (∃ a cap, r = .tuple #[.slice a (pl op).length cap, .bool (partsL op).isSome] ∧ SlI w' a cap (pl op) ∧ ∀ g, blk a = some g → w.heap.size ≤ g) ∧ Ext w w' := by
  by_cases hin : 1 ≤ op ∧ op ≤ 21
  case neg =>
    obtain ⟨h1, h2⟩ := pl_out hin
    rw [h1, h2]
    refine en1 Try.func71 Try.results71 mixed [] ?_
    intro e0 h0
    refine w_ fun d => ?_
    exact ⟨⟨none, 0, rfl, Sl.nil _ _ _, fun g h => by cases h⟩, ext_⟩
  rcases op_cases hin with rfl | rfl | rfl | rfl | rfl | rfl | rfl | rfl | rfl | rfl | rfl | rfl | rfl | rfl | rfl | rfl | rfl | rfl | rfl | rfl | rfl
  all_goals
    refine en1 Try.func71 Try.results71 mixed [] ?_
    intro e0 h0
    refine w_ fun d => ?_
    first
    | exact ⟨⟨none, 0, rfl, Sl.nil _ _ _, fun g h => by cases h⟩, ext_⟩
    | exact ⟨⟨some _, _, rfl, madeI (hA rfl) rfl (by decide) rfl, fun g hg => by have := blk_g hg; omega⟩, ext_⟩
theorem wide_calls (p : Nat) (hp : p ≤ 5) (w : World) : CallsR Try.prog 74 #[.int .i64 p] w fun r w' => r = .int .i64 (wideV p : Nat) ∧ Ext w w' := by
  rcases (by omega : p = 0 ∨ p = 1 ∨ p = 2 ∨ p = 3 ∨ p = 4 ∨ p = 5) with rfl | rfl | rfl | rfl | rfl | rfl
  all_goals
    refine en1 Try.func74 Try.results74 mixed [] ?_
    intro e0 h0
    refine w_ fun d => ?_
    exact ⟨rfl, ext_⟩
theorem most_calls (op : Int) (hin : 1 ≤ op ∧ op ≤ 21) (w : World) : CallsR Try.prog 84 #[.int .i64 op] w fun r w' => r = .int .i64 (mostV op) ∧ Ext w w' := by
  rcases op_cases hin with rfl | rfl | rfl | rfl | rfl | rfl | rfl | rfl | rfl | rfl | rfl | rfl | rfl | rfl | rfl | rfl | rfl | rfl | rfl | rfl | rfl
  all_goals
    refine en1 Try.func84 Try.results84 mixed [] ?_
    intro e0 h0
    refine w_ fun d => ?_
    exact ⟨rfl, ext_⟩
theorem u64_toU (i : Int) : IntKind.u64.wrap i = ((toU i : Nat) : Int) := by
  simp only [IntKind.wrap, IntKind.signed, IntKind.bits, toU]
  simp
  omega
theorem i64_toS {v : Nat} (h : v < 18446744073709551616) : IntKind.i64.wrap (v : Int) = toS v := by
  simp only [IntKind.wrap, IntKind.signed, IntKind.bits, toS]
  simp
  split <;> split <;> omega
theorem part_calls (r : RQ) (p : Nat) (hp : p ≤ 5) (w : World) : CallsR Try.prog 73 #[rqV r, .int .i64 p] w fun v w' => v = .int .u64 (partV r p : Nat) ∧ Ext w w' := by
  have e1 := u64_toU r.bit
  have e2 := u64_toU r.n
  rcases (by omega : p = 0 ∨ p = 1 ∨ p = 2 ∨ p = 3 ∨ p = 4 ∨ p = 5) with rfl | rfl | rfl | rfl | rfl | rfl
  all_goals
    refine en2 Try.func73 Try.results73 mixed [] ?_
    intro e0 h0 h1
    refine w_ fun d => ?_
    exact ⟨rfl, ext_⟩
theorem set_calls (r : RQ) (p : Nat) (hp : p ≤ 5) (v : Nat) (hv : v < 18446744073709551616) (b : Nat) (w : World) (hb : w.heap[b]? = some (.cells (rqV r).cells 50 (0, 0))) :
    CallsR Try.prog 80 #[.pointer (some ⟨b, 0, none⟩), .int .i64 p, .int .u64 v] w fun x w' => x = .tuple #[] ∧ w' = upd w b (.cells (rqV (setV r p v)).cells 50 (0, 0)) := by
  have e1 := i64_toS hv
  have hl := lt_of_heap hb
  simp only [rqV, Value.cells] at hb
  rcases (by omega : p = 0 ∨ p = 1 ∨ p = 2 ∨ p = 3 ∨ p = 4 ∨ p = 5) with rfl | rfl | rfl | rfl | rfl | rfl
  all_goals
    refine en3 Try.func80 Try.results80 mixed [] ?_
    intro e0 h0 h1 h2
    refine w_ fun d => ?_
    exact ⟨rfl, rfl⟩
end Go.Proofs.Ytghcmogbmaedfaa
