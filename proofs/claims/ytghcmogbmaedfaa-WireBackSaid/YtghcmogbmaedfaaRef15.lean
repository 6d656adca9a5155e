/- Walks of the reference of layer 18: forms, numbers as bytes. -/
import Derived.Test.YtghcmogbmaedfaaWire6
namespace Go.Proofs.Ytghcmogbmaedfaa
open Go Go.Bx
set_option linter.unusedSimpArgs false
set_option linter.unusedVariables false
set_option maxRecDepth 100000
set_option maxHeartbeats 4000000
attribute [local irreducible] X XO XE XF XD XW thenX inX retX kN CallsR
theorem bs22 (s0 s1 s2 s3 s4 s5 s6 s7 s8 s9 s10 s11 s12 s13 s14 s15 s16 s17 s18 s19 s20 s21 : ByteArray) (w : World) : bsR Try.prog 96 22 #[(0, .string s0), (1, .string s1), (2, .string s2), (3, .string s3), (4, .string s4), (5, .string s5), (6, .string s6), (7, .string s7), (8, .string s8), (9, .string s9), (10, .string s10), (11, .string s11), (12, .string s12), (13, .string s13), (14, .string s14), (15, .string s15), (16, .string s16), (17, .string s17), (18, .string s18), (19, .string s19), (20, .string s20), (21, .string s21)] w = .ok (.slice (some ⟨w.heap.size, 0, none⟩) 22 22) (w.alloc (.cells #[.string s0, .string s1, .string s2, .string s3, .string s4, .string s5, .string s6, .string s7, .string s8, .string s9, .string s10, .string s11, .string s12, .string s13, .string s14, .string s15, .string s16, .string s17, .string s18, .string s19, .string s20, .string s21] 9)) := by kernel_rfl
theorem ba_size (l : List Nat) : (ba l).size = l.length := by simp [ba, ByteArray.size]
attribute [push_cast] bs22 ba_size
def chr (p : Nat) : Nat := if p = 0 then 65 else if p = 1 then 66 else if p = 2 then 67 else if p = 3 then 110 else if p = 4 then 78 else 98
theorem chr_vals : ((chr 0 : Nat) : Int) = 65 ∧ ((chr 1 : Nat) : Int) = 66 ∧ ((chr 2 : Nat) : Int) = 67 ∧ ((chr 3 : Nat) : Int) = 110 ∧ ((chr 4 : Nat) : Int) = 78 ∧ ((chr 5 : Nat) : Int) = 98 := ⟨rfl, rfl, rfl, rfl, rfl, rfl⟩
def formL (op : Int) : List Nat := match partsL op with
  | some l => l.map chr
  | none => [63]
theorem form_calls (op : Int) (w : World) : CallsR Try.prog 75 #[.int .i64 op] w fun r w' => r = .string (ba (formL op)) ∧ Ext w w' := by
  by_cases hin : 1 ≤ op ∧ op ≤ 21
  case neg =>
    have hf : formL op = [63] := by rw [formL, (pl_out hin).2]
    rw [hf]
    by_cases h1 : op < 1
    · refine en1 Try.func75 Try.results75 mixed [] ?_
      intro e0 h0
      refine w_ fun d => ?_
      exact ⟨rfl, ext_⟩
    · have h2 : 21 < op := by omega
      refine en1 Try.func75 Try.results75 mixed [] ?_
      intro e0 h0
      refine w_ fun d => ?_
      exact ⟨rfl, ext_⟩
  rcases op_cases hin with rfl | rfl | rfl | rfl | rfl | rfl | rfl | rfl | rfl | rfl | rfl | rfl | rfl | rfl | rfl | rfl | rfl | rfl | rfl | rfl | rfl
  all_goals
    refine en1 Try.func75 Try.results75 mixed [] ?_
    intro e0 h0
    refine w_ fun d => ?_
    exact ⟨rfl, ext_⟩
theorem refMost_calls (op : Int) (hin : 1 ≤ op ∧ op ≤ 21) (w : World) : CallsR Try.prog 76 #[.int .i64 op] w fun r w' => r = .int .i64 (mostV op) ∧ Ext w w' := by
  rcases op_cases hin with rfl | rfl | rfl | rfl | rfl | rfl | rfl | rfl | rfl | rfl | rfl | rfl | rfl | rfl | rfl | rfl | rfl | rfl | rfl | rfl | rfl
  all_goals
    refine en1 Try.func76 Try.results76 mixed [] ?_
    intro e0 h0
    refine w_ fun d => ?_
    exact ⟨rfl, ext_⟩
theorem refWide_calls (p : Nat) (hp : p ≤ 5) (w : World) : CallsR Try.prog 82 #[.int .u8 (chr p : Nat)] w fun r w' => r = .int .i64 (wideV p : Nat) ∧ Ext w w' := by
  obtain ⟨k0, k1, k2, k3, k4, k5⟩ := chr_vals
  rcases (by omega : p = 0 ∨ p = 1 ∨ p = 2 ∨ p = 3 ∨ p = 4 ∨ p = 5) with rfl | rfl | rfl | rfl | rfl | rfl
  all_goals
    refine en1 Try.func82 Try.results82 mixed [] ?_
    intro e0 h0
    refine w_ fun d => ?_
    exact ⟨rfl, ext_⟩
theorem ixS {l : List Nat} {k x : Nat} (hx : l[k]? = some x) (h8 : x < 256) (w : World) : iR Try.prog 9 (.string (ba l)) (.int .i64 (k : Int)) w = .ok (.int .u8 (x : Int)) w := by
  have : (ba l)[k]? = some (UInt8.ofNat x) := by
    show (ba l).data[k]? = _
    simp [ba, hx]
  rw [iR_string T9 this]
  simp [UInt8.toNat_ofNat', Nat.mod_eq_of_lt h8]
theorem has_calls (l : List Nat) (hb : ∀ x ∈ l, x < 256) (hl : l.length ≤ 10) (c : Nat) (w : World) : CallsR Try.prog 77 #[.string (ba l), .int .u8 c] w fun r w' => r = .bool (decide (c ∈ l)) ∧ Ext w w' := by
  refine en2 Try.func77 Try.results77 mixed [] ?_
  intro e0 h0 h1
  refine w_ fun d => ?_
  refine lo_ (fun W e w' => ∃ k : Nat, k ≤ l.length ∧ e 5 = .int .i64 k ∧ Box (c ∉ l.take k) ∧ Ext W w') (fun e _ => 10 - nat (e 5)) ?_ ?_
  · exact ⟨0, by omega, eA rfl, ⟨by simp⟩, ext_⟩
  rintro e w1 hf ⟨k, hk, h5, hn, hE⟩
  by_cases hlt : k < l.length
  · obtain ⟨x, hx⟩ : ∃ x, l[k]? = some x := ⟨l[k], List.getElem?_eq_getElem hlt⟩
    have hix := ixS hx (hb x (List.mem_of_getElem? hx))
    by_cases hxc : x = c
    · have hm : decide (c ∈ l) = true := by rw [← hxc]; simp [List.mem_of_getElem? hx]
      subst hxc
      clear hx
      refine w_ fun d => ?_
      exact ⟨by rw [hm], ext_⟩
    · have hn' : c ∉ l.take (k + 1) := by
        rw [List.take_add_one, hx]
        simp only [Option.toList_some, List.mem_append, List.mem_singleton, not_or]
        exact ⟨hn.out, fun h => hxc h.symm⟩
      clear hx
      refine w_ fun d => ?_
      exact ⟨⟨k + 1, by omega, eA (by push_cast; rfl), ⟨hn'⟩, ext_⟩, mA⟩
  · obtain rfl : k = l.length := by omega
    have hm : decide (c ∈ l) = false := by have := hn.out; rw [List.take_length] at this; simp [this]
    refine w_ fun d => ?_
    exact ⟨by rw [hm], ext_⟩
end Go.Proofs.Ytghcmogbmaedfaa
