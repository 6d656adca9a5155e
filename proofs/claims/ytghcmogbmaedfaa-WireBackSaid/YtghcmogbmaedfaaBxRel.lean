/- Rows with operations that yield some value with a property that lasts: guards, readings. No program is in sight. -/
import Derived.Test.YtghcmogbmaedfaaBxSl
namespace Go.Bx
open Go
set_option linter.unusedSimpArgs false
set_option linter.unusedVariables false
section
variable {P : Program} {F : Nat → Value → World → Prop} {K : Env → World → Prop} {C D : World → Prop} {d : Option Tmp} {op : Op} {ty : TypeId} {e : Env} {w w1 : World} {l : List (GOp × Nat)} {v : Value} {t : Tmp} {b : Bool} {k n : Nat}
theorem xr_gt {g : Tmp × Bool} (hg : e g.1 = .bool g.2) (h : XR P F K ((⟨d, op, ty, none⟩, k) :: l) C D e) : XR P F K ((⟨d, op, ty, some g⟩, k) :: l) C D e := by
  obtain ⟨t, b⟩ := g
  have hw : wantG e (some (t, b)) := hg
  match k, h with
  | 0, h => exact .inl ⟨hw, (h.resolve_right fun hh => by obtain ⟨⟨_, _, h0, _⟩, _⟩ := hh; cases h0).2⟩
  | 1, h => exact .inl ⟨hw, (h.resolve_right fun hh => by obtain ⟨⟨_, _, h0, _⟩, _⟩ := hh; cases h0).2⟩
  | 2, h => exact .inl ⟨hw, (h.resolve_right fun hh => by obtain ⟨⟨_, _, h0, _⟩, _⟩ := hh; cases h0).2⟩
  | 3, h => exact .inl ⟨hw, (h.resolve_right fun hh => by obtain ⟨⟨_, _, h0, _⟩, _⟩ := hh; cases h0).2⟩
  | 4, h => exact .inl ⟨hw, (h.resolve_right fun hh => by obtain ⟨⟨_, _, h0, _⟩, _⟩ := hh; cases h0).2⟩
  | _ + 5, h => exact .inl ⟨hw, (h.resolve_right fun hh => by obtain ⟨⟨_, _, h0, _⟩, _⟩ := hh; cases h0).2⟩
theorem xr_gf {g : Tmp × Bool} (hg : e g.1 ≠ .bool g.2) (h : XR P F K l C D (e.put d undef)) : XR P F K ((⟨d, op, ty, some g⟩, k) :: l) C D e := by
  obtain ⟨t, b⟩ := g
  have hw : badG e (some (t, b)) := ⟨t, b, rfl, hg⟩
  match k with
  | 0 => exact .inr ⟨hw, h⟩
  | 1 => exact .inr ⟨hw, h⟩
  | 2 => exact .inr ⟨hw, h⟩
  | 3 => exact .inr ⟨hw, h⟩
  | 4 => exact .inr ⟨hw, h⟩
  | _ + 5 => exact .inr ⟨hw, h⟩
theorem grt (h : XR P F K ((⟨d, op, ty, none⟩, k) :: l) C D e) (hg : e t = .bool b := by (simp (disch := first | assumption | ((try simp only [upd_size, alloc_size, dr_heap, List.size_toArray, List.length_cons, List.length_nil, Nat.reduceAdd]) <;> omega) | (with_unfolding_all (refine Eq.trans rfl ?_; exact rfl)) | fail) only [push_cast, *, Nat.reduceEqDiff, ↓reduceIte] <;> fail)) : XR P F K ((⟨d, op, ty, some (t, b)⟩, k) :: l) C D e := xr_gt hg h
theorem grf (h : XR P F K l C D (e.put d undef)) (hg : e t = .bool (!b) := by (simp (disch := first | assumption | ((try simp only [upd_size, alloc_size, dr_heap, List.size_toArray, List.length_cons, List.length_nil, Nat.reduceAdd]) <;> omega) | (with_unfolding_all (refine Eq.trans rfl ?_; exact rfl)) | fail) only [push_cast, *, Nat.reduceEqDiff, ↓reduceIte] <;> fail)) : XR P F K ((⟨d, op, ty, some (t, b)⟩, k) :: l) C D e := xr_gf (by rw [hg]; cases b <;> simp) h
theorem gru (h : XR P F K l C D (e.put d undef)) (hg : e t = undef := by (simp (disch := first | assumption | ((try simp only [upd_size, alloc_size, dr_heap, List.size_toArray, List.length_cons, List.length_nil, Nat.reduceAdd]) <;> omega) | (with_unfolding_all (refine Eq.trans rfl ?_; exact rfl)) | fail) only [push_cast, *, Nat.reduceEqDiff, ↓reduceIte] <;> fail)) : XR P F K ((⟨d, op, ty, some (t, b)⟩, k) :: l) C D e := xr_gf (by rw [hg]; cases b <;> simp [undef]) h
/-- A reading, whatever the class. -/
theorem xr1 (h : ∀ u, C u → rG P op ty e u = .ok (.value v) u) (hk : XR P F K l C D (e.put d v)) : XR P F K ((⟨d, op, ty, none⟩, 1) :: l) C D e :=
  .inl ⟨trivial, v, fun w' hw => by rw [QV_rG, h w' hw]; exact ⟨rfl, rfl⟩, hk⟩
/-- Within such a row: readings and quiet calls, guards. -/
theorem dg_ {A B : Prop} (q : A) (h : Box A → B := by (intro q; (repeat (first | refine xr0A ?_ | refine xr4A ?_ | refine xr4qA ?_ | refine grt ?_ | refine grf ?_ | refine gru ?_)); exact q.out)) : B := h ⟨q⟩
end
end Go.Bx
