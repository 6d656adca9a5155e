/- Strings of bytes in memory, by their block. No program is in sight. -/
import Derived.Test.YtghcmogbmaedfaaBxStr
import Derived.Test.YtghcmogbmaedfaaBxRel
namespace Go.Bx
open Go
set_option linter.unusedSimpArgs false
set_option linter.unusedVariables false
/-- In a block's cells stand bytes. -/
structure BytesAt (c : Array Value) (o n : Nat) (bs : List Nat) : Prop where
  len : n = bs.length
  at_ : ∀ (i x : Nat), bs[i]? = some x → c[o + i]? = some (Value.int .u8 x)
def cvO (P : Program) (t s : TypeId) (b o n cp : Nat) (w : World) (ob : Option Obj) (_ : w.heap[b]? = ob) : Result Value := cvR P t s (.slice (some ⟨b, o, none⟩) n cp) w
section
variable {P : Program} {w : World} {t s E : Nat} {sz by_ s2 b2 s3 b3 : Nat} {z z2 z3 : Value} {b o n cp : Nat} {c : Array Value} {T : TypeId} {fz : Nat × Nat} {bs : List Nat} {a : Option Addr}
theorem cvR_slice : cvR P t s (.slice (some ⟨b, o, none⟩) n cp) w = cvO P t s b o n cp w (w.heap[b]?) rfl := rfl
theorem BytesAt.inp (h : BytesAt c o n bs) (hb : w.heap[b]? = some (.cells c T fz)) : Inp w 1 (some ⟨b, o, none⟩) (bs.map byteRow) := by
  refine .inr ⟨b, o, c, T, fz, rfl, hb, fun i x hx j u hj => ?_⟩
  rw [List.getElem?_map] at hx
  obtain ⟨y, hy, rfl⟩ := Option.map_eq_some_iff.1 hx
  cases j with
  | zero => cases hj; rw [Nat.mul_one, Nat.add_zero]; exact h.at_ i y hy
  | succ j => simp [byteRow] at hj
theorem cvO_bytes (h1 : TI P t (.slice E) sz by_ z) (h2 : TI P s .string s2 b2 z2) (h3 : TI P E (.int .u8) s3 b3 z3) (hb : w.heap[b]? = some (.cells c T fz)) (h : BytesAt c o n bs) : cvO P t s b o n cp w (some (.cells c T fz)) hb = .ok (.string (ba bs)) w := by
  have := cvR_bytes (c := cp) h1 h2 h3 (h.inp hb)
  rw [← h.len] at this
  exact this
theorem cvR_none (h1 : TI P t (.slice E) sz by_ z) (h2 : TI P s .string s2 b2 z2) (h3 : TI P E (.int .u8) s3 b3 z3) : cvR P t s (.slice none 0 0) w = .ok (.string (ba [])) w := cvR_bytes (c := 0) (bs := []) h1 h2 h3 (.inl rfl)
end
attribute [push_cast] cvR_slice
end Go.Bx
