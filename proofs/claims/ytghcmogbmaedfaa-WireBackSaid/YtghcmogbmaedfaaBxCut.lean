/- A cut behind three parts of the code. No program is in sight. -/
import Derived.Test.YtghcmogbmaedfaaBxSl
namespace Go.Bx
open Go
set_option linter.unusedSimpArgs false
set_option linter.unusedVariables false
section
variable {P : Program} {Q : Exit → Env → World → Prop} {e : Env} {w : World} {a b c k : GCode} {D : List Nat}
/-- A cut behind three parts of the code. -/
theorem cu3_ (M : World → Env → World → Prop) (h : X P (.seq a (.seq b (.seq c .skip))) (thenX (M w) Q) e w) (h2 : ∀ e' w', (∀ i, D.contains i = false → e' i = e i) → M w e' w' → X P k Q e' w')
    (hD : dG (.seq a (.seq b (.seq c .skip))) = D := by (simp only [dG, List.filterMap_cons, List.filterMap_nil, List.cons_append, List.nil_append, List.append_nil] <;> rfl)) : X P (.seq a (.seq b (.seq c k))) Q e w := by
  have hf := X_frame (P := P) (D := D) (.seq a (.seq b (.seq c .skip))) (fun x hx => by rw [hD] at hx; exact hx) h
  have h3 := X_mono (.seq a (.seq b (.seq c .skip))) (Q' := thenX (X P k Q) Q) (fun ex e' w' hq => by
    cases ex with
    | normal => exact h2 e' w' hq.2 hq.1
    | _ => exact hq.1) hf
  have e1 : X P (.seq a (.seq b (.seq c .skip))) (thenX (X P k Q) Q) e w = X P (.seq a (.seq b (.seq c k))) Q e w := by
    have es : ∀ e w, X P .skip (thenX (X P k Q) Q) e w = X P k Q e w := fun e w => rfl
    have es' : X P .skip (thenX (X P k Q) Q) = X P k Q := funext fun e => funext fun w => es e w
    unfold X
    rw [then_then]
    congr 1
    congr 1
    funext e w
    unfold X
    rw [then_then]
    congr 1
    congr 1
    funext e w
    unfold X
    rw [then_then, es']
  rw [← e1]; exact h3
theorem seq_skip_k {a : GCode} {K : Env → World → Prop} {B B' : GCode} (h : X P B (thenX K Q) = X P B' Q) : X P (.seq a B) (thenX K Q) = X P (.seq a B') Q := by
  funext e w
  show X P a (thenX (X P B (thenX K Q)) (thenX K Q)) e w = X P a (thenX (X P B' Q) Q) e w
  rw [then_then, h]
variable {a1 a2 a3 a4 a5 a6 a7 : GCode}
/-- A cut behind seven parts of the code. -/
theorem cu7_ (M : World → Env → World → Prop) (h : X P (.seq a1 (.seq a2 (.seq a3 (.seq a4 (.seq a5 (.seq a6 (.seq a7 .skip))))))) (thenX (M w) Q) e w) (h2 : ∀ e' w', (∀ i, D.contains i = false → e' i = e i) → M w e' w' → X P k Q e' w')
    (hD : dG (.seq a1 (.seq a2 (.seq a3 (.seq a4 (.seq a5 (.seq a6 (.seq a7 .skip))))))) = D := by (simp only [dG, List.filterMap_cons, List.filterMap_nil, List.cons_append, List.nil_append, List.append_nil] <;> rfl)) : X P (.seq a1 (.seq a2 (.seq a3 (.seq a4 (.seq a5 (.seq a6 (.seq a7 k))))))) Q e w := by
  have hf := X_frame (P := P) (D := D) _ (fun x hx => by rw [hD] at hx; exact hx) h
  have h3 := X_mono _ (Q' := thenX (X P k Q) Q) (fun ex e' w' hq => by
    cases ex with
    | normal => exact h2 e' w' hq.2 hq.1
    | _ => exact hq.1) hf
  have e0 : X P .skip (thenX (X P k Q) Q) = X P k Q := rfl
  rw [seq_skip_k (seq_skip_k (seq_skip_k (seq_skip_k (seq_skip_k (seq_skip_k (seq_skip_k e0))))))] at h3
  exact h3
end
end Go.Bx
