/- The walk by itself: code in right-nested form, frames of slots, and steps that find what they need. No program is in sight. -/
import Derived.Test.YtghcmogbmaedfaaBxOps
import Derived.Test.YtghcmogbmaedfaaBxList
import Derived.Test.YtghcmogbmaedfaaBxMap
import Derived.Test.YtghcmogbmaedfaaBxIter
import Derived.Test.YtghcmogbmaedfaaBxEq
namespace Go.Bx
open Go
set_option linter.unusedSimpArgs false
set_option linter.unusedVariables false

structure Box (A : Prop) : Prop where out : A

/-! ### Code, right-nested -/
def cs (bs : Bigs) : Code → GCode → GCode
  | .skip, k => k
  | .region _ ops false, k => .seq (.reg (ops.toList.map (gop ops))) k
  | .region id ops true, k => .seq (drawOf2 bs id ops (bs.lookup (id + 2000))) k
  | .seq a b, k => cs bs a (cs bs b k)
  | .cond c a b, k => .seq (.cond c (cs bs a .skip) (cs bs b .skip)) k
  | .block id c, k => .seq (.block id (cs bs c .skip)) k
  | .loop c, k => .seq (.loop (cs bs c .skip)) k
  | .exit id, _ => .exit id
  | .ret, _ => .ret
  | _, _ => .bad

section
variable {P : Program}
theorem then_then {K K' : Env → World → Prop} {Q : Exit → Env → World → Prop} : thenX K (thenX K' Q) = thenX K Q := by
  funext ex e w; cases ex <;> rfl
theorem then_self {Q : Exit → Env → World → Prop} : thenX (Q .normal) Q = Q := by
  funext ex e w; cases ex <;> rfl
theorem X_cs {bs : Bigs} : ∀ (c : Code) {k : GCode} {Q : Exit → Env → World → Prop} {e : Env} {w : World}, X P (cs bs c k) Q e w → X P (comp bs c) (thenX (X P k Q) Q) e w
  | .skip, _, _, _, _, h => h
  | .region _ _ false, _, _, _, _, h => h
  | .region _ _ true, _, _, _, _, h => h
  | .seq a b, k, Q, e, w, h => by
    have h1 := X_cs a h
    show X P (comp bs a) (thenX (X P (comp bs b) (thenX (X P k Q) Q)) (thenX (X P k Q) Q)) e w
    rw [then_then]
    exact X_mono _ (thenX_mono (fun e w h => X_cs b h) fun _ _ _ h => h) h1
  | .cond c a b, k, Q, e, w, h => by
    obtain ⟨t, ht, h⟩ := h
    refine ⟨t, ht, ?_⟩
    cases t
    · have := X_cs b h; rwa [show X P GCode.skip (thenX (X P k Q) Q) = thenX (X P k Q) Q .normal from rfl, then_self] at this
    · have := X_cs a h; rwa [show X P GCode.skip (thenX (X P k Q) Q) = thenX (X P k Q) Q .normal from rfl, then_self] at this
  | .block id c, k, Q, e, w, h => by
    have h' : X P (cs bs c .skip) (inX id (thenX (X P k Q) Q)) e w := h
    have := X_cs c h'
    rwa [show X P GCode.skip (inX id (thenX (X P k Q) Q)) = inX id (thenX (X P k Q) Q) .normal from rfl, then_self] at this
  | .loop c, k, Q, e, w, h => by
    obtain ⟨I, m, h1, h2⟩ := h
    refine ⟨I, m, h1, fun e w hI => ?_⟩
    have := X_cs c (h2 e w hI)
    rwa [show X P GCode.skip (thenX (fun e' w' => I e' w' ∧ m e' w' < m e w) (thenX (X P k Q) Q)) = thenX (fun e' w' => I e' w' ∧ m e' w' < m e w) (thenX (X P k Q) Q) .normal from rfl, then_self] at this
  | .exit _, _, _, _, _, h => h
  | .ret, _, _, _, _, h => h
  | .rangeFunc .., _, _, _, _, h => h.elim
  | .scope .., _, _, _, _, h => h.elim
  | .label .., _, _, _, _, h => h.elim
  | .goto .., _, _, _, _, h => h.elim
  | .refuse .., _, _, _, _, h => h.elim
theorem X_comp {bs : Bigs} {c : Code} {Q : Exit → Env → World → Prop} {e : Env} {w : World} (h : X P (cs bs c .skip) Q e w) : X P (comp bs c) Q e w := by
  have := X_cs c h
  rwa [show X P GCode.skip Q = Q .normal from rfl, then_self] at this
end

/-! ### Slots that a code does not write -/
def dG : GCode → List Nat
  | .reg l => l.filterMap (·.dst)
  | .draw l => l.filterMap (·.1.dst)
  | .wide l => l.filterMap (·.1.dst)
  | .rel l => l.filterMap (·.1.dst)
  | .seq a b => dG a ++ dG b
  | .cond _ a b => dG a ++ dG b
  | .block _ c => dG c
  | .loop c => dG c
  | _ => []
def Off (D : List Nat) (e e' : Env) : Prop := ∀ i, D.contains i = false → e' i = e i
section
variable {P : Program} {D : List Nat}
theorem Off.refl (e : Env) : Off D e e := fun _ _ => rfl
theorem Off.trans {a b c : Env} (h : Off D a b) (k : Off D b c) : Off D a c := fun i hi => (k i hi).trans (h i hi)
theorem Off.put {e : Env} {d : Option Tmp} {v : Value} (h : ∀ x, d = some x → x ∈ D) : Off D e (e.put d v) := by
  intro i hi
  cases d with
  | none => rfl
  | some x =>
    have hx := h x rfl
    show (if i = x then v else e i) = e i
    rw [if_neg]
    rintro rfl
    rw [List.contains_iff_mem.2 hx] at hi; cases hi
theorem XO_frame {K : Env → World → Prop} : ∀ (l : List GOp) (e0 e : Env) (w : World), (∀ x ∈ l.filterMap (·.dst), x ∈ D) → Off D e0 e → XO P l K e w → XO P l (fun e' w' => K e' w' ∧ Off D e0 e') e w
  | [], _, _, _, _, ho, h => ⟨h, ho⟩
  | o :: r, e0, e, w, hd, ho, h => by
    have h1 : ∀ x, o.dst = some x → x ∈ D := fun x hx => hd x (by simp [hx])
    have h2 : ∀ x ∈ r.filterMap (·.dst), x ∈ D := fun x hx => hd x (by rw [List.filterMap_cons]; cases o.dst <;> simp [hx])
    exact h.imp (fun ⟨a, b⟩ => ⟨a, XV_mono (fun v w' k => XO_frame r e0 _ _ h2 (ho.trans (Off.put h1)) k) b⟩) (fun ⟨a, b⟩ => ⟨a, XO_frame r e0 _ _ h2 (ho.trans (Off.put h1)) b⟩)
theorem XE_frame {K : Env → World → Prop} : ∀ (l : List (GOp × Nat)) (C : World → Prop) (e0 e : Env), (∀ x ∈ l.filterMap (·.1.dst), x ∈ D) → Off D e0 e → XE P K l C e → XE P (fun e' w' => K e' w' ∧ Off D e0 e') l C e
  | [], _, _, _, _, ho, h => fun w hw => ⟨h w hw, ho⟩
  | (o, n) :: r, C, e0, e, hd, ho, h => by
    have h1 : ∀ x, o.dst = some x → x ∈ D := fun x hx => hd x (by simp [hx])
    have h2 : ∀ x ∈ r.filterMap (·.1.dst), x ∈ D := fun x hx => hd x (by rw [List.filterMap_cons]; cases o.dst <;> simp [hx])
    have k : ∀ C v, XE P K r C (e.put o.dst v) → XE P (fun e' w' => K e' w' ∧ Off D e0 e') r C (e.put o.dst v) := fun C v hh => XE_frame r C e0 _ h2 (ho.trans (Off.put h1)) hh
    match n with
    | 0 => exact h.imp (fun ⟨a, v, b, c⟩ => ⟨a, v, b, k _ _ c⟩) (fun ⟨a, c⟩ => ⟨a, k _ _ c⟩)
    | 1 => exact h.imp (fun ⟨a, v, b, c⟩ => ⟨a, v, b, k _ _ c⟩) (fun ⟨a, c⟩ => ⟨a, k _ _ c⟩)
    | _ + 2 => exact h.imp (fun ⟨a, b⟩ => ⟨a, fun w hw => XV_mono (fun _ _ ⟨C', hC', c⟩ => ⟨C', hC', k _ _ c⟩) (b w hw)⟩) (fun ⟨a, c⟩ => ⟨a, k _ _ c⟩)
theorem XF_frame {K : Env → World → Prop} : ∀ (l : List (GOp × Nat)) (C E : World → Prop) (e0 e : Env), (∀ x ∈ l.filterMap (·.1.dst), x ∈ D) → Off D e0 e → XF P K l C E e → XF P (fun e' w' => K e' w' ∧ Off D e0 e') l C E e
  | [], _, _, _, _, _, ho, h => fun w hw => ⟨h w hw, ho⟩
  | (o, n) :: r, C, E, e0, e, hd, ho, h => by
    have h1 : ∀ x, o.dst = some x → x ∈ D := fun x hx => hd x (by simp [hx])
    have h2 : ∀ x ∈ r.filterMap (·.1.dst), x ∈ D := fun x hx => hd x (by rw [List.filterMap_cons]; cases o.dst <;> simp [hx])
    have k : ∀ C E v, XF P K r C E (e.put o.dst v) → XF P (fun e' w' => K e' w' ∧ Off D e0 e') r C E (e.put o.dst v) := fun C E v hh => XF_frame r C E e0 _ h2 (ho.trans (Off.put h1)) hh
    match n with
    | 0 => exact h.imp (fun ⟨a, v, b, c⟩ => ⟨a, v, b, k _ _ _ c⟩) (fun ⟨a, c⟩ => ⟨a, k _ _ _ c⟩)
    | 1 => exact h.imp (fun ⟨a, v, b, c⟩ => ⟨a, v, b, k _ _ _ c⟩) (fun ⟨a, c⟩ => ⟨a, k _ _ _ c⟩)
    | 2 => exact h.imp (fun ⟨a, b⟩ => ⟨a, fun w hw => XV_mono (fun _ _ ⟨C', k1, k2, k4, c⟩ => ⟨C', k1, k2, k4, k _ _ _ c⟩) (b w hw)⟩) (fun ⟨a, c⟩ => ⟨a, k _ _ _ c⟩)
    | 3 => exact h.imp (fun ⟨a, b⟩ => ⟨a, fun w hw => XV_mono (fun _ _ ⟨C', D', k1, k2, k4, c⟩ => ⟨C', D', k1, k2, k4, k _ _ _ c⟩) (b w hw)⟩) (fun ⟨a, c⟩ => ⟨a, k _ _ _ c⟩)
    | _ + 4 => exact h.imp (fun ⟨a, v, b, c⟩ => ⟨a, v, b, k _ _ _ c⟩) (fun ⟨a, c⟩ => ⟨a, k _ _ _ c⟩)
theorem XR_frame {F : Nat → Value → World → Prop} {K : Env → World → Prop} : ∀ (l : List (GOp × Nat)) (C E : World → Prop) (e0 e : Env), (∀ x ∈ l.filterMap (·.1.dst), x ∈ D) → Off D e0 e → XR P F K l C E e → XR P F (fun e' w' => K e' w' ∧ Off D e0 e') l C E e
  | [], _, _, _, _, _, ho, h => fun w hw => ⟨h w hw, ho⟩
  | (o, n) :: r, C, E, e0, e, hd, ho, h => by
    have h1 : ∀ x, o.dst = some x → x ∈ D := fun x hx => hd x (by simp [hx])
    have h2 : ∀ x ∈ r.filterMap (·.1.dst), x ∈ D := fun x hx => hd x (by rw [List.filterMap_cons]; cases o.dst <;> simp [hx])
    have k : ∀ C E v, XR P F K r C E (e.put o.dst v) → XR P F (fun e' w' => K e' w' ∧ Off D e0 e') r C E (e.put o.dst v) := fun C E v hh => XR_frame r C E e0 _ h2 (ho.trans (Off.put h1)) hh
    match n with
    | 0 => exact h.imp (fun ⟨a, v, b, c⟩ => ⟨a, v, b, k _ _ _ c⟩) (fun ⟨a, c⟩ => ⟨a, k _ _ _ c⟩)
    | 1 => exact h.imp (fun ⟨a, v, b, c⟩ => ⟨a, v, b, k _ _ _ c⟩) (fun ⟨a, c⟩ => ⟨a, k _ _ _ c⟩)
    | 2 => exact h.imp (fun ⟨a, b⟩ => ⟨a, fun w hw => XV_mono (fun _ _ ⟨C', k1, k2, k4, k5, c⟩ => ⟨C', k1, k2, k4, k5, k _ _ _ c⟩) (b w hw)⟩) (fun ⟨a, c⟩ => ⟨a, k _ _ _ c⟩)
    | 3 => exact h.imp (fun ⟨a, b⟩ => ⟨a, fun w hw => XV_mono (fun _ _ ⟨C', D', k1, k2, k4, c⟩ => ⟨C', D', k1, k2, k4, k _ _ _ c⟩) (b w hw)⟩) (fun ⟨a, c⟩ => ⟨a, k _ _ _ c⟩)
    | 4 => exact h.imp (fun ⟨a, v, b, c⟩ => ⟨a, v, b, k _ _ _ c⟩) (fun ⟨a, c⟩ => ⟨a, k _ _ _ c⟩)
    | _ + 5 => exact h.imp (fun ⟨a, b, c⟩ => ⟨a, b, fun v hv => k _ _ _ (c v hv)⟩) (fun ⟨a, c⟩ => ⟨a, k _ _ _ c⟩)
theorem X_frame : ∀ (c : GCode) {Q : Exit → Env → World → Prop} {e : Env} {w : World}, (∀ x ∈ dG c, x ∈ D) → X P c Q e w → X P c (fun ex e' w' => Q ex e' w' ∧ Off D e e') e w
  | .skip, _, e, _, _, h => ⟨h, Off.refl e⟩
  | .reg l, _, e, w, hd, h => XO_frame l e e w hd (Off.refl e) h
  | .draw l, _, e, _, hd, ⟨C, h2, h3⟩ => ⟨C, h2, XE_frame l C e e hd (Off.refl e) h3⟩
  | .wide l, _, e, _, hd, ⟨C, E, h2, h3, h4, h5⟩ => ⟨C, E, h2, h3, h4, XF_frame l C E e e hd (Off.refl e) h5⟩
  | .rel l, _, e, _, hd, ⟨F, C, E, h1, h2, h3, h4, h5⟩ => ⟨F, C, E, h1, h2, h3, h4, XR_frame l C E e e hd (Off.refl e) h5⟩
  | .seq a b, Q, e, w, hd, h => by
    have h1 := X_frame a (fun x hx => hd x (by simp [dG, hx])) h
    refine X_mono a (fun ex e' w' hq => ?_) h1
    cases ex with
    | normal => exact X_mono b (fun ex e2 w2 ⟨h3, h4⟩ => ⟨h3, hq.2.trans h4⟩) (X_frame b (fun x hx => hd x (by simp [dG, hx])) hq.1)
    | _ => exact hq
  | .cond c a b, Q, e, w, hd, ⟨t, ht, h⟩ => by
    refine ⟨t, ht, ?_⟩
    cases t
    · exact X_frame b (fun x hx => hd x (by simp [dG, hx])) h
    · exact X_frame a (fun x hx => hd x (by simp [dG, hx])) h
  | .block id c, Q, e, w, hd, h => by
    refine X_mono c (fun ex e' w' hq => ?_) (X_frame c hd h)
    cases ex with
    | exit i =>
      simp only [inX] at hq ⊢
      split
      · rename_i hi; rw [if_pos hi] at hq; exact hq
      · rename_i hi; rw [if_neg hi] at hq; exact hq
    | _ => exact hq
  | .loop c, Q, e, w, hd, ⟨I, m, h1, h2⟩ => by
    refine ⟨fun e' w' => I e' w' ∧ Off D e e', m, ⟨h1, Off.refl e⟩, fun e' w' ⟨hI, ho⟩ => ?_⟩
    refine X_mono c (fun ex e2 w2 hq => ?_) (X_frame c hd (h2 e' w' hI))
    cases ex with
    | normal => exact ⟨⟨hq.1.1, ho.trans hq.2⟩, hq.1.2⟩
    | _ => exact ⟨hq.1, ho.trans hq.2⟩
  | .exit _, _, e, _, _, h => ⟨h, Off.refl e⟩
  | .ret, _, e, _, _, h => ⟨h, Off.refl e⟩
  | .bad, _, _, _, _, h => h.elim
theorem mem_of_dG {c : GCode} (hD : dG c = D) : ∀ x ∈ dG c, x ∈ D := fun _ h => hD ▸ h
end

/-! ### Rules -/
section
variable {P : Program} {Q : Exit → Env → World → Prop} {K : Env → World → Prop} {e : Env} {w : World} {a b c k : GCode} {x : Operand} {l : List GOp} {ld : List (GOp × Nat)} {i j : Nat} {D : List Nat}
theorem s_reg (h : XO P l (X P k Q) e w) : X P (.seq (.reg l) k) Q e w := h
theorem s_draw (h : XD P ld (X P k Q) e w) : X P (.seq (.draw ld) k) Q e w := h
theorem s_rel (h : XY P ld (X P k Q) e w) : X P (.seq (.rel ld) k) Q e w := h
theorem s_wide (h : XW P ld (X P k Q) e w) : X P (.seq (.wide ld) k) Q e w := h
theorem s_assoc (h : X P (.seq a (.seq b k)) Q e w) : X P (.seq (.seq a b) k) Q e w := by
  show X P a (thenX (X P b (thenX (X P k Q) Q)) (thenX (X P k Q) Q)) e w
  rw [then_then]; exact h
theorem s_skip (h : X P k Q e w) : X P (.seq .skip k) Q e w := h
theorem s_exit (h : Q (.exit i) e w) : X P (.seq (.exit i) k) Q e w := h
theorem s_ret (h : Q .ret e w) : X P (.seq .ret k) Q e w := h
theorem e_skip (h : Q .normal e w) : X P .skip Q e w := h
theorem e_exit (h : Q (.exit i) e w) : X P (.exit i) Q e w := h
theorem e_ret (h : Q .ret e w) : X P .ret Q e w := h
theorem s_block (h : X P c (inX i (thenX (X P k Q) Q)) e w) : X P (.seq (.block i c) k) Q e w := h
theorem s_t (hc : ev e x = .bool true) (h : X P (.seq a k) Q e w) : X P (.seq (.cond x a b) k) Q e w := ⟨true, hc, h⟩
theorem s_f (hc : ev e x = .bool false) (h : X P (.seq b k) Q e w) : X P (.seq (.cond x a b) k) Q e w := ⟨false, hc, h⟩
theorem q_n (h : K e w) : thenX K Q .normal e w := h
theorem q_r (h : Q .ret e w) : thenX K Q .ret e w := h
theorem q_e (h : Q (.exit i) e w) : thenX K Q (.exit i) e w := h
theorem q_in (h : Q .normal e w) : inX i Q .normal e w := h
theorem q_ir (h : Q .ret e w) : inX i Q .ret e w := h
theorem q_is (h : Q .normal e w) : inX i Q (.exit i) e w := by rw [inX_exit, if_pos rfl]; exact h
theorem q_id (hn : (j == i) = false) (h : Q (.exit j) e w) : inX i Q (.exit j) e w := by rw [inX_exit, if_neg (by simpa using hn)]; exact h

/-- A loop: what is so each time round, how much is left; slots that the loop does not write are as they were. -/
theorem loopF (I : Env → World → Prop) (m : Env → World → Nat) (h0 : I e w)
    (h : ∀ e' w', (∀ i, D.contains i = false → e' i = e i) → I e' w' → X P c (thenX (fun e2 w2 => I e2 w2 ∧ m e2 w2 < m e' w') Q) e' w') (hD : dG c = D) : X P (.loop c) Q e w := by
  refine ⟨fun e' w' => I e' w' ∧ Off D e e', m, ⟨h0, Off.refl e⟩, fun e' w' ⟨hI, ho⟩ => ?_⟩
  refine X_mono c (fun ex e2 w2 hq => ?_) (X_frame c (mem_of_dG hD) (h e' w' ho hI))
  cases ex with
  | normal => exact ⟨⟨hq.1.1, ho.trans hq.2⟩, hq.1.2⟩
  | _ => exact hq.1
theorem cutF (M : Env → World → Prop) (h : X P a (thenX M Q) e w) (h2 : ∀ e' w', (∀ i, D.contains i = false → e' i = e i) → M e' w' → X P k Q e' w') (hD : dG a = D) : X P (.seq a k) Q e w := by
  refine X_mono a (fun ex e' w' hq => ?_) (X_frame a (mem_of_dG hD) h)
  cases ex with
  | normal => exact h2 e' w' hq.2 hq.1
  | _ => exact hq.1
end

/-- A loop, unrolled: it ends within n rounds. -/
def Un (P : Program) (c : GCode) (Q : Exit → Env → World → Prop) : Nat → Env → World → Prop
  | 0 => fun _ _ => False
  | n + 1 => fun e w => X P c (thenX (Un P c Q n) Q) e w
theorem un_s {P : Program} {c : GCode} {Q : Exit → Env → World → Prop} {n : Nat} {e : Env} {w : World} (h : X P c (thenX (Un P c Q n) Q) e w) : Un P c Q (n + 1) e w := h
theorem least' {p : Nat → Prop} : ∀ (n : Nat), p n → ∃ m, p m ∧ ∀ j, p j → m ≤ j := by
  intro n
  induction n using Nat.strongRecOn with
  | _ n ih =>
    intro h
    by_cases hex : ∃ j, j < n ∧ p j
    · obtain ⟨j, hj, hp⟩ := hex
      exact ih j hj hp
    · exact ⟨n, h, fun j hj => Nat.le_of_not_lt fun hlt => hex ⟨j, hlt, hj⟩⟩
open Classical in
theorem un_loop {P : Program} {c : GCode} {Q : Exit → Env → World → Prop} (n : Nat) {e : Env} {w : World} (h : Un P c Q n e w) : X P (.loop c) Q e w := by
  have ex : ∀ e w, (∃ k, Un P c Q k e w) → ∃ m, Un P c Q m e w ∧ ∀ j, Un P c Q j e w → m ≤ j := fun e w ⟨k, hk⟩ => least' (p := fun k => Un P c Q k e w) k hk
  refine ⟨fun e w => ∃ k, Un P c Q k e w, fun e w => if h : ∃ k, Un P c Q k e w then (ex e w h).choose else 0, ⟨n, h⟩, fun e w hk => ?_⟩
  have hm := (ex e w hk).choose_spec
  simp only [dif_pos hk]
  generalize (ex e w hk).choose = m at hm ⊢
  obtain ⟨h1, h2⟩ := hm
  cases m with
  | zero => exact h1.elim
  | succ m =>
    refine X_mono c (fun x e' w' hq => ?_) h1
    cases x with
    | normal =>
      have hk' : ∃ k, Un P c Q k e' w' := ⟨m, hq⟩
      refine ⟨hk', ?_⟩
      simp only [dif_pos hk']
      have := (ex e' w' hk').choose_spec.2 m hq
      omega
    | _ => exact hq

section
variable {P : Program} {fs : Array ResultVar} {R : Value → World → Prop} {e : Env} {w : World} {t u s r : Nat} {v v2 v3 v4 : Value} {ex : Exit}
def isEnd : Exit → Bool
  | .normal => true
  | .ret => true
  | _ => false
theorem ret_of (hx : isEnd ex = true) (hv : (resM fs e).run P w = .ok v w) (h : R v w) : retX P fs R ex e w := by
  cases ex <;> first | exact ⟨v, hv, h⟩ | cases hx
theorem r0 (hx : isEnd ex = true) (h : R (.tuple #[]) w) : retX P #[] R ex e w := ret_of hx resM_0 h
theorem r1 (hx : isEnd ex = true) (h1 : e t = v) (h : R v w) : retX P #[.tmp t] R ex e w := ret_of hx (h1 ▸ resM_1) h
theorem r2 (hx : isEnd ex = true) (h1 : e t = v) (h2 : e u = v2) (h : R (.tuple #[v, v2]) w) : retX P #[.tmp t, .tmp u] R ex e w := ret_of hx (h1 ▸ h2 ▸ resM_2) h
theorem r3 (hx : isEnd ex = true) (h1 : e t = v) (h2 : e u = v2) (h3 : e s = v3) (h : R (.tuple #[v, v2, v3]) w) : retX P #[.tmp t, .tmp u, .tmp s] R ex e w := ret_of hx (h1 ▸ h2 ▸ h3 ▸ resM_3) h
theorem r4 (hx : isEnd ex = true) (h1 : e t = v) (h2 : e u = v2) (h3 : e s = v3) (h4 : e r = v4) (h : R (.tuple #[v, v2, v3, v4]) w) : retX P #[.tmp t, .tmp u, .tmp s, .tmp r] R ex e w := ret_of hx (h1 ▸ h2 ▸ h3 ▸ h4 ▸ resM_4) h
end

/-! ### A row in its order, over a class of worlds -/
def kd (l : List GOp) : List (GOp × Nat) := l.map fun o => (o, kindOf o.op)
theorem XO_of_XE {P : Program} {K : Env → World → Prop} : ∀ (l : List GOp) (C : World → Prop) (e : Env) (w : World), C w → XE P K (kd l) C e → XO P l K e w
  | [], C, e, w, hw, h => h w hw
  | o :: r, C, e, w, hw, h => by
    have ih : ∀ (C' : World → Prop) (e' : Env) (w' : World), C' w' → XE P K (kd r) C' e' → XO P r K e' w' := XO_of_XE r
    show (wantG e o.guard ∧ _) ∨ (badG e o.guard ∧ _)
    have h' : XE P K ((o, kindOf o.op) :: kd r) C e := h
    rcases hk : kindOf o.op with _ | _ | n
    · rw [hk] at h'
      rcases h' with ⟨hg, v, hv, hr⟩ | ⟨hb, hr⟩
      · refine .inl ⟨hg, ?_⟩
        unfold XV
        rw [hv w]
        exact ih _ _ _ hw hr
      · exact .inr ⟨hb, ih _ _ _ hw hr⟩
    · rw [hk] at h'
      rcases h' with ⟨hg, v, hv, hr⟩ | ⟨hb, hr⟩
      · refine .inl ⟨hg, ?_⟩
        have hq := hv w hw
        unfold QV at hq
        unfold XV
        generalize (execG (ev e) o.op o.ty).run P w = x at hq ⊢
        cases x with
        | ok n w' =>
          cases n <;> simp only [] at hq ⊢
          case value u => obtain ⟨rfl, rfl⟩ := hq; exact ih _ _ _ hw hr
          case enter f args => obtain ⟨rfl, hc⟩ := hq; exact hc.mono fun en w'' ⟨he, hC⟩ => ⟨v, he, ih _ _ _ hC hr⟩
        | halt y w' => exact hq
      · exact .inr ⟨hb, ih _ _ _ hw hr⟩
    · rw [hk] at h'
      rcases h' with ⟨hg, hv⟩ | ⟨hb, hr⟩
      · exact .inl ⟨hg, XV_mono (fun v w' ⟨C', hC', hr⟩ => ih _ _ _ hC' hr) (hv w hw)⟩
      · exact .inr ⟨hb, ih _ _ _ hw hr⟩
theorem s_regE {P : Program} {Q : Exit → Env → World → Prop} {e : Env} {w : World} {k : GCode} {l : List GOp} {l' : List (GOp × Nat)} (hl : kd l = l') (h : XE P (X P k Q) l' (Ext w) e) : X P (.seq (.reg l) k) Q e w := XO_of_XE l _ e w (Ext.refl w) (hl ▸ h)
theorem xo_E {P : Program} {K : Env → World → Prop} {e : Env} {w : World} {l : List GOp} {l' : List (GOp × Nat)} (hl : kd l = l') (h : XE P K l' (Ext w) e) : XO P l K e w := XO_of_XE l _ e w (Ext.refl w) (hl ▸ h)

/-! ### Worlds by their heaps -/
section
variable {P : Program} {w w' w1 : World} {b c i : Nat} {o : Obj} {F : Nat → Prop}
theorem upd_dr : upd (dr w i) b o = dr (upd w b o) i := rfl
theorem alloc_dr : (dr w i).alloc o = dr (w.alloc o) i := rfl
theorem dr_dr : dr (dr w i) b = dr w b := rfl
/-- A world's block (so that simp sees no mere exchange of names). -/
def hp (w : World) (b : Nat) : Option Obj := w.heap[b]?
theorem hp_eq : hp w b = w.heap[b]? := rfl
theorem Ext.rd (h : Ext w w') (hb : b < w.heap.size) : w'.heap[b]? = hp w b := h.heap b hb
theorem Chg.rd (h : Chg F w w') (hb : b < w.heap.size) (hF : ¬ F b) : w'.heap[b]? = hp w b := h.heap b hb hF
end

/-! ### Rows that draw, over worlds that are alike but for the draws -/
section
variable {P : Program} {K : Env → World → Prop} {d : Option Tmp} {op : Op} {ty : TypeId} {e : Env} {w w1 : World} {l : List (GOp × Nat)} {v : Value} {t : Tmp} {b : Bool}
theorem xd2v (h : ∀ i, rG P op ty e (dr w i) = .ok (.value v) (dr w1 i)) (hk : XE P K l (DR w1) (e.put d v)) : XE P K ((⟨d, op, ty, none⟩, 2) :: l) (DR w) e := by
  rw [XE_cons2]
  rintro w' ⟨i, rfl⟩
  rw [h i]
  exact ⟨DR w1, ⟨i, rfl⟩, hk⟩
theorem xd2s (h : ∀ i, rG P op ty e (dr w i) = .ok .skip (dr w1 i)) (hk : XE P K l (DR w1) (e.put d undef)) : XE P K ((⟨d, op, ty, none⟩, 2) :: l) (DR w) e := by
  rw [XE_cons2]
  rintro w' ⟨i, rfl⟩
  rw [h i]
  exact ⟨DR w1, ⟨i, rfl⟩, hk⟩
theorem xd_nil (h : ∀ d, K e (dr w d)) : XE P K [] (DR w) e := by rintro w' ⟨d, rfl⟩; exact h d
theorem xe2_t {C : World → Prop} (hg : e t = .bool b) (h : XE P K ((⟨d, op, ty, none⟩, 2) :: l) C e) : XE P K ((⟨d, op, ty, some (t, b)⟩, 2) :: l) C e := by
  simp only [XE, wantG] at h ⊢
  rcases h with ⟨_, h⟩ | ⟨⟨t', b', hh, _⟩, _⟩
  · exact .inl ⟨hg, h⟩
  · cases hh
theorem xe2_f {C : World → Prop} (hg : e t = .bool (!b)) (h : XE P K l C (e.put d undef)) : XE P K ((⟨d, op, ty, some (t, b)⟩, 2) :: l) C e :=
  .inr ⟨⟨t, b, rfl, by rw [hg]; cases b <;> simp⟩, h⟩
theorem xe2_u {C : World → Prop} (hg : e t = undef) (h : XE P K l C (e.put d undef)) : XE P K ((⟨d, op, ty, some (t, b)⟩, 2) :: l) C e :=
  .inr ⟨⟨t, b, rfl, by rw [hg]; simp [undef]⟩, h⟩
end
end Go.Bx
