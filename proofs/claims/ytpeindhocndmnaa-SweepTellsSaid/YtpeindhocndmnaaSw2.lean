/- Bz, Bw, Ty, UniqPlain, SumP: texts of this work, one behind the other. -/
import Derived.Test.YtpeindhocndmnaaSw1
import Derived.Test.YtpeindhocndmnaaProg
import Derived.KernelRfl
namespace Go.Bx
open Go
set_option linter.unusedSimpArgs false
set_option linter.unusedVariables false
structure Box (A : Prop) : Prop where out : A
def cs (bs : Bigs) : Code → GCode → GCode
  | .skip, k => k
  | .region _ ops false, k => .seq (.reg (ops.toList.map (gop ops))) k
  | .region id ops true, k => .seq (drawOf2 bs id ops (bs.lookup (id + 2000))) k
  | .seq a b, k => cs bs a (cs bs b k)
  | .cond c a b, k => .seq (.cond c (cs bs a .skip) (cs bs b .skip)) k
  | .block id c, k => .seq (.block id (cs bs c .skip)) k
  | .loop c, k => .seq (.loop (cs bs c .skip)) k
  | .exit id, _ => .exit id
  | .ret, _ => .ret
  | _, _ => .bad
section
variable {P : Program}
theorem then_then {K K' : Env → World → Prop} {Q : Exit → Env → World → Prop} : thenX K (thenX K' Q) = thenX K Q := by
  funext ex e w; cases ex <;> rfl
theorem then_self {Q : Exit → Env → World → Prop} : thenX (Q .normal) Q = Q := by
  funext ex e w; cases ex <;> rfl
theorem X_cs {bs : Bigs} : ∀ (c : Code) {k : GCode} {Q : Exit → Env → World → Prop} {e : Env} {w : World}, X P (cs bs c k) Q e w → X P (comp bs c) (thenX (X P k Q) Q) e w
  | .skip, _, _, _, _, h => h
  | .region _ _ false, _, _, _, _, h => h
  | .region _ _ true, _, _, _, _, h => h
  | .seq a b, k, Q, e, w, h => by
    have h1 := X_cs a h
    show X P (comp bs a) (thenX (X P (comp bs b) (thenX (X P k Q) Q)) (thenX (X P k Q) Q)) e w
    rw [then_then]
    exact X_mono _ (thenX_mono (fun e w h => X_cs b h) fun _ _ _ h => h) h1
  | .cond c a b, k, Q, e, w, h => by
    obtain ⟨t, ht, h⟩ := h
    refine ⟨t, ht, ?_⟩
    cases t
    · have := X_cs b h; rwa [show X P GCode.skip (thenX (X P k Q) Q) = thenX (X P k Q) Q .normal from rfl, then_self] at this
    · have := X_cs a h; rwa [show X P GCode.skip (thenX (X P k Q) Q) = thenX (X P k Q) Q .normal from rfl, then_self] at this
  | .block id c, k, Q, e, w, h => by
    have h' : X P (cs bs c .skip) (inX id (thenX (X P k Q) Q)) e w := h
    have := X_cs c h'
    rwa [show X P GCode.skip (inX id (thenX (X P k Q) Q)) = inX id (thenX (X P k Q) Q) .normal from rfl, then_self] at this
  | .loop c, k, Q, e, w, h => by
    obtain ⟨I, m, h1, h2⟩ := h
    refine ⟨I, m, h1, fun e w hI => ?_⟩
    have := X_cs c (h2 e w hI)
    rwa [show X P GCode.skip (thenX (fun e' w' => I e' w' ∧ m e' w' < m e w) (thenX (X P k Q) Q)) = thenX (fun e' w' => I e' w' ∧ m e' w' < m e w) (thenX (X P k Q) Q) .normal from rfl, then_self] at this
  | .exit _, _, _, _, _, h => h
  | .ret, _, _, _, _, h => h
  | .rangeFunc .., _, _, _, _, h => h.elim
  | .scope .., _, _, _, _, h => h.elim
  | .label .., _, _, _, _, h => h.elim
  | .goto .., _, _, _, _, h => h.elim
  | .refuse .., _, _, _, _, h => h.elim
theorem X_comp {bs : Bigs} {c : Code} {Q : Exit → Env → World → Prop} {e : Env} {w : World} (h : X P (cs bs c .skip) Q e w) : X P (comp bs c) Q e w := by
  have := X_cs c h
  rwa [show X P GCode.skip Q = Q .normal from rfl, then_self] at this
end
def dG : GCode → List Nat
  | .reg l => l.filterMap (·.dst)
  | .draw l => l.filterMap (·.1.dst)
  | .wide l => l.filterMap (·.1.dst)
  | .rel l => l.filterMap (·.1.dst)
  | .seq a b => dG a ++ dG b
  | .cond _ a b => dG a ++ dG b
  | .block _ c => dG c
  | .loop c => dG c
  | _ => []
def Off (D : List Nat) (e e' : Env) : Prop := ∀ i, D.contains i = false → e' i = e i
section
variable {P : Program} {D : List Nat}
theorem Off.refl (e : Env) : Off D e e := fun _ _ => rfl
theorem Off.trans {a b c : Env} (h : Off D a b) (k : Off D b c) : Off D a c := fun i hi => (k i hi).trans (h i hi)
theorem Off.put {e : Env} {d : Option Tmp} {v : Value} (h : ∀ x, d = some x → x ∈ D) : Off D e (e.put d v) := by
  intro i hi
  cases d with
  | none => rfl
  | some x =>
    have hx := h x rfl
    show (if i = x then v else e i) = e i
    rw [if_neg]
    rintro rfl
    rw [List.contains_iff_mem.2 hx] at hi; cases hi
theorem XO_frame {K : Env → World → Prop} : ∀ (l : List GOp) (e0 e : Env) (w : World), (∀ x ∈ l.filterMap (·.dst), x ∈ D) → Off D e0 e → XO P l K e w → XO P l (fun e' w' => K e' w' ∧ Off D e0 e') e w
  | [], _, _, _, _, ho, h => ⟨h, ho⟩
  | o :: r, e0, e, w, hd, ho, h => by
    have h1 : ∀ x, o.dst = some x → x ∈ D := fun x hx => hd x (by simp [hx])
    have h2 : ∀ x ∈ r.filterMap (·.dst), x ∈ D := fun x hx => hd x (by rw [List.filterMap_cons]; cases o.dst <;> simp [hx])
    exact h.imp (fun ⟨a, b⟩ => ⟨a, XV_mono (fun v w' k => XO_frame r e0 _ _ h2 (ho.trans (Off.put h1)) k) b⟩) (fun ⟨a, b⟩ => ⟨a, XO_frame r e0 _ _ h2 (ho.trans (Off.put h1)) b⟩)
theorem XE_frame {K : Env → World → Prop} : ∀ (l : List (GOp × Nat)) (C : World → Prop) (e0 e : Env), (∀ x ∈ l.filterMap (·.1.dst), x ∈ D) → Off D e0 e → XE P K l C e → XE P (fun e' w' => K e' w' ∧ Off D e0 e') l C e
  | [], _, _, _, _, ho, h => fun w hw => ⟨h w hw, ho⟩
  | (o, n) :: r, C, e0, e, hd, ho, h => by
    have h1 : ∀ x, o.dst = some x → x ∈ D := fun x hx => hd x (by simp [hx])
    have h2 : ∀ x ∈ r.filterMap (·.1.dst), x ∈ D := fun x hx => hd x (by rw [List.filterMap_cons]; cases o.dst <;> simp [hx])
    have k : ∀ C v, XE P K r C (e.put o.dst v) → XE P (fun e' w' => K e' w' ∧ Off D e0 e') r C (e.put o.dst v) := fun C v hh => XE_frame r C e0 _ h2 (ho.trans (Off.put h1)) hh
    match n with
    | 0 => exact h.imp (fun ⟨a, v, b, c⟩ => ⟨a, v, b, k _ _ c⟩) (fun ⟨a, c⟩ => ⟨a, k _ _ c⟩)
    | 1 => exact h.imp (fun ⟨a, v, b, c⟩ => ⟨a, v, b, k _ _ c⟩) (fun ⟨a, c⟩ => ⟨a, k _ _ c⟩)
    | _ + 2 => exact h.imp (fun ⟨a, b⟩ => ⟨a, fun w hw => XV_mono (fun _ _ ⟨C', hC', c⟩ => ⟨C', hC', k _ _ c⟩) (b w hw)⟩) (fun ⟨a, c⟩ => ⟨a, k _ _ c⟩)
theorem XF_frame {K : Env → World → Prop} : ∀ (l : List (GOp × Nat)) (C E : World → Prop) (e0 e : Env), (∀ x ∈ l.filterMap (·.1.dst), x ∈ D) → Off D e0 e → XF P K l C E e → XF P (fun e' w' => K e' w' ∧ Off D e0 e') l C E e
  | [], _, _, _, _, _, ho, h => fun w hw => ⟨h w hw, ho⟩
  | (o, n) :: r, C, E, e0, e, hd, ho, h => by
    have h1 : ∀ x, o.dst = some x → x ∈ D := fun x hx => hd x (by simp [hx])
    have h2 : ∀ x ∈ r.filterMap (·.1.dst), x ∈ D := fun x hx => hd x (by rw [List.filterMap_cons]; cases o.dst <;> simp [hx])
    have k : ∀ C E v, XF P K r C E (e.put o.dst v) → XF P (fun e' w' => K e' w' ∧ Off D e0 e') r C E (e.put o.dst v) := fun C E v hh => XF_frame r C E e0 _ h2 (ho.trans (Off.put h1)) hh
    match n with
    | 0 => exact h.imp (fun ⟨a, v, b, c⟩ => ⟨a, v, b, k _ _ _ c⟩) (fun ⟨a, c⟩ => ⟨a, k _ _ _ c⟩)
    | 1 => exact h.imp (fun ⟨a, v, b, c⟩ => ⟨a, v, b, k _ _ _ c⟩) (fun ⟨a, c⟩ => ⟨a, k _ _ _ c⟩)
    | 2 => exact h.imp (fun ⟨a, b⟩ => ⟨a, fun w hw => XV_mono (fun _ _ ⟨C', k1, k2, k4, c⟩ => ⟨C', k1, k2, k4, k _ _ _ c⟩) (b w hw)⟩) (fun ⟨a, c⟩ => ⟨a, k _ _ _ c⟩)
    | 3 => exact h.imp (fun ⟨a, b⟩ => ⟨a, fun w hw => XV_mono (fun _ _ ⟨C', D', k1, k2, k4, c⟩ => ⟨C', D', k1, k2, k4, k _ _ _ c⟩) (b w hw)⟩) (fun ⟨a, c⟩ => ⟨a, k _ _ _ c⟩)
    | _ + 4 => exact h.imp (fun ⟨a, v, b, c⟩ => ⟨a, v, b, k _ _ _ c⟩) (fun ⟨a, c⟩ => ⟨a, k _ _ _ c⟩)
theorem XR_frame {F : Nat → Value → World → Prop} {K : Env → World → Prop} : ∀ (l : List (GOp × Nat)) (C E : World → Prop) (e0 e : Env), (∀ x ∈ l.filterMap (·.1.dst), x ∈ D) → Off D e0 e → XR P F K l C E e → XR P F (fun e' w' => K e' w' ∧ Off D e0 e') l C E e
  | [], _, _, _, _, _, ho, h => fun w hw => ⟨h w hw, ho⟩
  | (o, n) :: r, C, E, e0, e, hd, ho, h => by
    have h1 : ∀ x, o.dst = some x → x ∈ D := fun x hx => hd x (by simp [hx])
    have h2 : ∀ x ∈ r.filterMap (·.1.dst), x ∈ D := fun x hx => hd x (by rw [List.filterMap_cons]; cases o.dst <;> simp [hx])
    have k : ∀ C E v, XR P F K r C E (e.put o.dst v) → XR P F (fun e' w' => K e' w' ∧ Off D e0 e') r C E (e.put o.dst v) := fun C E v hh => XR_frame r C E e0 _ h2 (ho.trans (Off.put h1)) hh
    match n with
    | 0 => exact h.imp (fun ⟨a, v, b, c⟩ => ⟨a, v, b, k _ _ _ c⟩) (fun ⟨a, c⟩ => ⟨a, k _ _ _ c⟩)
    | 1 => exact h.imp (fun ⟨a, v, b, c⟩ => ⟨a, v, b, k _ _ _ c⟩) (fun ⟨a, c⟩ => ⟨a, k _ _ _ c⟩)
    | 2 => exact h.imp (fun ⟨a, b⟩ => ⟨a, fun w hw => XV_mono (fun _ _ ⟨C', k1, k2, k4, k5, c⟩ => ⟨C', k1, k2, k4, k5, k _ _ _ c⟩) (b w hw)⟩) (fun ⟨a, c⟩ => ⟨a, k _ _ _ c⟩)
    | 3 => exact h.imp (fun ⟨a, b⟩ => ⟨a, fun w hw => XV_mono (fun _ _ ⟨C', D', k1, k2, k4, c⟩ => ⟨C', D', k1, k2, k4, k _ _ _ c⟩) (b w hw)⟩) (fun ⟨a, c⟩ => ⟨a, k _ _ _ c⟩)
    | 4 => exact h.imp (fun ⟨a, v, b, c⟩ => ⟨a, v, b, k _ _ _ c⟩) (fun ⟨a, c⟩ => ⟨a, k _ _ _ c⟩)
    | _ + 5 => exact h.imp (fun ⟨a, b, c⟩ => ⟨a, b, fun v hv => k _ _ _ (c v hv)⟩) (fun ⟨a, c⟩ => ⟨a, k _ _ _ c⟩)
theorem X_frame : ∀ (c : GCode) {Q : Exit → Env → World → Prop} {e : Env} {w : World}, (∀ x ∈ dG c, x ∈ D) → X P c Q e w → X P c (fun ex e' w' => Q ex e' w' ∧ Off D e e') e w
  | .skip, _, e, _, _, h => ⟨h, Off.refl e⟩
  | .reg l, _, e, w, hd, h => XO_frame l e e w hd (Off.refl e) h
  | .draw l, _, e, _, hd, ⟨C, h2, h3⟩ => ⟨C, h2, XE_frame l C e e hd (Off.refl e) h3⟩
  | .wide l, _, e, _, hd, ⟨C, E, h2, h3, h4, h5⟩ => ⟨C, E, h2, h3, h4, XF_frame l C E e e hd (Off.refl e) h5⟩
  | .rel l, _, e, _, hd, ⟨F, C, E, h1, h2, h3, h4, h5⟩ => ⟨F, C, E, h1, h2, h3, h4, XR_frame l C E e e hd (Off.refl e) h5⟩
  | .seq a b, Q, e, w, hd, h => by
    have h1 := X_frame a (fun x hx => hd x (by simp [dG, hx])) h
    refine X_mono a (fun ex e' w' hq => ?_) h1
    cases ex with
    | normal => exact X_mono b (fun ex e2 w2 ⟨h3, h4⟩ => ⟨h3, hq.2.trans h4⟩) (X_frame b (fun x hx => hd x (by simp [dG, hx])) hq.1)
    | _ => exact hq
  | .cond c a b, Q, e, w, hd, ⟨t, ht, h⟩ => by
    refine ⟨t, ht, ?_⟩
    cases t
    · exact X_frame b (fun x hx => hd x (by simp [dG, hx])) h
    · exact X_frame a (fun x hx => hd x (by simp [dG, hx])) h
  | .block id c, Q, e, w, hd, h => by
    refine X_mono c (fun ex e' w' hq => ?_) (X_frame c hd h)
    cases ex with
    | exit i =>
      simp only [inX] at hq ⊢
      split
      · rename_i hi; rw [if_pos hi] at hq; exact hq
      · rename_i hi; rw [if_neg hi] at hq; exact hq
    | _ => exact hq
  | .loop c, Q, e, w, hd, ⟨I, m, h1, h2⟩ => by
    refine ⟨fun e' w' => I e' w' ∧ Off D e e', m, ⟨h1, Off.refl e⟩, fun e' w' ⟨hI, ho⟩ => ?_⟩
    refine X_mono c (fun ex e2 w2 hq => ?_) (X_frame c hd (h2 e' w' hI))
    cases ex with
    | normal => exact ⟨⟨hq.1.1, ho.trans hq.2⟩, hq.1.2⟩
    | _ => exact ⟨hq.1, ho.trans hq.2⟩
  | .exit _, _, e, _, _, h => ⟨h, Off.refl e⟩
  | .ret, _, e, _, _, h => ⟨h, Off.refl e⟩
  | .bad, _, _, _, _, h => h.elim
theorem mem_of_dG {c : GCode} (hD : dG c = D) : ∀ x ∈ dG c, x ∈ D := fun _ h => hD ▸ h
end
section
variable {P : Program} {Q : Exit → Env → World → Prop} {K : Env → World → Prop} {e : Env} {w : World} {a b c k : GCode} {x : Operand} {l : List GOp} {ld : List (GOp × Nat)} {i j : Nat} {D : List Nat}
theorem s_reg (h : XO P l (X P k Q) e w) : X P (.seq (.reg l) k) Q e w := h
theorem s_draw (h : XD P ld (X P k Q) e w) : X P (.seq (.draw ld) k) Q e w := h
theorem s_wide (h : XW P ld (X P k Q) e w) : X P (.seq (.wide ld) k) Q e w := h
theorem s_assoc (h : X P (.seq a (.seq b k)) Q e w) : X P (.seq (.seq a b) k) Q e w := by
  show X P a (thenX (X P b (thenX (X P k Q) Q)) (thenX (X P k Q) Q)) e w
  rw [then_then]; exact h
theorem s_skip (h : X P k Q e w) : X P (.seq .skip k) Q e w := h
theorem s_exit (h : Q (.exit i) e w) : X P (.seq (.exit i) k) Q e w := h
theorem s_ret (h : Q .ret e w) : X P (.seq .ret k) Q e w := h
theorem e_skip (h : Q .normal e w) : X P .skip Q e w := h
theorem e_exit (h : Q (.exit i) e w) : X P (.exit i) Q e w := h
theorem e_ret (h : Q .ret e w) : X P .ret Q e w := h
theorem s_block (h : X P c (inX i (thenX (X P k Q) Q)) e w) : X P (.seq (.block i c) k) Q e w := h
theorem s_t (hc : ev e x = .bool true) (h : X P (.seq a k) Q e w) : X P (.seq (.cond x a b) k) Q e w := ⟨true, hc, h⟩
theorem s_f (hc : ev e x = .bool false) (h : X P (.seq b k) Q e w) : X P (.seq (.cond x a b) k) Q e w := ⟨false, hc, h⟩
theorem q_n (h : K e w) : thenX K Q .normal e w := h
theorem q_r (h : Q .ret e w) : thenX K Q .ret e w := h
theorem q_e (h : Q (.exit i) e w) : thenX K Q (.exit i) e w := h
theorem q_in (h : Q .normal e w) : inX i Q .normal e w := h
theorem q_ir (h : Q .ret e w) : inX i Q .ret e w := h
theorem q_is (h : Q .normal e w) : inX i Q (.exit i) e w := by rw [inX_exit, if_pos rfl]; exact h
theorem q_id (hn : (j == i) = false) (h : Q (.exit j) e w) : inX i Q (.exit j) e w := by rw [inX_exit, if_neg (by simpa using hn)]; exact h
theorem loopF (I : Env → World → Prop) (m : Env → World → Nat) (h0 : I e w)
    (h : ∀ e' w', (∀ i, D.contains i = false → e' i = e i) → I e' w' → X P c (thenX (fun e2 w2 => I e2 w2 ∧ m e2 w2 < m e' w') Q) e' w') (hD : dG c = D) : X P (.loop c) Q e w := by
  refine ⟨fun e' w' => I e' w' ∧ Off D e e', m, ⟨h0, Off.refl e⟩, fun e' w' ⟨hI, ho⟩ => ?_⟩
  refine X_mono c (fun ex e2 w2 hq => ?_) (X_frame c (mem_of_dG hD) (h e' w' ho hI))
  cases ex with
  | normal => exact ⟨⟨hq.1.1, ho.trans hq.2⟩, hq.1.2⟩
  | _ => exact hq.1
end
def Un (P : Program) (c : GCode) (Q : Exit → Env → World → Prop) : Nat → Env → World → Prop
  | 0 => fun _ _ => False
  | n + 1 => fun e w => X P c (thenX (Un P c Q n) Q) e w
theorem un_s {P : Program} {c : GCode} {Q : Exit → Env → World → Prop} {n : Nat} {e : Env} {w : World} (h : X P c (thenX (Un P c Q n) Q) e w) : Un P c Q (n + 1) e w := h
theorem least' {p : Nat → Prop} : ∀ (n : Nat), p n → ∃ m, p m ∧ ∀ j, p j → m ≤ j := by
  intro n
  induction n using Nat.strongRecOn with
  | _ n ih =>
    intro h
    by_cases hex : ∃ j, j < n ∧ p j
    · obtain ⟨j, hj, hp⟩ := hex
      exact ih j hj hp
    · exact ⟨n, h, fun j hj => Nat.le_of_not_lt fun hlt => hex ⟨j, hlt, hj⟩⟩
open Classical in
theorem un_loop {P : Program} {c : GCode} {Q : Exit → Env → World → Prop} (n : Nat) {e : Env} {w : World} (h : Un P c Q n e w) : X P (.loop c) Q e w := by
  have ex : ∀ e w, (∃ k, Un P c Q k e w) → ∃ m, Un P c Q m e w ∧ ∀ j, Un P c Q j e w → m ≤ j := fun e w ⟨k, hk⟩ => least' (p := fun k => Un P c Q k e w) k hk
  refine ⟨fun e w => ∃ k, Un P c Q k e w, fun e w => if h : ∃ k, Un P c Q k e w then (ex e w h).choose else 0, ⟨n, h⟩, fun e w hk => ?_⟩
  have hm := (ex e w hk).choose_spec
  simp only [dif_pos hk]
  generalize (ex e w hk).choose = m at hm ⊢
  obtain ⟨h1, h2⟩ := hm
  cases m with
  | zero => exact h1.elim
  | succ m =>
    refine X_mono c (fun x e' w' hq => ?_) h1
    cases x with
    | normal =>
      have hk' : ∃ k, Un P c Q k e' w' := ⟨m, hq⟩
      refine ⟨hk', ?_⟩
      simp only [dif_pos hk']
      have := (ex e' w' hk').choose_spec.2 m hq
      omega
    | _ => exact hq
section
variable {P : Program} {fs : Array ResultVar} {R : Value → World → Prop} {e : Env} {w : World} {t u s r : Nat} {v v2 v3 v4 : Value} {ex : Exit}
def isEnd : Exit → Bool
  | .normal => true
  | .ret => true
  | _ => false
theorem ret_of (hx : isEnd ex = true) (hv : (resM fs e).run P w = .ok v w) (h : R v w) : retX P fs R ex e w := by
  cases ex <;> first | exact ⟨v, hv, h⟩ | cases hx
theorem r0 (hx : isEnd ex = true) (h : R (.tuple #[]) w) : retX P #[] R ex e w := ret_of hx resM_0 h
theorem r1 (hx : isEnd ex = true) (h1 : e t = v) (h : R v w) : retX P #[.tmp t] R ex e w := ret_of hx (h1 ▸ resM_1) h
theorem r2 (hx : isEnd ex = true) (h1 : e t = v) (h2 : e u = v2) (h : R (.tuple #[v, v2]) w) : retX P #[.tmp t, .tmp u] R ex e w := ret_of hx (h1 ▸ h2 ▸ resM_2) h
theorem r3 (hx : isEnd ex = true) (h1 : e t = v) (h2 : e u = v2) (h3 : e s = v3) (h : R (.tuple #[v, v2, v3]) w) : retX P #[.tmp t, .tmp u, .tmp s] R ex e w := ret_of hx (h1 ▸ h2 ▸ h3 ▸ resM_3) h
theorem r4 (hx : isEnd ex = true) (h1 : e t = v) (h2 : e u = v2) (h3 : e s = v3) (h4 : e r = v4) (h : R (.tuple #[v, v2, v3, v4]) w) : retX P #[.tmp t, .tmp u, .tmp s, .tmp r] R ex e w := ret_of hx (h1 ▸ h2 ▸ h3 ▸ h4 ▸ resM_4) h
end
def kd (l : List GOp) : List (GOp × Nat) := l.map fun o => (o, kindOf o.op)
section
variable {P : Program} {w w' w1 : World} {b c i : Nat} {o : Obj} {F : Nat → Prop}
theorem upd_dr : upd (dr w i) b o = dr (upd w b o) i := rfl
theorem alloc_dr : (dr w i).alloc o = dr (w.alloc o) i := rfl
theorem dr_dr : dr (dr w i) b = dr w b := rfl
def hp (w : World) (b : Nat) : Option Obj := w.heap[b]?
theorem hp_eq : hp w b = w.heap[b]? := rfl
theorem Ext.rd (h : Ext w w') (hb : b < w.heap.size) : w'.heap[b]? = hp w b := h.heap b hb
end
section
variable {P : Program} {K : Env → World → Prop} {d : Option Tmp} {op : Op} {ty : TypeId} {e : Env} {w w1 : World} {l : List (GOp × Nat)} {v : Value} {t : Tmp} {b : Bool}
theorem xd2v (h : ∀ i, rG P op ty e (dr w i) = .ok (.value v) (dr w1 i)) (hk : XE P K l (DR w1) (e.put d v)) : XE P K ((⟨d, op, ty, none⟩, 2) :: l) (DR w) e := by
  rw [XE_cons2]
  rintro w' ⟨i, rfl⟩
  rw [h i]
  exact ⟨DR w1, ⟨i, rfl⟩, hk⟩
theorem xd2s (h : ∀ i, rG P op ty e (dr w i) = .ok .skip (dr w1 i)) (hk : XE P K l (DR w1) (e.put d undef)) : XE P K ((⟨d, op, ty, none⟩, 2) :: l) (DR w) e := by
  rw [XE_cons2]
  rintro w' ⟨i, rfl⟩
  rw [h i]
  exact ⟨DR w1, ⟨i, rfl⟩, hk⟩
theorem xd_nil (h : ∀ d, K e (dr w d)) : XE P K [] (DR w) e := by rintro w' ⟨d, rfl⟩; exact h d
theorem xe2_t {C : World → Prop} (hg : e t = .bool b) (h : XE P K ((⟨d, op, ty, none⟩, 2) :: l) C e) : XE P K ((⟨d, op, ty, some (t, b)⟩, 2) :: l) C e := by
  simp only [XE, wantG] at h ⊢
  rcases h with ⟨_, h⟩ | ⟨⟨t', b', hh, _⟩, _⟩
  · exact .inl ⟨hg, h⟩
  · cases hh
theorem xe2_f {C : World → Prop} (hg : e t = .bool (!b)) (h : XE P K l C (e.put d undef)) : XE P K ((⟨d, op, ty, some (t, b)⟩, 2) :: l) C e :=
  .inr ⟨⟨t, b, rfl, by rw [hg]; cases b <;> simp⟩, h⟩
theorem xe2_u {C : World → Prop} (hg : e t = undef) (h : XE P K l C (e.put d undef)) : XE P K ((⟨d, op, ty, some (t, b)⟩, 2) :: l) C e :=
  .inr ⟨⟨t, b, rfl, by rw [hg]; simp [undef]⟩, h⟩
end
end Go.Bx

namespace Go.Bx
open Go
set_option linter.unusedSimpArgs false
set_option linter.unusedVariables false
def msR (P : Program) (t : TypeId) (a b : Value) (w : World) : Result Value := (Instr.makeSlice t a b).run P w
theorem rG_makeSlice {P : Program} {t ty : TypeId} {e : Env} {w : World} {x y : Operand} : rG P (.makeSlice t x y) ty e w = vR (msR P t (ev e x) (ev e y) w) := run_v _
attribute [push_cast] Bool.not_true Bool.not_false vR_ok uR_ok ev_tmp ev_const ev_func Env.put_some Env.put_none Env.set_app rG_move rG_assign opt1_some ext_all dec_t dec_f beq_t beq_f bne_t bne_f wrap_i64 wrap_u64
attribute [push_cast] Int.toNat_natCast Nat.mul_one Nat.zero_add Nat.add_zero List.map_toArray List.map_cons List.map_nil rG_pick2 pk2_bool Bool.false_eq_true rG_nilCheck nilR_ptr rG_extract exR_opt List.getElem?_toArray List.getElem?_cons_zero List.getElem?_cons_succ
attribute [push_cast] rG_load ld1_some rd1_cells ldN_some rdN_cells rG_store stN_1 stN_2 stN_3 stN_4 stN_5 stN_6 stN_7 stN_8 vcs_int vcs_bool vcs_ptr vcs_slice vcs_map vcs_nil vcs_iface vcs_aggL List.length_cons List.length_nil
attribute [push_cast] rG_box rG_fieldAddr rG_indexAddr rG_index rG_slice Option.map_some Option.map_none rG_binOp binR_add binR_sub binR_mul binR_and binR_or binR_xor binR_andNot binR_eql binR_neq binR_lss binR_leq binR_gtr binR_geq binR_shl binR_shr binR_rem
attribute [push_cast] rG_unOp unR_not unR_neg unR_xor rG_convert rG_len rG_append rG_delete rG_min mnR_int rG_max mxR_int rG_makeSlice rG_lookup rG_mapUpdate rG_makeMap rG_build rG_buildSlice
attribute [push_cast] dr_heap upd_dr alloc_dr dr_dr alloc_size upd_size nat_int List.setIfInBounds_toArray List.set_cons_zero List.set_cons_succ beq_self_eq_true decide_true decide_false
section
variable {k : IntKind} {n : Int} {b : Bool} {a : Option Addr} {l c : Nat} {cs : Array Value} {r : Option Nat} {t : TypeId} {v : Value}
theorem vc_int : (Value.int k n).cells = #[.int k n] := rfl
theorem vc_bool : (Value.bool b).cells = #[.bool b] := rfl
theorem vc_ptr : (Value.pointer a).cells = #[.pointer a] := rfl
theorem vc_slice : (Value.slice a l c).cells = #[.slice a l c] := rfl
theorem vc_map : (Value.map r).cells = #[.map r] := rfl
theorem vc_nil : Value.nilIface.cells = #[.nilIface] := rfl
theorem vc_iface : (Value.iface t v).cells = #[.iface t v] := rfl
theorem vc_agg : (Value.agg cs).cells = cs := rfl
attribute [push_cast] vc_int vc_bool vc_ptr vc_slice vc_map vc_nil vc_iface vc_agg
end
theorem upd_eq {w : World} {b : Nat} {o : Obj} (h : b < w.heap.size) : (upd w b o).heap[b]? = some o := upd_same h
theorem alloc_at {w : World} {b : Nat} {o : Obj} (h : b = w.heap.size) : (w.alloc o).heap[b]? = some o := by rw [h]; exact alloc_new
theorem upd_allocS {w : World} {b : Nat} {o z : Obj} (h : b = w.heap.size) : upd (w.alloc z) b o = w.alloc o := by rw [h]; exact upd_alloc
theorem upd_allocN {w : World} {b : Nat} {o z : Obj} (h : b < w.heap.size) : upd (w.alloc z) b o = (upd w b o).alloc z := by
  unfold upd World.alloc
  congr 1
  apply Array.ext_getElem?
  intro i
  simp only [Array.getElem?_setIfInBounds, Array.getElem?_push, Array.size_push, Array.size_setIfInBounds]
  by_cases h1 : b = i
  · subst h1
    have : ¬ b = w.heap.size := by omega
    simp [h, this]; omega
  · simp [h1]
attribute [push_cast] hp_eq
attribute [push_cast] upd_eq upd_other alloc_at alloc_old Ext.rd upd_allocS upd_allocN upd_upd
section
variable {P : Program} {K : Env → World → Prop} {Q : Exit → Env → World → Prop} {C : World → Prop} {d : Option Tmp} {op : Op} {ty : TypeId} {e : Env} {w w1 : World} {r : List GOp} {l : List (GOp × Nat)} {x : Result Next} {t u s q : Tmp} {b : Bool} {v v2 v3 v4 : Value} {a c k : GCode} {o : Operand} {i j : Nat} {R : Value → World → Prop} {ex : Exit}
theorem xoA (hk : kN P (fun v w' => XO P r K (e.put d v) w') x)
    (h : rG P op ty e w = x := by (simp (disch := first | assumption | ((try simp only [upd_size, alloc_size, dr_heap, List.size_toArray, List.length_cons, List.length_nil, Nat.reduceAdd]) <;> omega) | (with_unfolding_all (refine Eq.trans rfl ?_; exact rfl)) | exact Nat.le_of_ble_eq_true rfl | fail) only [push_cast, *, Nat.reduceEqDiff, Nat.reduceAdd, Nat.reduceMul, Nat.reduceSub, Int.reduceToNat, Int.reduceAdd, Int.reduceSub, Int.reduceMul, Int.reduceNeg, ↓reduceIte] <;> rfl)) : XO P (⟨d, op, ty, none⟩ :: r) K e w := xo h hk
theorem xtA (h : XO P (⟨d, op, ty, none⟩ :: r) K e w)
    (hg : e t = .bool b := by (simp (disch := first | assumption | ((try simp only [upd_size, alloc_size, dr_heap, List.size_toArray, List.length_cons, List.length_nil, Nat.reduceAdd]) <;> omega) | (with_unfolding_all (refine Eq.trans rfl ?_; exact rfl)) | fail) only [push_cast, *, Nat.reduceEqDiff, ↓reduceIte] <;> fail)) : XO P (⟨d, op, ty, some (t, b)⟩ :: r) K e w := xo_t hg h
theorem xfA (h : XO P r K (e.put d undef) w)
    (hg : e t = .bool (!b) := by (simp (disch := first | assumption | ((try simp only [upd_size, alloc_size, dr_heap, List.size_toArray, List.length_cons, List.length_nil, Nat.reduceAdd]) <;> omega) | (with_unfolding_all (refine Eq.trans rfl ?_; exact rfl)) | fail) only [push_cast, *, Nat.reduceEqDiff, ↓reduceIte] <;> fail)) : XO P (⟨d, op, ty, some (t, b)⟩ :: r) K e w := xo_f hg h
theorem xuA (h : XO P r K (e.put d undef) w)
    (hg : e t = undef := by (simp (disch := first | assumption | ((try simp only [upd_size, alloc_size, dr_heap, List.size_toArray, List.length_cons, List.length_nil, Nat.reduceAdd]) <;> omega) | (with_unfolding_all (refine Eq.trans rfl ?_; exact rfl)) | fail) only [push_cast, *, Nat.reduceEqDiff, ↓reduceIte] <;> fail)) : XO P (⟨d, op, ty, some (t, b)⟩ :: r) K e w := xo_u hg h
theorem stA (h : X P (.seq a k) Q e w) (hc : ev e o = .bool true := by (simp (disch := first | assumption | ((try simp only [upd_size, alloc_size, dr_heap, List.size_toArray, List.length_cons, List.length_nil, Nat.reduceAdd]) <;> omega) | (with_unfolding_all (refine Eq.trans rfl ?_; exact rfl)) | fail) only [push_cast, *, Nat.reduceEqDiff, ↓reduceIte] <;> fail)) : X P (.seq (.cond o a c) k) Q e w := s_t hc h
theorem sfA (h : X P (.seq c k) Q e w) (hc : ev e o = .bool false := by (simp (disch := first | assumption | ((try simp only [upd_size, alloc_size, dr_heap, List.size_toArray, List.length_cons, List.length_nil, Nat.reduceAdd]) <;> omega) | (with_unfolding_all (refine Eq.trans rfl ?_; exact rfl)) | fail) only [push_cast, *, Nat.reduceEqDiff, ↓reduceIte] <;> fail)) : X P (.seq (.cond o a c) k) Q e w := s_f hc h
theorem idA (h : Q (.exit j) e w) (hn : (j == i) = false := by rfl) : inX i Q (.exit j) e w := q_id hn h
theorem eA (h : v = v2) (hv : e t = v := by (first | (simp (disch := first | assumption | ((try simp only [upd_size, alloc_size, dr_heap, List.size_toArray, List.length_cons, List.length_nil, Nat.reduceAdd]) <;> omega) | (with_unfolding_all (refine Eq.trans rfl ?_; exact rfl)) | exact Nat.le_of_ble_eq_true rfl | fail) only [push_cast, *, Nat.reduceEqDiff, Nat.reduceAdd, Nat.reduceMul, Nat.reduceSub, Int.reduceToNat, Int.reduceAdd, Int.reduceSub, Int.reduceMul, Int.reduceNeg, ↓reduceIte] <;> rfl) | rfl)) : e t = v2 := hv.trans h
theorem r1A (h : R v w) (hx : isEnd ex = true := by rfl) (h1 : e t = v := by (first | (simp (disch := first | assumption | ((try simp only [upd_size, alloc_size, dr_heap, List.size_toArray, List.length_cons, List.length_nil, Nat.reduceAdd]) <;> omega) | (with_unfolding_all (refine Eq.trans rfl ?_; exact rfl)) | exact Nat.le_of_ble_eq_true rfl | fail) only [push_cast, *, Nat.reduceEqDiff, Nat.reduceAdd, Nat.reduceMul, Nat.reduceSub, Int.reduceToNat, Int.reduceAdd, Int.reduceSub, Int.reduceMul, Int.reduceNeg, ↓reduceIte] <;> rfl) | rfl)) : retX P #[.tmp t] R ex e w := r1 hx h1 h
theorem r2A (h : R (.tuple #[v, v2]) w) (hx : isEnd ex = true := by rfl) (h1 : e t = v := by (first | (simp (disch := first | assumption | ((try simp only [upd_size, alloc_size, dr_heap, List.size_toArray, List.length_cons, List.length_nil, Nat.reduceAdd]) <;> omega) | (with_unfolding_all (refine Eq.trans rfl ?_; exact rfl)) | exact Nat.le_of_ble_eq_true rfl | fail) only [push_cast, *, Nat.reduceEqDiff, Nat.reduceAdd, Nat.reduceMul, Nat.reduceSub, Int.reduceToNat, Int.reduceAdd, Int.reduceSub, Int.reduceMul, Int.reduceNeg, ↓reduceIte] <;> rfl) | rfl))
    (h2 : e u = v2 := by (first | (simp (disch := first | assumption | ((try simp only [upd_size, alloc_size, dr_heap, List.size_toArray, List.length_cons, List.length_nil, Nat.reduceAdd]) <;> omega) | (with_unfolding_all (refine Eq.trans rfl ?_; exact rfl)) | exact Nat.le_of_ble_eq_true rfl | fail) only [push_cast, *, Nat.reduceEqDiff, Nat.reduceAdd, Nat.reduceMul, Nat.reduceSub, Int.reduceToNat, Int.reduceAdd, Int.reduceSub, Int.reduceMul, Int.reduceNeg, ↓reduceIte] <;> rfl) | rfl)) : retX P #[.tmp t, .tmp u] R ex e w := r2 hx h1 h2 h
theorem r3A (h : R (.tuple #[v, v2, v3]) w) (hx : isEnd ex = true := by rfl) (h1 : e t = v := by (first | (simp (disch := first | assumption | ((try simp only [upd_size, alloc_size, dr_heap, List.size_toArray, List.length_cons, List.length_nil, Nat.reduceAdd]) <;> omega) | (with_unfolding_all (refine Eq.trans rfl ?_; exact rfl)) | exact Nat.le_of_ble_eq_true rfl | fail) only [push_cast, *, Nat.reduceEqDiff, Nat.reduceAdd, Nat.reduceMul, Nat.reduceSub, Int.reduceToNat, Int.reduceAdd, Int.reduceSub, Int.reduceMul, Int.reduceNeg, ↓reduceIte] <;> rfl) | rfl))
    (h2 : e u = v2 := by (first | (simp (disch := first | assumption | ((try simp only [upd_size, alloc_size, dr_heap, List.size_toArray, List.length_cons, List.length_nil, Nat.reduceAdd]) <;> omega) | (with_unfolding_all (refine Eq.trans rfl ?_; exact rfl)) | exact Nat.le_of_ble_eq_true rfl | fail) only [push_cast, *, Nat.reduceEqDiff, Nat.reduceAdd, Nat.reduceMul, Nat.reduceSub, Int.reduceToNat, Int.reduceAdd, Int.reduceSub, Int.reduceMul, Int.reduceNeg, ↓reduceIte] <;> rfl) | rfl))
    (h3 : e s = v3 := by (first | (simp (disch := first | assumption | ((try simp only [upd_size, alloc_size, dr_heap, List.size_toArray, List.length_cons, List.length_nil, Nat.reduceAdd]) <;> omega) | (with_unfolding_all (refine Eq.trans rfl ?_; exact rfl)) | exact Nat.le_of_ble_eq_true rfl | fail) only [push_cast, *, Nat.reduceEqDiff, Nat.reduceAdd, Nat.reduceMul, Nat.reduceSub, Int.reduceToNat, Int.reduceAdd, Int.reduceSub, Int.reduceMul, Int.reduceNeg, ↓reduceIte] <;> rfl) | rfl)) : retX P #[.tmp t, .tmp u, .tmp s] R ex e w := r3 hx h1 h2 h3 h
theorem r4A (h : R (.tuple #[v, v2, v3, v4]) w) (hx : isEnd ex = true := by rfl) (h1 : e t = v := by (first | (simp (disch := first | assumption | ((try simp only [upd_size, alloc_size, dr_heap, List.size_toArray, List.length_cons, List.length_nil, Nat.reduceAdd]) <;> omega) | (with_unfolding_all (refine Eq.trans rfl ?_; exact rfl)) | exact Nat.le_of_ble_eq_true rfl | fail) only [push_cast, *, Nat.reduceEqDiff, Nat.reduceAdd, Nat.reduceMul, Nat.reduceSub, Int.reduceToNat, Int.reduceAdd, Int.reduceSub, Int.reduceMul, Int.reduceNeg, ↓reduceIte] <;> rfl) | rfl))
    (h2 : e u = v2 := by (first | (simp (disch := first | assumption | ((try simp only [upd_size, alloc_size, dr_heap, List.size_toArray, List.length_cons, List.length_nil, Nat.reduceAdd]) <;> omega) | (with_unfolding_all (refine Eq.trans rfl ?_; exact rfl)) | exact Nat.le_of_ble_eq_true rfl | fail) only [push_cast, *, Nat.reduceEqDiff, Nat.reduceAdd, Nat.reduceMul, Nat.reduceSub, Int.reduceToNat, Int.reduceAdd, Int.reduceSub, Int.reduceMul, Int.reduceNeg, ↓reduceIte] <;> rfl) | rfl))
    (h3 : e s = v3 := by (first | (simp (disch := first | assumption | ((try simp only [upd_size, alloc_size, dr_heap, List.size_toArray, List.length_cons, List.length_nil, Nat.reduceAdd]) <;> omega) | (with_unfolding_all (refine Eq.trans rfl ?_; exact rfl)) | exact Nat.le_of_ble_eq_true rfl | fail) only [push_cast, *, Nat.reduceEqDiff, Nat.reduceAdd, Nat.reduceMul, Nat.reduceSub, Int.reduceToNat, Int.reduceAdd, Int.reduceSub, Int.reduceMul, Int.reduceNeg, ↓reduceIte] <;> rfl) | rfl))
    (h4 : e q = v4 := by (first | (simp (disch := first | assumption | ((try simp only [upd_size, alloc_size, dr_heap, List.size_toArray, List.length_cons, List.length_nil, Nat.reduceAdd]) <;> omega) | (with_unfolding_all (refine Eq.trans rfl ?_; exact rfl)) | exact Nat.le_of_ble_eq_true rfl | fail) only [push_cast, *, Nat.reduceEqDiff, Nat.reduceAdd, Nat.reduceMul, Nat.reduceSub, Int.reduceToNat, Int.reduceAdd, Int.reduceSub, Int.reduceMul, Int.reduceNeg, ↓reduceIte] <;> rfl) | rfl)) : retX P #[.tmp t, .tmp u, .tmp s, .tmp q] R ex e w := r4 hx h1 h2 h3 h4 h
theorem rcA {bk t' : Nat} (h : R v w) (hx : isEnd ex = true := by rfl) (h1 : e t = .pointer (some ⟨bk, 0, none⟩) := by (first | (simp (disch := first | assumption | ((try simp only [upd_size, alloc_size, dr_heap, List.size_toArray, List.length_cons, List.length_nil, Nat.reduceAdd]) <;> omega) | (with_unfolding_all (refine Eq.trans rfl ?_; exact rfl)) | fail) only [push_cast, *, Nat.reduceEqDiff, ↓reduceIte] <;> rfl) | rfl))
    (h2 : ldR P t' (.pointer (some ⟨bk, 0, none⟩)) w = .ok v w := by (simp (disch := first | assumption | ((try simp only [upd_size, alloc_size, dr_heap, List.size_toArray, List.length_cons, List.length_nil, Nat.reduceAdd]) <;> omega) | (with_unfolding_all (refine Eq.trans rfl ?_; exact rfl)) | exact Nat.le_of_ble_eq_true rfl | fail) only [push_cast, *, Nat.reduceEqDiff, Nat.reduceAdd, Nat.reduceMul, ↓reduceIte] <;> rfl)) : retX P #[.cell t t'] R ex e w := ret_of hx (by rw [resM_cell (b := bk) (o := 0) h1]; exact h2) h
theorem r0A (h : R (.tuple #[]) w) (hx : isEnd ex = true := by rfl) : retX P #[] R ex e w := r0 hx h
theorem xe0A (hk : XE P K l C (e.put d v))
    (h : ∀ w, rG P op ty e w = .ok (.value v) w := by (intro w; simp (disch := first | assumption | ((try simp only [upd_size, alloc_size, dr_heap, List.size_toArray, List.length_cons, List.length_nil, Nat.reduceAdd]) <;> omega) | (with_unfolding_all (refine Eq.trans rfl ?_; exact rfl)) | exact Nat.le_of_ble_eq_true rfl | fail) only [push_cast, *, Nat.reduceEqDiff, Nat.reduceAdd, Nat.reduceMul, Nat.reduceSub, Int.reduceToNat, Int.reduceAdd, Int.reduceSub, Int.reduceMul, Int.reduceNeg, ↓reduceIte] <;> rfl)) : XE P K ((⟨d, op, ty, none⟩, 0) :: l) C e := xe0 h hk
theorem xe1A (hk : XE P K l (DR w) (e.put d v))
    (h : ∀ i, rG P op ty e (dr w i) = .ok (.value v) (dr w i) := by (intro i; simp (disch := first | assumption | ((try simp only [upd_size, alloc_size, dr_heap, List.size_toArray, List.length_cons, List.length_nil, Nat.reduceAdd]) <;> omega) | (with_unfolding_all (refine Eq.trans rfl ?_; exact rfl)) | exact Nat.le_of_ble_eq_true rfl | fail) only [push_cast, *, Nat.reduceEqDiff, Nat.reduceAdd, Nat.reduceMul, Nat.reduceSub, Int.reduceToNat, Int.reduceAdd, Int.reduceSub, Int.reduceMul, Int.reduceNeg, ↓reduceIte] <;> rfl)) : XE P K ((⟨d, op, ty, none⟩, 1) :: l) (DR w) e := xe1 h hk
theorem xd2vA (hk : XE P K l (DR w1) (e.put d v))
    (h : ∀ i, rG P op ty e (dr w i) = .ok (.value v) (dr w1 i) := by (intro i; simp (disch := first | assumption | ((try simp only [upd_size, alloc_size, dr_heap, List.size_toArray, List.length_cons, List.length_nil, Nat.reduceAdd]) <;> omega) | (with_unfolding_all (refine Eq.trans rfl ?_; exact rfl)) | exact Nat.le_of_ble_eq_true rfl | fail) only [push_cast, *, Nat.reduceEqDiff, Nat.reduceAdd, Nat.reduceMul, Nat.reduceSub, Int.reduceToNat, Int.reduceAdd, Int.reduceSub, Int.reduceMul, Int.reduceNeg, ↓reduceIte] <;> rfl)) : XE P K ((⟨d, op, ty, none⟩, 2) :: l) (DR w) e := xd2v h hk
theorem xd2sA (hk : XE P K l (DR w1) (e.put d undef))
    (h : ∀ i, rG P op ty e (dr w i) = .ok .skip (dr w1 i) := by (intro i; simp (disch := first | assumption | ((try simp only [upd_size, alloc_size, dr_heap, List.size_toArray, List.length_cons, List.length_nil, Nat.reduceAdd]) <;> omega) | (with_unfolding_all (refine Eq.trans rfl ?_; exact rfl)) | exact Nat.le_of_ble_eq_true rfl | fail) only [push_cast, *, Nat.reduceEqDiff, Nat.reduceAdd, Nat.reduceMul, Nat.reduceSub, Int.reduceToNat, Int.reduceAdd, Int.reduceSub, Int.reduceMul, Int.reduceNeg, ↓reduceIte] <;> rfl)) : XE P K ((⟨d, op, ty, none⟩, 2) :: l) (DR w) e := xd2s h hk
theorem g0t (h : XE P K ((⟨d, op, ty, none⟩, 0) :: l) C e) (hg : e t = .bool b := by (simp (disch := first | assumption | ((try simp only [upd_size, alloc_size, dr_heap, List.size_toArray, List.length_cons, List.length_nil, Nat.reduceAdd]) <;> omega) | (with_unfolding_all (refine Eq.trans rfl ?_; exact rfl)) | fail) only [push_cast, *, Nat.reduceEqDiff, ↓reduceIte] <;> fail)) : XE P K ((⟨d, op, ty, some (t, b)⟩, 0) :: l) C e := xe0_t hg h
theorem g1t (h : XE P K ((⟨d, op, ty, none⟩, 1) :: l) C e) (hg : e t = .bool b := by (simp (disch := first | assumption | ((try simp only [upd_size, alloc_size, dr_heap, List.size_toArray, List.length_cons, List.length_nil, Nat.reduceAdd]) <;> omega) | (with_unfolding_all (refine Eq.trans rfl ?_; exact rfl)) | fail) only [push_cast, *, Nat.reduceEqDiff, ↓reduceIte] <;> fail)) : XE P K ((⟨d, op, ty, some (t, b)⟩, 1) :: l) C e := xe1_t hg h
theorem g2t (h : XE P K ((⟨d, op, ty, none⟩, 2) :: l) C e) (hg : e t = .bool b := by (simp (disch := first | assumption | ((try simp only [upd_size, alloc_size, dr_heap, List.size_toArray, List.length_cons, List.length_nil, Nat.reduceAdd]) <;> omega) | (with_unfolding_all (refine Eq.trans rfl ?_; exact rfl)) | fail) only [push_cast, *, Nat.reduceEqDiff, ↓reduceIte] <;> fail)) : XE P K ((⟨d, op, ty, some (t, b)⟩, 2) :: l) C e := xe2_t hg h
theorem g0f (h : XE P K l C (e.put d undef)) (hg : e t = .bool (!b) := by (simp (disch := first | assumption | ((try simp only [upd_size, alloc_size, dr_heap, List.size_toArray, List.length_cons, List.length_nil, Nat.reduceAdd]) <;> omega) | (with_unfolding_all (refine Eq.trans rfl ?_; exact rfl)) | fail) only [push_cast, *, Nat.reduceEqDiff, ↓reduceIte] <;> fail)) : XE P K ((⟨d, op, ty, some (t, b)⟩, 0) :: l) C e := xe0_f hg h
theorem g1f (h : XE P K l C (e.put d undef)) (hg : e t = .bool (!b) := by (simp (disch := first | assumption | ((try simp only [upd_size, alloc_size, dr_heap, List.size_toArray, List.length_cons, List.length_nil, Nat.reduceAdd]) <;> omega) | (with_unfolding_all (refine Eq.trans rfl ?_; exact rfl)) | fail) only [push_cast, *, Nat.reduceEqDiff, ↓reduceIte] <;> fail)) : XE P K ((⟨d, op, ty, some (t, b)⟩, 1) :: l) C e := xe1_f hg h
theorem g2f (h : XE P K l C (e.put d undef)) (hg : e t = .bool (!b) := by (simp (disch := first | assumption | ((try simp only [upd_size, alloc_size, dr_heap, List.size_toArray, List.length_cons, List.length_nil, Nat.reduceAdd]) <;> omega) | (with_unfolding_all (refine Eq.trans rfl ?_; exact rfl)) | fail) only [push_cast, *, Nat.reduceEqDiff, ↓reduceIte] <;> fail)) : XE P K ((⟨d, op, ty, some (t, b)⟩, 2) :: l) C e := xe2_f hg h
theorem g0u (h : XE P K l C (e.put d undef)) (hg : e t = undef := by (simp (disch := first | assumption | ((try simp only [upd_size, alloc_size, dr_heap, List.size_toArray, List.length_cons, List.length_nil, Nat.reduceAdd]) <;> omega) | (with_unfolding_all (refine Eq.trans rfl ?_; exact rfl)) | fail) only [push_cast, *, Nat.reduceEqDiff, ↓reduceIte] <;> fail)) : XE P K ((⟨d, op, ty, some (t, b)⟩, 0) :: l) C e := xe0_u hg h
theorem g1u (h : XE P K l C (e.put d undef)) (hg : e t = undef := by (simp (disch := first | assumption | ((try simp only [upd_size, alloc_size, dr_heap, List.size_toArray, List.length_cons, List.length_nil, Nat.reduceAdd]) <;> omega) | (with_unfolding_all (refine Eq.trans rfl ?_; exact rfl)) | fail) only [push_cast, *, Nat.reduceEqDiff, ↓reduceIte] <;> fail)) : XE P K ((⟨d, op, ty, some (t, b)⟩, 1) :: l) C e := xe1_u hg h
theorem g2u (h : XE P K l C (e.put d undef)) (hg : e t = undef := by (simp (disch := first | assumption | ((try simp only [upd_size, alloc_size, dr_heap, List.size_toArray, List.length_cons, List.length_nil, Nat.reduceAdd]) <;> omega) | (with_unfolding_all (refine Eq.trans rfl ?_; exact rfl)) | fail) only [push_cast, *, Nat.reduceEqDiff, ↓reduceIte] <;> fail)) : XE P K ((⟨d, op, ty, some (t, b)⟩, 2) :: l) C e := xe2_u hg h
theorem xn_ {n : Nat} (h : ∀ w', Ext w w' → n ≤ w'.heap.size → K e w') (hn : w.heap.size = n := by (first | (simp only [upd_size, alloc_size, dr_heap, List.size_toArray, List.length_cons, List.length_nil, Nat.reduceAdd] <;> rfl) | rfl)) : XE P K [] (Ext w) e := xe_nil fun w' hE => h w' hE (hn ▸ hE.size)
def Quiet (P : Program) (f : FuncId) (args : Array Value) (w : World) (v : Value) : Prop := ∀ u, Ext w u → CallsR P f args u fun r u' => r = v ∧ Ext u u'
def Sure (P : Program) (f : FuncId) (args : Array Value) (v : Value) : Prop := ∀ u, CallsR P f args u fun r u' => r = v ∧ Ext u u'
theorem Sure.quiet {f : FuncId} {args : Array Value} (h : Sure P f args v) : Quiet P f args w v := fun u _ => h u
theorem xe1eA (hk : XE P K l (Ext w) (e.put d v))
    (h : ∀ w', Ext w w' → rG P op ty e w' = .ok (.value v) w' := by (intro w' hw; simp (disch := first | assumption | ((try simp only [upd_size, alloc_size, dr_heap, List.size_toArray, List.length_cons, List.length_nil, Nat.reduceAdd]) <;> omega) | (with_unfolding_all (refine Eq.trans rfl ?_; exact rfl)) | exact Nat.le_of_ble_eq_true rfl | fail) only [push_cast, *, Nat.reduceEqDiff, Nat.reduceAdd, Nat.reduceMul, Nat.reduceSub, Int.reduceToNat, Int.reduceAdd, Int.reduceSub, Int.reduceMul, Int.reduceNeg, ↓reduceIte] <;> rfl)) : XE P K ((⟨d, op, ty, none⟩, 1) :: l) (Ext w) e := xe1e h hk
theorem xe1qA {f : FuncId} {args : Array Value} (hk : XE P K l (Ext w) (e.put d v))
    (h : ∀ w', Ext w w' → rG P op ty e w' = .ok (.enter f args) w' := by (intro w' hw; simp (disch := first | assumption | ((try simp only [upd_size, alloc_size, dr_heap, List.size_toArray, List.length_cons, List.length_nil, Nat.reduceAdd]) <;> omega) | (with_unfolding_all (refine Eq.trans rfl ?_; exact rfl)) | exact Nat.le_of_ble_eq_true rfl | fail) only [push_cast, *, Nat.reduceEqDiff, Nat.reduceAdd, Nat.reduceMul, Nat.reduceSub, Int.reduceToNat, Int.reduceAdd, Int.reduceSub, Int.reduceMul, Int.reduceNeg, ↓reduceIte] <;> rfl)) (hc : Quiet P f args w v := by (first | with_reducible assumption | exact Sure.quiet (by with_reducible assumption))) : XE P K ((⟨d, op, ty, none⟩, 1) :: l) (Ext w) e := xe1c h hc hk
theorem Ext.updB {w w' : World} {b : Nat} {o : Obj} (h : Ext w w') (hb : b < w.heap.size) : Ext (Bx.upd w b o) (Bx.upd w' b o) :=
  ⟨h.os, h.tape, h.output, by rw [upd_size, upd_size]; exact h.size, fun k hk => by
    rw [upd_size] at hk
    by_cases e : b = k
    · subst e; rw [upd_same hk, upd_same (Nat.lt_of_lt_of_le hk h.size)]
    · rw [upd_other e, upd_other e]; exact h.heap k hk⟩
theorem xe2eA {bk : Nat} {ob : Obj} (hk : XE P K l (Ext (upd w bk ob)) (e.put d undef))
    (h : ∀ w', Ext w w' → rG P op ty e w' = .ok .skip (upd w' bk ob) := by (intro w' hw; simp (disch := first | assumption | ((try simp only [upd_size, alloc_size, dr_heap, List.size_toArray, List.length_cons, List.length_nil, Nat.reduceAdd]) <;> omega) | (with_unfolding_all (refine Eq.trans rfl ?_; exact rfl)) | exact Nat.le_of_ble_eq_true rfl | fail) only [push_cast, *, Nat.reduceEqDiff, Nat.reduceAdd, Nat.reduceMul, Nat.reduceSub, Int.reduceToNat, Int.reduceAdd, Int.reduceSub, Int.reduceMul, Int.reduceNeg, ↓reduceIte] <;> rfl))
    (hb : bk < w.heap.size := by (first | ((try simp only [upd_size, alloc_size, dr_heap, List.size_toArray, List.length_cons, List.length_nil, Nat.reduceAdd]) <;> omega) | fail)) : XE P K ((⟨d, op, ty, none⟩, 2) :: l) (Ext w) e := by
  rw [XE_cons2]
  intro w' hw
  rw [h w' hw]
  exact ⟨Ext (upd w bk ob), hw.updB hb, hk⟩
theorem xw_ (h : XF P K l (Ext w) (Ext w) e) : XW P l K e w := XW_ext (fun _ h => h) h
theorem xf0A {D : World → Prop} (hk : XF P K l C D (e.put d v)) (h : ∀ w, rG P op ty e w = .ok (.value v) w := by (intro w; simp (disch := first | assumption | ((try simp only [upd_size, alloc_size, dr_heap, List.size_toArray, List.length_cons, List.length_nil, Nat.reduceAdd]) <;> omega) | (with_unfolding_all (refine Eq.trans rfl ?_; exact rfl)) | exact Nat.le_of_ble_eq_true rfl | fail) only [push_cast, *, Nat.reduceEqDiff, Nat.reduceAdd, Nat.reduceMul, Nat.reduceSub, Int.reduceToNat, Int.reduceAdd, Int.reduceSub, Int.reduceMul, Int.reduceNeg, ↓reduceIte] <;> rfl)) : XF P K ((⟨d, op, ty, none⟩, 0) :: l) C D e := xf0 h hk
theorem xf3A {n : Nat} (hk : XF P K l C (Ext w) (e.put d v)) (h : ∀ u, Ext w u → rG P op ty e u = .ok (.value v) u := by (intro w' hw; simp (disch := first | assumption | ((try simp only [upd_size, alloc_size, dr_heap, List.size_toArray, List.length_cons, List.length_nil, Nat.reduceAdd]) <;> omega) | (with_unfolding_all (refine Eq.trans rfl ?_; exact rfl)) | exact Nat.le_of_ble_eq_true rfl | fail) only [push_cast, *, Nat.reduceEqDiff, Nat.reduceAdd, Nat.reduceMul, Nat.reduceSub, Int.reduceToNat, Int.reduceAdd, Int.reduceSub, Int.reduceMul, Int.reduceNeg, ↓reduceIte] <;> rfl)) : XF P K ((⟨d, op, ty, none⟩, n + 4) :: l) C (Ext w) e := xf3 h hk
theorem xf3qA {n : Nat} {f : FuncId} {args : Array Value} (hk : XF P K l C (Ext w) (e.put d v))
    (h : ∀ u, Ext w u → rG P op ty e u = .ok (.enter f args) u := by (intro w' hw; simp (disch := first | assumption | ((try simp only [upd_size, alloc_size, dr_heap, List.size_toArray, List.length_cons, List.length_nil, Nat.reduceAdd]) <;> omega) | (with_unfolding_all (refine Eq.trans rfl ?_; exact rfl)) | exact Nat.le_of_ble_eq_true rfl | fail) only [push_cast, *, Nat.reduceEqDiff, Nat.reduceAdd, Nat.reduceMul, Nat.reduceSub, Int.reduceToNat, Int.reduceAdd, Int.reduceSub, Int.reduceMul, Int.reduceNeg, ↓reduceIte] <;> rfl)) (hc : Quiet P f args w v := by (first | with_reducible assumption | exact Sure.quiet (by with_reducible assumption)))
    (hi : P.inits.idxOf? f = none := by kernel_rfl) : XF P K ((⟨d, op, ty, none⟩, n + 4) :: l) C (Ext w) e := xf3c hi h hc hk
theorem xf2A (h : ∀ w', Ext w w' → C w' → kN P (fun v w'' => Ext w w'' ∧ XF P K l (Ext w'') (Ext w) (e.put d v)) (rG P op ty e w')) (hC : ∀ w', C w' → Ext w w' := by (intro w' hw'; first | exact hw' | (refine Ext.trans ?_ hw'; (repeat (first | with_reducible assumption | with_reducible refine Ext.alloc ?_ _ | with_reducible refine Ext.dr ?_ _ | (with_reducible refine Ext.upd ?_ ?_ _; rotate_left; focus ((try simp only [upd_size, alloc_size, dr_heap, List.size_toArray, List.length_cons, List.length_nil, Nat.reduceAdd]) <;> omega)) | with_reducible refine Ext.trans ?_ (by with_reducible assumption)))))) : XF P K ((⟨d, op, ty, none⟩, 2) :: l) C (Ext w) e := by
  refine xf2 fun w' hw' => ?_
  have := h w' (hC w' hw') hw'
  generalize rG P op ty e w' = x at *
  cases x with
  | ok n w'' =>
    cases n <;> simp only [kN] at this ⊢
    case value => exact ⟨fun u hu => this.1.trans hu, this.2⟩
    case skip => exact ⟨fun u hu => this.1.trans hu, this.2⟩
    case enter => exact this.mono fun v w3 hv => ⟨fun u hu => hv.1.trans hu, hv.2⟩
    all_goals exact this
  | halt y w' => exact this
theorem krA {K : Value → World → Prop} (hk : kN P K x)
    (h : rG P op ty e w = x := by (simp (disch := first | assumption | ((try simp only [upd_size, alloc_size, dr_heap, List.size_toArray, List.length_cons, List.length_nil, Nat.reduceAdd]) <;> omega) | (with_unfolding_all (refine Eq.trans rfl ?_; exact rfl)) | exact Nat.le_of_ble_eq_true rfl | fail) only [push_cast, *, Nat.reduceEqDiff, Nat.reduceAdd, Nat.reduceMul, Nat.reduceSub, Int.reduceToNat, Int.reduceAdd, Int.reduceSub, Int.reduceMul, Int.reduceNeg, ↓reduceIte] <;> rfl)) : kN P K (rG P op ty e w) := kr h hk
end
section
variable {A B : Prop}
theorem w_ {A : Nat → Prop} (q : ∀ d, A d) (h : Box (∀ d, A d) → B := by (intro q; (repeat (first | (refine xoA ?_; first | with_reducible refine kv ?_ | with_reducible refine ks ?_ | with_reducible refine ke ?_) | refine xo_nil ?_ | refine xtA ?_ | refine xfA ?_ | refine xuA ?_ | refine s_reg ?_ | refine s_assoc ?_ | refine stA ?_ | refine sfA ?_ | refine s_skip ?_ | refine s_block ?_ | refine s_exit ?_ | refine s_ret ?_ | refine e_skip ?_ | refine e_exit ?_ | refine e_ret ?_ | refine q_n ?_ | refine q_r ?_ | refine q_e ?_ | refine q_in ?_ | refine q_ir ?_ | refine q_is ?_ | refine idA ?_ | refine un_s ?_ | refine r1A ?_ | refine r0A ?_ | refine r2A ?_ | refine r3A ?_ | refine r4A ?_ | refine rcA ?_ | (refine s_draw (XD_dr ?_); (repeat (first | refine xe0A ?_ | refine xe1A ?_ | refine xd2vA ?_ | refine xd2sA ?_ | refine g0t ?_ | refine g1t ?_ | refine g2t ?_ | refine g0f ?_ | refine g1f ?_ | refine g2f ?_ | refine g0u ?_ | refine g1u ?_ | refine g2u ?_)); refine xd_nil fun dX => ?_; (try simp only [dr_dr])) | (refine s_draw (XD_ext ?_); (repeat (first | refine xe0A ?_ | refine xe1eA ?_ | refine xe1qA ?_ | refine xe2eA ?_ | refine g0t ?_ | refine g1t ?_ | refine g0f ?_ | refine g1f ?_ | refine g0u ?_ | refine g1u ?_)); refine xn_ ?_))); first | exact q.out dX | (have dX : Nat := 0; exact q.out dX))) : B := h ⟨q⟩
theorem de_ (q : A) (h : Box A → B := by (intro q; (repeat (first | refine xe0A ?_ | refine xe1eA ?_ | refine xe1qA ?_ | refine xe2eA ?_ | refine g0t ?_ | refine g1t ?_ | refine g2t ?_ | refine g0f ?_ | refine g1f ?_ | refine g2f ?_ | refine g0u ?_ | refine g1u ?_ | refine g2u ?_)); exact q.out)) : B := h ⟨q⟩
end
theorem ext_ {w w' : World} (h : Ext w w' := by (repeat (first | with_reducible exact Ext.refl _ | with_reducible assumption | with_reducible refine Ext.alloc ?_ _ | with_reducible refine Ext.dr ?_ _ | (with_reducible refine Ext.upd ?_ ?_ _; rotate_left; focus ((try simp only [upd_size, alloc_size, dr_heap, List.size_toArray, List.length_cons, List.length_nil, Nat.reduceAdd]) <;> omega)) | with_reducible refine Ext.trans ?_ (by with_reducible assumption)))) : Ext w w' := h
theorem Chg.transE {F : Nat → Prop} {w w1 w2 : World} (h : Chg F w w1) (k : Ext w1 w2) : Chg F w w2 := h.trans (k.chg F) fun _ _ h => h
theorem chg_ {F : Nat → Prop} {w w' : World} (h : Chg F w w' := by (repeat (first | with_reducible exact Chg.refl _ _ | with_reducible assumption | with_reducible refine Chg.alloc ?_ _ | with_reducible refine Chg.dr ?_ _ | (with_reducible refine Chg.upd ?_ ?_ _; rotate_left; focus (intro hlt; first | exact rfl | exact .inl rfl | exact .inr rfl | assumption | (exfalso; omega) | (exfalso; (simp only [upd_size, alloc_size, dr_heap, List.size_toArray, List.length_cons, List.length_nil, Nat.reduceAdd] at hlt); omega))) | with_reducible refine Chg.transE ?_ (by with_reducible assumption) | with_reducible refine Chg.trans ?_ (by with_reducible assumption) (fun _ _ h => h)))) : Chg F w w' := h
theorem sz_ {n : Nat} {w w' : World} (h : Ext w w') (hn : w.heap.size = n := by (first | (simp only [upd_size, alloc_size, dr_heap] <;> rfl) | rfl)) : n ≤ w'.heap.size := hn ▸ h.size
theorem mA {e e' : Env} {t : Nat} {k k' : IntKind} {n m : Int} {c : Nat} (h1 : e' t = .int k' m := by (first | (simp (disch := first | assumption | ((try simp only [upd_size, alloc_size, dr_heap, List.size_toArray, List.length_cons, List.length_nil, Nat.reduceAdd]) <;> omega) | (with_unfolding_all (refine Eq.trans rfl ?_; exact rfl)) | fail) only [push_cast, *, Nat.reduceEqDiff, ↓reduceIte] <;> rfl) | rfl)) (h2 : e t = .int k n := by (first | assumption | (simp (disch := first | assumption | ((try simp only [upd_size, alloc_size, dr_heap, List.size_toArray, List.length_cons, List.length_nil, Nat.reduceAdd]) <;> omega) | (with_unfolding_all (refine Eq.trans rfl ?_; exact rfl)) | fail) only [push_cast, *, Nat.reduceEqDiff, ↓reduceIte] <;> rfl) | rfl)) (h : c - m.toNat < c - n.toNat := by omega) : c - nat (e' t) < c - nat (e t) := by rw [h1, h2]; exact h
def upI (v : Value) : Nat := match v with | .int _ n => (n + 1).toNat | _ => 0
theorem mS {e e' : Env} {t : Nat} {k k' : IntKind} {n m : Int} (h1 : e' t = .int k' m := by (first | (simp (disch := first | assumption | ((try simp only [upd_size, alloc_size, dr_heap, List.size_toArray, List.length_cons, List.length_nil, Nat.reduceAdd]) <;> omega) | (with_unfolding_all (refine Eq.trans rfl ?_; exact rfl)) | fail) only [push_cast, *, Nat.reduceEqDiff, ↓reduceIte] <;> rfl) | rfl)) (h2 : e t = .int k n := by (first | assumption | (simp (disch := first | assumption | ((try simp only [upd_size, alloc_size, dr_heap, List.size_toArray, List.length_cons, List.length_nil, Nat.reduceAdd]) <;> omega) | (with_unfolding_all (refine Eq.trans rfl ?_; exact rfl)) | fail) only [push_cast, *, Nat.reduceEqDiff, ↓reduceIte] <;> rfl) | rfl)) (h : (m + 1).toNat < (n + 1).toNat := by omega) : upI (e' t) < upI (e t) := by rw [h1, h2]; exact h
theorem hA {w : World} {b : Nat} {x y : Obj} (h : x = y) (hx : w.heap[b]? = some x := by (simp (disch := first | assumption | ((try simp only [upd_size, alloc_size, dr_heap, List.size_toArray, List.length_cons, List.length_nil, Nat.reduceAdd]) <;> omega) | (with_unfolding_all (refine Eq.trans rfl ?_; exact rfl)) | fail) only [push_cast, *, Nat.reduceEqDiff, ↓reduceIte] <;> rfl)) : w.heap[b]? = some y := h ▸ hx
section
variable {P : Program} {f : FuncId} {args : Array Value} {w : World} {v : Value} {K : Value → World → Prop}
theorem callQ {n : Nat} (h : CallsR P f args w fun r w' => r = v ∧ Ext w w') (hk : ∀ w', Ext w w' → n ≤ w'.heap.size → K v w') (hn : w.heap.size = n := by (first | (simp only [upd_size, alloc_size, dr_heap, List.size_toArray, List.length_cons, List.length_nil, Nat.reduceAdd] <;> rfl) | rfl)) : CallsR P f args w K := h.mono fun r w' ⟨hr, hE⟩ => hr ▸ hk w' hE (hn ▸ hE.size)
theorem Quiet.call (h : Quiet P f args w v) : CallsR P f args w fun r w' => r = v ∧ Ext w w' := h w (Ext.refl w)
theorem Quiet.at {u : World} (h : Quiet P f args w v) (hu : Ext w u) : Quiet P f args u v := fun x hx => h x (hu.trans hx)
end
section
variable {P : Program} {f : FuncId} {fn : Func} {c : Code} {w : World} {R : Value → World → Prop} {bs : Bigs} {g : GCode} {rs : Array ResultVar} {v0 v1 v2 v3 v4 v5 : Value}
theorem en0 (hf : P.funcs[f]? = some fn) (hr : fn.results = rs) (hm : P.follows .mixedOrders = true) (bs : Bigs) (h : ∀ e : Env, X P g (retX P rs R) e w) (hb : fn.body = some c := by rfl)
    (hg : cs bs c .skip = g := by (simp only [cs, gop, gslot, dops, bigOf, setK, drawOf, drawOf2, dopsW, setW, dopsR, setR, kindOf, List.lookup, List.map_cons, List.map_nil, Option.bind_some, List.getElem?_toArray, List.getElem?_cons_zero, List.getElem?_cons_succ, Option.getD_some, Option.getD_none, List.contains_nil, List.contains_cons, Bool.false_eq_true, ↓reduceIte, Nat.reduceAdd, Nat.reduceBEq, Bool.or_false, Bool.or_true, Bool.true_or] <;> rfl))
    (hk : (okN bs fn.ntmps c && decide (fn.ntmps ≤ 1000000) && decide (0 ≤ fn.ntmps)) = true := by kernel_rfl) : CallsR P f #[] w R := calls0 hf hb hm hk fun e => X_comp (hg ▸ hr ▸ h e)
theorem en1 (hf : P.funcs[f]? = some fn) (hr : fn.results = rs) (hm : P.follows .mixedOrders = true) (bs : Bigs) (h : ∀ e : Env, e 0 = v0 → X P g (retX P rs R) e w) (hb : fn.body = some c := by rfl)
    (hg : cs bs c .skip = g := by (simp only [cs, gop, gslot, dops, bigOf, setK, drawOf, drawOf2, dopsW, setW, dopsR, setR, kindOf, List.lookup, List.map_cons, List.map_nil, Option.bind_some, List.getElem?_toArray, List.getElem?_cons_zero, List.getElem?_cons_succ, Option.getD_some, Option.getD_none, List.contains_nil, List.contains_cons, Bool.false_eq_true, ↓reduceIte, Nat.reduceAdd, Nat.reduceBEq, Bool.or_false, Bool.or_true, Bool.true_or] <;> rfl))
    (hk : (okN bs fn.ntmps c && decide (fn.ntmps ≤ 1000000) && decide (1 ≤ fn.ntmps)) = true := by kernel_rfl) : CallsR P f #[v0] w R := calls1 hf hb hm hk fun e h0 => X_comp (hg ▸ hr ▸ h e h0)
theorem en2 (hf : P.funcs[f]? = some fn) (hr : fn.results = rs) (hm : P.follows .mixedOrders = true) (bs : Bigs) (h : ∀ e : Env, e 0 = v0 → e 1 = v1 → X P g (retX P rs R) e w) (hb : fn.body = some c := by rfl)
    (hg : cs bs c .skip = g := by (simp only [cs, gop, gslot, dops, bigOf, setK, drawOf, drawOf2, dopsW, setW, dopsR, setR, kindOf, List.lookup, List.map_cons, List.map_nil, Option.bind_some, List.getElem?_toArray, List.getElem?_cons_zero, List.getElem?_cons_succ, Option.getD_some, Option.getD_none, List.contains_nil, List.contains_cons, Bool.false_eq_true, ↓reduceIte, Nat.reduceAdd, Nat.reduceBEq, Bool.or_false, Bool.or_true, Bool.true_or] <;> rfl))
    (hk : (okN bs fn.ntmps c && decide (fn.ntmps ≤ 1000000) && decide (2 ≤ fn.ntmps)) = true := by kernel_rfl) : CallsR P f #[v0, v1] w R := calls2 hf hb hm hk fun e h0 h1 => X_comp (hg ▸ hr ▸ h e h0 h1)
theorem en3 (hf : P.funcs[f]? = some fn) (hr : fn.results = rs) (hm : P.follows .mixedOrders = true) (bs : Bigs) (h : ∀ e : Env, e 0 = v0 → e 1 = v1 → e 2 = v2 → X P g (retX P rs R) e w) (hb : fn.body = some c := by rfl)
    (hg : cs bs c .skip = g := by (simp only [cs, gop, gslot, dops, bigOf, setK, drawOf, drawOf2, dopsW, setW, dopsR, setR, kindOf, List.lookup, List.map_cons, List.map_nil, Option.bind_some, List.getElem?_toArray, List.getElem?_cons_zero, List.getElem?_cons_succ, Option.getD_some, Option.getD_none, List.contains_nil, List.contains_cons, Bool.false_eq_true, ↓reduceIte, Nat.reduceAdd, Nat.reduceBEq, Bool.or_false, Bool.or_true, Bool.true_or] <;> rfl))
    (hk : (okN bs fn.ntmps c && decide (fn.ntmps ≤ 1000000) && decide (3 ≤ fn.ntmps)) = true := by kernel_rfl) : CallsR P f #[v0, v1, v2] w R := calls3 hf hb hm hk fun e h0 h1 h2 => X_comp (hg ▸ hr ▸ h e h0 h1 h2)
theorem en4 (hf : P.funcs[f]? = some fn) (hr : fn.results = rs) (hm : P.follows .mixedOrders = true) (bs : Bigs) (h : ∀ e : Env, e 0 = v0 → e 1 = v1 → e 2 = v2 → e 3 = v3 → X P g (retX P rs R) e w) (hb : fn.body = some c := by rfl)
    (hg : cs bs c .skip = g := by (simp only [cs, gop, gslot, dops, bigOf, setK, drawOf, drawOf2, dopsW, setW, dopsR, setR, kindOf, List.lookup, List.map_cons, List.map_nil, Option.bind_some, List.getElem?_toArray, List.getElem?_cons_zero, List.getElem?_cons_succ, Option.getD_some, Option.getD_none, List.contains_nil, List.contains_cons, Bool.false_eq_true, ↓reduceIte, Nat.reduceAdd, Nat.reduceBEq, Bool.or_false, Bool.or_true, Bool.true_or] <;> rfl))
    (hk : (okN bs fn.ntmps c && decide (fn.ntmps ≤ 1000000) && decide (4 ≤ fn.ntmps)) = true := by kernel_rfl) : CallsR P f #[v0, v1, v2, v3] w R := calls4 hf hb hm hk fun e h0 h1 h2 h3 => X_comp (hg ▸ hr ▸ h e h0 h1 h2 h3)
theorem en5 (hf : P.funcs[f]? = some fn) (hr : fn.results = rs) (hm : P.follows .mixedOrders = true) (bs : Bigs) (h : ∀ e : Env, e 0 = v0 → e 1 = v1 → e 2 = v2 → e 3 = v3 → e 4 = v4 → X P g (retX P rs R) e w) (hb : fn.body = some c := by rfl)
    (hg : cs bs c .skip = g := by (simp only [cs, gop, gslot, dops, bigOf, setK, drawOf, drawOf2, dopsW, setW, dopsR, setR, kindOf, List.lookup, List.map_cons, List.map_nil, Option.bind_some, List.getElem?_toArray, List.getElem?_cons_zero, List.getElem?_cons_succ, Option.getD_some, Option.getD_none, List.contains_nil, List.contains_cons, Bool.false_eq_true, ↓reduceIte, Nat.reduceAdd, Nat.reduceBEq, Bool.or_false, Bool.or_true, Bool.true_or] <;> rfl))
    (hk : (okN bs fn.ntmps c && decide (fn.ntmps ≤ 1000000) && decide (5 ≤ fn.ntmps)) = true := by kernel_rfl) : CallsR P f #[v0, v1, v2, v3, v4] w R := calls5 hf hb hm hk fun e h0 h1 h2 h3 h4 => X_comp (hg ▸ hr ▸ h e h0 h1 h2 h3 h4)
end
section
variable {P : Program} {Q : Exit → Env → World → Prop} {e : Env} {w : World} {a c k : GCode} {i : Nat} {D : List Nat}
theorem lo_ (I : World → Env → World → Prop) (m : Env → World → Nat) (h0 : I w e w)
    (h : ∀ e' w', (∀ i, D.contains i = false → e' i = e i) → I w e' w' → X P c (thenX (fun e2 w2 => I w e2 w2 ∧ m e2 w2 < m e' w') (thenX (X P k Q) Q)) e' w')
    (hD : dG c = D := by (simp only [dG, List.filterMap_cons, List.filterMap_nil, List.cons_append, List.nil_append, List.append_nil] <;> rfl)) : X P (.seq (.loop c) k) Q e w := loopF (I w) m h0 h hD
theorem un_ (n : Nat) (h : Un P c (thenX (X P k Q) Q) n e w) : X P (.seq (.loop c) k) Q e w := un_loop n h
end
end Go.Bx

namespace Go.Proofs.Ytpeindhocndmnaa
open Go Go.Bx
set_option linter.unusedVariables false
set_option maxRecDepth 100000
theorem mixed : Try.prog.follows .mixedOrders = true := by kernel_rfl
section
variable {w : World} {ty b o n m cp : Nat} {i j : Int} {k k2 : IntKind} {v : Value} {e : Env} {x y : Operand} {cs : Array Value} {a : Option Addr}
theorem rG_alloc_182 : rG Try.prog (.alloc 182) ty e w = .ok (.value (.pointer (some ⟨w.heap.size, 0, none⟩))) (w.alloc (.cells (Value.agg #[Value.int IntKind.i64 0, Value.int IntKind.i64 0, Value.int IntKind.i64 0]).cells 182)) := rG_alloc (TI.mk' (sz := 3) (by_ := 24) (z := Value.agg #[Value.int IntKind.i64 0, Value.int IntKind.i64 0, Value.int IntKind.i64 0]) Try.underlying182 (by kernel_rfl))
theorem rG_alloc_189 : rG Try.prog (.alloc 189) ty e w = .ok (.value (.pointer (some ⟨w.heap.size, 0, none⟩))) (w.alloc (.cells (Value.agg #[Value.int IntKind.i64 0, Value.int IntKind.i64 0]).cells 189)) := rG_alloc (TI.mk' (sz := 2) (by_ := 16) (z := Value.agg #[Value.int IntKind.i64 0, Value.int IntKind.i64 0]) Try.underlying189 (by kernel_rfl))
theorem rG_alloc_191 : rG Try.prog (.alloc 191) ty e w = .ok (.value (.pointer (some ⟨w.heap.size, 0, none⟩))) (w.alloc (.cells (Value.agg #[Value.int IntKind.i64 0, Value.int IntKind.i64 0, Value.int IntKind.i64 0, Value.bool false]).cells 191)) := rG_alloc (TI.mk' (sz := 4) (by_ := 32) (z := Value.agg #[Value.int IntKind.i64 0, Value.int IntKind.i64 0, Value.int IntKind.i64 0, Value.bool false]) Try.underlying191 (by kernel_rfl))
theorem T206 : TI Try.prog 206 (TypeDesc.int IntKind.u64) 1 8 (Value.int IntKind.u64 0) := TI.mk' Try.underlying206 (by kernel_rfl)
theorem T3 : TI Try.prog 3 (TypeDesc.int IntKind.i64) 1 8 (Value.int IntKind.i64 0) := TI.mk' Try.underlying3 (by kernel_rfl)
theorem T36 : TI Try.prog 36 (TypeDesc.array 8 3) 8 64 (Value.agg #[Value.int IntKind.i64 0, Value.int IntKind.i64 0, Value.int IntKind.i64 0, Value.int IntKind.i64 0, Value.int IntKind.i64 0, Value.int IntKind.i64 0, Value.int IntKind.i64 0, Value.int IntKind.i64 0]) := TI.mk' Try.underlying36 (by kernel_rfl)
theorem rG_alloc_36 : rG Try.prog (.alloc 36) ty e w = .ok (.value (.pointer (some ⟨w.heap.size, 0, none⟩))) (w.alloc (.cells (Value.agg #[Value.int IntKind.i64 0, Value.int IntKind.i64 0, Value.int IntKind.i64 0, Value.int IntKind.i64 0, Value.int IntKind.i64 0, Value.int IntKind.i64 0, Value.int IntKind.i64 0, Value.int IntKind.i64 0]).cells 36)) := rG_alloc T36
theorem rG_alloc_39 : rG Try.prog (.alloc 39) ty e w = .ok (.value (.pointer (some ⟨w.heap.size, 0, none⟩))) (w.alloc (.cells (Value.agg #[Value.int IntKind.i64 0, Value.int IntKind.i64 0, Value.int IntKind.i64 0]).cells 39)) := rG_alloc (TI.mk' (sz := 3) (by_ := 24) (z := Value.agg #[Value.int IntKind.i64 0, Value.int IntKind.i64 0, Value.int IntKind.i64 0]) Try.underlying39 (by kernel_rfl))
theorem T54 : TI Try.prog 54 (TypeDesc.array 4 52) 4 32 (Value.agg #[Value.int IntKind.u64 0, Value.int IntKind.u64 0, Value.int IntKind.u64 0, Value.int IntKind.u64 0]) := TI.mk' Try.underlying54 (by kernel_rfl)
theorem rG_alloc_79 : rG Try.prog (.alloc 79) ty e w = .ok (.value (.pointer (some ⟨w.heap.size, 0, none⟩))) (w.alloc (.cells (Value.agg #[Value.int IntKind.i64 0, Value.int IntKind.i64 0, Value.int IntKind.i64 0, Value.int IntKind.i64 0, Value.bool false]).cells 79)) := rG_alloc (TI.mk' (sz := 5) (by_ := 40) (z := Value.agg #[Value.int IntKind.i64 0, Value.int IntKind.i64 0, Value.int IntKind.i64 0, Value.int IntKind.i64 0, Value.bool false]) Try.underlying79 (by kernel_rfl))
theorem rG_alloc_91 : rG Try.prog (.alloc 91) ty e w = .ok (.value (.pointer (some ⟨w.heap.size, 0, none⟩))) (w.alloc (.cells (Value.agg #[Value.int IntKind.i64 0, Value.int IntKind.i64 0, Value.int IntKind.i64 0, Value.int IntKind.i64 0, Value.bool false, Value.bool false]).cells 91)) := rG_alloc (TI.mk' (sz := 6) (by_ := 40) (z := Value.agg #[Value.int IntKind.i64 0, Value.int IntKind.i64 0, Value.int IntKind.i64 0, Value.int IntKind.i64 0, Value.bool false, Value.bool false]) Try.underlying91 (by kernel_rfl))
theorem T114 : TI Try.prog 114 (TypeDesc.pointer 171) 1 8 (Value.pointer none) := TI.mk' Try.underlying114 (by kernel_rfl)
theorem ceql_pp_114 : binR Try.prog .eql 114 x y (.pointer none) (.pointer none) w = .ok (.bool true) w := eql_pp T114
theorem ceql_pa_114 {a : Addr} : binR Try.prog .eql 114 x y (.pointer (some a)) (.pointer none) w = .ok (.bool false) w := eql_pa T114
theorem T24 : TI Try.prog 24 (TypeDesc.pointer 120) 1 8 (Value.pointer none) := TI.mk' Try.underlying24 (by kernel_rfl)
theorem ceql_pp_24 : binR Try.prog .eql 24 x y (.pointer none) (.pointer none) w = .ok (.bool true) w := eql_pp T24
theorem ceql_pa_24 {a : Addr} : binR Try.prog .eql 24 x y (.pointer (some a)) (.pointer none) w = .ok (.bool false) w := eql_pa T24
theorem T34 : TI Try.prog 34 (TypeDesc.slice 3) 1 24 (Value.slice none 0 0) := TI.mk' Try.underlying34 (by kernel_rfl)
theorem ceql_ss_34 {l l2 c2 : Nat} : binR Try.prog .eql 34 x y (.slice none l n) (.slice none l2 c2) w = .ok (.bool true) w := eql_ss T34
theorem ceql_sa_34 {a : Addr} {l l2 c2 : Nat} : binR Try.prog .eql 34 x y (.slice (some a) l n) (.slice none l2 c2) w = .ok (.bool false) w := eql_sa T34
theorem T4 : TI Try.prog 4 (TypeDesc.bool) 1 1 (Value.bool false) := TI.mk' Try.underlying4 (by kernel_rfl)
theorem ceql_nn_47 {u : Value} : binR Try.prog .eql 47 x (.const u) .nilIface .nilIface w = .ok (.bool true) w := eql_nn (TI.mk' (sz := 1) (by_ := 16) (z := Value.nilIface) Try.underlying47 (by kernel_rfl))
theorem ceql_in_47 {u : Value} : binR Try.prog .eql 47 x y (.iface ty u) .nilIface w = .ok (.bool false) w := eql_in (TI.mk' (sz := 1) (by_ := 16) (z := Value.nilIface) Try.underlying47 (by kernel_rfl))
theorem ceql_ni_47 {u : Value} : binR Try.prog .eql 47 x y .nilIface (.iface ty u) w = .ok (.bool false) w := eql_ni (TI.mk' (sz := 1) (by_ := 16) (z := Value.nilIface) Try.underlying47 (by kernel_rfl))
theorem T127 : TI Try.prog 127 (TypeDesc.int IntKind.i64) 1 8 (Value.int IntKind.i64 0) := TI.mk' Try.underlying127 (by kernel_rfl)
theorem ceql_ii_47_127 : binR Try.prog .eql 47 x y (.iface 127 (.int .i64 i)) (.iface 127 (.int .i64 j)) w = .ok (.bool (i == j)) w := eql_ii (TI.mk' (sz := 1) (by_ := 16) (z := Value.nilIface) Try.underlying47 (by kernel_rfl)) T127 (by kernel_rfl)
theorem eqneq_4 {p q : Bool} : binR Try.prog .neq 4 x y (.bool p) (.bool q) w = .ok (.bool (!(p == q))) w := binR_neq_bool T4
theorem cneq_nn_47 {u : Value} : binR Try.prog .neq 47 x (.const u) .nilIface .nilIface w = .ok (.bool false) w := neq_nn (TI.mk' (sz := 1) (by_ := 16) (z := Value.nilIface) Try.underlying47 (by kernel_rfl))
theorem cneq_in_47 {u : Value} : binR Try.prog .neq 47 x y (.iface ty u) .nilIface w = .ok (.bool true) w := neq_in (TI.mk' (sz := 1) (by_ := 16) (z := Value.nilIface) Try.underlying47 (by kernel_rfl))
theorem cneq_ni_47 {u : Value} : binR Try.prog .neq 47 x y .nilIface (.iface ty u) w = .ok (.bool true) w := neq_ni (TI.mk' (sz := 1) (by_ := 16) (z := Value.nilIface) Try.underlying47 (by kernel_rfl))
theorem cneq_ii_47_127 : binR Try.prog .neq 47 x y (.iface 127 (.int .i64 i)) (.iface 127 (.int .i64 j)) w = .ok (.bool (!(i == j))) w := neq_ii (TI.mk' (sz := 1) (by_ := 16) (z := Value.nilIface) Try.underlying47 (by kernel_rfl)) T127 (by kernel_rfl)
theorem bd120_0_1_5 (a0 : Int) (a1 : Option Addr) (a50 a51 a52 a53 a54 a55 a56 a57 : Value) : bdR Try.prog 120 #[(0, .int .i64 a0), (1, .pointer a1), (5, .agg #[a50, a51, a52, a53, a54, a55, a56, a57])] w = .ok (.agg #[.int .i64 a0, .pointer a1, Value.slice none 0 0, Value.slice none 0 0, Value.pointer none, Value.pointer none, Value.pointer none, Value.pointer none, Value.pointer none, Value.pointer none, Value.pointer none, Value.pointer none, a50, a51, a52, a53, a54, a55, a56, a57]) w := by kernel_rfl
theorem bd124_0_2 (a0 : Option Addr) (a20 a21 a22 a23 a24 a25 a26 a27 : Value) : bdR Try.prog 124 #[(0, .pointer a0), (2, .agg #[a20, a21, a22, a23, a24, a25, a26, a27])] w = .ok (.agg #[.pointer a0, Value.slice none 0 0, a20, a21, a22, a23, a24, a25, a26, a27]) w := by kernel_rfl
theorem bd134_0 (a0 : Option Nat) : bdR Try.prog 134 #[(0, .map a0)] w = .ok (.agg #[.map a0]) w := by kernel_rfl
theorem bd139_0_1 (a0 : Option Addr) (a1 : Option Nat) : bdR Try.prog 139 #[(0, .pointer a0), (1, .map a1)] w = .ok (.agg #[.pointer a0, .map a1]) w := by kernel_rfl
theorem bd152_0_1_2_3 (a0 : Option Addr) (a1 : Int) (a2 : Bool) (a3 : Option Nat) : bdR Try.prog 152 #[(0, .pointer a0), (1, .int .i64 a1), (2, .bool a2), (3, .map a3)] w = .ok (.agg #[.pointer a0, .int .i64 a1, .bool a2, .map a3]) w := by kernel_rfl
theorem bd161_0_1_2_3_5 (a0 : Option Addr) (a1 : Option Addr) (a1l a1c : Nat) (a2 : Int) (a3 : Int) (a5 : Int) : bdR Try.prog 161 #[(0, .pointer a0), (1, .slice a1 a1l a1c), (2, .int .i64 a2), (3, .int .i64 a3), (5, .int .i64 a5)] w = .ok (.agg #[.pointer a0, .slice a1 a1l a1c, .int .i64 a2, .int .i64 a3, Value.int IntKind.i64 0, .int .i64 a5]) w := by kernel_rfl
theorem bd169_0 (a0 : Int) : bdR Try.prog 169 #[(0, .int .i64 a0)] w = .ok (.agg #[.int .i64 a0, Value.slice none 0 0, Value.slice none 0 0, Value.int IntKind.i64 0]) w := by kernel_rfl
theorem bd171_0 (a0 : Int) : bdR Try.prog 171 #[(0, .int .i64 a0)] w = .ok (.agg #[.int .i64 a0, Value.slice none 0 0, Value.slice none 0 0]) w := by kernel_rfl
theorem bd174_0 (a0 : Option Addr) (a0l a0c : Nat) : bdR Try.prog 174 #[(0, .slice a0 a0l a0c)] w = .ok (.agg #[.slice a0 a0l a0c, Value.int IntKind.i64 0]) w := by kernel_rfl
theorem bd182_0_1_2 (a0 : Int) (a1 : Int) (a2 : Int) : bdR Try.prog 182 #[(0, .int .i64 a0), (1, .int .i64 a1), (2, .int .i64 a2)] w = .ok (.agg #[.int .i64 a0, .int .i64 a1, .int .i64 a2]) w := by kernel_rfl
theorem bd189_0_1 (a0 : Int) (a1 : Int) : bdR Try.prog 189 #[(0, .int .i64 a0), (1, .int .i64 a1)] w = .ok (.agg #[.int .i64 a0, .int .i64 a1]) w := by kernel_rfl
theorem bd191_  : bdR Try.prog 191 #[] w = .ok (.agg #[Value.int IntKind.i64 0, Value.int IntKind.i64 0, Value.int IntKind.i64 0, Value.bool false]) w := by kernel_rfl
theorem bd191_0_1_2 (a00 a01 : Value) (a1 : Int) (a2 : Bool) : bdR Try.prog 191 #[(0, .agg #[a00, a01]), (1, .int .i64 a1), (2, .bool a2)] w = .ok (.agg #[a00, a01, .int .i64 a1, .bool a2]) w := by kernel_rfl
theorem bd205_0_1_2_3_4_5 (a0 : Int) (a1 : Int) (a2 : Int) (a3 : Int) (a4 : Int) (a5 : Int) : bdR Try.prog 205 #[(0, .int .u64 a0), (1, .int .u64 a1), (2, .int .u64 a2), (3, .int .u64 a3), (4, .int .u64 a4), (5, .int .u64 a5)] w = .ok (.agg #[.int .u64 a0, .int .u64 a1, .int .u64 a2, .int .u64 a3, .int .u64 a4, .int .u64 a5]) w := by kernel_rfl
theorem T205 : TI Try.prog 205 (TypeDesc.array 6 52) 6 48 (Value.agg #[Value.int IntKind.u64 0, Value.int IntKind.u64 0, Value.int IntKind.u64 0, Value.int IntKind.u64 0, Value.int IntKind.u64 0, Value.int IntKind.u64 0]) := TI.mk' Try.underlying205 (by kernel_rfl)
theorem bd36_0_1_2_3_4_5_6_7 (a0 : Int) (a1 : Int) (a2 : Int) (a3 : Int) (a4 : Int) (a5 : Int) (a6 : Int) (a7 : Int) : bdR Try.prog 36 #[(0, .int .i64 a0), (1, .int .i64 a1), (2, .int .i64 a2), (3, .int .i64 a3), (4, .int .i64 a4), (5, .int .i64 a5), (6, .int .i64 a6), (7, .int .i64 a7)] w = .ok (.agg #[.int .i64 a0, .int .i64 a1, .int .i64 a2, .int .i64 a3, .int .i64 a4, .int .i64 a5, .int .i64 a6, .int .i64 a7]) w := by kernel_rfl
theorem bd39_0_1_2 (a0 : Int) (a1 : Int) (a2 : Int) : bdR Try.prog 39 #[(0, .int .i64 a0), (1, .int .i64 a1), (2, .int .i64 a2)] w = .ok (.agg #[.int .i64 a0, .int .i64 a1, .int .i64 a2]) w := by kernel_rfl
theorem bd39_  : bdR Try.prog 39 #[] w = .ok (.agg #[Value.int IntKind.i64 0, Value.int IntKind.i64 0, Value.int IntKind.i64 0]) w := by kernel_rfl
theorem bd54_  : bdR Try.prog 54 #[] w = .ok (.agg #[Value.int IntKind.u64 0, Value.int IntKind.u64 0, Value.int IntKind.u64 0, Value.int IntKind.u64 0]) w := by kernel_rfl
theorem bs116_1 (a00 a01 a02 : Value) : bsR Try.prog 116 1 #[(0, .agg #[a00, a01, a02])] w = .ok (.slice (some ⟨w.heap.size, 0, none⟩) 1 1) (w.alloc (.cells #[a00, a01, a02] 39)) := by kernel_rfl
theorem T116 : TI Try.prog 116 (TypeDesc.slice 39) 1 24 (Value.slice none 0 0) := TI.mk' Try.underlying116 (by kernel_rfl)
theorem bs34_2 (a0 : Int) (a1 : Int) : bsR Try.prog 34 2 #[(0, .int .i64 a0), (1, .int .i64 a1)] w = .ok (.slice (some ⟨w.heap.size, 0, none⟩) 2 2) (w.alloc (.cells #[.int .i64 a0, .int .i64 a1] 3)) := by kernel_rfl
theorem bs34_1 (a0 : Int) : bsR Try.prog 34 1 #[(0, .int .i64 a0)] w = .ok (.slice (some ⟨w.heap.size, 0, none⟩) 1 1) (w.alloc (.cells #[.int .i64 a0] 3)) := by kernel_rfl
theorem bs34_3 (a0 : Int) (a1 : Int) (a2 : Int) : bsR Try.prog 34 3 #[(0, .int .i64 a0), (1, .int .i64 a1), (2, .int .i64 a2)] w = .ok (.slice (some ⟨w.heap.size, 0, none⟩) 3 3) (w.alloc (.cells #[.int .i64 a0, .int .i64 a1, .int .i64 a2] 3)) := by kernel_rfl
theorem bs34_0  : bsR Try.prog 34 0 #[] w = .ok (.slice (some ⟨w.heap.size, 0, none⟩) 0 0) (w.alloc (.cells #[] 3)) := by kernel_rfl
theorem bs44_1 (a0 : Bool) : bsR Try.prog 44 1 #[(0, .bool a0)] w = .ok (.slice (some ⟨w.heap.size, 0, none⟩) 1 1) (w.alloc (.cells #[.bool a0] 4)) := by kernel_rfl
theorem T44 : TI Try.prog 44 (TypeDesc.slice 4) 1 24 (Value.slice none 0 0) := TI.mk' Try.underlying44 (by kernel_rfl)
theorem bs65_1 (a00 a01 a02 a03 : Value) : bsR Try.prog 65 1 #[(0, .agg #[a00, a01, a02, a03])] w = .ok (.slice (some ⟨w.heap.size, 0, none⟩) 1 1) (w.alloc (.cells #[a00, a01, a02, a03] 54)) := by kernel_rfl
theorem bs65_2 (a00 a01 a02 a03 : Value) (a10 a11 a12 a13 : Value) : bsR Try.prog 65 2 #[(0, .agg #[a00, a01, a02, a03]), (1, .agg #[a10, a11, a12, a13])] w = .ok (.slice (some ⟨w.heap.size, 0, none⟩) 2 2) (w.alloc (.cells #[a00, a01, a02, a03, a10, a11, a12, a13] 54)) := by kernel_rfl
theorem bs65_0  : bsR Try.prog 65 0 #[] w = .ok (.slice (some ⟨w.heap.size, 0, none⟩) 0 0) (w.alloc (.cells #[] 54)) := by kernel_rfl
theorem ln116 : lnR Try.prog 116 (.slice a n cp) w = .ok (.int .i64 n) w := lnR_slice T116
theorem T172 : TI Try.prog 172 (TypeDesc.slice 191) 1 24 (Value.slice none 0 0) := TI.mk' Try.underlying172 (by kernel_rfl)
theorem ln172 : lnR Try.prog 172 (.slice a n cp) w = .ok (.int .i64 n) w := lnR_slice T172
theorem T22 : TI Try.prog 22 (TypeDesc.slice 31) 1 24 (Value.slice none 0 0) := TI.mk' Try.underlying22 (by kernel_rfl)
theorem ln22 : lnR Try.prog 22 (.slice a n cp) w = .ok (.int .i64 n) w := lnR_slice T22
theorem ln34 : lnR Try.prog 34 (.slice a n cp) w = .ok (.int .i64 n) w := lnR_slice T34
theorem ln44 : lnR Try.prog 44 (.slice a n cp) w = .ok (.int .i64 n) w := lnR_slice T44
theorem T77 : TI Try.prog 77 (TypeDesc.slice 79) 1 24 (Value.slice none 0 0) := TI.mk' Try.underlying77 (by kernel_rfl)
theorem T89 : TI Try.prog 89 (TypeDesc.slice 91) 1 24 (Value.slice none 0 0) := TI.mk' Try.underlying89 (by kernel_rfl)
theorem call100 {args : Array Operand} {ts : Array TypeId} : rG Try.prog (.call { callee := .value (.func 100), args := args, argTypes := ts }) ty e w = .ok (.enter 100 (args.map (ev e))) w := rG_call Try.func100 (by kernel_rfl) (by kernel_rfl)
theorem call101 {args : Array Operand} {ts : Array TypeId} : rG Try.prog (.call { callee := .value (.func 101), args := args, argTypes := ts }) ty e w = .ok (.enter 101 (args.map (ev e))) w := rG_call Try.func101 (by kernel_rfl) (by kernel_rfl)
theorem call102 {args : Array Operand} {ts : Array TypeId} : rG Try.prog (.call { callee := .value (.func 102), args := args, argTypes := ts }) ty e w = .ok (.enter 102 (args.map (ev e))) w := rG_call Try.func102 (by kernel_rfl) (by kernel_rfl)
theorem call103 {args : Array Operand} {ts : Array TypeId} : rG Try.prog (.call { callee := .value (.func 103), args := args, argTypes := ts }) ty e w = .ok (.enter 103 (args.map (ev e))) w := rG_call Try.func103 (by kernel_rfl) (by kernel_rfl)
theorem call104 {args : Array Operand} {ts : Array TypeId} : rG Try.prog (.call { callee := .value (.func 104), args := args, argTypes := ts }) ty e w = .ok (.enter 104 (args.map (ev e))) w := rG_call Try.func104 (by kernel_rfl) (by kernel_rfl)
theorem call105 {args : Array Operand} {ts : Array TypeId} : rG Try.prog (.call { callee := .value (.func 105), args := args, argTypes := ts }) ty e w = .ok (.enter 105 (args.map (ev e))) w := rG_call Try.func105 (by kernel_rfl) (by kernel_rfl)
theorem call106 {args : Array Operand} {ts : Array TypeId} : rG Try.prog (.call { callee := .value (.func 106), args := args, argTypes := ts }) ty e w = .ok (.enter 106 (args.map (ev e))) w := rG_call Try.func106 (by kernel_rfl) (by kernel_rfl)
theorem call107 {args : Array Operand} {ts : Array TypeId} : rG Try.prog (.call { callee := .value (.func 107), args := args, argTypes := ts }) ty e w = .ok (.enter 107 (args.map (ev e))) w := rG_call Try.func107 (by kernel_rfl) (by kernel_rfl)
theorem call108 {args : Array Operand} {ts : Array TypeId} : rG Try.prog (.call { callee := .value (.func 108), args := args, argTypes := ts }) ty e w = .ok (.enter 108 (args.map (ev e))) w := rG_call Try.func108 (by kernel_rfl) (by kernel_rfl)
theorem call109 {args : Array Operand} {ts : Array TypeId} : rG Try.prog (.call { callee := .value (.func 109), args := args, argTypes := ts }) ty e w = .ok (.enter 109 (args.map (ev e))) w := rG_call Try.func109 (by kernel_rfl) (by kernel_rfl)
theorem call110 {args : Array Operand} {ts : Array TypeId} : rG Try.prog (.call { callee := .value (.func 110), args := args, argTypes := ts }) ty e w = .ok (.enter 110 (args.map (ev e))) w := rG_call Try.func110 (by kernel_rfl) (by kernel_rfl)
theorem call111 {args : Array Operand} {ts : Array TypeId} : rG Try.prog (.call { callee := .value (.func 111), args := args, argTypes := ts }) ty e w = .ok (.enter 111 (args.map (ev e))) w := rG_call Try.func111 (by kernel_rfl) (by kernel_rfl)
theorem call112 {args : Array Operand} {ts : Array TypeId} : rG Try.prog (.call { callee := .value (.func 112), args := args, argTypes := ts }) ty e w = .ok (.enter 112 (args.map (ev e))) w := rG_call Try.func112 (by kernel_rfl) (by kernel_rfl)
theorem call113 {args : Array Operand} {ts : Array TypeId} : rG Try.prog (.call { callee := .value (.func 113), args := args, argTypes := ts }) ty e w = .ok (.enter 113 (args.map (ev e))) w := rG_call Try.func113 (by kernel_rfl) (by kernel_rfl)
theorem call114 {args : Array Operand} {ts : Array TypeId} : rG Try.prog (.call { callee := .value (.func 114), args := args, argTypes := ts }) ty e w = .ok (.enter 114 (args.map (ev e))) w := rG_call Try.func114 (by kernel_rfl) (by kernel_rfl)
theorem call115 {args : Array Operand} {ts : Array TypeId} : rG Try.prog (.call { callee := .value (.func 115), args := args, argTypes := ts }) ty e w = .ok (.enter 115 (args.map (ev e))) w := rG_call Try.func115 (by kernel_rfl) (by kernel_rfl)
theorem call116 {args : Array Operand} {ts : Array TypeId} : rG Try.prog (.call { callee := .value (.func 116), args := args, argTypes := ts }) ty e w = .ok (.enter 116 (args.map (ev e))) w := rG_call Try.func116 (by kernel_rfl) (by kernel_rfl)
theorem call117 {args : Array Operand} {ts : Array TypeId} : rG Try.prog (.call { callee := .value (.func 117), args := args, argTypes := ts }) ty e w = .ok (.enter 117 (args.map (ev e))) w := rG_call Try.func117 (by kernel_rfl) (by kernel_rfl)
theorem call118 {args : Array Operand} {ts : Array TypeId} : rG Try.prog (.call { callee := .value (.func 118), args := args, argTypes := ts }) ty e w = .ok (.enter 118 (args.map (ev e))) w := rG_call Try.func118 (by kernel_rfl) (by kernel_rfl)
theorem call119 {args : Array Operand} {ts : Array TypeId} : rG Try.prog (.call { callee := .value (.func 119), args := args, argTypes := ts }) ty e w = .ok (.enter 119 (args.map (ev e))) w := rG_call Try.func119 (by kernel_rfl) (by kernel_rfl)
theorem call120 {args : Array Operand} {ts : Array TypeId} : rG Try.prog (.call { callee := .value (.func 120), args := args, argTypes := ts }) ty e w = .ok (.enter 120 (args.map (ev e))) w := rG_call Try.func120 (by kernel_rfl) (by kernel_rfl)
theorem call121 {args : Array Operand} {ts : Array TypeId} : rG Try.prog (.call { callee := .value (.func 121), args := args, argTypes := ts }) ty e w = .ok (.enter 121 (args.map (ev e))) w := rG_call Try.func121 (by kernel_rfl) (by kernel_rfl)
theorem call122 {args : Array Operand} {ts : Array TypeId} : rG Try.prog (.call { callee := .value (.func 122), args := args, argTypes := ts }) ty e w = .ok (.enter 122 (args.map (ev e))) w := rG_call Try.func122 (by kernel_rfl) (by kernel_rfl)
theorem call123 {args : Array Operand} {ts : Array TypeId} : rG Try.prog (.call { callee := .value (.func 123), args := args, argTypes := ts }) ty e w = .ok (.enter 123 (args.map (ev e))) w := rG_call Try.func123 (by kernel_rfl) (by kernel_rfl)
theorem call124 {args : Array Operand} {ts : Array TypeId} : rG Try.prog (.call { callee := .value (.func 124), args := args, argTypes := ts }) ty e w = .ok (.enter 124 (args.map (ev e))) w := rG_call Try.func124 (by kernel_rfl) (by kernel_rfl)
theorem call125 {args : Array Operand} {ts : Array TypeId} : rG Try.prog (.call { callee := .value (.func 125), args := args, argTypes := ts }) ty e w = .ok (.enter 125 (args.map (ev e))) w := rG_call Try.func125 (by kernel_rfl) (by kernel_rfl)
theorem call126 {args : Array Operand} {ts : Array TypeId} : rG Try.prog (.call { callee := .value (.func 126), args := args, argTypes := ts }) ty e w = .ok (.enter 126 (args.map (ev e))) w := rG_call Try.func126 (by kernel_rfl) (by kernel_rfl)
theorem call127 {args : Array Operand} {ts : Array TypeId} : rG Try.prog (.call { callee := .value (.func 127), args := args, argTypes := ts }) ty e w = .ok (.enter 127 (args.map (ev e))) w := rG_call Try.func127 (by kernel_rfl) (by kernel_rfl)
theorem call128 {args : Array Operand} {ts : Array TypeId} : rG Try.prog (.call { callee := .value (.func 128), args := args, argTypes := ts }) ty e w = .ok (.enter 128 (args.map (ev e))) w := rG_call Try.func128 (by kernel_rfl) (by kernel_rfl)
theorem call129 {args : Array Operand} {ts : Array TypeId} : rG Try.prog (.call { callee := .value (.func 129), args := args, argTypes := ts }) ty e w = .ok (.enter 129 (args.map (ev e))) w := rG_call Try.func129 (by kernel_rfl) (by kernel_rfl)
theorem call130 {args : Array Operand} {ts : Array TypeId} : rG Try.prog (.call { callee := .value (.func 130), args := args, argTypes := ts }) ty e w = .ok (.enter 130 (args.map (ev e))) w := rG_call Try.func130 (by kernel_rfl) (by kernel_rfl)
theorem call131 {args : Array Operand} {ts : Array TypeId} : rG Try.prog (.call { callee := .value (.func 131), args := args, argTypes := ts }) ty e w = .ok (.enter 131 (args.map (ev e))) w := rG_call Try.func131 (by kernel_rfl) (by kernel_rfl)
theorem call132 {args : Array Operand} {ts : Array TypeId} : rG Try.prog (.call { callee := .value (.func 132), args := args, argTypes := ts }) ty e w = .ok (.enter 132 (args.map (ev e))) w := rG_call Try.func132 (by kernel_rfl) (by kernel_rfl)
theorem call133 {args : Array Operand} {ts : Array TypeId} : rG Try.prog (.call { callee := .value (.func 133), args := args, argTypes := ts }) ty e w = .ok (.enter 133 (args.map (ev e))) w := rG_call Try.func133 (by kernel_rfl) (by kernel_rfl)
theorem call134 {args : Array Operand} {ts : Array TypeId} : rG Try.prog (.call { callee := .value (.func 134), args := args, argTypes := ts }) ty e w = .ok (.enter 134 (args.map (ev e))) w := rG_call Try.func134 (by kernel_rfl) (by kernel_rfl)
theorem call136 {args : Array Operand} {ts : Array TypeId} : rG Try.prog (.call { callee := .value (.func 136), args := args, argTypes := ts }) ty e w = .ok (.enter 136 (args.map (ev e))) w := rG_call Try.func136 (by kernel_rfl) (by kernel_rfl)
theorem call137 {args : Array Operand} {ts : Array TypeId} : rG Try.prog (.call { callee := .value (.func 137), args := args, argTypes := ts }) ty e w = .ok (.enter 137 (args.map (ev e))) w := rG_call Try.func137 (by kernel_rfl) (by kernel_rfl)
theorem call138 {args : Array Operand} {ts : Array TypeId} : rG Try.prog (.call { callee := .value (.func 138), args := args, argTypes := ts }) ty e w = .ok (.enter 138 (args.map (ev e))) w := rG_call Try.func138 (by kernel_rfl) (by kernel_rfl)
theorem call139 {args : Array Operand} {ts : Array TypeId} : rG Try.prog (.call { callee := .value (.func 139), args := args, argTypes := ts }) ty e w = .ok (.enter 139 (args.map (ev e))) w := rG_call Try.func139 (by kernel_rfl) (by kernel_rfl)
theorem call140 {args : Array Operand} {ts : Array TypeId} : rG Try.prog (.call { callee := .value (.func 140), args := args, argTypes := ts }) ty e w = .ok (.enter 140 (args.map (ev e))) w := rG_call Try.func140 (by kernel_rfl) (by kernel_rfl)
theorem call141 {args : Array Operand} {ts : Array TypeId} : rG Try.prog (.call { callee := .value (.func 141), args := args, argTypes := ts }) ty e w = .ok (.enter 141 (args.map (ev e))) w := rG_call Try.func141 (by kernel_rfl) (by kernel_rfl)
theorem call142 {args : Array Operand} {ts : Array TypeId} : rG Try.prog (.call { callee := .value (.func 142), args := args, argTypes := ts }) ty e w = .ok (.enter 142 (args.map (ev e))) w := rG_call Try.func142 (by kernel_rfl) (by kernel_rfl)
theorem call143 {args : Array Operand} {ts : Array TypeId} : rG Try.prog (.call { callee := .value (.func 143), args := args, argTypes := ts }) ty e w = .ok (.enter 143 (args.map (ev e))) w := rG_call Try.func143 (by kernel_rfl) (by kernel_rfl)
theorem call144 {args : Array Operand} {ts : Array TypeId} : rG Try.prog (.call { callee := .value (.func 144), args := args, argTypes := ts }) ty e w = .ok (.enter 144 (args.map (ev e))) w := rG_call Try.func144 (by kernel_rfl) (by kernel_rfl)
theorem call145 {args : Array Operand} {ts : Array TypeId} : rG Try.prog (.call { callee := .value (.func 145), args := args, argTypes := ts }) ty e w = .ok (.enter 145 (args.map (ev e))) w := rG_call Try.func145 (by kernel_rfl) (by kernel_rfl)
theorem call146 {args : Array Operand} {ts : Array TypeId} : rG Try.prog (.call { callee := .value (.func 146), args := args, argTypes := ts }) ty e w = .ok (.enter 146 (args.map (ev e))) w := rG_call Try.func146 (by kernel_rfl) (by kernel_rfl)
theorem call147 {args : Array Operand} {ts : Array TypeId} : rG Try.prog (.call { callee := .value (.func 147), args := args, argTypes := ts }) ty e w = .ok (.enter 147 (args.map (ev e))) w := rG_call Try.func147 (by kernel_rfl) (by kernel_rfl)
theorem call148 {args : Array Operand} {ts : Array TypeId} : rG Try.prog (.call { callee := .value (.func 148), args := args, argTypes := ts }) ty e w = .ok (.enter 148 (args.map (ev e))) w := rG_call Try.func148 (by kernel_rfl) (by kernel_rfl)
theorem call149 {args : Array Operand} {ts : Array TypeId} : rG Try.prog (.call { callee := .value (.func 149), args := args, argTypes := ts }) ty e w = .ok (.enter 149 (args.map (ev e))) w := rG_call Try.func149 (by kernel_rfl) (by kernel_rfl)
theorem call150 {args : Array Operand} {ts : Array TypeId} : rG Try.prog (.call { callee := .value (.func 150), args := args, argTypes := ts }) ty e w = .ok (.enter 150 (args.map (ev e))) w := rG_call Try.func150 (by kernel_rfl) (by kernel_rfl)
theorem call151 {args : Array Operand} {ts : Array TypeId} : rG Try.prog (.call { callee := .value (.func 151), args := args, argTypes := ts }) ty e w = .ok (.enter 151 (args.map (ev e))) w := rG_call Try.func151 (by kernel_rfl) (by kernel_rfl)
theorem call152 {args : Array Operand} {ts : Array TypeId} : rG Try.prog (.call { callee := .value (.func 152), args := args, argTypes := ts }) ty e w = .ok (.enter 152 (args.map (ev e))) w := rG_call Try.func152 (by kernel_rfl) (by kernel_rfl)
theorem call153 {args : Array Operand} {ts : Array TypeId} : rG Try.prog (.call { callee := .value (.func 153), args := args, argTypes := ts }) ty e w = .ok (.enter 153 (args.map (ev e))) w := rG_call Try.func153 (by kernel_rfl) (by kernel_rfl)
theorem call154 {args : Array Operand} {ts : Array TypeId} : rG Try.prog (.call { callee := .value (.func 154), args := args, argTypes := ts }) ty e w = .ok (.enter 154 (args.map (ev e))) w := rG_call Try.func154 (by kernel_rfl) (by kernel_rfl)
theorem call155 {args : Array Operand} {ts : Array TypeId} : rG Try.prog (.call { callee := .value (.func 155), args := args, argTypes := ts }) ty e w = .ok (.enter 155 (args.map (ev e))) w := rG_call Try.func155 (by kernel_rfl) (by kernel_rfl)
theorem call156 {args : Array Operand} {ts : Array TypeId} : rG Try.prog (.call { callee := .value (.func 156), args := args, argTypes := ts }) ty e w = .ok (.enter 156 (args.map (ev e))) w := rG_call Try.func156 (by kernel_rfl) (by kernel_rfl)
theorem call157 {args : Array Operand} {ts : Array TypeId} : rG Try.prog (.call { callee := .value (.func 157), args := args, argTypes := ts }) ty e w = .ok (.enter 157 (args.map (ev e))) w := rG_call Try.func157 (by kernel_rfl) (by kernel_rfl)
theorem call158 {args : Array Operand} {ts : Array TypeId} : rG Try.prog (.call { callee := .value (.func 158), args := args, argTypes := ts }) ty e w = .ok (.enter 158 (args.map (ev e))) w := rG_call Try.func158 (by kernel_rfl) (by kernel_rfl)
theorem call159 {args : Array Operand} {ts : Array TypeId} : rG Try.prog (.call { callee := .value (.func 159), args := args, argTypes := ts }) ty e w = .ok (.enter 159 (args.map (ev e))) w := rG_call Try.func159 (by kernel_rfl) (by kernel_rfl)
theorem call160 {args : Array Operand} {ts : Array TypeId} : rG Try.prog (.call { callee := .value (.func 160), args := args, argTypes := ts }) ty e w = .ok (.enter 160 (args.map (ev e))) w := rG_call Try.func160 (by kernel_rfl) (by kernel_rfl)
theorem call161 {args : Array Operand} {ts : Array TypeId} : rG Try.prog (.call { callee := .value (.func 161), args := args, argTypes := ts }) ty e w = .ok (.enter 161 (args.map (ev e))) w := rG_call Try.func161 (by kernel_rfl) (by kernel_rfl)
theorem call162 {args : Array Operand} {ts : Array TypeId} : rG Try.prog (.call { callee := .value (.func 162), args := args, argTypes := ts }) ty e w = .ok (.enter 162 (args.map (ev e))) w := rG_call Try.func162 (by kernel_rfl) (by kernel_rfl)
theorem call163 {args : Array Operand} {ts : Array TypeId} : rG Try.prog (.call { callee := .value (.func 163), args := args, argTypes := ts }) ty e w = .ok (.enter 163 (args.map (ev e))) w := rG_call Try.func163 (by kernel_rfl) (by kernel_rfl)
theorem call164 {args : Array Operand} {ts : Array TypeId} : rG Try.prog (.call { callee := .value (.func 164), args := args, argTypes := ts }) ty e w = .ok (.enter 164 (args.map (ev e))) w := rG_call Try.func164 (by kernel_rfl) (by kernel_rfl)
theorem call165 {args : Array Operand} {ts : Array TypeId} : rG Try.prog (.call { callee := .value (.func 165), args := args, argTypes := ts }) ty e w = .ok (.enter 165 (args.map (ev e))) w := rG_call Try.func165 (by kernel_rfl) (by kernel_rfl)
theorem call166 {args : Array Operand} {ts : Array TypeId} : rG Try.prog (.call { callee := .value (.func 166), args := args, argTypes := ts }) ty e w = .ok (.enter 166 (args.map (ev e))) w := rG_call Try.func166 (by kernel_rfl) (by kernel_rfl)
theorem call167 {args : Array Operand} {ts : Array TypeId} : rG Try.prog (.call { callee := .value (.func 167), args := args, argTypes := ts }) ty e w = .ok (.enter 167 (args.map (ev e))) w := rG_call Try.func167 (by kernel_rfl) (by kernel_rfl)
theorem call168 {args : Array Operand} {ts : Array TypeId} : rG Try.prog (.call { callee := .value (.func 168), args := args, argTypes := ts }) ty e w = .ok (.enter 168 (args.map (ev e))) w := rG_call Try.func168 (by kernel_rfl) (by kernel_rfl)
theorem call169 {args : Array Operand} {ts : Array TypeId} : rG Try.prog (.call { callee := .value (.func 169), args := args, argTypes := ts }) ty e w = .ok (.enter 169 (args.map (ev e))) w := rG_call Try.func169 (by kernel_rfl) (by kernel_rfl)
theorem call17 {args : Array Operand} {ts : Array TypeId} : rG Try.prog (.call { callee := .value (.func 17), args := args, argTypes := ts }) ty e w = .ok (.enter 17 (args.map (ev e))) w := rG_call Try.func17 (by kernel_rfl) (by kernel_rfl)
theorem call170 {args : Array Operand} {ts : Array TypeId} : rG Try.prog (.call { callee := .value (.func 170), args := args, argTypes := ts }) ty e w = .ok (.enter 170 (args.map (ev e))) w := rG_call Try.func170 (by kernel_rfl) (by kernel_rfl)
theorem call171 {args : Array Operand} {ts : Array TypeId} : rG Try.prog (.call { callee := .value (.func 171), args := args, argTypes := ts }) ty e w = .ok (.enter 171 (args.map (ev e))) w := rG_call Try.func171 (by kernel_rfl) (by kernel_rfl)
theorem call172 {args : Array Operand} {ts : Array TypeId} : rG Try.prog (.call { callee := .value (.func 172), args := args, argTypes := ts }) ty e w = .ok (.enter 172 (args.map (ev e))) w := rG_call Try.func172 (by kernel_rfl) (by kernel_rfl)
theorem call173 {args : Array Operand} {ts : Array TypeId} : rG Try.prog (.call { callee := .value (.func 173), args := args, argTypes := ts }) ty e w = .ok (.enter 173 (args.map (ev e))) w := rG_call Try.func173 (by kernel_rfl) (by kernel_rfl)
theorem call174 {args : Array Operand} {ts : Array TypeId} : rG Try.prog (.call { callee := .value (.func 174), args := args, argTypes := ts }) ty e w = .ok (.enter 174 (args.map (ev e))) w := rG_call Try.func174 (by kernel_rfl) (by kernel_rfl)
theorem call175 {args : Array Operand} {ts : Array TypeId} : rG Try.prog (.call { callee := .value (.func 175), args := args, argTypes := ts }) ty e w = .ok (.enter 175 (args.map (ev e))) w := rG_call Try.func175 (by kernel_rfl) (by kernel_rfl)
theorem call176 {args : Array Operand} {ts : Array TypeId} : rG Try.prog (.call { callee := .value (.func 176), args := args, argTypes := ts }) ty e w = .ok (.enter 176 (args.map (ev e))) w := rG_call Try.func176 (by kernel_rfl) (by kernel_rfl)
theorem call177 {args : Array Operand} {ts : Array TypeId} : rG Try.prog (.call { callee := .value (.func 177), args := args, argTypes := ts }) ty e w = .ok (.enter 177 (args.map (ev e))) w := rG_call Try.func177 (by kernel_rfl) (by kernel_rfl)
theorem call178 {args : Array Operand} {ts : Array TypeId} : rG Try.prog (.call { callee := .value (.func 178), args := args, argTypes := ts }) ty e w = .ok (.enter 178 (args.map (ev e))) w := rG_call Try.func178 (by kernel_rfl) (by kernel_rfl)
theorem call179 {args : Array Operand} {ts : Array TypeId} : rG Try.prog (.call { callee := .value (.func 179), args := args, argTypes := ts }) ty e w = .ok (.enter 179 (args.map (ev e))) w := rG_call Try.func179 (by kernel_rfl) (by kernel_rfl)
theorem call18 {args : Array Operand} {ts : Array TypeId} : rG Try.prog (.call { callee := .value (.func 18), args := args, argTypes := ts }) ty e w = .ok (.enter 18 (args.map (ev e))) w := rG_call Try.func18 (by kernel_rfl) (by kernel_rfl)
theorem call180 {args : Array Operand} {ts : Array TypeId} : rG Try.prog (.call { callee := .value (.func 180), args := args, argTypes := ts }) ty e w = .ok (.enter 180 (args.map (ev e))) w := rG_call Try.func180 (by kernel_rfl) (by kernel_rfl)
theorem call181 {args : Array Operand} {ts : Array TypeId} : rG Try.prog (.call { callee := .value (.func 181), args := args, argTypes := ts }) ty e w = .ok (.enter 181 (args.map (ev e))) w := rG_call Try.func181 (by kernel_rfl) (by kernel_rfl)
theorem call19 {args : Array Operand} {ts : Array TypeId} : rG Try.prog (.call { callee := .value (.func 19), args := args, argTypes := ts }) ty e w = .ok (.enter 19 (args.map (ev e))) w := rG_call Try.func19 (by kernel_rfl) (by kernel_rfl)
theorem call20 {args : Array Operand} {ts : Array TypeId} : rG Try.prog (.call { callee := .value (.func 20), args := args, argTypes := ts }) ty e w = .ok (.enter 20 (args.map (ev e))) w := rG_call Try.func20 (by kernel_rfl) (by kernel_rfl)
theorem call21 {args : Array Operand} {ts : Array TypeId} : rG Try.prog (.call { callee := .value (.func 21), args := args, argTypes := ts }) ty e w = .ok (.enter 21 (args.map (ev e))) w := rG_call Try.func21 (by kernel_rfl) (by kernel_rfl)
theorem call22 {args : Array Operand} {ts : Array TypeId} : rG Try.prog (.call { callee := .value (.func 22), args := args, argTypes := ts }) ty e w = .ok (.enter 22 (args.map (ev e))) w := rG_call Try.func22 (by kernel_rfl) (by kernel_rfl)
theorem call23 {args : Array Operand} {ts : Array TypeId} : rG Try.prog (.call { callee := .value (.func 23), args := args, argTypes := ts }) ty e w = .ok (.enter 23 (args.map (ev e))) w := rG_call Try.func23 (by kernel_rfl) (by kernel_rfl)
theorem call24 {args : Array Operand} {ts : Array TypeId} : rG Try.prog (.call { callee := .value (.func 24), args := args, argTypes := ts }) ty e w = .ok (.enter 24 (args.map (ev e))) w := rG_call Try.func24 (by kernel_rfl) (by kernel_rfl)
theorem call25 {args : Array Operand} {ts : Array TypeId} : rG Try.prog (.call { callee := .value (.func 25), args := args, argTypes := ts }) ty e w = .ok (.enter 25 (args.map (ev e))) w := rG_call Try.func25 (by kernel_rfl) (by kernel_rfl)
theorem call26 {args : Array Operand} {ts : Array TypeId} : rG Try.prog (.call { callee := .value (.func 26), args := args, argTypes := ts }) ty e w = .ok (.enter 26 (args.map (ev e))) w := rG_call Try.func26 (by kernel_rfl) (by kernel_rfl)
theorem call27 {args : Array Operand} {ts : Array TypeId} : rG Try.prog (.call { callee := .value (.func 27), args := args, argTypes := ts }) ty e w = .ok (.enter 27 (args.map (ev e))) w := rG_call Try.func27 (by kernel_rfl) (by kernel_rfl)
theorem call28 {args : Array Operand} {ts : Array TypeId} : rG Try.prog (.call { callee := .value (.func 28), args := args, argTypes := ts }) ty e w = .ok (.enter 28 (args.map (ev e))) w := rG_call Try.func28 (by kernel_rfl) (by kernel_rfl)
theorem call29 {args : Array Operand} {ts : Array TypeId} : rG Try.prog (.call { callee := .value (.func 29), args := args, argTypes := ts }) ty e w = .ok (.enter 29 (args.map (ev e))) w := rG_call Try.func29 (by kernel_rfl) (by kernel_rfl)
theorem call30 {args : Array Operand} {ts : Array TypeId} : rG Try.prog (.call { callee := .value (.func 30), args := args, argTypes := ts }) ty e w = .ok (.enter 30 (args.map (ev e))) w := rG_call Try.func30 (by kernel_rfl) (by kernel_rfl)
theorem call31 {args : Array Operand} {ts : Array TypeId} : rG Try.prog (.call { callee := .value (.func 31), args := args, argTypes := ts }) ty e w = .ok (.enter 31 (args.map (ev e))) w := rG_call Try.func31 (by kernel_rfl) (by kernel_rfl)
theorem call32 {args : Array Operand} {ts : Array TypeId} : rG Try.prog (.call { callee := .value (.func 32), args := args, argTypes := ts }) ty e w = .ok (.enter 32 (args.map (ev e))) w := rG_call Try.func32 (by kernel_rfl) (by kernel_rfl)
theorem call33 {args : Array Operand} {ts : Array TypeId} : rG Try.prog (.call { callee := .value (.func 33), args := args, argTypes := ts }) ty e w = .ok (.enter 33 (args.map (ev e))) w := rG_call Try.func33 (by kernel_rfl) (by kernel_rfl)
theorem call34 {args : Array Operand} {ts : Array TypeId} : rG Try.prog (.call { callee := .value (.func 34), args := args, argTypes := ts }) ty e w = .ok (.enter 34 (args.map (ev e))) w := rG_call Try.func34 (by kernel_rfl) (by kernel_rfl)
theorem call35 {args : Array Operand} {ts : Array TypeId} : rG Try.prog (.call { callee := .value (.func 35), args := args, argTypes := ts }) ty e w = .ok (.enter 35 (args.map (ev e))) w := rG_call Try.func35 (by kernel_rfl) (by kernel_rfl)
theorem call36 {args : Array Operand} {ts : Array TypeId} : rG Try.prog (.call { callee := .value (.func 36), args := args, argTypes := ts }) ty e w = .ok (.enter 36 (args.map (ev e))) w := rG_call Try.func36 (by kernel_rfl) (by kernel_rfl)
theorem call37 {args : Array Operand} {ts : Array TypeId} : rG Try.prog (.call { callee := .value (.func 37), args := args, argTypes := ts }) ty e w = .ok (.enter 37 (args.map (ev e))) w := rG_call Try.func37 (by kernel_rfl) (by kernel_rfl)
theorem call38 {args : Array Operand} {ts : Array TypeId} : rG Try.prog (.call { callee := .value (.func 38), args := args, argTypes := ts }) ty e w = .ok (.enter 38 (args.map (ev e))) w := rG_call Try.func38 (by kernel_rfl) (by kernel_rfl)
theorem call39 {args : Array Operand} {ts : Array TypeId} : rG Try.prog (.call { callee := .value (.func 39), args := args, argTypes := ts }) ty e w = .ok (.enter 39 (args.map (ev e))) w := rG_call Try.func39 (by kernel_rfl) (by kernel_rfl)
theorem call40 {args : Array Operand} {ts : Array TypeId} : rG Try.prog (.call { callee := .value (.func 40), args := args, argTypes := ts }) ty e w = .ok (.enter 40 (args.map (ev e))) w := rG_call Try.func40 (by kernel_rfl) (by kernel_rfl)
theorem call41 {args : Array Operand} {ts : Array TypeId} : rG Try.prog (.call { callee := .value (.func 41), args := args, argTypes := ts }) ty e w = .ok (.enter 41 (args.map (ev e))) w := rG_call Try.func41 (by kernel_rfl) (by kernel_rfl)
theorem call42 {args : Array Operand} {ts : Array TypeId} : rG Try.prog (.call { callee := .value (.func 42), args := args, argTypes := ts }) ty e w = .ok (.enter 42 (args.map (ev e))) w := rG_call Try.func42 (by kernel_rfl) (by kernel_rfl)
theorem call43 {args : Array Operand} {ts : Array TypeId} : rG Try.prog (.call { callee := .value (.func 43), args := args, argTypes := ts }) ty e w = .ok (.enter 43 (args.map (ev e))) w := rG_call Try.func43 (by kernel_rfl) (by kernel_rfl)
theorem call44 {args : Array Operand} {ts : Array TypeId} : rG Try.prog (.call { callee := .value (.func 44), args := args, argTypes := ts }) ty e w = .ok (.enter 44 (args.map (ev e))) w := rG_call Try.func44 (by kernel_rfl) (by kernel_rfl)
theorem call45 {args : Array Operand} {ts : Array TypeId} : rG Try.prog (.call { callee := .value (.func 45), args := args, argTypes := ts }) ty e w = .ok (.enter 45 (args.map (ev e))) w := rG_call Try.func45 (by kernel_rfl) (by kernel_rfl)
theorem call46 {args : Array Operand} {ts : Array TypeId} : rG Try.prog (.call { callee := .value (.func 46), args := args, argTypes := ts }) ty e w = .ok (.enter 46 (args.map (ev e))) w := rG_call Try.func46 (by kernel_rfl) (by kernel_rfl)
theorem call47 {args : Array Operand} {ts : Array TypeId} : rG Try.prog (.call { callee := .value (.func 47), args := args, argTypes := ts }) ty e w = .ok (.enter 47 (args.map (ev e))) w := rG_call Try.func47 (by kernel_rfl) (by kernel_rfl)
theorem call48 {args : Array Operand} {ts : Array TypeId} : rG Try.prog (.call { callee := .value (.func 48), args := args, argTypes := ts }) ty e w = .ok (.enter 48 (args.map (ev e))) w := rG_call Try.func48 (by kernel_rfl) (by kernel_rfl)
theorem call49 {args : Array Operand} {ts : Array TypeId} : rG Try.prog (.call { callee := .value (.func 49), args := args, argTypes := ts }) ty e w = .ok (.enter 49 (args.map (ev e))) w := rG_call Try.func49 (by kernel_rfl) (by kernel_rfl)
theorem call50 {args : Array Operand} {ts : Array TypeId} : rG Try.prog (.call { callee := .value (.func 50), args := args, argTypes := ts }) ty e w = .ok (.enter 50 (args.map (ev e))) w := rG_call Try.func50 (by kernel_rfl) (by kernel_rfl)
theorem call51 {args : Array Operand} {ts : Array TypeId} : rG Try.prog (.call { callee := .value (.func 51), args := args, argTypes := ts }) ty e w = .ok (.enter 51 (args.map (ev e))) w := rG_call Try.func51 (by kernel_rfl) (by kernel_rfl)
theorem call52 {args : Array Operand} {ts : Array TypeId} : rG Try.prog (.call { callee := .value (.func 52), args := args, argTypes := ts }) ty e w = .ok (.enter 52 (args.map (ev e))) w := rG_call Try.func52 (by kernel_rfl) (by kernel_rfl)
theorem call53 {args : Array Operand} {ts : Array TypeId} : rG Try.prog (.call { callee := .value (.func 53), args := args, argTypes := ts }) ty e w = .ok (.enter 53 (args.map (ev e))) w := rG_call Try.func53 (by kernel_rfl) (by kernel_rfl)
theorem call54 {args : Array Operand} {ts : Array TypeId} : rG Try.prog (.call { callee := .value (.func 54), args := args, argTypes := ts }) ty e w = .ok (.enter 54 (args.map (ev e))) w := rG_call Try.func54 (by kernel_rfl) (by kernel_rfl)
theorem call55 {args : Array Operand} {ts : Array TypeId} : rG Try.prog (.call { callee := .value (.func 55), args := args, argTypes := ts }) ty e w = .ok (.enter 55 (args.map (ev e))) w := rG_call Try.func55 (by kernel_rfl) (by kernel_rfl)
theorem call56 {args : Array Operand} {ts : Array TypeId} : rG Try.prog (.call { callee := .value (.func 56), args := args, argTypes := ts }) ty e w = .ok (.enter 56 (args.map (ev e))) w := rG_call Try.func56 (by kernel_rfl) (by kernel_rfl)
theorem call57 {args : Array Operand} {ts : Array TypeId} : rG Try.prog (.call { callee := .value (.func 57), args := args, argTypes := ts }) ty e w = .ok (.enter 57 (args.map (ev e))) w := rG_call Try.func57 (by kernel_rfl) (by kernel_rfl)
theorem call58 {args : Array Operand} {ts : Array TypeId} : rG Try.prog (.call { callee := .value (.func 58), args := args, argTypes := ts }) ty e w = .ok (.enter 58 (args.map (ev e))) w := rG_call Try.func58 (by kernel_rfl) (by kernel_rfl)
theorem call59 {args : Array Operand} {ts : Array TypeId} : rG Try.prog (.call { callee := .value (.func 59), args := args, argTypes := ts }) ty e w = .ok (.enter 59 (args.map (ev e))) w := rG_call Try.func59 (by kernel_rfl) (by kernel_rfl)
theorem call60 {args : Array Operand} {ts : Array TypeId} : rG Try.prog (.call { callee := .value (.func 60), args := args, argTypes := ts }) ty e w = .ok (.enter 60 (args.map (ev e))) w := rG_call Try.func60 (by kernel_rfl) (by kernel_rfl)
theorem call61 {args : Array Operand} {ts : Array TypeId} : rG Try.prog (.call { callee := .value (.func 61), args := args, argTypes := ts }) ty e w = .ok (.enter 61 (args.map (ev e))) w := rG_call Try.func61 (by kernel_rfl) (by kernel_rfl)
theorem call62 {args : Array Operand} {ts : Array TypeId} : rG Try.prog (.call { callee := .value (.func 62), args := args, argTypes := ts }) ty e w = .ok (.enter 62 (args.map (ev e))) w := rG_call Try.func62 (by kernel_rfl) (by kernel_rfl)
theorem call63 {args : Array Operand} {ts : Array TypeId} : rG Try.prog (.call { callee := .value (.func 63), args := args, argTypes := ts }) ty e w = .ok (.enter 63 (args.map (ev e))) w := rG_call Try.func63 (by kernel_rfl) (by kernel_rfl)
theorem call64 {args : Array Operand} {ts : Array TypeId} : rG Try.prog (.call { callee := .value (.func 64), args := args, argTypes := ts }) ty e w = .ok (.enter 64 (args.map (ev e))) w := rG_call Try.func64 (by kernel_rfl) (by kernel_rfl)
theorem call65 {args : Array Operand} {ts : Array TypeId} : rG Try.prog (.call { callee := .value (.func 65), args := args, argTypes := ts }) ty e w = .ok (.enter 65 (args.map (ev e))) w := rG_call Try.func65 (by kernel_rfl) (by kernel_rfl)
theorem call66 {args : Array Operand} {ts : Array TypeId} : rG Try.prog (.call { callee := .value (.func 66), args := args, argTypes := ts }) ty e w = .ok (.enter 66 (args.map (ev e))) w := rG_call Try.func66 (by kernel_rfl) (by kernel_rfl)
theorem call67 {args : Array Operand} {ts : Array TypeId} : rG Try.prog (.call { callee := .value (.func 67), args := args, argTypes := ts }) ty e w = .ok (.enter 67 (args.map (ev e))) w := rG_call Try.func67 (by kernel_rfl) (by kernel_rfl)
theorem call68 {args : Array Operand} {ts : Array TypeId} : rG Try.prog (.call { callee := .value (.func 68), args := args, argTypes := ts }) ty e w = .ok (.enter 68 (args.map (ev e))) w := rG_call Try.func68 (by kernel_rfl) (by kernel_rfl)
theorem call69 {args : Array Operand} {ts : Array TypeId} : rG Try.prog (.call { callee := .value (.func 69), args := args, argTypes := ts }) ty e w = .ok (.enter 69 (args.map (ev e))) w := rG_call Try.func69 (by kernel_rfl) (by kernel_rfl)
theorem call70 {args : Array Operand} {ts : Array TypeId} : rG Try.prog (.call { callee := .value (.func 70), args := args, argTypes := ts }) ty e w = .ok (.enter 70 (args.map (ev e))) w := rG_call Try.func70 (by kernel_rfl) (by kernel_rfl)
theorem call71 {args : Array Operand} {ts : Array TypeId} : rG Try.prog (.call { callee := .value (.func 71), args := args, argTypes := ts }) ty e w = .ok (.enter 71 (args.map (ev e))) w := rG_call Try.func71 (by kernel_rfl) (by kernel_rfl)
theorem call72 {args : Array Operand} {ts : Array TypeId} : rG Try.prog (.call { callee := .value (.func 72), args := args, argTypes := ts }) ty e w = .ok (.enter 72 (args.map (ev e))) w := rG_call Try.func72 (by kernel_rfl) (by kernel_rfl)
theorem call73 {args : Array Operand} {ts : Array TypeId} : rG Try.prog (.call { callee := .value (.func 73), args := args, argTypes := ts }) ty e w = .ok (.enter 73 (args.map (ev e))) w := rG_call Try.func73 (by kernel_rfl) (by kernel_rfl)
theorem call74 {args : Array Operand} {ts : Array TypeId} : rG Try.prog (.call { callee := .value (.func 74), args := args, argTypes := ts }) ty e w = .ok (.enter 74 (args.map (ev e))) w := rG_call Try.func74 (by kernel_rfl) (by kernel_rfl)
theorem call75 {args : Array Operand} {ts : Array TypeId} : rG Try.prog (.call { callee := .value (.func 75), args := args, argTypes := ts }) ty e w = .ok (.enter 75 (args.map (ev e))) w := rG_call Try.func75 (by kernel_rfl) (by kernel_rfl)
theorem call76 {args : Array Operand} {ts : Array TypeId} : rG Try.prog (.call { callee := .value (.func 76), args := args, argTypes := ts }) ty e w = .ok (.enter 76 (args.map (ev e))) w := rG_call Try.func76 (by kernel_rfl) (by kernel_rfl)
theorem call77 {args : Array Operand} {ts : Array TypeId} : rG Try.prog (.call { callee := .value (.func 77), args := args, argTypes := ts }) ty e w = .ok (.enter 77 (args.map (ev e))) w := rG_call Try.func77 (by kernel_rfl) (by kernel_rfl)
theorem call78 {args : Array Operand} {ts : Array TypeId} : rG Try.prog (.call { callee := .value (.func 78), args := args, argTypes := ts }) ty e w = .ok (.enter 78 (args.map (ev e))) w := rG_call Try.func78 (by kernel_rfl) (by kernel_rfl)
theorem call79 {args : Array Operand} {ts : Array TypeId} : rG Try.prog (.call { callee := .value (.func 79), args := args, argTypes := ts }) ty e w = .ok (.enter 79 (args.map (ev e))) w := rG_call Try.func79 (by kernel_rfl) (by kernel_rfl)
theorem call80 {args : Array Operand} {ts : Array TypeId} : rG Try.prog (.call { callee := .value (.func 80), args := args, argTypes := ts }) ty e w = .ok (.enter 80 (args.map (ev e))) w := rG_call Try.func80 (by kernel_rfl) (by kernel_rfl)
theorem call81 {args : Array Operand} {ts : Array TypeId} : rG Try.prog (.call { callee := .value (.func 81), args := args, argTypes := ts }) ty e w = .ok (.enter 81 (args.map (ev e))) w := rG_call Try.func81 (by kernel_rfl) (by kernel_rfl)
theorem call82 {args : Array Operand} {ts : Array TypeId} : rG Try.prog (.call { callee := .value (.func 82), args := args, argTypes := ts }) ty e w = .ok (.enter 82 (args.map (ev e))) w := rG_call Try.func82 (by kernel_rfl) (by kernel_rfl)
theorem call83 {args : Array Operand} {ts : Array TypeId} : rG Try.prog (.call { callee := .value (.func 83), args := args, argTypes := ts }) ty e w = .ok (.enter 83 (args.map (ev e))) w := rG_call Try.func83 (by kernel_rfl) (by kernel_rfl)
theorem call84 {args : Array Operand} {ts : Array TypeId} : rG Try.prog (.call { callee := .value (.func 84), args := args, argTypes := ts }) ty e w = .ok (.enter 84 (args.map (ev e))) w := rG_call Try.func84 (by kernel_rfl) (by kernel_rfl)
theorem call85 {args : Array Operand} {ts : Array TypeId} : rG Try.prog (.call { callee := .value (.func 85), args := args, argTypes := ts }) ty e w = .ok (.enter 85 (args.map (ev e))) w := rG_call Try.func85 (by kernel_rfl) (by kernel_rfl)
theorem call86 {args : Array Operand} {ts : Array TypeId} : rG Try.prog (.call { callee := .value (.func 86), args := args, argTypes := ts }) ty e w = .ok (.enter 86 (args.map (ev e))) w := rG_call Try.func86 (by kernel_rfl) (by kernel_rfl)
theorem call87 {args : Array Operand} {ts : Array TypeId} : rG Try.prog (.call { callee := .value (.func 87), args := args, argTypes := ts }) ty e w = .ok (.enter 87 (args.map (ev e))) w := rG_call Try.func87 (by kernel_rfl) (by kernel_rfl)
theorem call88 {args : Array Operand} {ts : Array TypeId} : rG Try.prog (.call { callee := .value (.func 88), args := args, argTypes := ts }) ty e w = .ok (.enter 88 (args.map (ev e))) w := rG_call Try.func88 (by kernel_rfl) (by kernel_rfl)
theorem call89 {args : Array Operand} {ts : Array TypeId} : rG Try.prog (.call { callee := .value (.func 89), args := args, argTypes := ts }) ty e w = .ok (.enter 89 (args.map (ev e))) w := rG_call Try.func89 (by kernel_rfl) (by kernel_rfl)
theorem call90 {args : Array Operand} {ts : Array TypeId} : rG Try.prog (.call { callee := .value (.func 90), args := args, argTypes := ts }) ty e w = .ok (.enter 90 (args.map (ev e))) w := rG_call Try.func90 (by kernel_rfl) (by kernel_rfl)
theorem call91 {args : Array Operand} {ts : Array TypeId} : rG Try.prog (.call { callee := .value (.func 91), args := args, argTypes := ts }) ty e w = .ok (.enter 91 (args.map (ev e))) w := rG_call Try.func91 (by kernel_rfl) (by kernel_rfl)
theorem call92 {args : Array Operand} {ts : Array TypeId} : rG Try.prog (.call { callee := .value (.func 92), args := args, argTypes := ts }) ty e w = .ok (.enter 92 (args.map (ev e))) w := rG_call Try.func92 (by kernel_rfl) (by kernel_rfl)
theorem call93 {args : Array Operand} {ts : Array TypeId} : rG Try.prog (.call { callee := .value (.func 93), args := args, argTypes := ts }) ty e w = .ok (.enter 93 (args.map (ev e))) w := rG_call Try.func93 (by kernel_rfl) (by kernel_rfl)
theorem call94 {args : Array Operand} {ts : Array TypeId} : rG Try.prog (.call { callee := .value (.func 94), args := args, argTypes := ts }) ty e w = .ok (.enter 94 (args.map (ev e))) w := rG_call Try.func94 (by kernel_rfl) (by kernel_rfl)
theorem call95 {args : Array Operand} {ts : Array TypeId} : rG Try.prog (.call { callee := .value (.func 95), args := args, argTypes := ts }) ty e w = .ok (.enter 95 (args.map (ev e))) w := rG_call Try.func95 (by kernel_rfl) (by kernel_rfl)
theorem call96 {args : Array Operand} {ts : Array TypeId} : rG Try.prog (.call { callee := .value (.func 96), args := args, argTypes := ts }) ty e w = .ok (.enter 96 (args.map (ev e))) w := rG_call Try.func96 (by kernel_rfl) (by kernel_rfl)
theorem call97 {args : Array Operand} {ts : Array TypeId} : rG Try.prog (.call { callee := .value (.func 97), args := args, argTypes := ts }) ty e w = .ok (.enter 97 (args.map (ev e))) w := rG_call Try.func97 (by kernel_rfl) (by kernel_rfl)
theorem call98 {args : Array Operand} {ts : Array TypeId} : rG Try.prog (.call { callee := .value (.func 98), args := args, argTypes := ts }) ty e w = .ok (.enter 98 (args.map (ev e))) w := rG_call Try.func98 (by kernel_rfl) (by kernel_rfl)
theorem call99 {args : Array Operand} {ts : Array TypeId} : rG Try.prog (.call { callee := .value (.func 99), args := args, argTypes := ts }) ty e w = .ok (.enter 99 (args.map (ev e))) w := rG_call Try.func99 (by kernel_rfl) (by kernel_rfl)
theorem T126 : TI Try.prog 126 (TypeDesc.int IntKind.u64) 1 8 (Value.int IntKind.u64 0) := TI.mk' Try.underlying126 (by kernel_rfl)
theorem cv3_126 : cvR Try.prog 3 126 (.int k i) w = .ok (.int .u64 (IntKind.u64.wrap i)) w := cvR_int T3 T126
theorem T52 : TI Try.prog 52 (TypeDesc.int IntKind.u64) 1 8 (Value.int IntKind.u64 0) := TI.mk' Try.underlying52 (by kernel_rfl)
theorem cv3_52 : cvR Try.prog 3 52 (.int k i) w = .ok (.int .u64 (IntKind.u64.wrap i)) w := cvR_int T3 T52
theorem cv52_3 : cvR Try.prog 52 3 (.int k i) w = .ok (.int .i64 (IntKind.i64.wrap i)) w := cvR_int T52 T3
theorem fa120_0 : faR Try.prog 120 (.pointer (some ⟨b, o, none⟩)) 0 w = .ok (.pointer (some ⟨b, o + 0, none⟩)) w := faR_of (ft := 3) (s2 := 1) (TI.mk' (sz := 20) (by_ := 192) (z := Value.agg #[Value.int IntKind.i64 0, Value.pointer none, Value.slice none 0 0, Value.slice none 0 0, Value.pointer none, Value.pointer none, Value.pointer none, Value.pointer none, Value.pointer none, Value.pointer none, Value.pointer none, Value.pointer none, Value.int IntKind.i64 0, Value.int IntKind.i64 0, Value.int IntKind.i64 0, Value.int IntKind.i64 0, Value.int IntKind.i64 0, Value.int IntKind.i64 0, Value.int IntKind.i64 0, Value.int IntKind.i64 0]) Try.underlying120 (by kernel_rfl)) rfl T3 (by decide)
theorem fa120_1 : faR Try.prog 120 (.pointer (some ⟨b, o, none⟩)) 1 w = .ok (.pointer (some ⟨b, o + 1, none⟩)) w := faR_of (ft := 114) (s2 := 1) (TI.mk' (sz := 20) (by_ := 192) (z := Value.agg #[Value.int IntKind.i64 0, Value.pointer none, Value.slice none 0 0, Value.slice none 0 0, Value.pointer none, Value.pointer none, Value.pointer none, Value.pointer none, Value.pointer none, Value.pointer none, Value.pointer none, Value.pointer none, Value.int IntKind.i64 0, Value.int IntKind.i64 0, Value.int IntKind.i64 0, Value.int IntKind.i64 0, Value.int IntKind.i64 0, Value.int IntKind.i64 0, Value.int IntKind.i64 0, Value.int IntKind.i64 0]) Try.underlying120 (by kernel_rfl)) rfl T114 (by decide)
theorem fa120_2 : faR Try.prog 120 (.pointer (some ⟨b, o, none⟩)) 2 w = .ok (.pointer (some ⟨b, o + 2, none⟩)) w := faR_of (ft := 116) (s2 := 1) (TI.mk' (sz := 20) (by_ := 192) (z := Value.agg #[Value.int IntKind.i64 0, Value.pointer none, Value.slice none 0 0, Value.slice none 0 0, Value.pointer none, Value.pointer none, Value.pointer none, Value.pointer none, Value.pointer none, Value.pointer none, Value.pointer none, Value.pointer none, Value.int IntKind.i64 0, Value.int IntKind.i64 0, Value.int IntKind.i64 0, Value.int IntKind.i64 0, Value.int IntKind.i64 0, Value.int IntKind.i64 0, Value.int IntKind.i64 0, Value.int IntKind.i64 0]) Try.underlying120 (by kernel_rfl)) rfl T116 (by decide)
theorem fa120_3 : faR Try.prog 120 (.pointer (some ⟨b, o, none⟩)) 3 w = .ok (.pointer (some ⟨b, o + 3, none⟩)) w := faR_of (ft := 34) (s2 := 1) (TI.mk' (sz := 20) (by_ := 192) (z := Value.agg #[Value.int IntKind.i64 0, Value.pointer none, Value.slice none 0 0, Value.slice none 0 0, Value.pointer none, Value.pointer none, Value.pointer none, Value.pointer none, Value.pointer none, Value.pointer none, Value.pointer none, Value.pointer none, Value.int IntKind.i64 0, Value.int IntKind.i64 0, Value.int IntKind.i64 0, Value.int IntKind.i64 0, Value.int IntKind.i64 0, Value.int IntKind.i64 0, Value.int IntKind.i64 0, Value.int IntKind.i64 0]) Try.underlying120 (by kernel_rfl)) rfl T34 (by decide)
theorem T118 : TI Try.prog 118 (TypeDesc.array 8 117) 8 64 (Value.agg #[Value.pointer none, Value.pointer none, Value.pointer none, Value.pointer none, Value.pointer none, Value.pointer none, Value.pointer none, Value.pointer none]) := TI.mk' Try.underlying118 (by kernel_rfl)
theorem fa120_4 : faR Try.prog 120 (.pointer (some ⟨b, o, none⟩)) 4 w = .ok (.pointer (some ⟨b, o + 4, none⟩)) w := faR_of (ft := 118) (s2 := 8) (TI.mk' (sz := 20) (by_ := 192) (z := Value.agg #[Value.int IntKind.i64 0, Value.pointer none, Value.slice none 0 0, Value.slice none 0 0, Value.pointer none, Value.pointer none, Value.pointer none, Value.pointer none, Value.pointer none, Value.pointer none, Value.pointer none, Value.pointer none, Value.int IntKind.i64 0, Value.int IntKind.i64 0, Value.int IntKind.i64 0, Value.int IntKind.i64 0, Value.int IntKind.i64 0, Value.int IntKind.i64 0, Value.int IntKind.i64 0, Value.int IntKind.i64 0]) Try.underlying120 (by kernel_rfl)) rfl T118 (by decide)
theorem fa120_5 : faR Try.prog 120 (.pointer (some ⟨b, o, none⟩)) 5 w = .ok (.pointer (some ⟨b, o + 12, none⟩)) w := faR_of (ft := 36) (s2 := 8) (TI.mk' (sz := 20) (by_ := 192) (z := Value.agg #[Value.int IntKind.i64 0, Value.pointer none, Value.slice none 0 0, Value.slice none 0 0, Value.pointer none, Value.pointer none, Value.pointer none, Value.pointer none, Value.pointer none, Value.pointer none, Value.pointer none, Value.pointer none, Value.int IntKind.i64 0, Value.int IntKind.i64 0, Value.int IntKind.i64 0, Value.int IntKind.i64 0, Value.int IntKind.i64 0, Value.int IntKind.i64 0, Value.int IntKind.i64 0, Value.int IntKind.i64 0]) Try.underlying120 (by kernel_rfl)) rfl T36 (by decide)
theorem T122 : TI Try.prog 122 (TypeDesc.pointer 169) 1 8 (Value.pointer none) := TI.mk' Try.underlying122 (by kernel_rfl)
theorem fa124_0 : faR Try.prog 124 (.pointer (some ⟨b, o, none⟩)) 0 w = .ok (.pointer (some ⟨b, o + 0, none⟩)) w := faR_of (ft := 122) (s2 := 1) (TI.mk' (sz := 10) (by_ := 96) (z := Value.agg #[Value.pointer none, Value.slice none 0 0, Value.int IntKind.i64 0, Value.int IntKind.i64 0, Value.int IntKind.i64 0, Value.int IntKind.i64 0, Value.int IntKind.i64 0, Value.int IntKind.i64 0, Value.int IntKind.i64 0, Value.int IntKind.i64 0]) Try.underlying124 (by kernel_rfl)) rfl T122 (by decide)
theorem fa124_1 : faR Try.prog 124 (.pointer (some ⟨b, o, none⟩)) 1 w = .ok (.pointer (some ⟨b, o + 1, none⟩)) w := faR_of (ft := 116) (s2 := 1) (TI.mk' (sz := 10) (by_ := 96) (z := Value.agg #[Value.pointer none, Value.slice none 0 0, Value.int IntKind.i64 0, Value.int IntKind.i64 0, Value.int IntKind.i64 0, Value.int IntKind.i64 0, Value.int IntKind.i64 0, Value.int IntKind.i64 0, Value.int IntKind.i64 0, Value.int IntKind.i64 0]) Try.underlying124 (by kernel_rfl)) rfl T116 (by decide)
theorem fa124_2 : faR Try.prog 124 (.pointer (some ⟨b, o, none⟩)) 2 w = .ok (.pointer (some ⟨b, o + 2, none⟩)) w := faR_of (ft := 36) (s2 := 8) (TI.mk' (sz := 10) (by_ := 96) (z := Value.agg #[Value.pointer none, Value.slice none 0 0, Value.int IntKind.i64 0, Value.int IntKind.i64 0, Value.int IntKind.i64 0, Value.int IntKind.i64 0, Value.int IntKind.i64 0, Value.int IntKind.i64 0, Value.int IntKind.i64 0, Value.int IntKind.i64 0]) Try.underlying124 (by kernel_rfl)) rfl T36 (by decide)
theorem T132 : TI Try.prog 132 (TypeDesc.map 182 3) 1 8 (Value.map none) := TI.mk' Try.underlying132 (by kernel_rfl)
theorem fa134_0 : faR Try.prog 134 (.pointer (some ⟨b, o, none⟩)) 0 w = .ok (.pointer (some ⟨b, o + 0, none⟩)) w := faR_of (ft := 132) (s2 := 1) (TI.mk' (sz := 1) (by_ := 8) (z := Value.agg #[Value.map none]) Try.underlying134 (by kernel_rfl)) rfl T132 (by decide)
theorem fa139_0 : faR Try.prog 139 (.pointer (some ⟨b, o, none⟩)) 0 w = .ok (.pointer (some ⟨b, o + 0, none⟩)) w := faR_of (ft := 24) (s2 := 1) (TI.mk' (sz := 2) (by_ := 16) (z := Value.agg #[Value.pointer none, Value.map none]) Try.underlying139 (by kernel_rfl)) rfl T24 (by decide)
theorem T137 : TI Try.prog 137 (TypeDesc.map 54 3) 1 8 (Value.map none) := TI.mk' Try.underlying137 (by kernel_rfl)
theorem fa139_1 : faR Try.prog 139 (.pointer (some ⟨b, o, none⟩)) 1 w = .ok (.pointer (some ⟨b, o + 1, none⟩)) w := faR_of (ft := 137) (s2 := 1) (TI.mk' (sz := 2) (by_ := 16) (z := Value.agg #[Value.pointer none, Value.map none]) Try.underlying139 (by kernel_rfl)) rfl T137 (by decide)
theorem fa152_0 : faR Try.prog 152 (.pointer (some ⟨b, o, none⟩)) 0 w = .ok (.pointer (some ⟨b, o + 0, none⟩)) w := faR_of (ft := 24) (s2 := 1) (TI.mk' (sz := 4) (by_ := 32) (z := Value.agg #[Value.pointer none, Value.int IntKind.i64 0, Value.bool false, Value.map none]) Try.underlying152 (by kernel_rfl)) rfl T24 (by decide)
theorem fa152_1 : faR Try.prog 152 (.pointer (some ⟨b, o, none⟩)) 1 w = .ok (.pointer (some ⟨b, o + 1, none⟩)) w := faR_of (ft := 3) (s2 := 1) (TI.mk' (sz := 4) (by_ := 32) (z := Value.agg #[Value.pointer none, Value.int IntKind.i64 0, Value.bool false, Value.map none]) Try.underlying152 (by kernel_rfl)) rfl T3 (by decide)
theorem fa152_2 : faR Try.prog 152 (.pointer (some ⟨b, o, none⟩)) 2 w = .ok (.pointer (some ⟨b, o + 2, none⟩)) w := faR_of (ft := 4) (s2 := 1) (TI.mk' (sz := 4) (by_ := 32) (z := Value.agg #[Value.pointer none, Value.int IntKind.i64 0, Value.bool false, Value.map none]) Try.underlying152 (by kernel_rfl)) rfl T4 (by decide)
theorem T150 : TI Try.prog 150 (TypeDesc.map 3 3) 1 8 (Value.map none) := TI.mk' Try.underlying150 (by kernel_rfl)
theorem fa152_3 : faR Try.prog 152 (.pointer (some ⟨b, o, none⟩)) 3 w = .ok (.pointer (some ⟨b, o + 3, none⟩)) w := faR_of (ft := 150) (s2 := 1) (TI.mk' (sz := 4) (by_ := 32) (z := Value.agg #[Value.pointer none, Value.int IntKind.i64 0, Value.bool false, Value.map none]) Try.underlying152 (by kernel_rfl)) rfl T150 (by decide)
theorem fa161_0 : faR Try.prog 161 (.pointer (some ⟨b, o, none⟩)) 0 w = .ok (.pointer (some ⟨b, o + 0, none⟩)) w := faR_of (ft := 24) (s2 := 1) (TI.mk' (sz := 6) (by_ := 64) (z := Value.agg #[Value.pointer none, Value.slice none 0 0, Value.int IntKind.i64 0, Value.int IntKind.i64 0, Value.int IntKind.i64 0, Value.int IntKind.i64 0]) Try.underlying161 (by kernel_rfl)) rfl T24 (by decide)
theorem fa161_1 : faR Try.prog 161 (.pointer (some ⟨b, o, none⟩)) 1 w = .ok (.pointer (some ⟨b, o + 1, none⟩)) w := faR_of (ft := 34) (s2 := 1) (TI.mk' (sz := 6) (by_ := 64) (z := Value.agg #[Value.pointer none, Value.slice none 0 0, Value.int IntKind.i64 0, Value.int IntKind.i64 0, Value.int IntKind.i64 0, Value.int IntKind.i64 0]) Try.underlying161 (by kernel_rfl)) rfl T34 (by decide)
theorem fa161_2 : faR Try.prog 161 (.pointer (some ⟨b, o, none⟩)) 2 w = .ok (.pointer (some ⟨b, o + 2, none⟩)) w := faR_of (ft := 3) (s2 := 1) (TI.mk' (sz := 6) (by_ := 64) (z := Value.agg #[Value.pointer none, Value.slice none 0 0, Value.int IntKind.i64 0, Value.int IntKind.i64 0, Value.int IntKind.i64 0, Value.int IntKind.i64 0]) Try.underlying161 (by kernel_rfl)) rfl T3 (by decide)
theorem fa161_3 : faR Try.prog 161 (.pointer (some ⟨b, o, none⟩)) 3 w = .ok (.pointer (some ⟨b, o + 3, none⟩)) w := faR_of (ft := 3) (s2 := 1) (TI.mk' (sz := 6) (by_ := 64) (z := Value.agg #[Value.pointer none, Value.slice none 0 0, Value.int IntKind.i64 0, Value.int IntKind.i64 0, Value.int IntKind.i64 0, Value.int IntKind.i64 0]) Try.underlying161 (by kernel_rfl)) rfl T3 (by decide)
theorem fa161_4 : faR Try.prog 161 (.pointer (some ⟨b, o, none⟩)) 4 w = .ok (.pointer (some ⟨b, o + 4, none⟩)) w := faR_of (ft := 3) (s2 := 1) (TI.mk' (sz := 6) (by_ := 64) (z := Value.agg #[Value.pointer none, Value.slice none 0 0, Value.int IntKind.i64 0, Value.int IntKind.i64 0, Value.int IntKind.i64 0, Value.int IntKind.i64 0]) Try.underlying161 (by kernel_rfl)) rfl T3 (by decide)
theorem fa161_5 : faR Try.prog 161 (.pointer (some ⟨b, o, none⟩)) 5 w = .ok (.pointer (some ⟨b, o + 5, none⟩)) w := faR_of (ft := 3) (s2 := 1) (TI.mk' (sz := 6) (by_ := 64) (z := Value.agg #[Value.pointer none, Value.slice none 0 0, Value.int IntKind.i64 0, Value.int IntKind.i64 0, Value.int IntKind.i64 0, Value.int IntKind.i64 0]) Try.underlying161 (by kernel_rfl)) rfl T3 (by decide)
theorem fa169_0 : faR Try.prog 169 (.pointer (some ⟨b, o, none⟩)) 0 w = .ok (.pointer (some ⟨b, o + 0, none⟩)) w := faR_of (ft := 3) (s2 := 1) (TI.mk' (sz := 4) (by_ := 64) (z := Value.agg #[Value.int IntKind.i64 0, Value.slice none 0 0, Value.slice none 0 0, Value.int IntKind.i64 0]) Try.underlying169 (by kernel_rfl)) rfl T3 (by decide)
theorem fa169_1 : faR Try.prog 169 (.pointer (some ⟨b, o, none⟩)) 1 w = .ok (.pointer (some ⟨b, o + 1, none⟩)) w := faR_of (ft := 34) (s2 := 1) (TI.mk' (sz := 4) (by_ := 64) (z := Value.agg #[Value.int IntKind.i64 0, Value.slice none 0 0, Value.slice none 0 0, Value.int IntKind.i64 0]) Try.underlying169 (by kernel_rfl)) rfl T34 (by decide)
theorem fa169_2 : faR Try.prog 169 (.pointer (some ⟨b, o, none⟩)) 2 w = .ok (.pointer (some ⟨b, o + 2, none⟩)) w := faR_of (ft := 34) (s2 := 1) (TI.mk' (sz := 4) (by_ := 64) (z := Value.agg #[Value.int IntKind.i64 0, Value.slice none 0 0, Value.slice none 0 0, Value.int IntKind.i64 0]) Try.underlying169 (by kernel_rfl)) rfl T34 (by decide)
theorem fa169_3 : faR Try.prog 169 (.pointer (some ⟨b, o, none⟩)) 3 w = .ok (.pointer (some ⟨b, o + 3, none⟩)) w := faR_of (ft := 3) (s2 := 1) (TI.mk' (sz := 4) (by_ := 64) (z := Value.agg #[Value.int IntKind.i64 0, Value.slice none 0 0, Value.slice none 0 0, Value.int IntKind.i64 0]) Try.underlying169 (by kernel_rfl)) rfl T3 (by decide)
theorem fa171_0 : faR Try.prog 171 (.pointer (some ⟨b, o, none⟩)) 0 w = .ok (.pointer (some ⟨b, o + 0, none⟩)) w := faR_of (ft := 3) (s2 := 1) (TI.mk' (sz := 3) (by_ := 56) (z := Value.agg #[Value.int IntKind.i64 0, Value.slice none 0 0, Value.slice none 0 0]) Try.underlying171 (by kernel_rfl)) rfl T3 (by decide)
theorem fa171_1 : faR Try.prog 171 (.pointer (some ⟨b, o, none⟩)) 1 w = .ok (.pointer (some ⟨b, o + 1, none⟩)) w := faR_of (ft := 44) (s2 := 1) (TI.mk' (sz := 3) (by_ := 56) (z := Value.agg #[Value.int IntKind.i64 0, Value.slice none 0 0, Value.slice none 0 0]) Try.underlying171 (by kernel_rfl)) rfl T44 (by decide)
theorem fa171_2 : faR Try.prog 171 (.pointer (some ⟨b, o, none⟩)) 2 w = .ok (.pointer (some ⟨b, o + 2, none⟩)) w := faR_of (ft := 34) (s2 := 1) (TI.mk' (sz := 3) (by_ := 56) (z := Value.agg #[Value.int IntKind.i64 0, Value.slice none 0 0, Value.slice none 0 0]) Try.underlying171 (by kernel_rfl)) rfl T34 (by decide)
theorem fa174_0 : faR Try.prog 174 (.pointer (some ⟨b, o, none⟩)) 0 w = .ok (.pointer (some ⟨b, o + 0, none⟩)) w := faR_of (ft := 172) (s2 := 1) (TI.mk' (sz := 2) (by_ := 32) (z := Value.agg #[Value.slice none 0 0, Value.int IntKind.i64 0]) Try.underlying174 (by kernel_rfl)) rfl T172 (by decide)
theorem fa174_1 : faR Try.prog 174 (.pointer (some ⟨b, o, none⟩)) 1 w = .ok (.pointer (some ⟨b, o + 1, none⟩)) w := faR_of (ft := 3) (s2 := 1) (TI.mk' (sz := 2) (by_ := 32) (z := Value.agg #[Value.slice none 0 0, Value.int IntKind.i64 0]) Try.underlying174 (by kernel_rfl)) rfl T3 (by decide)
theorem fa189_0 : faR Try.prog 189 (.pointer (some ⟨b, o, none⟩)) 0 w = .ok (.pointer (some ⟨b, o + 0, none⟩)) w := faR_of (ft := 3) (s2 := 1) (TI.mk' (sz := 2) (by_ := 16) (z := Value.agg #[Value.int IntKind.i64 0, Value.int IntKind.i64 0]) Try.underlying189 (by kernel_rfl)) rfl T3 (by decide)
theorem fa189_1 : faR Try.prog 189 (.pointer (some ⟨b, o, none⟩)) 1 w = .ok (.pointer (some ⟨b, o + 1, none⟩)) w := faR_of (ft := 3) (s2 := 1) (TI.mk' (sz := 2) (by_ := 16) (z := Value.agg #[Value.int IntKind.i64 0, Value.int IntKind.i64 0]) Try.underlying189 (by kernel_rfl)) rfl T3 (by decide)
theorem fa191_0 : faR Try.prog 191 (.pointer (some ⟨b, o, none⟩)) 0 w = .ok (.pointer (some ⟨b, o + 0, none⟩)) w := faR_of (ft := 189) (s2 := 2) (TI.mk' (sz := 4) (by_ := 32) (z := Value.agg #[Value.int IntKind.i64 0, Value.int IntKind.i64 0, Value.int IntKind.i64 0, Value.bool false]) Try.underlying191 (by kernel_rfl)) rfl (TI.mk' (sz := 2) (by_ := 16) (z := Value.agg #[Value.int IntKind.i64 0, Value.int IntKind.i64 0]) Try.underlying189 (by kernel_rfl)) (by decide)
theorem fa191_1 : faR Try.prog 191 (.pointer (some ⟨b, o, none⟩)) 1 w = .ok (.pointer (some ⟨b, o + 2, none⟩)) w := faR_of (ft := 3) (s2 := 1) (TI.mk' (sz := 4) (by_ := 32) (z := Value.agg #[Value.int IntKind.i64 0, Value.int IntKind.i64 0, Value.int IntKind.i64 0, Value.bool false]) Try.underlying191 (by kernel_rfl)) rfl T3 (by decide)
theorem fa191_2 : faR Try.prog 191 (.pointer (some ⟨b, o, none⟩)) 2 w = .ok (.pointer (some ⟨b, o + 3, none⟩)) w := faR_of (ft := 4) (s2 := 1) (TI.mk' (sz := 4) (by_ := 32) (z := Value.agg #[Value.int IntKind.i64 0, Value.int IntKind.i64 0, Value.int IntKind.i64 0, Value.bool false]) Try.underlying191 (by kernel_rfl)) rfl T4 (by decide)
theorem fa31_0 : faR Try.prog 31 (.pointer (some ⟨b, o, none⟩)) 0 w = .ok (.pointer (some ⟨b, o + 0, none⟩)) w := faR_of (ft := 3) (s2 := 1) (TI.mk' (sz := 5) (by_ := 40) (z := Value.agg #[Value.int IntKind.i64 0, Value.int IntKind.i64 0, Value.int IntKind.i64 0, Value.int IntKind.i64 0, Value.bool false]) Try.underlying31 (by kernel_rfl)) rfl T3 (by decide)
theorem fa31_1 : faR Try.prog 31 (.pointer (some ⟨b, o, none⟩)) 1 w = .ok (.pointer (some ⟨b, o + 1, none⟩)) w := faR_of (ft := 3) (s2 := 1) (TI.mk' (sz := 5) (by_ := 40) (z := Value.agg #[Value.int IntKind.i64 0, Value.int IntKind.i64 0, Value.int IntKind.i64 0, Value.int IntKind.i64 0, Value.bool false]) Try.underlying31 (by kernel_rfl)) rfl T3 (by decide)
theorem fa31_2 : faR Try.prog 31 (.pointer (some ⟨b, o, none⟩)) 2 w = .ok (.pointer (some ⟨b, o + 2, none⟩)) w := faR_of (ft := 3) (s2 := 1) (TI.mk' (sz := 5) (by_ := 40) (z := Value.agg #[Value.int IntKind.i64 0, Value.int IntKind.i64 0, Value.int IntKind.i64 0, Value.int IntKind.i64 0, Value.bool false]) Try.underlying31 (by kernel_rfl)) rfl T3 (by decide)
theorem fa31_3 : faR Try.prog 31 (.pointer (some ⟨b, o, none⟩)) 3 w = .ok (.pointer (some ⟨b, o + 3, none⟩)) w := faR_of (ft := 3) (s2 := 1) (TI.mk' (sz := 5) (by_ := 40) (z := Value.agg #[Value.int IntKind.i64 0, Value.int IntKind.i64 0, Value.int IntKind.i64 0, Value.int IntKind.i64 0, Value.bool false]) Try.underlying31 (by kernel_rfl)) rfl T3 (by decide)
theorem fa31_4 : faR Try.prog 31 (.pointer (some ⟨b, o, none⟩)) 4 w = .ok (.pointer (some ⟨b, o + 4, none⟩)) w := faR_of (ft := 4) (s2 := 1) (TI.mk' (sz := 5) (by_ := 40) (z := Value.agg #[Value.int IntKind.i64 0, Value.int IntKind.i64 0, Value.int IntKind.i64 0, Value.int IntKind.i64 0, Value.bool false]) Try.underlying31 (by kernel_rfl)) rfl T4 (by decide)
theorem fa39_0 : faR Try.prog 39 (.pointer (some ⟨b, o, none⟩)) 0 w = .ok (.pointer (some ⟨b, o + 0, none⟩)) w := faR_of (ft := 3) (s2 := 1) (TI.mk' (sz := 3) (by_ := 24) (z := Value.agg #[Value.int IntKind.i64 0, Value.int IntKind.i64 0, Value.int IntKind.i64 0]) Try.underlying39 (by kernel_rfl)) rfl T3 (by decide)
theorem fa39_1 : faR Try.prog 39 (.pointer (some ⟨b, o, none⟩)) 1 w = .ok (.pointer (some ⟨b, o + 1, none⟩)) w := faR_of (ft := 3) (s2 := 1) (TI.mk' (sz := 3) (by_ := 24) (z := Value.agg #[Value.int IntKind.i64 0, Value.int IntKind.i64 0, Value.int IntKind.i64 0]) Try.underlying39 (by kernel_rfl)) rfl T3 (by decide)
theorem fa39_2 : faR Try.prog 39 (.pointer (some ⟨b, o, none⟩)) 2 w = .ok (.pointer (some ⟨b, o + 2, none⟩)) w := faR_of (ft := 3) (s2 := 1) (TI.mk' (sz := 3) (by_ := 24) (z := Value.agg #[Value.int IntKind.i64 0, Value.int IntKind.i64 0, Value.int IntKind.i64 0]) Try.underlying39 (by kernel_rfl)) rfl T3 (by decide)
theorem fa79_0 : faR Try.prog 79 (.pointer (some ⟨b, o, none⟩)) 0 w = .ok (.pointer (some ⟨b, o + 0, none⟩)) w := faR_of (ft := 3) (s2 := 1) (TI.mk' (sz := 5) (by_ := 40) (z := Value.agg #[Value.int IntKind.i64 0, Value.int IntKind.i64 0, Value.int IntKind.i64 0, Value.int IntKind.i64 0, Value.bool false]) Try.underlying79 (by kernel_rfl)) rfl T3 (by decide)
theorem fa79_1 : faR Try.prog 79 (.pointer (some ⟨b, o, none⟩)) 1 w = .ok (.pointer (some ⟨b, o + 1, none⟩)) w := faR_of (ft := 3) (s2 := 1) (TI.mk' (sz := 5) (by_ := 40) (z := Value.agg #[Value.int IntKind.i64 0, Value.int IntKind.i64 0, Value.int IntKind.i64 0, Value.int IntKind.i64 0, Value.bool false]) Try.underlying79 (by kernel_rfl)) rfl T3 (by decide)
theorem fa79_2 : faR Try.prog 79 (.pointer (some ⟨b, o, none⟩)) 2 w = .ok (.pointer (some ⟨b, o + 2, none⟩)) w := faR_of (ft := 3) (s2 := 1) (TI.mk' (sz := 5) (by_ := 40) (z := Value.agg #[Value.int IntKind.i64 0, Value.int IntKind.i64 0, Value.int IntKind.i64 0, Value.int IntKind.i64 0, Value.bool false]) Try.underlying79 (by kernel_rfl)) rfl T3 (by decide)
theorem fa79_3 : faR Try.prog 79 (.pointer (some ⟨b, o, none⟩)) 3 w = .ok (.pointer (some ⟨b, o + 3, none⟩)) w := faR_of (ft := 3) (s2 := 1) (TI.mk' (sz := 5) (by_ := 40) (z := Value.agg #[Value.int IntKind.i64 0, Value.int IntKind.i64 0, Value.int IntKind.i64 0, Value.int IntKind.i64 0, Value.bool false]) Try.underlying79 (by kernel_rfl)) rfl T3 (by decide)
theorem fa79_4 : faR Try.prog 79 (.pointer (some ⟨b, o, none⟩)) 4 w = .ok (.pointer (some ⟨b, o + 4, none⟩)) w := faR_of (ft := 4) (s2 := 1) (TI.mk' (sz := 5) (by_ := 40) (z := Value.agg #[Value.int IntKind.i64 0, Value.int IntKind.i64 0, Value.int IntKind.i64 0, Value.int IntKind.i64 0, Value.bool false]) Try.underlying79 (by kernel_rfl)) rfl T4 (by decide)
theorem fa91_0 : faR Try.prog 91 (.pointer (some ⟨b, o, none⟩)) 0 w = .ok (.pointer (some ⟨b, o + 0, none⟩)) w := faR_of (ft := 3) (s2 := 1) (TI.mk' (sz := 6) (by_ := 40) (z := Value.agg #[Value.int IntKind.i64 0, Value.int IntKind.i64 0, Value.int IntKind.i64 0, Value.int IntKind.i64 0, Value.bool false, Value.bool false]) Try.underlying91 (by kernel_rfl)) rfl T3 (by decide)
theorem fa91_1 : faR Try.prog 91 (.pointer (some ⟨b, o, none⟩)) 1 w = .ok (.pointer (some ⟨b, o + 1, none⟩)) w := faR_of (ft := 3) (s2 := 1) (TI.mk' (sz := 6) (by_ := 40) (z := Value.agg #[Value.int IntKind.i64 0, Value.int IntKind.i64 0, Value.int IntKind.i64 0, Value.int IntKind.i64 0, Value.bool false, Value.bool false]) Try.underlying91 (by kernel_rfl)) rfl T3 (by decide)
theorem fa91_2 : faR Try.prog 91 (.pointer (some ⟨b, o, none⟩)) 2 w = .ok (.pointer (some ⟨b, o + 2, none⟩)) w := faR_of (ft := 3) (s2 := 1) (TI.mk' (sz := 6) (by_ := 40) (z := Value.agg #[Value.int IntKind.i64 0, Value.int IntKind.i64 0, Value.int IntKind.i64 0, Value.int IntKind.i64 0, Value.bool false, Value.bool false]) Try.underlying91 (by kernel_rfl)) rfl T3 (by decide)
theorem fa91_3 : faR Try.prog 91 (.pointer (some ⟨b, o, none⟩)) 3 w = .ok (.pointer (some ⟨b, o + 3, none⟩)) w := faR_of (ft := 3) (s2 := 1) (TI.mk' (sz := 6) (by_ := 40) (z := Value.agg #[Value.int IntKind.i64 0, Value.int IntKind.i64 0, Value.int IntKind.i64 0, Value.int IntKind.i64 0, Value.bool false, Value.bool false]) Try.underlying91 (by kernel_rfl)) rfl T3 (by decide)
theorem fa91_4 : faR Try.prog 91 (.pointer (some ⟨b, o, none⟩)) 4 w = .ok (.pointer (some ⟨b, o + 4, none⟩)) w := faR_of (ft := 4) (s2 := 1) (TI.mk' (sz := 6) (by_ := 40) (z := Value.agg #[Value.int IntKind.i64 0, Value.int IntKind.i64 0, Value.int IntKind.i64 0, Value.int IntKind.i64 0, Value.bool false, Value.bool false]) Try.underlying91 (by kernel_rfl)) rfl T4 (by decide)
theorem fa91_5 : faR Try.prog 91 (.pointer (some ⟨b, o, none⟩)) 5 w = .ok (.pointer (some ⟨b, o + 5, none⟩)) w := faR_of (ft := 4) (s2 := 1) (TI.mk' (sz := 6) (by_ := 40) (z := Value.agg #[Value.int IntKind.i64 0, Value.int IntKind.i64 0, Value.int IntKind.i64 0, Value.int IntKind.i64 0, Value.bool false, Value.bool false]) Try.underlying91 (by kernel_rfl)) rfl T4 (by decide)
theorem ix205 (h0 : 0 ≤ i) (h1 : i < 6) : iR Try.prog 205 (.agg cs) (.int k i) w = opt1 "part: no such cell" w (cs[i.toNat * 1]?) := iR_opt T205 T52 rfl h0 h1
theorem ix36 (h0 : 0 ≤ i) (h1 : i < 8) : iR Try.prog 36 (.agg cs) (.int k i) w = opt1 "part: no such cell" w (cs[i.toNat * 1]?) := iR_opt T36 T3 rfl h0 h1
theorem ix54 (h0 : 0 ≤ i) (h1 : i < 4) : iR Try.prog 54 (.agg cs) (.int k i) w = opt1 "part: no such cell" w (cs[i.toNat * 1]?) := iR_opt T54 T52 rfl h0 h1
theorem ia116 (h0 : 0 ≤ i) (h1 : i < n) : iaR Try.prog 116 (.slice (some ⟨b, o, none⟩) n cp) (.int k i) w = .ok (.pointer (some ⟨b, o + i.toNat * 3, none⟩)) w := iaR_slice T116 (TI.mk' (sz := 3) (by_ := 24) (z := Value.agg #[Value.int IntKind.i64 0, Value.int IntKind.i64 0, Value.int IntKind.i64 0]) Try.underlying39 (by kernel_rfl)) h0 h1
theorem T117 : TI Try.prog 117 (TypeDesc.pointer 174) 1 8 (Value.pointer none) := TI.mk' Try.underlying117 (by kernel_rfl)
theorem ia118 (h0 : 0 ≤ i) (h1 : i < 8) : iaR Try.prog 118 (.pointer (some ⟨b, o, none⟩)) (.int k i) w = .ok (.pointer (some ⟨b, o + i.toNat * 1, none⟩)) w := iaR_array T118 T117 h0 h1
theorem ia172 (h0 : 0 ≤ i) (h1 : i < n) : iaR Try.prog 172 (.slice (some ⟨b, o, none⟩) n cp) (.int k i) w = .ok (.pointer (some ⟨b, o + i.toNat * 4, none⟩)) w := iaR_slice T172 (TI.mk' (sz := 4) (by_ := 32) (z := Value.agg #[Value.int IntKind.i64 0, Value.int IntKind.i64 0, Value.int IntKind.i64 0, Value.bool false]) Try.underlying191 (by kernel_rfl)) h0 h1
theorem ia22 (h0 : 0 ≤ i) (h1 : i < n) : iaR Try.prog 22 (.slice (some ⟨b, o, none⟩) n cp) (.int k i) w = .ok (.pointer (some ⟨b, o + i.toNat * 5, none⟩)) w := iaR_slice T22 (TI.mk' (sz := 5) (by_ := 40) (z := Value.agg #[Value.int IntKind.i64 0, Value.int IntKind.i64 0, Value.int IntKind.i64 0, Value.int IntKind.i64 0, Value.bool false]) Try.underlying31 (by kernel_rfl)) h0 h1
theorem ia34 (h0 : 0 ≤ i) (h1 : i < n) : iaR Try.prog 34 (.slice (some ⟨b, o, none⟩) n cp) (.int k i) w = .ok (.pointer (some ⟨b, o + i.toNat * 1, none⟩)) w := iaR_slice T34 T3 h0 h1
theorem ia36 (h0 : 0 ≤ i) (h1 : i < 8) : iaR Try.prog 36 (.pointer (some ⟨b, o, none⟩)) (.int k i) w = .ok (.pointer (some ⟨b, o + i.toNat * 1, none⟩)) w := iaR_array T36 T3 h0 h1
theorem ia44 (h0 : 0 ≤ i) (h1 : i < n) : iaR Try.prog 44 (.slice (some ⟨b, o, none⟩) n cp) (.int k i) w = .ok (.pointer (some ⟨b, o + i.toNat * 1, none⟩)) w := iaR_slice T44 T4 h0 h1
theorem ia77 (h0 : 0 ≤ i) (h1 : i < n) : iaR Try.prog 77 (.slice (some ⟨b, o, none⟩) n cp) (.int k i) w = .ok (.pointer (some ⟨b, o + i.toNat * 5, none⟩)) w := iaR_slice T77 (TI.mk' (sz := 5) (by_ := 40) (z := Value.agg #[Value.int IntKind.i64 0, Value.int IntKind.i64 0, Value.int IntKind.i64 0, Value.int IntKind.i64 0, Value.bool false]) Try.underlying79 (by kernel_rfl)) h0 h1
theorem ia89 (h0 : 0 ≤ i) (h1 : i < n) : iaR Try.prog 89 (.slice (some ⟨b, o, none⟩) n cp) (.int k i) w = .ok (.pointer (some ⟨b, o + i.toNat * 6, none⟩)) w := iaR_slice T89 (TI.mk' (sz := 6) (by_ := 40) (z := Value.agg #[Value.int IntKind.i64 0, Value.int IntKind.i64 0, Value.int IntKind.i64 0, Value.int IntKind.i64 0, Value.bool false, Value.bool false]) Try.underlying91 (by kernel_rfl)) h0 h1
theorem ld114 : ldR Try.prog 114 (.pointer (some ⟨b, o, none⟩)) w = ld1 Try.prog b o w (rd1 (w.heap[b]?) o) := ldR_one T114 rfl
theorem ld116 : ldR Try.prog 116 (.pointer (some ⟨b, o, none⟩)) w = ld1 Try.prog b o w (rd1 (w.heap[b]?) o) := ldR_one T116 rfl
theorem ld117 : ldR Try.prog 117 (.pointer (some ⟨b, o, none⟩)) w = ld1 Try.prog b o w (rd1 (w.heap[b]?) o) := ldR_one T117 rfl
theorem ld122 : ldR Try.prog 122 (.pointer (some ⟨b, o, none⟩)) w = ld1 Try.prog b o w (rd1 (w.heap[b]?) o) := ldR_one T122 rfl
theorem ld132 : ldR Try.prog 132 (.pointer (some ⟨b, o, none⟩)) w = ld1 Try.prog b o w (rd1 (w.heap[b]?) o) := ldR_one T132 rfl
theorem ld137 : ldR Try.prog 137 (.pointer (some ⟨b, o, none⟩)) w = ld1 Try.prog b o w (rd1 (w.heap[b]?) o) := ldR_one T137 rfl
theorem ld150 : ldR Try.prog 150 (.pointer (some ⟨b, o, none⟩)) w = ld1 Try.prog b o w (rd1 (w.heap[b]?) o) := ldR_one T150 rfl
theorem ld172 : ldR Try.prog 172 (.pointer (some ⟨b, o, none⟩)) w = ld1 Try.prog b o w (rd1 (w.heap[b]?) o) := ldR_one T172 rfl
theorem ld182 : ldR Try.prog 182 (.pointer (some ⟨b, o, none⟩)) w = ldN Try.prog b o 3 w (rdN (w.heap[b]?) o 3) := ldR_agg (TI.mk' (sz := 3) (by_ := 24) (z := Value.agg #[Value.int IntKind.i64 0, Value.int IntKind.i64 0, Value.int IntKind.i64 0]) Try.underlying182 (by kernel_rfl)) rfl
theorem ld189 : ldR Try.prog 189 (.pointer (some ⟨b, o, none⟩)) w = ldN Try.prog b o 2 w (rdN (w.heap[b]?) o 2) := ldR_agg (TI.mk' (sz := 2) (by_ := 16) (z := Value.agg #[Value.int IntKind.i64 0, Value.int IntKind.i64 0]) Try.underlying189 (by kernel_rfl)) rfl
theorem ld191 : ldR Try.prog 191 (.pointer (some ⟨b, o, none⟩)) w = ldN Try.prog b o 4 w (rdN (w.heap[b]?) o 4) := ldR_agg (TI.mk' (sz := 4) (by_ := 32) (z := Value.agg #[Value.int IntKind.i64 0, Value.int IntKind.i64 0, Value.int IntKind.i64 0, Value.bool false]) Try.underlying191 (by kernel_rfl)) rfl
theorem ld206 : ldR Try.prog 206 (.pointer (some ⟨b, o, none⟩)) w = ld1 Try.prog b o w (rd1 (w.heap[b]?) o) := ldR_one T206 rfl
theorem ld24 : ldR Try.prog 24 (.pointer (some ⟨b, o, none⟩)) w = ld1 Try.prog b o w (rd1 (w.heap[b]?) o) := ldR_one T24 rfl
theorem ld3 : ldR Try.prog 3 (.pointer (some ⟨b, o, none⟩)) w = ld1 Try.prog b o w (rd1 (w.heap[b]?) o) := ldR_one T3 rfl
theorem ld31 : ldR Try.prog 31 (.pointer (some ⟨b, o, none⟩)) w = ldN Try.prog b o 5 w (rdN (w.heap[b]?) o 5) := ldR_agg (TI.mk' (sz := 5) (by_ := 40) (z := Value.agg #[Value.int IntKind.i64 0, Value.int IntKind.i64 0, Value.int IntKind.i64 0, Value.int IntKind.i64 0, Value.bool false]) Try.underlying31 (by kernel_rfl)) rfl
theorem ld34 : ldR Try.prog 34 (.pointer (some ⟨b, o, none⟩)) w = ld1 Try.prog b o w (rd1 (w.heap[b]?) o) := ldR_one T34 rfl
theorem ld36 : ldR Try.prog 36 (.pointer (some ⟨b, o, none⟩)) w = ldN Try.prog b o 8 w (rdN (w.heap[b]?) o 8) := ldR_agg T36 rfl
theorem ld39 : ldR Try.prog 39 (.pointer (some ⟨b, o, none⟩)) w = ldN Try.prog b o 3 w (rdN (w.heap[b]?) o 3) := ldR_agg (TI.mk' (sz := 3) (by_ := 24) (z := Value.agg #[Value.int IntKind.i64 0, Value.int IntKind.i64 0, Value.int IntKind.i64 0]) Try.underlying39 (by kernel_rfl)) rfl
theorem ld4 : ldR Try.prog 4 (.pointer (some ⟨b, o, none⟩)) w = ld1 Try.prog b o w (rd1 (w.heap[b]?) o) := ldR_one T4 rfl
theorem ld44 : ldR Try.prog 44 (.pointer (some ⟨b, o, none⟩)) w = ld1 Try.prog b o w (rd1 (w.heap[b]?) o) := ldR_one T44 rfl
theorem ld52 : ldR Try.prog 52 (.pointer (some ⟨b, o, none⟩)) w = ld1 Try.prog b o w (rd1 (w.heap[b]?) o) := ldR_one T52 rfl
theorem ld54 : ldR Try.prog 54 (.pointer (some ⟨b, o, none⟩)) w = ldN Try.prog b o 4 w (rdN (w.heap[b]?) o 4) := ldR_agg T54 rfl
theorem ld79 : ldR Try.prog 79 (.pointer (some ⟨b, o, none⟩)) w = ldN Try.prog b o 5 w (rdN (w.heap[b]?) o 5) := ldR_agg (TI.mk' (sz := 5) (by_ := 40) (z := Value.agg #[Value.int IntKind.i64 0, Value.int IntKind.i64 0, Value.int IntKind.i64 0, Value.int IntKind.i64 0, Value.bool false]) Try.underlying79 (by kernel_rfl)) rfl
theorem ld91 : ldR Try.prog 91 (.pointer (some ⟨b, o, none⟩)) w = ldN Try.prog b o 6 w (rdN (w.heap[b]?) o 6) := ldR_agg (TI.mk' (sz := 6) (by_ := 40) (z := Value.agg #[Value.int IntKind.i64 0, Value.int IntKind.i64 0, Value.int IntKind.i64 0, Value.int IntKind.i64 0, Value.bool false, Value.bool false]) Try.underlying91 (by kernel_rfl)) rfl
theorem mi127 : rG Try.prog (.makeInterface 127 x) ty e w = .ok (.value (.iface 127 (ev e x))) w := rG_makeInterface T127 (fun _ h => by cases h)
theorem sl34_hi (h0 : 0 ≤ i) (h1 : i ≤ cp) : slR Try.prog 34 (.slice a n cp) none (some (.int k i)) none w = .ok (.slice a i.toNat cp) w := slR_hi T34 T3 h0 h1
theorem sl34_lo (h0 : 0 ≤ i) (h1 : i ≤ n) : slR Try.prog 34 (.slice a n cp) (some (.int k i)) none none w = .ok (.slice (cutAddr a 1 i.toNat cp) (n - i.toNat) (cp - i.toNat)) w := slR_lo T34 T3 h0 h1
theorem st116 (hn : (vcs v).length = 1) (hv : (vcs v).all isCell = true) : stR Try.prog 116 (.pointer (some ⟨b, o, none⟩)) v w = stN Try.prog b o (vcs v) w (w.heap[b]?) := stR_vcs T116 hn hv
theorem st117 (hn : (vcs v).length = 1) (hv : (vcs v).all isCell = true) : stR Try.prog 117 (.pointer (some ⟨b, o, none⟩)) v w = stN Try.prog b o (vcs v) w (w.heap[b]?) := stR_vcs T117 hn hv
theorem st172 (hn : (vcs v).length = 1) (hv : (vcs v).all isCell = true) : stR Try.prog 172 (.pointer (some ⟨b, o, none⟩)) v w = stN Try.prog b o (vcs v) w (w.heap[b]?) := stR_vcs T172 hn hv
theorem st182 (hn : (vcs v).length = 3) (hv : (vcs v).all isCell = true) : stR Try.prog 182 (.pointer (some ⟨b, o, none⟩)) v w = stN Try.prog b o (vcs v) w (w.heap[b]?) := stR_vcs (TI.mk' (sz := 3) (by_ := 24) (z := Value.agg #[Value.int IntKind.i64 0, Value.int IntKind.i64 0, Value.int IntKind.i64 0]) Try.underlying182 (by kernel_rfl)) hn hv
theorem st189 (hn : (vcs v).length = 2) (hv : (vcs v).all isCell = true) : stR Try.prog 189 (.pointer (some ⟨b, o, none⟩)) v w = stN Try.prog b o (vcs v) w (w.heap[b]?) := stR_vcs (TI.mk' (sz := 2) (by_ := 16) (z := Value.agg #[Value.int IntKind.i64 0, Value.int IntKind.i64 0]) Try.underlying189 (by kernel_rfl)) hn hv
theorem st191 (hn : (vcs v).length = 4) (hv : (vcs v).all isCell = true) : stR Try.prog 191 (.pointer (some ⟨b, o, none⟩)) v w = stN Try.prog b o (vcs v) w (w.heap[b]?) := stR_vcs (TI.mk' (sz := 4) (by_ := 32) (z := Value.agg #[Value.int IntKind.i64 0, Value.int IntKind.i64 0, Value.int IntKind.i64 0, Value.bool false]) Try.underlying191 (by kernel_rfl)) hn hv
theorem st3 (hn : (vcs v).length = 1) (hv : (vcs v).all isCell = true) : stR Try.prog 3 (.pointer (some ⟨b, o, none⟩)) v w = stN Try.prog b o (vcs v) w (w.heap[b]?) := stR_vcs T3 hn hv
theorem st34 (hn : (vcs v).length = 1) (hv : (vcs v).all isCell = true) : stR Try.prog 34 (.pointer (some ⟨b, o, none⟩)) v w = stN Try.prog b o (vcs v) w (w.heap[b]?) := stR_vcs T34 hn hv
theorem st36 (hn : (vcs v).length = 8) (hv : (vcs v).all isCell = true) : stR Try.prog 36 (.pointer (some ⟨b, o, none⟩)) v w = stN Try.prog b o (vcs v) w (w.heap[b]?) := stR_vcs T36 hn hv
theorem st39 (hn : (vcs v).length = 3) (hv : (vcs v).all isCell = true) : stR Try.prog 39 (.pointer (some ⟨b, o, none⟩)) v w = stN Try.prog b o (vcs v) w (w.heap[b]?) := stR_vcs (TI.mk' (sz := 3) (by_ := 24) (z := Value.agg #[Value.int IntKind.i64 0, Value.int IntKind.i64 0, Value.int IntKind.i64 0]) Try.underlying39 (by kernel_rfl)) hn hv
theorem st4 (hn : (vcs v).length = 1) (hv : (vcs v).all isCell = true) : stR Try.prog 4 (.pointer (some ⟨b, o, none⟩)) v w = stN Try.prog b o (vcs v) w (w.heap[b]?) := stR_vcs T4 hn hv
theorem st44 (hn : (vcs v).length = 1) (hv : (vcs v).all isCell = true) : stR Try.prog 44 (.pointer (some ⟨b, o, none⟩)) v w = stN Try.prog b o (vcs v) w (w.heap[b]?) := stR_vcs T44 hn hv
theorem st79 (hn : (vcs v).length = 5) (hv : (vcs v).all isCell = true) : stR Try.prog 79 (.pointer (some ⟨b, o, none⟩)) v w = stN Try.prog b o (vcs v) w (w.heap[b]?) := stR_vcs (TI.mk' (sz := 5) (by_ := 40) (z := Value.agg #[Value.int IntKind.i64 0, Value.int IntKind.i64 0, Value.int IntKind.i64 0, Value.int IntKind.i64 0, Value.bool false]) Try.underlying79 (by kernel_rfl)) hn hv
theorem st91 (hn : (vcs v).length = 6) (hv : (vcs v).all isCell = true) : stR Try.prog 91 (.pointer (some ⟨b, o, none⟩)) v w = stN Try.prog b o (vcs v) w (w.heap[b]?) := stR_vcs (TI.mk' (sz := 6) (by_ := 40) (z := Value.agg #[Value.int IntKind.i64 0, Value.int IntKind.i64 0, Value.int IntKind.i64 0, Value.int IntKind.i64 0, Value.bool false, Value.bool false]) Try.underlying91 (by kernel_rfl)) hn hv
theorem T2 : TI Try.prog 2 (TypeDesc.int IntKind.i64) 1 8 (Value.int IntKind.i64 0) := TI.mk' Try.underlying2 (by kernel_rfl)
end
attribute [push_cast] bd120_0_1_5 bd124_0_2 bd134_0 bd139_0_1 bd152_0_1_2_3 bd161_0_1_2_3_5 bd169_0 bd171_0 bd174_0 bd182_0_1_2 bd189_0_1 bd191_ bd191_0_1_2 bd205_0_1_2_3_4_5 bd36_0_1_2_3_4_5_6_7 bd39_ bd39_0_1_2 bd54_ bs116_1 bs34_0 bs34_1 bs34_2 bs34_3 bs44_1 bs65_0 bs65_1 bs65_2 call100 call101 call102 call103 call104 call105 call106 call107 call108 call109 call110 call111 call112 call113 call114 call115 call116 call117 call118 call119 call120 call121 call122 call123 call124 call125 call126 call127 call128 call129 call130 call131 call132
attribute [push_cast] call133 call134 call136 call137 call138 call139 call140 call141 call142 call143 call144 call145 call146 call147 call148 call149 call150 call151 call152 call153 call154 call155 call156 call157 call158 call159 call160 call161 call162 call163 call164 call165 call166 call167 call168 call169 call17 call170 call171 call172 call173 call174 call175 call176 call177 call178 call179 call18 call180 call181 call19 call20 call21 call22 call23 call24 call25 call26 call27 call28
attribute [push_cast] call29 call30 call31 call32 call33 call34 call35 call36 call37 call38 call39 call40 call41 call42 call43 call44 call45 call46 call47 call48 call49 call50 call51 call52 call53 call54 call55 call56 call57 call58 call59 call60 call61 call62 call63 call64 call65 call66 call67 call68 call69 call70 call71 call72 call73 call74 call75 call76 call77 call78 call79 call80 call81 call82 call83 call84 call85 call86 call87 call88
attribute [push_cast] call89 call90 call91 call92 call93 call94 call95 call96 call97 call98 call99 ceql_ii_47_127 ceql_in_47 ceql_ni_47 ceql_nn_47 ceql_pa_114 ceql_pa_24 ceql_pp_114 ceql_pp_24 ceql_sa_34 ceql_ss_34 cneq_ii_47_127 cneq_in_47 cneq_ni_47 cneq_nn_47 cv3_126 cv3_52 cv52_3 eqneq_4 fa120_0 fa120_1 fa120_2 fa120_3 fa120_4 fa120_5 fa124_0 fa124_1 fa124_2 fa134_0 fa139_0 fa139_1 fa152_0 fa152_1 fa152_2 fa152_3 fa161_0 fa161_1
attribute [push_cast] fa161_2 fa161_3 fa161_4 fa161_5 fa169_0 fa169_1 fa169_2 fa169_3 fa171_0 fa171_1 fa171_2 fa174_0 fa174_1 fa189_0 fa189_1 fa191_0 fa191_1 fa191_2 fa31_0 fa31_1 fa31_2 fa31_3 fa31_4 fa39_0 fa39_1 fa39_2 fa79_0 fa79_1 fa79_2 fa79_3 fa79_4 fa91_0 fa91_1 fa91_2 fa91_3 fa91_4 fa91_5 ia116 ia118 ia172 ia22 ia34 ia36 ia44 ia77 ia89 ix205 ix36 ix54 ld114 ld116 ld117 ld122 ld132 ld137 ld150 ld172
attribute [push_cast] ld182 ld189 ld191 ld206 ld24 ld3 ld31 ld34 ld36 ld39 ld4 ld44 ld52 ld54 ld79 ld91 ln116 ln172 ln22 ln34 ln44 mi127 rG_alloc_182 rG_alloc_189 rG_alloc_191 rG_alloc_36 rG_alloc_39 rG_alloc_79 rG_alloc_91 sl34_hi sl34_lo st116 st117 st172 st182 st189 st191 st3 st34 st36 st39 st4 st44 st79 st91
end Go.Proofs.Ytpeindhocndmnaa

namespace Go.Bx
open Go
set_option linter.unusedSimpArgs false
set_option linter.unusedVariables false
abbrev Ky := Int × Int
abbrev Tb := List (Option (Ky × Int))
def occ (T : Tb) (p : Nat) : Option (Ky × Int) := (T[p]?).getD none
def cyc (n a b : Nat) : Nat := if a + b < n then a + b else a + b - n
theorem occ_set {T : Tb} {p q : Nat} {y : Option (Ky × Int)} (hp : p < T.length) : occ (T.set p y) q = if q = p then y else occ T q := by
  unfold occ
  by_cases h : q = p
  · subst h; rw [List.getElem?_set_self hp, if_pos rfl]; rfl
  · rw [List.getElem?_set_ne (fun e => h e.symm), if_neg h]
theorem occ_lt {T : Tb} {p : Nat} {x : Ky × Int} (h : occ T p = some x) : p < T.length := by
  by_cases hp : p < T.length
  · exact hp
  · unfold occ at h; rw [List.getElem?_eq_none (by omega)] at h; cases h
theorem occ_get {T : Tb} {p : Nat} (h : p < T.length) : T[p]? = some (occ T p) := by
  unfold occ; rw [List.getElem?_eq_getElem h]; rfl
section
variable {n a b c d : Nat}
theorem cyc_lt (ha : a < n) (hb : b ≤ n) : cyc n a b < n := by unfold cyc; split <;> omega
theorem cyc_zero (ha : a < n) : cyc n a 0 = a := by unfold cyc; split <;> omega
theorem cyc_succ (ha : a < n) (hd : d < n) : cyc n (cyc n a d) 1 = cyc n a (d + 1) := by unfold cyc; split <;> split <;> split <;> omega
theorem cyc_inj (ha : a < n) (hc : c < n) (hd : d < n) (h : cyc n a c = cyc n a d) : c = d := by unfold cyc at h; split at h <;> split at h <;> omega
theorem cyc_sur {p : Nat} (ha : a < n) (hp : p < n) : ∃ d, d < n ∧ p = cyc n a d := by
  by_cases h : a ≤ p
  · exact ⟨p - a, by omega, by unfold cyc; split <;> omega⟩
  · exact ⟨p + n - a, by omega, by unfold cyc; split <;> omega⟩
theorem cyc_add (ha : a < n) (h : b + c < n) : cyc n (cyc n a b) c = cyc n a (b + c) := by unfold cyc; split <;> split <;> split <;> omega
end
def crd (n b h : Nat) : Nat := if b ≤ h then h - b else h + n - b
theorem crd_lt {n b h : Nat} (hb : b < n) (hh : h < n) : crd n b h < n := by unfold crd; split <;> omega
theorem cyc_crd {n b h : Nat} (hb : b < n) (hh : h < n) : cyc n b (crd n b h) = h := by unfold crd cyc; split <;> split <;> omega
theorem least {p : Nat → Prop} : ∀ (n : Nat), p n → ∃ m, m ≤ n ∧ p m ∧ ∀ j, j < m → ¬ p j := by
  intro n
  induction n using Nat.strongRecOn with
  | _ n ih =>
    intro h
    by_cases hex : ∃ j, j < n ∧ p j
    · obtain ⟨j, hj, hp⟩ := hex
      obtain ⟨m, h1, h2, h3⟩ := ih j hj hp
      exact ⟨m, by omega, h2, h3⟩
    · exact ⟨n, Nat.le_refl _, h, fun j hj hp => hex ⟨j, hj, hp⟩⟩
section
variable (H : Ky → Nat → Nat)
def Finds (T : Tb) (k : Ky) (i : Nat) : Prop := ∃ d, d < T.length ∧ i = cyc T.length (H k T.length) d ∧ (∀ j, j < d → ∃ x, occ T (cyc T.length (H k T.length) j) = some x ∧ x.1 ≠ k) ∧ (occ T i = none ∨ ∃ v, occ T i = some (k, v))
structure TbInv (T : Tb) : Prop where
  pos : 0 < T.length
  reach : ∀ p k v, occ T p = some (k, v) → ∃ d, d < T.length ∧ p = cyc T.length (H k T.length) d ∧ ∀ j, j < d → occ T (cyc T.length (H k T.length) j) ≠ none
  nodup : ∀ p p' k v v', occ T p = some (k, v) → occ T p' = some (k, v') → p = p'
def MemT (T : Tb) (k : Ky) (v : Int) : Prop := ∃ p, occ T p = some (k, v)
end
section
variable {H : Ky → Nat → Nat} (hH : ∀ k n, 0 < n → H k n < n) {T : Tb}
theorem Finds.uniq {k : Ky} {i i' : Nat} (h : Finds H T k i) (h' : Finds H T k i') : i = i' := by
  obtain ⟨d, hd, rfl, hp, ho⟩ := h
  obtain ⟨d', hd', rfl, hp', ho'⟩ := h'
  have key : ∀ {d d' : Nat}, (occ T (cyc T.length (H k T.length) d) = none ∨ ∃ v, occ T (cyc T.length (H k T.length) d) = some (k, v)) → (∀ j, j < d' → ∃ x, occ T (cyc T.length (H k T.length) j) = some x ∧ x.1 ≠ k) → ¬ d < d' := by
    intro d d' ho hp hlt
    obtain ⟨x, hx, hne⟩ := hp d hlt
    rcases ho with h | ⟨v, h⟩
    · rw [h] at hx; cases hx
    · rw [h] at hx; cases hx; exact hne rfl
  have h1 := key ho hp'
  have h2 := key ho' hp
  have : d = d' := by omega
  rw [this]
include hH
theorem TbInv.home (I : TbInv H T) (k : Ky) : H k T.length < T.length := hH k _ I.pos
theorem TbInv.finds_mem (I : TbInv H T) {p : Nat} {k : Ky} {v : Int} (h : occ T p = some (k, v)) : Finds H T k p := by
  have hh := I.home hH k
  obtain ⟨d, hd, he, hpath⟩ := I.reach p k v h
  refine ⟨d, hd, he, fun j hj => ?_, .inr ⟨v, h⟩⟩
  cases ho : occ T (cyc T.length (H k T.length) j) with
  | none => exact absurd ho (hpath j hj)
  | some x =>
    refine ⟨x, rfl, fun hk => ?_⟩
    obtain ⟨k', v'⟩ := x
    obtain rfl : k' = k := hk
    have := I.nodup _ _ _ _ _ ho h
    rw [he] at this
    have := cyc_inj hh (by omega) hd this
    omega
theorem TbInv.finds_none (I : TbInv H T) {i : Nat} {k : Ky} (hf : Finds H T k i) (hn : occ T i = none) : ∀ p v, occ T p ≠ some (k, v) := by
  intro p v h
  have := (I.finds_mem hH h).uniq hf
  rw [this, hn] at h; cases h
theorem TbInv.put (I : TbInv H T) {i : Nat} {k : Ky} (v : Int) (hf : Finds H T k i) (hn : occ T i = none) :
    TbInv H (T.set i (some (k, v))) ∧ ∀ k' v', MemT (T.set i (some (k, v))) k' v' ↔ MemT T k' v' ∨ (k' = k ∧ v' = v) := by
  have hh := I.home hH k
  have hno := I.finds_none hH hf hn
  obtain ⟨d, hd, rfl, hpath, _⟩ := hf
  have hi := cyc_lt hh (Nat.le_of_lt hd)
  generalize hie : cyc T.length (H k T.length) d = i at *
  have hset : ∀ q, occ (T.set i (some (k, v))) q = if q = i then some (k, v) else occ T q := fun q => occ_set hi
  have hkeep : ∀ q, occ T q ≠ none → occ (T.set i (some (k, v))) q ≠ none := by
    intro q hq
    rw [hset]; split
    · simp
    · exact hq
  refine ⟨⟨by rw [List.length_set]; exact I.pos, fun p k' v' hp => ?_, fun p p' k' v' v'' hp hp' => ?_⟩, fun k' v' => ?_⟩
  · rw [List.length_set]
    rw [hset] at hp
    split at hp
    · rename_i h
      cases hp
      subst h
      refine ⟨d, hd, hie.symm, fun j hj => hkeep _ ?_⟩
      obtain ⟨x, hx, _⟩ := hpath j hj
      rw [hx]; simp
    · obtain ⟨d', h1, h2, h3⟩ := I.reach p k' v' hp
      exact ⟨d', h1, h2, fun j hj => hkeep _ (h3 j hj)⟩
  · rw [hset] at hp hp'
    split at hp
    · cases hp
      split at hp'
      · omega
      · exact absurd hp' (hno _ _)
    · split at hp'
      · cases hp'; exact absurd hp (hno _ _)
      · exact I.nodup _ _ _ _ _ hp hp'
  · constructor
    · rintro ⟨p, hp⟩
      rw [hset] at hp
      split at hp
      · cases hp; exact .inr ⟨rfl, rfl⟩
      · exact .inl ⟨p, hp⟩
    · rintro (⟨p, hp⟩ | ⟨rfl, rfl⟩)
      · refine ⟨p, ?_⟩
        rw [hset, if_neg]
        · exact hp
        · rintro rfl; rw [hn] at hp; cases hp
      · exact ⟨i, by rw [hset, if_pos rfl]⟩
theorem TbInv.line (I : TbInv H T) {b : Nat} (hb : b < T.length) (hz : occ T (cyc T.length b (T.length - 1)) = none) {q : Nat} {k : Ky} {v : Int} (hq : q < T.length) (h : occ T (cyc T.length b q) = some (k, v)) :
    crd T.length b (H k T.length) ≤ q ∧ ∀ r, crd T.length b (H k T.length) ≤ r → r ≤ q → occ T (cyc T.length b r) ≠ none := by
  have hh := I.home hH k
  have hc := crd_lt hb hh
  have hcc := cyc_crd hb hh
  obtain ⟨d, hd, he, hpath⟩ := I.reach _ k v h
  generalize crd T.length b (H k T.length) = c at *
  have step : ∀ j, c + j < T.length → cyc T.length (H k T.length) j = cyc T.length b (c + j) := by
    intro j hj; rw [← hcc]; exact cyc_add hb hj
  have hcq : c ≤ q := by
    by_cases hlt : c + d < T.length
    · rw [step d hlt] at he
      have := cyc_inj hb hq hlt he
      omega
    · exfalso
      have := hpath (T.length - 1 - c) (by omega)
      rw [step _ (by omega), show c + (T.length - 1 - c) = T.length - 1 by omega] at this
      exact this hz
  have hdq : d = q - c := by
    have e2 : cyc T.length (H k T.length) (q - c) = cyc T.length b q := by rw [step _ (by omega), show c + (q - c) = q by omega]
    rw [← e2] at he
    exact (cyc_inj hh (by omega) hd he).symm
  refine ⟨hcq, fun r h1 h2 => ?_⟩
  by_cases hrq : r = q
  · subst hrq; rw [h]; simp
  · have := hpath (r - c) (by omega)
    rwa [step _ (by omega), show c + (r - c) = r by omega] at this
end
structure DropInv (H : Ky → Nat → Nat) (T : Tb) (b c : Nat) : Prop where
  hb : b < T.length
  hc : c < T.length
  last : occ T (cyc T.length b (T.length - 1)) = none
  run : ∀ q, c ≤ q → q < T.length - 1 → ∃ x, occ T (cyc T.length b q) = some x ∧ crd T.length b (H x.1 T.length) ≤ q
  old : ∀ q, q < c → ∀ k v, occ T (cyc T.length b q) = some (k, v) → crd T.length b (H k T.length) ≤ q ∧ ∀ r, crd T.length b (H k T.length) ≤ r → r ≤ q → occ T (cyc T.length b r) ≠ none
  nodup : ∀ p p' k v v', occ T p = some (k, v) → occ T p' = some (k, v') → p = p'
section
variable {H : Ky → Nat → Nat} (hH : ∀ k n, 0 < n → H k n < n) {T : Tb}
include hH
theorem DropInv.start (I : TbInv H T) {i z : Nat} {x : Ky × Int} (hi : occ T i = some x) (hz : z < T.length) (hze : occ T z = none) :
    ∃ b c, DropInv H (T.set i none) b c ∧ cyc T.length i 1 = cyc T.length b c ∧ ∀ k v, MemT (T.set i none) k v ↔ (MemT T k v ∧ k ≠ x.1) := by
  have hil := occ_lt hi
  obtain ⟨t0, ht0, he0⟩ := cyc_sur hil hz
  obtain ⟨t, htle, ht, hmin⟩ := least (p := fun t => occ T (cyc T.length i t) = none) t0 (by rw [← he0]; exact hze)
  have ht1 : 1 ≤ t := by
    rcases Nat.eq_zero_or_pos t with h | h
    · subst h; rw [cyc_zero hil, hi] at ht; cases ht
    · exact h
  generalize hn : T.length = n at *
  have hbl : cyc n i (t + 1) < n := cyc_lt hil (by omega)
  have hpos : ∀ j, j ≤ t → cyc n (cyc n i (t + 1)) (n - 1 - t + j) = cyc n i j := by
    intro j hj; unfold cyc; split <;> split <;> split <;> omega
  generalize hbe : cyc n i (t + 1) = b at *
  have hset : ∀ q, occ (T.set i none) q = if q = i then none else occ T q := fun q => occ_set (by omega)
  have hpi : cyc n b (n - 1 - t) = i := by have := hpos 0 (by omega); rwa [Nat.add_zero, cyc_zero hil] at this
  have hplast : cyc n b (n - 1) = cyc n i t := by have := hpos t (Nat.le_refl _); rwa [show n - 1 - t + t = n - 1 by omega] at this
  have hline : ∀ {q : Nat} {k : Ky} {v : Int}, q < n → occ T (cyc n b q) = some (k, v) → crd n b (H k n) ≤ q ∧ ∀ r, crd n b (H k n) ≤ r → r ≤ q → occ T (cyc n b r) ≠ none := by
    intro q k v hq h
    have := I.line hH (b := b) (by omega) (by rw [hn, hplast]; exact ht) (q := q) (k := k) (v := v) (by omega) (by rw [hn]; exact h)
    rwa [hn] at this
  have hl : (T.set i none).length = n := by rw [List.length_set, hn]
  refine ⟨b, n - 1 - t + 1, ⟨by rw [hl]; exact hbl, by rw [hl]; omega, ?_, fun q h1 h2 => ?_, fun q hq k v h => ?_, fun p p' k v v' h h' => ?_⟩, ?_, fun k v => ?_⟩
  · rw [hl, hset, hplast]; split
    · rfl
    · exact ht
  · rw [hl] at h2 ⊢
    obtain ⟨j, rfl⟩ : ∃ j, q = n - 1 - t + j := ⟨q - (n - 1 - t), by omega⟩
    have hj : j < t := by omega
    have hne := hmin j hj
    cases ho : occ T (cyc n i j) with
    | none => exact absurd ho hne
    | some y =>
      have hij : cyc n i j ≠ i := by
        intro h
        have := cyc_inj (c := j) (d := 0) hil (by omega) (by omega) (by rw [h, cyc_zero hil])
        omega
      refine ⟨y, by rw [hset, hpos j (by omega), if_neg hij]; exact ho, ?_⟩
      obtain ⟨ky, vy⟩ := y
      exact (hline (q := n - 1 - t + j) (by omega) (by rw [hpos j (by omega)]; exact ho)).1
  · rw [hl] at h ⊢
    rw [hset] at h
    split at h
    · cases h
    · rename_i hne
      have hqa : q ≠ n - 1 - t := fun e => hne (by rw [e, hpi])
      obtain ⟨l1, l2⟩ := hline (by omega) h
      refine ⟨l1, fun r r1 r2 => ?_⟩
      rw [hset, if_neg]
      · exact l2 r r1 r2
      · intro e
        have := cyc_inj (c := r) (d := n - 1 - t) hbl (by omega) (by omega) (by rw [e, hpi])
        omega
  · rw [hset] at h h'
    split at h
    · cases h
    · split at h'
      · cases h'
      · exact I.nodup _ _ _ _ _ h h'
  · have := hpos 1 ht1
    exact this.symm
  · obtain ⟨kx, vx⟩ := x
    constructor
    · rintro ⟨p, hp⟩
      rw [hset] at hp
      split at hp
      · cases hp
      · rename_i hne
        refine ⟨⟨p, hp⟩, ?_⟩
        rintro rfl
        exact hne (I.nodup _ _ _ _ _ hp hi)
    · rintro ⟨⟨p, hp⟩, hk⟩
      refine ⟨p, ?_⟩
      rw [hset, if_neg]
      · exact hp
      · rintro rfl; rw [hi] at hp; cases hp; exact hk rfl
theorem DropInv.stop {b c : Nat} (J : DropInv H T b c) (h : occ T (cyc T.length b c) = none) : TbInv H T := by
  have hc : c = T.length - 1 := by
    have := J.hc
    by_cases h2 : c < T.length - 1
    · obtain ⟨x, hx, _⟩ := J.run c (Nat.le_refl _) h2
      rw [h] at hx; cases hx
    · omega
  have hp : 0 < T.length := by have := J.hb; omega
  refine ⟨hp, fun p k v hpk => ?_, J.nodup⟩
  have hh := hH k _ hp
  obtain ⟨q, hq, rfl⟩ := cyc_sur J.hb (occ_lt hpk)
  have hqn : q ≠ T.length - 1 := by rintro rfl; rw [J.last] at hpk; cases hpk
  obtain ⟨l1, l2⟩ := J.old q (by omega) k v hpk
  have hcc := cyc_crd J.hb hh
  have step : ∀ j, crd T.length b (H k T.length) + j < T.length → cyc T.length (H k T.length) j = cyc T.length b (crd T.length b (H k T.length) + j) := by
    intro j hj
    have := cyc_add (a := b) (b := crd T.length b (H k T.length)) (c := j) J.hb hj
    rwa [hcc] at this
  refine ⟨q - crd T.length b (H k T.length), by omega, ?_, fun j hj => ?_⟩
  · rw [step _ (by omega)]; congr 1; omega
  · rw [step _ (by omega)]; exact l2 _ (by omega) (by omega)
theorem DropInv.step {b c : Nat} {k : Ky} {v : Int} (J : DropInv H T b c) (h : occ T (cyc T.length b c) = some (k, v)) {i' : Nat} (hf : Finds H (T.set (cyc T.length b c) none) k i') :
    i' < T.length ∧ occ (T.set (cyc T.length b c) none) i' = none ∧ c + 1 < T.length ∧ DropInv H ((T.set (cyc T.length b c) none).set i' (some (k, v))) b (c + 1) ∧ ∀ k' v', MemT ((T.set (cyc T.length b c) none).set i' (some (k, v))) k' v' ↔ MemT T k' v' := by
  have hb := J.hb
  have hcl := J.hc
  have hlast := J.last
  have hc1 : c < T.length - 1 := by
    by_cases h2 : c < T.length - 1
    · exact h2
    · have : c = T.length - 1 := by omega
      rw [this, hlast] at h; cases h
  have hp : 0 < T.length := by omega
  have hh := hH k _ hp
  have hpc := cyc_lt hb (Nat.le_of_lt hcl)
  have hset1 : ∀ q, occ (T.set (cyc T.length b c) none) q = if q = cyc T.length b c then none else occ T q := fun q => occ_set hpc
  have hl1 : (T.set (cyc T.length b c) none).length = T.length := List.length_set ..
  have hhc : crd T.length b (H k T.length) ≤ c := by
    obtain ⟨x, hx, hxc⟩ := J.run c (Nat.le_refl _) hc1
    rw [h] at hx; cases hx; exact hxc
  have hcc := cyc_crd hb hh
  have stp : ∀ j, crd T.length b (H k T.length) + j < T.length → cyc T.length (H k T.length) j = cyc T.length b (crd T.length b (H k T.length) + j) := by
    intro j hj
    have := cyc_add (a := b) (b := crd T.length b (H k T.length)) (c := j) hb hj
    rwa [hcc] at this
  obtain ⟨d, hd, he, hpath, ho⟩ := hf
  rw [hl1] at hd he hpath
  have hdle : d ≤ c - crd T.length b (H k T.length) := by
    by_cases hlt : c - crd T.length b (H k T.length) < d
    · obtain ⟨x, hx, _⟩ := hpath _ hlt
      rw [stp _ (by omega), show crd T.length b (H k T.length) + (c - crd T.length b (H k T.length)) = c by omega, hset1, if_pos rfl] at hx
      cases hx
    · omega
  generalize hc' : crd T.length b (H k T.length) + d = c' at *
  have hie : i' = cyc T.length b c' := by rw [he, stp d (by omega), hc']
  have hc'c : c' ≤ c := by omega
  have hil : i' < T.length := by rw [hie]; exact cyc_lt hb (by omega)
  have hnone : occ (T.set (cyc T.length b c) none) i' = none := by
    rcases ho with h1 | ⟨v', h1⟩
    · exact h1
    · rw [hset1] at h1
      split at h1
      · cases h1
      · rename_i hne
        exact absurd (J.nodup _ _ _ _ _ h1 h) hne
  have hset2 : ∀ q, occ ((T.set (cyc T.length b c) none).set i' (some (k, v))) q = if q = i' then some (k, v) else if q = cyc T.length b c then none else occ T q := by
    intro q
    rw [occ_set (by rw [hl1]; exact hil), hset1]
  have hl2 : ((T.set (cyc T.length b c) none).set i' (some (k, v))).length = T.length := by rw [List.length_set, hl1]
  have inj : ∀ {q q' : Nat}, q < T.length → q' < T.length → cyc T.length b q = cyc T.length b q' → q = q' := fun h1 h2 h3 => cyc_inj hb h1 h2 h3
  refine ⟨hil, hnone, by omega, ⟨by rw [hl2]; exact hb, by rw [hl2]; omega, ?_, fun q h1 h2 => ?_, fun q hq k2 v2 h2 => ?_, fun p p' k2 v2 v3 h2 h3 => ?_⟩, fun k' v' => ?_⟩
  · rw [hl2, hset2, if_neg, if_neg]
    · exact hlast
    · intro e; have := inj (by omega) hcl e; omega
    · rw [hie]; intro e; have := inj (by omega) (by omega) e; omega
  · rw [hl2] at h2 ⊢
    obtain ⟨x, hx, hxc⟩ := J.run q (by omega) h2
    refine ⟨x, ?_, hxc⟩
    rw [hset2, if_neg, if_neg]
    · exact hx
    · intro e; have := inj (by omega) hcl e; omega
    · rw [hie]; intro e; have := inj (by omega) (by omega) e; omega
  · rw [hl2] at h2 ⊢
    rw [hset2] at h2
    split at h2
    · rename_i hqi
      cases h2
      rw [hie] at hqi
      have hqc := inj (by omega) (by omega) hqi
      subst hqc
      refine ⟨by omega, fun r r1 r2 => ?_⟩
      rw [hset2]
      split
      · simp
      · rename_i hr
        have hrq : r ≠ q := fun e => hr (by rw [e, hie])
        obtain ⟨x, hx, _⟩ := hpath (r - crd T.length b (H k T.length)) (by omega)
        rw [stp _ (by omega), show crd T.length b (H k T.length) + (r - crd T.length b (H k T.length)) = r by omega, hset1] at hx
        rw [hx]; simp
    · rename_i hqi
      split at h2
      · cases h2
      · rename_i hqc
        have hqc' : q ≠ c := fun e => hqc (by rw [e])
        obtain ⟨l1, l2⟩ := J.old q (by omega) k2 v2 h2
        refine ⟨l1, fun r r1 r2 => ?_⟩
        rw [hset2]
        split
        · simp
        · rw [if_neg]
          · exact l2 r r1 r2
          · intro e; have := inj (by omega) hcl e; omega
  · have nk : ∀ q w, q ≠ i' → q ≠ cyc T.length b c → occ T q ≠ some (k, w) := fun q w _ hq hw => hq (J.nodup _ _ _ _ _ hw h)
    rw [hset2] at h2 h3
    split at h2
    · cases h2
      split at h3
      · omega
      · rename_i hn1
        split at h3
        · cases h3
        · rename_i hn2; exact absurd h3 (nk _ _ hn1 hn2)
    · rename_i hn1
      split at h2
      · cases h2
      · rename_i hn2
        split at h3
        · cases h3; exact absurd h2 (nk _ _ hn1 hn2)
        · split at h3
          · cases h3
          · exact J.nodup _ _ _ _ _ h2 h3
  · constructor
    · rintro ⟨p, hp⟩
      rw [hset2] at hp
      split at hp
      · cases hp; exact ⟨_, h⟩
      · split at hp
        · cases hp
        · exact ⟨p, hp⟩
    · rintro ⟨p, hp⟩
      by_cases hpc2 : p = cyc T.length b c
      · rw [hpc2, h] at hp; cases hp
        exact ⟨i', by rw [hset2, if_pos rfl]⟩
      · refine ⟨p, ?_⟩
        rw [hset2, if_neg, if_neg hpc2]
        · exact hp
        · rintro rfl
          rw [hset1, if_neg hpc2] at hnone
          rw [hnone] at hp; cases hp
end
end Go.Bx

namespace Go.Bx
open Go
set_option linter.unusedSimpArgs false
def b2 (b : Bool) : Int := if b then 1 else 0
theorem b2_rng (b : Bool) : 0 ≤ b2 b ∧ b2 b ≤ 1 := by cases b <;> decide
def sumF {α : Type} (f : α → Int) (l : List α) : Int := (l.map f).sum
theorem sumF_nil {α : Type} (f : α → Int) : sumF f [] = 0 := rfl
theorem sumF_cons {α : Type} (f : α → Int) (a : α) (l : List α) : sumF f (a :: l) = f a + sumF f l := by simp [sumF]
theorem sumF_app {α : Type} (f : α → Int) (l l' : List α) : sumF f (l ++ l') = sumF f l + sumF f l' := by simp [sumF]
theorem sumF_set {α : Type} (f : α → Int) : ∀ (l : List α) (i : Nat) (x y : α), l[i]? = some x → sumF f (l.set i y) = sumF f l - f x + f y
  | [], _, _, _, h => by cases h
  | a :: l, 0, x, y, h => by
    obtain rfl : a = x := by simpa using h
    rw [List.set_cons_zero, sumF_cons, sumF_cons]; omega
  | a :: l, i + 1, x, y, h => by
    have ih := sumF_set f l i x y (by simpa using h)
    rw [List.set_cons_succ, sumF_cons, sumF_cons, ih]; omega
theorem sumF_nonneg {α : Type} (f : α → Int) : ∀ (l : List α), (∀ x ∈ l, 0 ≤ f x) → 0 ≤ sumF f l
  | [], _ => by rw [sumF_nil]; omega
  | a :: l, h => by
    have h1 := h a (by simp)
    have ih := sumF_nonneg f l (fun x hx => h x (by simp [hx]))
    rw [sumF_cons]; omega
theorem sumF_mem {α : Type} (f : α → Int) : ∀ (l : List α), (∀ x ∈ l, 0 ≤ f x) → ∀ x ∈ l, f x ≤ sumF f l
  | [], _, _, h => by cases h
  | a :: l, h, x, hx => by
    have h1 := h a (by simp)
    have h2 : ∀ y ∈ l, 0 ≤ f y := fun y hy => h y (by simp [hy])
    rw [sumF_cons]
    rcases List.mem_cons.1 hx with rfl | hx
    · have := sumF_nonneg f l h2; omega
    · have := sumF_mem f l h2 x hx; omega
theorem sumF_le {α : Type} (f : α → Int) (c : Int) : ∀ (l : List α), (∀ x ∈ l, f x ≤ c) → sumF f l ≤ c * l.length
  | [], _ => by simp [sumF_nil]
  | a :: l, h => by
    have h1 := h a (by simp)
    have ih := sumF_le f c l (fun x hx => h x (by simp [hx]))
    rw [sumF_cons, List.length_cons]
    have : c * ((l.length + 1 : Nat) : Int) = c * l.length + c := by rw [Int.natCast_add, Int.mul_add]; simp
    omega
theorem sumF_all {α : Type} (f : α → Int) : ∀ (l : List α), (∀ x ∈ l, f x = 1) → sumF f l = l.length
  | [], _ => rfl
  | a :: l, h => by
    have h1 := h a (by simp)
    have ih := sumF_all f l (fun x hx => h x (by simp [hx]))
    rw [sumF_cons, List.length_cons, h1, ih]; omega
theorem al2_0' {w : World} {a b : Obj} : ((w.alloc a).alloc b).heap[w.heap.size]? = some a := by rw [alloc_old (by rw [alloc_size]; omega), alloc_new]
end Go.Bx

