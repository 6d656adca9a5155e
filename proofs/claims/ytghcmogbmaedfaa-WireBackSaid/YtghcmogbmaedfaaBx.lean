/- The base of all walks here: an evaluator of the program's code over frames that are functions, and that it is sound. No program is in sight. -/
import Derived.WalkKit
namespace Go.Bx
open Go
set_option linter.unusedSimpArgs false
set_option linter.unusedVariables false

/-! ### Frames as functions -/
abbrev Env := Nat → Value
def Env.set (e : Env) (d : Nat) (v : Value) : Env := fun i => if i = d then v else e i
def Env.put (e : Env) : Option Tmp → Value → Env
  | some d, v => e.set d v
  | none, _ => e
theorem Env.set_app (e : Env) (d : Nat) (v : Value) (i : Nat) : (e.set d v) i = if i = d then v else e i := rfl
theorem Env.put_some (e : Env) (d : Nat) (v : Value) : e.put (some d) v = e.set d v := rfl
theorem Env.put_none (e : Env) (v : Value) : e.put none v = e := rfl

def ev (e : Env) : Operand → Value
  | .tmp t => e t
  | .const v => v
  | .global g => .pointer (some ⟨g, 0, none⟩)
  | .func f => .func (.func f) #[] #[]
theorem ev_tmp (e : Env) (t : Nat) : ev e (.tmp t) = e t := rfl
theorem ev_const (e : Env) (v : Value) : ev e (.const v) = v := rfl
theorem ev_func (e : Env) (f : Nat) : ev e (.func f) = .func (.func f) #[] #[] := rfl

/-- The frame a of n slots reads as e. -/
structure Sim (n : Nat) (a : Act) (e : Env) : Prop where
  size : a.tmps.size = n
  defers : a.defers = []
  get : ∀ i, a.tmps.getD i undef = e i

theorem Sim.eval {n : Nat} {a : Act} {e : Env} (h : Sim n a e) : a.eval = ev e := by
  funext x
  cases x <;> first | exact h.get _ | rfl

theorem Sim.put {n : Nat} {a : Act} {e : Env} (h : Sim n a e) {d : Option Tmp} (hd : ∀ x, d = some x → x < n) (v : Value) : Sim n (a.put d v) (e.put d v) := by
  cases d with
  | none => exact h
  | some d =>
    have hd' := hd d rfl
    refine ⟨by simpa [Act.put] using h.size, h.defers, fun i => ?_⟩
    simp only [Act.put, Env.put, Env.set]
    by_cases hi : i = d
    · subst hi
      rw [if_pos rfl]
      simp [Array.getD_eq_getD_getElem?, h.size, hd']
    · rw [if_neg hi, ← h.get i]
      simp [Array.getD_eq_getD_getElem?, Array.getElem?_setIfInBounds_ne (Ne.symm hi)]

/-! ### Operations, without places and edges -/
structure GOp where
  dst : Option Tmp
  op : Op
  ty : TypeId
  guard : Option (Tmp × Bool)

def execG (ρ : Operand → Value) (op : Op) (ty : TypeId) : Sem Next := execOp ρ { dst := none, op := op, type := ty, pos := "", after := #[], guard := none }

theorem execG_eq (ρ : Operand → Value) (o : Oper) : execOp ρ o = execG ρ o.op o.type := by
  obtain ⟨dst, op, type, pos, after, guard⟩ := o
  cases op <;> rfl

/-- The guard's slot. -/
def gslot (ops : Array Oper) : Option (Nat × Bool) → Option (Tmp × Bool)
  | none => none
  | some (j, b) => some (((ops[j]?).bind (·.dst)).getD 1000000, b)
def gop (ops : Array Oper) (o : Oper) : GOp := { dst := o.dst, op := o.op, ty := o.type, guard := gslot ops o.guard }

def wantG (e : Env) : Option (Tmp × Bool) → Prop
  | none => True
  | some (t, b) => e t = .bool b

/-- One operation, its value handed on. -/
def XV (P : Program) (op : Op) (ty : TypeId) (e : Env) (w : World) (K : Value → World → Prop) : Prop :=
  match (execG (ev e) op ty).run P w with
  | .ok (.value v) w' => K v w'
  | .ok .skip w' => K undef w'
  | .ok (.enter f args) w' => Calls P f args w' (fun en w'' => ∃ v, en = .returned v ∧ K v w'')
  | _ => False

/-- A row of operations, in the text's order. -/
def XO (P : Program) : List GOp → (Env → World → Prop) → Env → World → Prop
  | [], K, e, w => K e w
  | o :: r, K, e, w => (wantG e o.guard ∧ XV P o.op o.ty e w (fun v w' => XO P r K (e.put o.dst v) w')) ∨
      ((∃ t b, o.guard = some (t, b) ∧ e t ≠ .bool b) ∧ XO P r K (e.put o.dst undef) w)

theorem XV_mono {P : Program} {op : Op} {ty : TypeId} {e : Env} {w : World} {K K' : Value → World → Prop} (h : ∀ v w, K v w → K' v w) (hh : XV P op ty e w K) : XV P op ty e w K' := by
  unfold XV at *
  generalize (execG (ev e) op ty).run P w = r at *
  cases r with
  | ok n w' =>
    cases n <;> simp only [] at hh ⊢
    case value => exact h _ _ hh
    case skip => exact h _ _ hh
    case enter => exact hh.mono fun en w'' ⟨v, he, hk⟩ => ⟨v, he, h _ _ hk⟩
    all_goals exact hh
  | halt x w' => exact hh

theorem XO_mono {P : Program} {K K' : Env → World → Prop} (h : ∀ e w, K e w → K' e w) : ∀ (l : List GOp) (e : Env) (w : World), XO P l K e w → XO P l K' e w
  | [], _, _, hh => h _ _ hh
  | _ :: r, _, _, hh => hh.imp (fun ⟨a, b⟩ => ⟨a, XV_mono (fun _ _ k => XO_mono h r _ _ k) b⟩) (fun ⟨a, b⟩ => ⟨a, XO_mono h r _ _ b⟩)

theorem wanted_iff {n : Nat} {ops : Array Oper} {a : Act} {e : Env} {o : Oper} (h : Sim n a e) (hn : n ≤ 1000000) :
    Region.wanted o (yielded ops a.tmps) = true ↔ wantG e (gslot ops o.guard) := by
  cases hg : o.guard with
  | none => simp [Region.wanted, hg, gslot, wantG]
  | some jb =>
    obtain ⟨j, b⟩ := jb
    simp only [Region.wanted, hg, gslot, wantG, yielded]
    cases hd : (ops[j]?).bind (·.dst) with
    | none =>
      simp only [Option.bind_none, Option.getD_none]
      rw [← h.get 1000000]
      have hs : ¬ 1000000 < a.tmps.size := by rw [h.size]; omega
      simp [Array.getD_eq_getD_getElem?, Array.getElem?_eq_none (Nat.le_of_not_lt hs), undef]
    | some d =>
      simp only [Option.bind_some, Option.getD_some]
      rw [← h.get d]
      rcases Nat.lt_or_ge d a.tmps.size with hlt | hge
      · simp only [Array.getElem?_eq_getElem hlt, Array.getD_eq_getD_getElem?, Option.getD_some]
        split
        · rename_i b' heq
          have := Option.some.inj heq
          rw [this]; simp
        · rename_i heq
          constructor
          · intro h'; simp at h'
          · intro h'; exact absurd (by rw [h']) (heq b)
      · simp [Array.getElem?_eq_none hge, Array.getD_eq_getD_getElem?, undef]

theorem wp_of_XV {P : Program} {n : Nat} {o : Oper} {a : Act} {e : Env} {w : World} {K : Value → World → Prop} {next : Act → World → Prop} {Q : Exit → Act → World → Prop}
    (h : Sim n a e) (hk : ∀ v w', K v w' → next (a.put o.dst v) w') (hx : XV P o.op o.type e w K) : o.wp P a w next Q := by
  unfold Oper.wp
  rw [h.eval, execG_eq]
  unfold XV at hx
  generalize (execG (ev e) o.op o.type).run P w = r at *
  cases r with
  | ok nx w' =>
    cases nx <;> simp only [] at hx
    case value v => exact hk _ _ hx
    case skip => exact hk _ _ hx
    case enter f args => exact hx.mono fun en w'' ⟨v, he, hkk⟩ => by subst he; exact hk _ _ hkk
  | halt x w' => exact hx.elim

def dstsOK (n : Nat) (ops : List Oper) : Bool := ops.all fun o => match o.dst with | some d => decide (d < n) | none => true

theorem dst_lt {n : Nat} {o : Oper} {r : List Oper} (h : dstsOK n (o :: r) = true) : (∀ x, o.dst = some x → x < n) ∧ dstsOK n r = true := by
  simp only [dstsOK, List.all_cons, Bool.and_eq_true] at h ⊢
  refine ⟨fun x hx => ?_, h.2⟩
  have := h.1
  rw [hx] at this
  simpa using this

theorem wpList_of_XO {P : Program} {n : Nat} {ops : Array Oper} {Q : Exit → Act → World → Prop} {K : Env → World → Prop} (hn : n ≤ 1000000)
    (hQ : ∀ a e w, Sim n a e → K e w → Q .normal a w) : ∀ (l : List Oper) (a : Act) (e : Env) (w : World), dstsOK n l = true → Sim n a e →
      XO P (l.map (gop ops)) K e w → wpList P ops Q l a w
  | [], a, e, w, _, h, hx => hQ a e w h hx
  | o :: r, a, e, w, hd, h, hx => by
    obtain ⟨hd1, hd2⟩ := dst_lt hd
    simp only [List.map_cons, XO] at hx
    unfold wpList
    rcases hx with ⟨hw, hv⟩ | ⟨⟨t, b, hg, hne⟩, hr⟩
    · rw [if_pos ((wanted_iff h hn).2 hw)]
      exact .inl (wp_of_XV h (fun v w' hk => wpList_of_XO hn hQ r _ _ _ hd2 (h.put hd1 v) hk) hv)
    · have hnw : ¬ Region.wanted o (yielded ops a.tmps) = true := fun hw => by
        have := (wanted_iff h hn).1 hw
        simp only [gop] at hg
        rw [hg] at this
        exact hne this
      rw [if_neg hnw]
      exact wpList_of_XO hn hQ r _ _ _ hd2 (h.put hd1 _) hr

/-! ### Worlds that extend a world -/
/-- All that was there is there, as it was. -/
structure Ext (w w' : World) : Prop where
  os : w'.os = w.os
  tape : w'.tape = w.tape
  output : w'.output = w.output
  size : w.heap.size ≤ w'.heap.size
  heap : ∀ k, k < w.heap.size → w'.heap[k]? = w.heap[k]?
theorem Ext.refl (w : World) : Ext w w := ⟨rfl, rfl, rfl, Nat.le_refl _, fun _ _ => rfl⟩
theorem Ext.trans {a b c : World} (h : Ext a b) (k : Ext b c) : Ext a c :=
  ⟨k.os.trans h.os, k.tape.trans h.tape, k.output.trans h.output, Nat.le_trans h.size k.size, fun i hi => (k.heap i (Nat.lt_of_lt_of_le hi h.size)).trans (h.heap i hi)⟩


/-! ### A row whose order is drawn -/
def waits (ops : Array Oper) (j i : Nat) : Bool := (ops[j]?).any fun o => o.after.any fun e => Region.binds .any e && e.on == i
/-- Those that come up behind i in every order. -/
def blkFrom (ops : Array Oper) (i : Nat) : Nat → List Nat
  | 0 => []
  | j + 1 => if decide (i < j) && (waits ops j i || (blkFrom ops i j).any (waits ops j)) then j :: blkFrom ops i j else blkFrom ops i j

/-- 0: a value alone; 1: it only reads, or calls what leaves all as it was; 2: all else. -/
def kindOf : Op → Nat
  | .load .. | .lookup .. => 1
  | .call { callee := .value _, .. } => 1
  | .call { callee := .builtin .len, .. } | .call { callee := .builtin .min, .. } | .call { callee := .builtin .max, .. } => 0
  | .call _ => 2
  | .store .. | .alloc .. | .box .. | .buildSlice .. | .makeSlice .. | .makeMap .. | .mapUpdate .. | .insert .. | .entryStore .. | .mapEntry .. | .range .. | .next .. | .entry .. | .select .. => 2
  | _ => 0

def apartB (ops : Array Oper) (x y : Oper) : Bool :=
  (match x.dst with | some d => !(y.looksAt ops).contains d && y.dst != some d | none => true) &&
  (match y.dst with | some d => !(x.looksAt ops).contains d | none => true)

def compat (ops : Array Oper) (kd : Nat → Nat) (i j : Nat) : Bool :=
  match ops[i]?, ops[j]? with
  | some x, some y => apartB ops x y && (kd i == 0 || kd j == 0 || (kd i == 1 && kd j == 1))
  | _, _ => true

def orderOK (ops : Array Oper) (kd : Nat → Nat) : Bool :=
  ((List.range ops.size).all fun j => (ops[j]?).all fun o => (o.after.all fun e => !Region.binds .any e || decide (e.on < j)) &&
    (match o.op with | .select .. => false | _ => true) && (match o.guard with | some (g, _) => ((ops[g]?).bind (·.dst)).isSome | none => true)) &&
  ((List.range ops.size).all fun i => (List.range ops.size).all fun j => decide (j ≤ i) || (blkFrom ops i ops.size).contains j || compat ops kd i j)

structure OrderOK (ops : Array Oper) (kd : Nat → Nat) : Prop where
  back : ∀ (j : Nat) (o : Oper), ops[j]? = some o → ∀ e ∈ o.after, Region.binds .any e = true → e.on < j
  sel : ∀ (j : Nat) (o : Oper), ops[j]? = some o → ∀ cs b, o.op ≠ .select cs b
  grd : ∀ (j : Nat) (o : Oper), ops[j]? = some o → ∀ t b, gslot ops o.guard = some (t, b) → t ∈ o.looksAt ops
  ord : ∀ i j, i < j → j < ops.size → j ∈ blkFrom ops i ops.size ∨ compat ops kd i j = true

theorem OrderOK.of {ops : Array Oper} {kd : Nat → Nat} (h : orderOK ops kd = true) : OrderOK ops kd := by
  simp only [orderOK, Bool.and_eq_true] at h
  obtain ⟨h1, h2⟩ := h
  have get : ∀ {j : Nat} {o : Oper}, ops[j]? = some o → ((o.after.all fun e => !Region.binds .any e || decide (e.on < j)) = true ∧ (match o.op with | .select .. => false | _ => true) = true) ∧
      (match o.guard with | some (g, _) => ((ops[g]?).bind (·.dst)).isSome | none => true) = true := fun {j o} hj => by
    have := List.all_eq_true.1 h1 j (List.mem_range.2 (Array.getElem?_eq_some_iff.1 hj).1)
    rw [hj] at this
    simpa only [Option.all_some, Bool.and_eq_true] using this
  refine ⟨fun j o hj e he hb => ?_, fun j o hj cs b hop => ?_, fun j o hj t b hg => ?_, fun i j hij hj => ?_⟩
  · have := Array.all_eq_true'.1 (get hj).1.1 e he
    simpa [hb] using this
  · have := (get hj).1.2
    simp [hop] at this
  · have := (get hj).2
    cases hgd : o.guard with
    | none => rw [hgd] at hg; simp [gslot] at hg
    | some gb =>
      obtain ⟨g, b'⟩ := gb
      rw [hgd] at this hg
      simp only [Option.isSome_iff_exists] at this
      obtain ⟨d, hd⟩ := this
      simp only [gslot, hd, Option.getD_some, Option.some.injEq, Prod.mk.injEq] at hg
      simp [Oper.looksAt, hgd, hd, hg.1]
  · have := List.all_eq_true.1 (List.all_eq_true.1 h2 i (List.mem_range.2 (by omega))) j (List.mem_range.2 hj)
    simp only [Bool.or_eq_true, decide_eq_true_eq] at this
    rcases this with (h | h) | h
    · omega
    · exact .inl (by simpa using h)
    · exact .inr h

theorem waits_spec {ops : Array Oper} {j i : Nat} (h : waits ops j i = true) : ∃ o, ops[j]? = some o ∧ ∃ e ∈ o.after, Region.binds .any e = true ∧ e.on = i := by
  unfold waits at h
  cases hj : ops[j]? with
  | none => rw [hj] at h; simp at h
  | some o =>
    rw [hj] at h
    simp only [Option.any_some] at h
    obtain ⟨e, he, hb⟩ := Array.any_eq_true'.1 h
    simp only [Bool.and_eq_true, beq_iff_eq] at hb
    exact ⟨o, rfl, e, he, hb.1, hb.2⟩

def badG (e : Env) (g : Option (Tmp × Bool)) : Prop := ∃ t b, g = some (t, b) ∧ e t ≠ .bool b

/-- What a quiet operation yields in the world w: v, and the world as it was; a call: v, and a world of the class. -/
def QV (P : Program) (C : World → Prop) (op : Op) (ty : TypeId) (e : Env) (w : World) (v : Value) : Prop :=
  match (execG (ev e) op ty).run P w with
  | .ok (.value u) w' => w' = w ∧ u = v
  | .ok (.enter f args) w' => w' = w ∧ Calls P f args w (fun en w'' => en = .returned v ∧ C w'')
  | _ => False
/-- A value alone, in every world. -/
def PV (P : Program) (op : Op) (ty : TypeId) (e : Env) (v : Value) : Prop := ∀ w, (execG (ev e) op ty).run P w = .ok (.value v) w

/-- The row in the text's order, with what is asked of each operation by its kind; C: the worlds that there may be. -/
def XE (P : Program) (K : Env → World → Prop) : List (GOp × Nat) → (World → Prop) → Env → Prop
  | [], C, e => ∀ w, C w → K e w
  | (o, 0) :: r, C, e => (wantG e o.guard ∧ ∃ v, PV P o.op o.ty e v ∧ XE P K r C (e.put o.dst v)) ∨ (badG e o.guard ∧ XE P K r C (e.put o.dst undef))
  | (o, 1) :: r, C, e => (wantG e o.guard ∧ ∃ v, (∀ w, C w → QV P C o.op o.ty e w v) ∧ XE P K r C (e.put o.dst v)) ∨ (badG e o.guard ∧ XE P K r C (e.put o.dst undef))
  | (o, _ + 2) :: r, C, e => (wantG e o.guard ∧ ∀ w, C w → XV P o.op o.ty e w (fun v w' => ∃ C' : World → Prop, C' w' ∧ XE P K r C' (e.put o.dst v))) ∨ (badG e o.guard ∧ XE P K r C (e.put o.dst undef))

/-- Kinds 0 and 1: what is yielded. -/
def Yld (P : Program) (k : Nat) (C : World → Prop) (o : GOp) (e : Env) (v : Value) : Prop :=
  (wantG e o.guard ∧ (if k = 0 then PV P o.op o.ty e v else ∀ w, C w → QV P C o.op o.ty e w v)) ∨ (badG e o.guard ∧ v = undef)

section
variable {P : Program} {K : Env → World → Prop} {C : World → Prop} {ops : Array Oper}

theorem XE_low {k : Nat} (hk : k ≤ 1) {o : GOp} {r : List (GOp × Nat)} {e : Env} : XE P K ((o, k) :: r) C e ↔ ∃ v, Yld P k C o e v ∧ XE P K r C (e.put o.dst v) := by
  have key : ∀ {A : Value → Prop}, ((wantG e o.guard ∧ ∃ v, A v ∧ XE P K r C (e.put o.dst v)) ∨ (badG e o.guard ∧ XE P K r C (e.put o.dst undef))) ↔
      ∃ v, ((wantG e o.guard ∧ A v) ∨ (badG e o.guard ∧ v = undef)) ∧ XE P K r C (e.put o.dst v) := by
    intro A
    constructor
    · rintro (⟨h1, v, h2, h3⟩ | ⟨h1, h2⟩)
      · exact ⟨v, .inl ⟨h1, h2⟩, h3⟩
      · exact ⟨undef, .inr ⟨h1, rfl⟩, h2⟩
    · rintro ⟨v, ⟨h1, h2⟩ | ⟨h1, rfl⟩, h3⟩
      · exact .inl ⟨h1, v, h2, h3⟩
      · exact .inr ⟨h1, h3⟩
  match k, hk with
  | 0, _ => simp only [XE, Yld, if_true]; exact key
  | 1, _ => simp only [XE, Yld, Nat.one_ne_zero, if_false]; exact key

theorem XV_some {op : Op} {ty : TypeId} {e : Env} {w : World} {K : Value → World → Prop} (h : XV P op ty e w K) : ∃ v w', K v w' := by
  unfold XV at h
  generalize (execG (ev e) op ty).run P w = r at *
  cases r with
  | ok n w' =>
    cases n <;> simp only [] at h
    case value v => exact ⟨_, _, h⟩
    case skip => exact ⟨_, _, h⟩
    case enter f args =>
      obtain ⟨en, w2, fr, ⟨v, _, hk⟩, _⟩ := h []
      exact ⟨v, w2, hk⟩
  | halt x w' => exact h.elim

/-! Two that are apart. -/
def Agree (ops : Array Oper) (o : Oper) (e e' : Env) : Prop := ∀ t, t ∈ o.looksAt ops → e t = e' t
theorem exec_congr {o : Oper} {e e' : Env} (hs : ∀ cs b, o.op ≠ .select cs b) (h : Agree ops o e e') : execG (ev e) o.op o.type = execG (ev e') o.op o.type := by
  rw [← execG_eq, ← execG_eq]
  refine execOp_congr o hs fun x hx => ?_
  cases x with
  | tmp t =>
    refine h t ?_
    simp only [Oper.looksAt, List.mem_append]
    exact .inl (List.mem_filterMap.2 ⟨_, Array.mem_toList_iff.2 hx, rfl⟩)
  | _ => rfl
theorem guard_congr {o : Oper} {e e' : Env} (hg : ∀ t b, gslot ops o.guard = some (t, b) → t ∈ o.looksAt ops) (h : Agree ops o e e') :
    (wantG e (gop ops o).guard ↔ wantG e' (gop ops o).guard) ∧ (badG e (gop ops o).guard ↔ badG e' (gop ops o).guard) := by
  simp only [gop, badG]
  cases hgs : gslot ops o.guard with
  | none => simp [wantG]
  | some tb =>
    obtain ⟨t, b⟩ := tb
    have e1 := h t (hg t b hgs)
    refine ⟨by simp only [wantG, e1], ?_⟩
    constructor
    · rintro ⟨t', b', q1, q2⟩
      obtain ⟨rfl, rfl⟩ : t = t' ∧ b = b' := by simpa using q1
      exact ⟨t, b, rfl, by rwa [← e1]⟩
    · rintro ⟨t', b', q1, q2⟩
      obtain ⟨rfl, rfl⟩ : t = t' ∧ b = b' := by simpa using q1
      exact ⟨t, b, rfl, by rwa [e1]⟩
theorem Yld_congr {k : Nat} {o : Oper} {e e' : Env} {v : Value} (hs : ∀ cs b, o.op ≠ .select cs b) (hg : ∀ t b, gslot ops o.guard = some (t, b) → t ∈ o.looksAt ops) (h : Agree ops o e e')
    (hy : Yld P k C (gop ops o) e v) : Yld P k C (gop ops o) e' v := by
  obtain ⟨g1, g2⟩ := guard_congr hg h
  have he : execG (ev e) (gop ops o).op (gop ops o).ty = execG (ev e') (gop ops o).op (gop ops o).ty := exec_congr hs h
  rcases hy with ⟨h1, h2⟩ | ⟨h1, h2⟩
  · refine .inl ⟨g1.1 h1, ?_⟩
    unfold PV QV at *
    rwa [he] at h2
  · exact .inr ⟨g2.1 h1, h2⟩
theorem XV_congr {o : Oper} {e e' : Env} {w : World} {K : Value → World → Prop} (hs : ∀ cs b, o.op ≠ .select cs b) (h : Agree ops o e e') (hx : XV P (gop ops o).op (gop ops o).ty e w K) : XV P (gop ops o).op (gop ops o).ty e' w K := by
  have he : execG (ev e) (gop ops o).op (gop ops o).ty = execG (ev e') (gop ops o).op (gop ops o).ty := exec_congr hs h
  unfold XV at *
  rwa [he] at hx

theorem agree_put {x y : Oper} (h : ∀ d, x.dst = some d → d ∉ y.looksAt ops) (e : Env) (v : Value) : Agree ops y e (e.put x.dst v) := by
  intro t ht
  cases hd : x.dst with
  | none => rfl
  | some d =>
    have : t ≠ d := fun htd => h d hd (htd ▸ ht)
    simp [Env.put, Env.set, this]
theorem Agree.symm {o : Oper} {e e' : Env} (h : Agree ops o e e') : Agree ops o e' e := fun t ht => (h t ht).symm
theorem put_comm {x y : Option Tmp} (h : ∀ d, x = some d → y ≠ some d) (e : Env) (v u : Value) : (e.put x v).put y u = (e.put y u).put x v := by
  cases x with
  | none => rfl
  | some d =>
    cases y with
    | none => rfl
    | some d' =>
      have hne : d ≠ d' := fun hd => h d rfl (by rw [hd])
      funext i
      simp only [Env.put, Env.set]
      by_cases h1 : i = d' <;> by_cases h2 : i = d <;> simp [h1, h2, hne, Ne.symm hne]

theorem apartB_spec {x y : Oper} (h : apartB ops x y = true) : (∀ d, x.dst = some d → d ∉ y.looksAt ops) ∧ (∀ d, x.dst = some d → y.dst ≠ some d) ∧ (∀ d, y.dst = some d → d ∉ x.looksAt ops) := by
  refine ⟨fun d hd => ?_, fun d hd => ?_, fun d hd => ?_⟩ <;> simp [apartB, hd] at h
  · exact h.1.1
  · exact h.1.2
  · exact h.2

/-- Of two that are apart, and may, the second may come first. -/
theorem XE_swap {kd : Nat → Nat} (ok : OrderOK ops kd) {i j : Nat} {x y : Oper} (hx : ops[i]? = some x) (hy : ops[j]? = some y) (hc : compat ops kd i j = true) (hne : ∃ w, C w) {r : List (GOp × Nat)} {e : Env}
    (h : XE P K ((gop ops x, kd i) :: (gop ops y, kd j) :: r) C e) : XE P K ((gop ops y, kd j) :: (gop ops x, kd i) :: r) C e := by
  simp only [compat, hx, hy, Bool.and_eq_true, Bool.or_eq_true, beq_iff_eq] at hc
  obtain ⟨hap, hkd⟩ := hc
  obtain ⟨a1, a2, a3⟩ := apartB_spec hap
  have sx := ok.sel i x hx
  have sy := ok.sel j y hy
  have gx := ok.grd i x hx
  have gy := ok.grd j y hy
  have comm : ∀ (v u : Value), (e.put (gop ops x).dst v).put (gop ops y).dst u = (e.put (gop ops y).dst u).put (gop ops x).dst v := fun v u => put_comm a2 e v u
  have ay : ∀ v, Agree ops y e (e.put (gop ops x).dst v) := fun v => agree_put a1 e v
  have ax : ∀ v, Agree ops x e (e.put (gop ops y).dst v) := fun v => agree_put a3 e v
  by_cases hi : kd i ≤ 1
  · by_cases hj : kd j ≤ 1
    · rw [XE_low hi] at h
      obtain ⟨v, h1, h2⟩ := h
      rw [XE_low hj] at h2
      obtain ⟨u, h3, h4⟩ := h2
      rw [XE_low hj]
      refine ⟨u, Yld_congr sy gy (ay v).symm h3, ?_⟩
      rw [XE_low hi]
      exact ⟨v, Yld_congr sx gx (ax u) h1, by rw [← comm]; exact h4⟩
    · -- i a value alone, j any
      have hi0 : kd i = 0 := by omega
      obtain ⟨m, hm⟩ : ∃ m, kd j = m + 2 := ⟨kd j - 2, by omega⟩
      rw [XE_low hi] at h
      obtain ⟨v, h1, h2⟩ := h
      rw [hm] at h2 ⊢
      obtain ⟨g1, g2⟩ := guard_congr gy (ay v)
      rcases h2 with ⟨hw, h2⟩ | ⟨hb, h2⟩
      · refine .inl ⟨g1.2 hw, fun w hCw => ?_⟩
        refine XV_mono (fun u w' ⟨C', hC', hk⟩ => ⟨C', hC', ?_⟩) (XV_congr sy (ay v).symm (h2 w hCw))
        rw [XE_low hi]
        refine ⟨v, ?_, by rw [← comm]; exact hk⟩
        have := Yld_congr sx gx (ax u) h1
        rw [hi0] at this ⊢
        rcases this with ⟨q1, q2⟩ | q
        · exact .inl ⟨q1, q2⟩
        · exact .inr q
      · refine .inr ⟨g2.2 hb, ?_⟩
        rw [XE_low hi]
        exact ⟨v, Yld_congr sx gx (ax undef) h1, by rw [← comm]; exact h2⟩
  · -- j a value alone
    have hj0 : kd j = 0 := by omega
    have hj : kd j ≤ 1 := by omega
    obtain ⟨m, hm⟩ : ∃ m, kd i = m + 2 := ⟨kd i - 2, by omega⟩
    rw [XE_low hj]
    rw [hm] at h ⊢
    have det : ∀ {e : Env} {C C' : World → Prop} {u u' : Value}, Yld P (kd j) C (gop ops y) e u → Yld P (kd j) C' (gop ops y) e u' → u = u' := by
      intro e C C' u u' q q'
      rw [hj0] at q q'
      obtain ⟨w0, _⟩ := hne
      rcases q with ⟨q1, q2⟩ | ⟨q1, q2⟩
      · rcases q' with ⟨q3, q4⟩ | ⟨⟨t, b, q3, q5⟩, q4⟩
        · have e1 := q2 w0
          have e2 := q4 w0
          rw [e1] at e2
          injection e2 with e3 _
          injection e3
        · rw [q3] at q1; exact absurd q1 q5
      · rcases q' with ⟨q3, q4⟩ | ⟨_, q4⟩
        · obtain ⟨t, b, q5, q6⟩ := q1
          rw [q5] at q3; exact absurd q3 q6
        · rw [q2, q4]
    have any : ∀ {e : Env} {C C' : World → Prop} {u : Value}, Yld P (kd j) C (gop ops y) e u → Yld P (kd j) C' (gop ops y) e u := by
      intro e C C' u q
      rw [hj0] at q ⊢
      rcases q with ⟨q1, q2⟩ | q
      · exact .inl ⟨q1, q2⟩
      · exact .inr q
    rcases h with ⟨hw, h⟩ | ⟨hb, h⟩
    · obtain ⟨w0, hw0⟩ := hne
      obtain ⟨v0, w1, C1, hC1, h1⟩ := XV_some (h w0 hw0)
      rw [XE_low hj] at h1
      obtain ⟨u, hu, _⟩ := h1
      have hu' := any (C' := C) (Yld_congr sy gy (ay v0).symm hu)
      refine ⟨u, hu', .inl ⟨(guard_congr gx (ax u)).1.1 hw, fun w hCw => ?_⟩⟩
      refine XV_mono (fun v w' ⟨C', hC', hk⟩ => ⟨C', hC', ?_⟩) (XV_congr sx (ax u) (h w hCw))
      rw [XE_low hj] at hk
      obtain ⟨u', hu2, hk⟩ := hk
      have : u = u' := det hu' (Yld_congr sy gy (ay v).symm hu2)
      subst this
      rw [← comm]
      exact hk
    · rw [XE_low hj] at h
      obtain ⟨u, hu, h⟩ := h
      exact ⟨u, Yld_congr sy gy (ay undef).symm hu, .inr ⟨(guard_congr gx (ax u)).2.1 hb, by rw [← comm]; exact h⟩⟩

/-- What is asked of one and of what follows it. -/
theorem XE_tail {o : GOp} {k : Nat} {r r' : List (GOp × Nat)} (hne : ∃ w, C w) (h : ∀ C' e, (∃ w, C' w) → XE P K r C' e → XE P K r' C' e) {e : Env} (hh : XE P K ((o, k) :: r) C e) : XE P K ((o, k) :: r') C e := by
  match k with
  | 0 => exact hh.imp (fun ⟨a, v, b, c⟩ => ⟨a, v, b, h _ _ hne c⟩) (fun ⟨a, c⟩ => ⟨a, h _ _ hne c⟩)
  | 1 => exact hh.imp (fun ⟨a, v, b, c⟩ => ⟨a, v, b, h _ _ hne c⟩) (fun ⟨a, c⟩ => ⟨a, h _ _ hne c⟩)
  | _ + 2 => exact hh.imp (fun ⟨a, b⟩ => ⟨a, fun w hw => XV_mono (fun _ w' ⟨C', hC', c⟩ => ⟨C', hC', h _ _ ⟨w', hC'⟩ c⟩) (b w hw)⟩) (fun ⟨a, c⟩ => ⟨a, h _ _ hne c⟩)

def pick (ops : Array Oper) (kd : Nat → Nat) (i : Nat) : GOp × Nat := (((ops[i]?).map (gop ops)).getD ⟨none, .move (.const undef), 0, none⟩, kd i)

/-- One that may come up may be taken first. -/
theorem XE_front {kd : Nat → Nat} (ok : OrderOK ops kd) {j : Nat} {y : Oper} (hy : ops[j]? = some y) : ∀ (r1 r2 : List Nat) (C : World → Prop) (e : Env), (∃ w, C w) → (∀ i ∈ r1, i < ops.size ∧ compat ops kd i j = true) →
    XE P K ((r1 ++ j :: r2).map (pick ops kd)) C e → XE P K ((j :: (r1 ++ r2)).map (pick ops kd)) C e
  | [], _, _, _, _, _, h => h
  | i :: r1, r2, C, e, hne, hall, h => by
    obtain ⟨hi, hc⟩ := hall i (by simp)
    have hx : ops[i]? = some ops[i] := Array.getElem?_eq_getElem hi
    have h1 : XE P K (pick ops kd i :: (j :: (r1 ++ r2)).map (pick ops kd)) C e := by
      simp only [List.cons_append, List.map_cons] at h
      exact XE_tail hne (fun C' e' hne' hh => XE_front ok hy r1 r2 C' e' hne' (fun k hk => hall k (by simp [hk])) hh) h
    simp only [List.map_cons, List.cons_append, pick, hx, hy, Option.map_some, Option.getD_some] at h1 ⊢
    exact XE_swap ok hx hy hc hne h1
end

/-! ### Rows in which an effect and a reading are in no order: what is read wide -/
/-- What yields v in the world u, and leaves all that was there. -/
def WV (P : Program) (op : Op) (ty : TypeId) (e : Env) (u : World) (v : Value) : Prop :=
  match (execG (ev e) op ty).run P u with
  | .ok (.value x) w' => w' = u ∧ x = v
  | .ok (.enter f args) w' => w' = u ∧ P.inits.idxOf? f = none ∧ Calls P f args u (fun en w'' => en = .returned v ∧ Ext u w'')
  | _ => False
theorem WV_det {P : Program} {op : Op} {ty : TypeId} {e : Env} {u : World} {v v' : Value} (h : WV P op ty e u v) (h' : WV P op ty e u v') : v = v' := by
  unfold WV at h h'
  generalize (execG (ev e) op ty).run P u = r at *
  cases r with
  | halt x w' => exact h.elim
  | ok n w' =>
    cases n <;> simp only [] at h h'
    case value x => rw [← h.2, ← h'.2]
    case enter f args =>
      obtain ⟨_, hi, hc⟩ := h
      obtain ⟨_, _, hc'⟩ := h'
      have c1 : Calls P f args u fun | .returned x, w' => x = v | _, _ => False := hc.mono fun en w'' ⟨he, _⟩ => by subst he; rfl
      have c2 : Calls P f args u fun | .returned x, w' => x = v' | _, _ => False := hc'.mono fun en w'' ⟨he, _⟩ => by subst he; rfl
      obtain ⟨n, x, w1, e1, r1⟩ := c1.done hi
      obtain ⟨m, x', w2, e2, r2⟩ := c2.done hi
      have a := runN_ended e1 m
      have b := runN_ended e2 n
      rw [Nat.add_comm, a] at b
      injection b with ho hw
      injection ho with hv
      rw [← r1, ← r2, hv]

def Cl (C : World → Prop) : Prop := ∀ u u', C u → Ext u u' → C u'
/-- The row in the text's order; C: the worlds that there may be; D: those in which what is read wide may be read. -/
def XF (P : Program) (K : Env → World → Prop) : List (GOp × Nat) → (World → Prop) → (World → Prop) → Env → Prop
  | [], C, _, e => ∀ w, C w → K e w
  | (o, 0) :: r, C, D, e => (wantG e o.guard ∧ ∃ v, PV P o.op o.ty e v ∧ XF P K r C D (e.put o.dst v)) ∨ (badG e o.guard ∧ XF P K r C D (e.put o.dst undef))
  | (o, 1) :: r, C, D, e => (wantG e o.guard ∧ ∃ v, (∀ w, C w → QV P C o.op o.ty e w v) ∧ XF P K r C D (e.put o.dst v)) ∨ (badG e o.guard ∧ XF P K r C D (e.put o.dst undef))
  | (o, 2) :: r, C, D, e => (wantG e o.guard ∧ ∀ w, C w → XV P o.op o.ty e w (fun v w' => ∃ C' : World → Prop, C' w' ∧ (∀ u, C' u → D u) ∧ Cl C' ∧ XF P K r C' D (e.put o.dst v))) ∨ (badG e o.guard ∧ XF P K r C D (e.put o.dst undef))
  | (o, 3) :: r, C, D, e => (wantG e o.guard ∧ ∀ w, C w → XV P o.op o.ty e w (fun v w' => ∃ C' D' : World → Prop, C' w' ∧ (∀ u, C' u → D' u) ∧ Cl C' ∧ XF P K r C' D' (e.put o.dst v))) ∨ (badG e o.guard ∧ XF P K r C D (e.put o.dst undef))
  | (o, _ + 4) :: r, C, D, e => (wantG e o.guard ∧ ∃ v, (∀ u, D u → WV P o.op o.ty e u v) ∧ XF P K r C D (e.put o.dst v)) ∨ (badG e o.guard ∧ XF P K r C D (e.put o.dst undef))

def YldW (P : Program) (k : Nat) (C D : World → Prop) (o : GOp) (e : Env) (v : Value) : Prop :=
  (wantG e o.guard ∧ (if k = 0 then PV P o.op o.ty e v else if k = 1 then ∀ w, C w → QV P C o.op o.ty e w v else ∀ u, D u → WV P o.op o.ty e u v)) ∨ (badG e o.guard ∧ v = undef)

def compatW (ops : Array Oper) (kd : Nat → Nat) (i j : Nat) : Bool :=
  match ops[i]?, ops[j]? with
  | some x, some y => apartB ops x y && kd i != 3 && kd j != 3 && (kd i == 0 || kd j == 0 || (kd i != 2 && kd j != 2) || (kd i == 2 && decide (4 ≤ kd j)) || (kd j == 2 && decide (4 ≤ kd i)))
  | _, _ => true
def orderW (ops : Array Oper) (kd : Nat → Nat) : Bool :=
  orderOK ops (fun _ => 0) && ((List.range ops.size).all fun i => (List.range ops.size).all fun j => decide (j ≤ i) || (blkFrom ops i ops.size).contains j || compatW ops kd i j)

section
variable {P : Program} {K : Env → World → Prop} {C D : World → Prop} {ops : Array Oper}
theorem XF_low {k : Nat} (hk : k ≠ 2) (hk3 : k ≠ 3) {o : GOp} {r : List (GOp × Nat)} {e : Env} : XF P K ((o, k) :: r) C D e ↔ ∃ v, YldW P k C D o e v ∧ XF P K r C D (e.put o.dst v) := by
  have key : ∀ {A : Value → Prop}, ((wantG e o.guard ∧ ∃ v, A v ∧ XF P K r C D (e.put o.dst v)) ∨ (badG e o.guard ∧ XF P K r C D (e.put o.dst undef))) ↔
      ∃ v, ((wantG e o.guard ∧ A v) ∨ (badG e o.guard ∧ v = undef)) ∧ XF P K r C D (e.put o.dst v) := by
    intro A
    constructor
    · rintro (⟨h1, v, h2, h3⟩ | ⟨h1, h2⟩)
      · exact ⟨v, .inl ⟨h1, h2⟩, h3⟩
      · exact ⟨undef, .inr ⟨h1, rfl⟩, h2⟩
    · rintro ⟨v, ⟨h1, h2⟩ | ⟨h1, rfl⟩, h3⟩
      · exact .inl ⟨h1, v, h2, h3⟩
      · exact .inr ⟨h1, h3⟩
  match k, hk, hk3 with
  | 0, _, _ => simp only [XF, YldW, if_true]; exact key
  | 1, _, _ => simp only [XF, YldW, Nat.one_ne_zero, if_false, if_true]; exact key
  | n + 4, _, _ =>
    have h0 : n + 4 ≠ 0 := by omega
    have h1 : n + 4 ≠ 1 := by omega
    simp only [XF, YldW, h0, h1, if_false]; exact key
theorem YldW_congr {k : Nat} {o : Oper} {e e' : Env} {v : Value} (hs : ∀ cs b, o.op ≠ .select cs b) (hg : ∀ t b, gslot ops o.guard = some (t, b) → t ∈ o.looksAt ops) (h : Agree ops o e e')
    (hy : YldW P k C D (gop ops o) e v) : YldW P k C D (gop ops o) e' v := by
  obtain ⟨g1, g2⟩ := guard_congr hg h
  have he : execG (ev e) (gop ops o).op (gop ops o).ty = execG (ev e') (gop ops o).op (gop ops o).ty := exec_congr hs h
  rcases hy with ⟨h1, h2⟩ | ⟨h1, h2⟩
  · refine .inl ⟨g1.1 h1, ?_⟩
    unfold PV QV WV at *
    rwa [he] at h2
  · exact .inr ⟨g2.1 h1, h2⟩

theorem XF_swap {kd : Nat → Nat} (ok : OrderOK ops (fun _ => 0)) {i j : Nat} {x y : Oper} (hx : ops[i]? = some x) (hy : ops[j]? = some y) (hc : compatW ops kd i j = true) (hne : ∃ w, C w) (hCD : ∀ u, C u → D u) {r : List (GOp × Nat)} {e : Env}
    (h : XF P K ((gop ops x, kd i) :: (gop ops y, kd j) :: r) C D e) : XF P K ((gop ops y, kd j) :: (gop ops x, kd i) :: r) C D e := by
  simp only [compatW, hx, hy, Bool.and_eq_true, Bool.or_eq_true, beq_iff_eq, bne_iff_ne, decide_eq_true_eq] at hc
  obtain ⟨⟨⟨hap, hi3⟩, hj3⟩, hkd⟩ := hc
  obtain ⟨a1, a2, a3⟩ := apartB_spec hap
  have sx := ok.sel i x hx
  have sy := ok.sel j y hy
  have gx := ok.grd i x hx
  have gy := ok.grd j y hy
  have comm : ∀ (v u : Value), (e.put (gop ops x).dst v).put (gop ops y).dst u = (e.put (gop ops y).dst u).put (gop ops x).dst v := fun v u => put_comm a2 e v u
  have ay : ∀ v, Agree ops y e (e.put (gop ops x).dst v) := fun v => agree_put a1 e v
  have ax : ∀ v, Agree ops x e (e.put (gop ops y).dst v) := fun v => agree_put a3 e v
  by_cases hi : kd i ≠ 2
  · by_cases hj : kd j ≠ 2
    · rw [XF_low hi hi3] at h
      obtain ⟨v, h1, h2⟩ := h
      rw [XF_low hj hj3] at h2
      obtain ⟨u, h3, h4⟩ := h2
      rw [XF_low hj hj3]
      refine ⟨u, YldW_congr sy gy (ay v).symm h3, ?_⟩
      rw [XF_low hi hi3]
      exact ⟨v, YldW_congr sx gx (ax u) h1, by rw [← comm]; exact h4⟩
    · have hi0 : kd i ≠ 1 := by omega
      have hj2 : kd j = 2 := by omega
      rw [XF_low hi hi3] at h
      obtain ⟨v, h1, h2⟩ := h
      rw [hj2] at h2 ⊢
      obtain ⟨g1, g2⟩ := guard_congr gy (ay v)
      rcases h2 with ⟨hw, h2⟩ | ⟨hb, h2⟩
      · refine .inl ⟨g1.2 hw, fun w hCw => ?_⟩
        refine XV_mono (fun u w' ⟨C', k1, k2, k4, hk⟩ => ⟨C', k1, k2, k4, ?_⟩) (XV_congr sy (ay v).symm (h2 w hCw))
        rw [XF_low hi hi3]
        refine ⟨v, ?_, by rw [← comm]; exact hk⟩
        have := YldW_congr sx gx (ax u) h1
        rcases this with ⟨q1, q2⟩ | q
        · refine .inl ⟨q1, ?_⟩
          rw [if_neg hi0] at q2 ⊢
          exact q2
        · exact .inr q
      · refine .inr ⟨g2.2 hb, ?_⟩
        rw [XF_low hi hi3]
        exact ⟨v, YldW_congr sx gx (ax undef) h1, by rw [← comm]; exact h2⟩
  · have hi2 : kd i = 2 := by omega
    have hj : kd j ≠ 2 := by omega
    have hj1 : kd j ≠ 1 := by omega
    rw [XF_low hj hj3]
    rw [hi2] at h ⊢
    obtain ⟨w0, hw0⟩ := hne
    have det : ∀ {e : Env} {u u' : Value}, YldW P (kd j) C D (gop ops y) e u → YldW P (kd j) C D (gop ops y) e u' → u = u' := by
      intro e u u' q q'
      rcases q with ⟨q1, q2⟩ | ⟨q1, q2⟩
      · rcases q' with ⟨q3, q4⟩ | ⟨⟨t, b, q3, q5⟩, q4⟩
        · split at q2
          · rename_i h0
            rw [if_pos h0] at q4
            have e1 := q2 w0
            have e2 := q4 w0
            rw [e1] at e2
            injection e2 with e3 _
            injection e3
          · rename_i h0
            rw [if_neg h0, if_neg hj1] at q4
            (try rw [if_neg hj1] at q2)
            exact WV_det (q2 w0 (hCD w0 hw0)) (q4 w0 (hCD w0 hw0))
        · rw [q3] at q1; exact absurd q1 q5
      · rcases q' with ⟨q3, q4⟩ | ⟨_, q4⟩
        · obtain ⟨t, b, q5, q6⟩ := q1
          rw [q5] at q3; exact absurd q3 q6
        · rw [q2, q4]
    have down : ∀ {e : Env} {C' : World → Prop} {u : Value}, YldW P (kd j) C' D (gop ops y) e u → YldW P (kd j) C D (gop ops y) e u := by
      intro e C' u q
      rcases q with ⟨q1, q2⟩ | q
      · refine .inl ⟨q1, ?_⟩
        rw [if_neg hj1] at q2 ⊢
        exact q2
      · exact .inr q
    rcases h with ⟨hw, h⟩ | ⟨hb, h⟩
    · obtain ⟨v0, w1, C1, k1, k2, k4, h1⟩ := XV_some (h w0 hw0)
      rw [XF_low hj hj3] at h1
      obtain ⟨u, hu, _⟩ := h1
      have hu' := down (YldW_congr sy gy (ay v0).symm hu)
      refine ⟨u, hu', .inl ⟨(guard_congr gx (ax u)).1.1 hw, fun w hCw => ?_⟩⟩
      refine XV_mono (fun v w' ⟨C', k1, k2, k4, hk⟩ => ⟨C', k1, k2, k4, ?_⟩) (XV_congr sx (ax u) (h w hCw))
      rw [XF_low hj hj3] at hk
      obtain ⟨u', hu2, hk⟩ := hk
      have : u = u' := det hu' (down (YldW_congr sy gy (ay v).symm hu2))
      subst this
      rw [← comm]
      exact hk
    · rw [XF_low hj hj3] at h
      obtain ⟨u, hu, h⟩ := h
      exact ⟨u, YldW_congr sy gy (ay undef).symm hu, .inr ⟨(guard_congr gx (ax u)).2.1 hb, by rw [← comm]; exact h⟩⟩

theorem XF_tail {o : GOp} {k : Nat} {r r' : List (GOp × Nat)} (hne : ∃ w, C w) (hCD : ∀ u, C u → D u) (h : ∀ C' D' e, (∃ w, C' w) → (∀ u, C' u → D' u) → XF P K r C' D' e → XF P K r' C' D' e) {e : Env} (hh : XF P K ((o, k) :: r) C D e) : XF P K ((o, k) :: r') C D e := by
  match k with
  | 0 => exact hh.imp (fun ⟨a, v, b, c⟩ => ⟨a, v, b, h _ _ _ hne hCD c⟩) (fun ⟨a, c⟩ => ⟨a, h _ _ _ hne hCD c⟩)
  | 1 => exact hh.imp (fun ⟨a, v, b, c⟩ => ⟨a, v, b, h _ _ _ hne hCD c⟩) (fun ⟨a, c⟩ => ⟨a, h _ _ _ hne hCD c⟩)
  | 2 => exact hh.imp (fun ⟨a, b⟩ => ⟨a, fun w hw => XV_mono (fun _ w' ⟨C', k1, k2, k4, c⟩ => ⟨C', k1, k2, k4, h _ _ _ ⟨w', k1⟩ k2 c⟩) (b w hw)⟩) (fun ⟨a, c⟩ => ⟨a, h _ _ _ hne hCD c⟩)
  | 3 => exact hh.imp (fun ⟨a, b⟩ => ⟨a, fun w hw => XV_mono (fun _ w' ⟨C', D', k1, k2, k4, c⟩ => ⟨C', D', k1, k2, k4, h _ _ _ ⟨w', k1⟩ k2 c⟩) (b w hw)⟩) (fun ⟨a, c⟩ => ⟨a, h _ _ _ hne hCD c⟩)
  | _ + 4 => exact hh.imp (fun ⟨a, v, b, c⟩ => ⟨a, v, b, h _ _ _ hne hCD c⟩) (fun ⟨a, c⟩ => ⟨a, h _ _ _ hne hCD c⟩)
theorem XF_front {kd : Nat → Nat} (ok : OrderOK ops (fun _ => 0)) {j : Nat} {y : Oper} (hy : ops[j]? = some y) : ∀ (r1 r2 : List Nat) (C D : World → Prop) (e : Env), (∃ w, C w) → (∀ u, C u → D u) → (∀ i ∈ r1, i < ops.size ∧ compatW ops kd i j = true) →
    XF P K ((r1 ++ j :: r2).map (pick ops kd)) C D e → XF P K ((j :: (r1 ++ r2)).map (pick ops kd)) C D e
  | [], _, _, _, _, _, _, _, h => h
  | i :: r1, r2, C, D, e, hne, hCD, hall, h => by
    obtain ⟨hi, hc⟩ := hall i (by simp)
    have hx : ops[i]? = some ops[i] := Array.getElem?_eq_getElem hi
    have h1 : XF P K (pick ops kd i :: (j :: (r1 ++ r2)).map (pick ops kd)) C D e := by
      simp only [List.cons_append, List.map_cons] at h
      exact XF_tail hne hCD (fun C' D' e' hne' hCD' hh => XF_front ok hy r1 r2 C' D' e' hne' hCD' (fun k hk => hall k (by simp [hk])) hh) h
    simp only [List.map_cons, List.cons_append, pick, hx, hy, Option.map_some, Option.getD_some] at h1 ⊢
    exact XF_swap ok hx hy hc hne hCD h1
end

theorem getD_set {listed : Array Bool} {i j : Nat} (d : Bool) : (listed.setIfInBounds i true).getD j d = if i = j ∧ j < listed.size then true else listed.getD j d := by
  by_cases hij : i = j
  · subst hij
    by_cases hi : i < listed.size
    · simp [Array.getD_eq_getD_getElem?, hi]
    · simp [Array.getD_eq_getD_getElem?, hi]
  · simp [Array.getD_eq_getD_getElem?, Array.getElem?_setIfInBounds_ne hij, hij]
theorem getD_tf {listed : Array Bool} {i : Nat} (hi : i < listed.size) : listed.getD i true = listed.getD i false := by
  simp [Array.getD_eq_getD_getElem?, Array.getElem?_eq_getElem hi]

theorem ready_iff {ops : Array Oper} {listed : Array Bool} {i : Nat} : i ∈ Region.ready .any ops listed ↔
    i < ops.size ∧ listed.getD i true = false ∧ ∃ o, ops[i]? = some o ∧ ∀ e ∈ o.after, Region.binds .any e = true → listed.getD e.on false = true := by
  unfold Region.ready
  simp only [List.mem_filter, List.mem_range, Bool.and_eq_true, Bool.not_eq_true']
  constructor
  · rintro ⟨h1, h2, h3⟩
    refine ⟨h1, h2, ops[i], Array.getElem?_eq_getElem h1, fun e he hb => ?_⟩
    rw [Array.getElem?_eq_getElem h1] at h3
    simp only [Option.map_some, Option.getD_some] at h3
    have := Array.all_eq_true'.1 h3 e he
    simpa [hb] using this
  · rintro ⟨h1, h2, o, ho, h3⟩
    refine ⟨h1, h2, ?_⟩
    rw [ho]
    simp only [Option.map_some, Option.getD_some]
    refine Array.all_eq_true'.2 fun e he => ?_
    cases hb : Region.binds .any e with
    | false => rfl
    | true => simpa using h3 e he hb

/-- Those that are not listed yet, in the text's order. -/
def un (n : Nat) (listed : Array Bool) : List Nat := (List.range n).filter fun i => listed.getD i true == false

theorem mem_un {n : Nat} {listed : Array Bool} {i : Nat} : i ∈ un n listed ↔ i < n ∧ listed.getD i true = false := by simp [un]

theorem filter_split (p : Nat → Bool) : ∀ (n j : Nat), j < n → p j = true → ∃ r1 r2, (List.range n).filter p = r1 ++ j :: r2 ∧ (∀ i ∈ r1, i < j) ∧ (List.range n).filter (fun i => p i && !(i == j)) = r1 ++ r2
  | 0, j, h, _ => by omega
  | n + 1, j, h, hp => by
    rw [List.range_succ, List.filter_append, List.filter_append]
    rcases Nat.lt_or_ge j n with hj | hj
    · obtain ⟨r1, r2, h1, h2, h3⟩ := filter_split p n j hj hp
      have hne : (n == j) = false := by simp; omega
      refine ⟨r1, r2 ++ [n].filter p, by rw [h1]; simp, h2, ?_⟩
      rw [h3]
      simp [List.filter_cons, hne]
    · have : j = n := by omega
      subst this
      refine ⟨(List.range j).filter p, [], by simp [List.filter_cons, hp], fun i hi => by simp at hi; exact hi.1, ?_⟩
      simp only [List.filter_cons, beq_self_eq_true, Bool.not_true, Bool.and_false, Bool.false_eq_true, if_false, List.filter_nil, List.append_nil]
      refine List.filter_congr fun i hi => ?_
      have := List.mem_range.1 hi
      have hne : (i == j) = false := by simp; omega
      simp [hne]

theorem un_set {n j : Nat} {listed : Array Bool} (hs : listed.size = n) (hj : j < n) : un n (listed.setIfInBounds j true) = (List.range n).filter fun i => (listed.getD i true == false) && !(i == j) := by
  unfold un
  refine List.filter_congr fun i hi => ?_
  have := List.mem_range.1 hi
  rw [getD_set]
  by_cases hij : j = i
  · subst hij; simp [hs, hj]
  · have hne : (i == j) = false := by simp; omega
    simp [hij, hne]

structure Inv (ops : Array Oper) (listed : Array Bool) : Prop where
  size : listed.size = ops.size
  closed : ∀ (j : Nat) (o : Oper), ops[j]? = some o → listed.getD j true = true → ∀ e ∈ o.after, Region.binds .any e = true → listed.getD e.on true = true

/-- While i is not listed none of those behind it may come up. -/
theorem blk_not {ops : Array Oper} {kd : Nat → Nat} (ok : OrderOK ops kd) {listed : Array Bool} (inv : Inv ops listed) {i : Nat} (hi : i < ops.size) (hu : listed.getD i true = false) : ∀ (m : Nat), m ≤ ops.size → ∀ j ∈ blkFrom ops i m, listed.getD j true = false ∧ j ∉ Region.ready .any ops listed
  | 0, _, j, h => by simp [blkFrom] at h
  | m + 1, hm, j, h => by
    have ih := blk_not ok inv hi hu m (by omega)
    unfold blkFrom at h
    split at h
    · rename_i hc
      rcases List.mem_cons.1 h with rfl | h
      · simp only [Bool.and_eq_true, Bool.or_eq_true, decide_eq_true_eq] at hc
        have key : ∀ k, k < ops.size → listed.getD k true = false → waits ops j k = true → listed.getD j true = false ∧ j ∉ Region.ready .any ops listed := by
          intro k hk hku hw
          obtain ⟨o, ho, ed, he, hb, hon⟩ := waits_spec hw
          refine ⟨?_, fun hr => ?_⟩
          · cases hl : listed.getD j true with
            | false => rfl
            | true =>
              have := inv.closed j o ho hl ed he hb
              rw [hon, hku] at this
              simp at this
          · obtain ⟨_, _, o', ho', hall⟩ := ready_iff.1 hr
            have : o' = o := Option.some.inj (ho'.symm.trans ho)
            subst this
            have := hall ed he hb
            rw [hon, ← getD_tf (by rw [inv.size]; exact hk), hku] at this
            simp at this
        rcases hc.2 with hw | hw
        · exact key i hi hu hw
        · obtain ⟨k, hk, hw⟩ := List.any_eq_true.1 hw
          have hkm : k < ops.size := by
            have : ∀ (m' : Nat), ∀ k ∈ blkFrom ops i m', k < m' := by
              intro m'
              induction m' with
              | zero => intro k hk; simp [blkFrom] at hk
              | succ m' ih' =>
                intro k hk
                unfold blkFrom at hk
                split at hk
                · rcases List.mem_cons.1 hk with rfl | hk
                  · omega
                  · have := ih' k hk; omega
                · have := ih' k hk; omega
            have := this _ k hk
            omega
          exact key k hkm (ih k hk).1 hw
      · exact ih j h
    · exact ih j h

theorem wpAny_of_XE {P : Program} {ops : Array Oper} {kd : Nat → Nat} (ok : OrderOK ops kd) {N : Nat} (hN : N ≤ 1000000) {Q : Exit → Act → World → Prop} {K : Env → World → Prop} (hQ : ∀ a e w, Sim N a e → K e w → Q .normal a w)
    (hd : ∀ (j : Nat) (o : Oper), ops[j]? = some o → ∀ x, o.dst = some x → x < N) :
    ∀ (fuel : Nat) (listed : Array Bool) (a : Act) (e : Env) (w : World) (C : World → Prop), (un ops.size listed).length ≤ fuel → Inv ops listed → Sim N a e → C w → XE P K ((un ops.size listed).map (pick ops kd)) C e → wpAny P .any ops Q fuel listed a w := by
  intro fuel
  induction fuel with
  | zero =>
    intro listed a e w C hf inv sim hC h
    have hnil : un ops.size listed = [] := List.length_eq_zero_iff.1 (by omega)
    rw [hnil] at h
    refine ⟨List.eq_nil_iff_forall_not_mem.2 fun i hi => ?_, hQ _ _ _ sim (h w hC)⟩
    obtain ⟨hi1, hi2, _⟩ := ready_iff.1 hi
    have : i ∈ un ops.size listed := mem_un.2 ⟨hi1, hi2⟩
    rw [hnil] at this
    cases this
  | succ f ih =>
    intro listed a e w C hf inv sim hC h
    refine ⟨fun h0 => ?_, fun j hj => ?_⟩
    · have hnil : un ops.size listed = [] := by
        cases hun : un ops.size listed with
        | nil => rfl
        | cons i r =>
          exfalso
          have hex : ∀ i, i < ops.size → listed.getD i true = false → ∃ k, k ∈ Region.ready .any ops listed := by
            intro i
            induction i using Nat.strongRecOn with
            | _ i ih2 =>
              intro hi hl
              by_cases hb : ∃ k, k < i ∧ listed.getD k true = false
              · obtain ⟨k, hk, hk2⟩ := hb
                exact ih2 k hk (by omega) hk2
              · refine ⟨i, ready_iff.2 ⟨hi, hl, ops[i], Array.getElem?_eq_getElem hi, fun ed he hbd => ?_⟩⟩
                have hlt := ok.back i _ (Array.getElem?_eq_getElem hi) ed he hbd
                rw [← getD_tf (by rw [inv.size]; omega)]
                cases hle : listed.getD ed.on true with
                | true => rfl
                | false => exact absurd ⟨ed.on, hlt, hle⟩ hb
          have hm : i ∈ un ops.size listed := by rw [hun]; simp
          obtain ⟨hi1, hi2⟩ := mem_un.1 hm
          obtain ⟨k, hk⟩ := hex i hi1 hi2
          rw [h0] at hk
          cases hk
      rw [hnil] at h
      exact hQ _ _ _ sim (h w hC)
    · obtain ⟨hjl, hju, y, hy, hallj⟩ := ready_iff.1 hj
      obtain ⟨r1, r2, hs1, hs2, hs3⟩ := filter_split (fun i => listed.getD i true == false) ops.size j hjl (by simp [hju])
      have hset : un ops.size (listed.setIfInBounds j true) = r1 ++ r2 := by rw [un_set inv.size hjl, ← hs3]
      have hun : un ops.size listed = r1 ++ j :: r2 := hs1
      rw [hun] at h hf
      have hfr := XE_front ok hy r1 r2 C e ⟨w, hC⟩ (fun i hi => by
        have him : i ∈ un ops.size listed := by rw [hun]; simp [hi]
        obtain ⟨hi1, hi2⟩ := mem_un.1 him
        refine ⟨hi1, ?_⟩
        rcases ok.ord i j (hs2 i hi) hjl with hb | hc
        · exact absurd hj (blk_not ok inv hi1 hi2 _ (Nat.le_refl _) j hb).2
        · exact hc) h
      have inv' : Inv ops (listed.setIfInBounds j true) := by
        refine ⟨by simp [inv.size], fun k o ho hl ed he hb => ?_⟩
        rw [getD_set]
        split
        · rfl
        · rw [getD_set] at hl
          split at hl
          · rename_i hjk
            obtain ⟨rfl, _⟩ := hjk
            have : o = y := Option.some.inj (ho.symm.trans hy)
            subst this
            have h1 := hallj ed he hb
            rcases Nat.lt_or_ge ed.on listed.size with h2 | h2
            · rw [getD_tf h2]; exact h1
            · simp [Array.getD_eq_getD_getElem?, Array.getElem?_eq_none h2]
          · exact inv.closed k o ho hl ed he hb
      have next : ∀ (C' : World → Prop) (v : Value) (w' : World), C' w' → XE P K ((r1 ++ r2).map (pick ops kd)) C' (e.put y.dst v) → wpAny P .any ops Q f (listed.setIfInBounds j true) (a.put y.dst v) w' := by
        intro C' v w' hC' hx
        refine ih _ _ (e.put y.dst v) w' C' (by rw [hset]; simp at hf ⊢; omega) inv' (sim.put (hd j y hy) v) hC' (by rw [hset]; exact hx)
      simp only [List.map_cons, pick, hy, Option.map_some, Option.getD_some] at hfr
      unfold wpOp
      rw [hy]
      simp only []
      have notW : badG e (gop ops y).guard → ¬ Region.wanted y (yielded ops a.tmps) = true := fun ⟨t, b, hg, hne⟩ hw => by
        have := (wanted_iff sim hN).1 hw
        simp only [gop] at hg
        rw [hg] at this
        exact hne this
      by_cases hk : kd j ≤ 1
      · rw [XE_low hk] at hfr
        obtain ⟨v, hyl, hx⟩ := hfr
        rcases hyl with ⟨hw, hq⟩ | ⟨hb, rfl⟩
        · rw [if_pos ((wanted_iff sim hN).2 hw)]
          refine .inl (wp_of_XV sim (K := fun v' w' => v' = v ∧ C w') (fun v' w' ⟨hv, hC'⟩ => by subst hv; exact next C v' w' hC' hx) ?_)
          split at hq
          · have := hq w
            simp only [gop] at this
            unfold XV
            rw [this]
            exact ⟨rfl, hC⟩
          · have := hq w hC
            unfold QV at this
            unfold XV
            simp only [gop] at this
            generalize (execG (ev e) y.op y.type).run P w = r at *
            cases r with
            | ok n w' =>
              cases n <;> simp only [] at this ⊢
              case value u => exact ⟨this.2, by rw [this.1]; exact hC⟩
              case enter g args => obtain ⟨rfl, hc⟩ := this; exact hc.mono fun en w'' ⟨he, hC'⟩ => ⟨v, he, rfl, hC'⟩
            | halt x w' => exact this
        · rw [if_neg (notW hb)]
          exact next C undef w hC hx
      · obtain ⟨m, hm⟩ : ∃ m, kd j = m + 2 := ⟨kd j - 2, by omega⟩
        rw [hm] at hfr
        rcases hfr with ⟨hw, hx⟩ | ⟨hb, hx⟩
        · rw [if_pos ((wanted_iff sim hN).2 hw)]
          exact .inl (wp_of_XV sim (fun v w' ⟨C', hC', hx'⟩ => next C' v w' hC' hx') (hx w hC))
        · rw [if_neg (notW hb)]
          exact next C undef w hC hx

theorem wpAny_of_XF {P : Program} {ops : Array Oper} {kd : Nat → Nat} (ok : OrderOK ops (fun _ => 0)) (ord : ∀ i j, i < j → j < ops.size → j ∈ blkFrom ops i ops.size ∨ compatW ops kd i j = true) {N : Nat} (hN : N ≤ 1000000) {Q : Exit → Act → World → Prop} {K : Env → World → Prop} (hQ : ∀ a e w, Sim N a e → K e w → Q .normal a w)
    (hd : ∀ (j : Nat) (o : Oper), ops[j]? = some o → ∀ x, o.dst = some x → x < N) :
    ∀ (fuel : Nat) (listed : Array Bool) (a : Act) (e : Env) (w : World) (C D : World → Prop), (un ops.size listed).length ≤ fuel → Inv ops listed → Sim N a e → C w → (∀ u, C u → D u) → Cl C → XF P K ((un ops.size listed).map (pick ops kd)) C D e → wpAny P .any ops Q fuel listed a w := by
  intro fuel
  induction fuel with
  | zero =>
    intro listed a e w C D hf inv sim hC hCD hCl h
    have hnil : un ops.size listed = [] := List.length_eq_zero_iff.1 (by omega)
    rw [hnil] at h
    refine ⟨List.eq_nil_iff_forall_not_mem.2 fun i hi => ?_, hQ _ _ _ sim (h w hC)⟩
    obtain ⟨hi1, hi2, _⟩ := ready_iff.1 hi
    have : i ∈ un ops.size listed := mem_un.2 ⟨hi1, hi2⟩
    rw [hnil] at this
    cases this
  | succ f ih =>
    intro listed a e w C D hf inv sim hC hCD hCl h
    refine ⟨fun h0 => ?_, fun j hj => ?_⟩
    · have hnil : un ops.size listed = [] := by
        cases hun : un ops.size listed with
        | nil => rfl
        | cons i r =>
          exfalso
          have hex : ∀ i, i < ops.size → listed.getD i true = false → ∃ k, k ∈ Region.ready .any ops listed := by
            intro i
            induction i using Nat.strongRecOn with
            | _ i ih2 =>
              intro hi hl
              by_cases hb : ∃ k, k < i ∧ listed.getD k true = false
              · obtain ⟨k, hk, hk2⟩ := hb
                exact ih2 k hk (by omega) hk2
              · refine ⟨i, ready_iff.2 ⟨hi, hl, ops[i], Array.getElem?_eq_getElem hi, fun ed he hbd => ?_⟩⟩
                have hlt := ok.back i _ (Array.getElem?_eq_getElem hi) ed he hbd
                rw [← getD_tf (by rw [inv.size]; omega)]
                cases hle : listed.getD ed.on true with
                | true => rfl
                | false => exact absurd ⟨ed.on, hlt, hle⟩ hb
          have hm : i ∈ un ops.size listed := by rw [hun]; simp
          obtain ⟨hi1, hi2⟩ := mem_un.1 hm
          obtain ⟨k, hk⟩ := hex i hi1 hi2
          rw [h0] at hk
          cases hk
      rw [hnil] at h
      exact hQ _ _ _ sim (h w hC)
    · obtain ⟨hjl, hju, y, hy, hallj⟩ := ready_iff.1 hj
      obtain ⟨r1, r2, hs1, hs2, hs3⟩ := filter_split (fun i => listed.getD i true == false) ops.size j hjl (by simp [hju])
      have hset : un ops.size (listed.setIfInBounds j true) = r1 ++ r2 := by rw [un_set inv.size hjl, ← hs3]
      have hun : un ops.size listed = r1 ++ j :: r2 := hs1
      rw [hun] at h hf
      have hfr := XF_front ok hy r1 r2 C D e ⟨w, hC⟩ hCD (fun i hi => by
        have him : i ∈ un ops.size listed := by rw [hun]; simp [hi]
        obtain ⟨hi1, hi2⟩ := mem_un.1 him
        refine ⟨hi1, ?_⟩
        rcases ord i j (hs2 i hi) hjl with hb | hc
        · exact absurd hj (blk_not ok inv hi1 hi2 _ (Nat.le_refl _) j hb).2
        · exact hc) h
      have inv' : Inv ops (listed.setIfInBounds j true) := by
        refine ⟨by simp [inv.size], fun k o ho hl ed he hb => ?_⟩
        rw [getD_set]
        split
        · rfl
        · rw [getD_set] at hl
          split at hl
          · rename_i hjk
            obtain ⟨rfl, _⟩ := hjk
            have : o = y := Option.some.inj (ho.symm.trans hy)
            subst this
            have h1 := hallj ed he hb
            rcases Nat.lt_or_ge ed.on listed.size with h2 | h2
            · rw [getD_tf h2]; exact h1
            · simp [Array.getD_eq_getD_getElem?, Array.getElem?_eq_none h2]
          · exact inv.closed k o ho hl ed he hb
      have next : ∀ (C' D' : World → Prop) (v : Value) (w' : World), C' w' → (∀ u, C' u → D' u) → Cl C' → XF P K ((r1 ++ r2).map (pick ops kd)) C' D' (e.put y.dst v) → wpAny P .any ops Q f (listed.setIfInBounds j true) (a.put y.dst v) w' := by
        intro C' D' v w' hC' hCD' hCl' hx
        refine ih _ _ (e.put y.dst v) w' C' D' (by rw [hset]; simp at hf ⊢; omega) inv' (sim.put (hd j y hy) v) hC' hCD' hCl' (by rw [hset]; exact hx)
      simp only [List.map_cons, pick, hy, Option.map_some, Option.getD_some] at hfr
      unfold wpOp
      rw [hy]
      simp only []
      have notW : badG e (gop ops y).guard → ¬ Region.wanted y (yielded ops a.tmps) = true := fun ⟨t, b, hg, hne⟩ hw => by
        have := (wanted_iff sim hN).1 hw
        simp only [gop] at hg
        rw [hg] at this
        exact hne this
      by_cases hk : kd j ≠ 2 ∧ kd j ≠ 3
      · rw [XF_low hk.1 hk.2] at hfr
        obtain ⟨v, hyl, hx⟩ := hfr
        rcases hyl with ⟨hw, hq⟩ | ⟨hb, rfl⟩
        · rw [if_pos ((wanted_iff sim hN).2 hw)]
          refine .inl (wp_of_XV sim (K := fun v' w' => v' = v ∧ C w') (fun v' w' ⟨hv, hC'⟩ => by subst hv; exact next C D v' w' hC' hCD hCl hx) ?_)
          split at hq
          · have := hq w
            simp only [gop] at this
            unfold XV
            rw [this]
            exact ⟨rfl, hC⟩
          · split at hq
            · have := hq w hC
              unfold QV at this
              unfold XV
              simp only [gop] at this
              generalize (execG (ev e) y.op y.type).run P w = r at *
              cases r with
              | ok n w' =>
                cases n <;> simp only [] at this ⊢
                case value u => exact ⟨this.2, by rw [this.1]; exact hC⟩
                case enter g args => obtain ⟨rfl, hc⟩ := this; exact hc.mono fun en w'' ⟨he, hC'⟩ => ⟨v, he, rfl, hC'⟩
              | halt x w' => exact this
            · have := hq w (hCD w hC)
              unfold WV at this
              unfold XV
              simp only [gop] at this
              generalize (execG (ev e) y.op y.type).run P w = r at *
              cases r with
              | ok n w' =>
                cases n <;> simp only [] at this ⊢
                case value u => exact ⟨this.2, by rw [this.1]; exact hC⟩
                case enter g args => obtain ⟨rfl, _, hc⟩ := this; exact hc.mono fun en w'' ⟨he, hE⟩ => ⟨v, he, rfl, hCl _ _ hC hE⟩
              | halt x w' => exact this
        · rw [if_neg (notW hb)]
          exact next C D undef w hC hCD hCl hx
      · rcases (by omega : kd j = 2 ∨ kd j = 3) with hm | hm
        · rw [hm] at hfr
          rcases hfr with ⟨hw, hx⟩ | ⟨hb, hx⟩
          · rw [if_pos ((wanted_iff sim hN).2 hw)]
            exact .inl (wp_of_XV sim (fun v w' ⟨C', k1, k2, k4, hx'⟩ => next C' D v w' k1 k2 k4 hx') (hx w hC))
          · rw [if_neg (notW hb)]
            exact next C D undef w hC hCD hCl hx
        · rw [hm] at hfr
          rcases hfr with ⟨hw, hx⟩ | ⟨hb, hx⟩
          · rw [if_pos ((wanted_iff sim hN).2 hw)]
            exact .inl (wp_of_XV sim (fun v w' ⟨C', D', k1, k2, k4, hx'⟩ => next C' D' v w' k1 k2 k4 hx') (hx w hC))
          · rw [if_neg (notW hb)]
            exact next C D undef w hC hCD hCl hx

def kindAt (ops : Array Oper) (big : List Nat) (i : Nat) : Nat := if big.contains i then 2 else ((ops[i]?).map fun o => kindOf o.op).getD 0
/-- The operations with their kinds; those of 'big' may do anything. -/
def setK (big : List Nat) : Nat → List (GOp × Nat) → List (GOp × Nat)
  | _, [] => []
  | i, (g, k) :: r => (g, if big.contains i then 2 else k) :: setK big (i + 1) r
def dops (big : List Nat) (ops : Array Oper) : List (GOp × Nat) := setK big 0 (ops.toList.map fun o => (gop ops o, kindOf o.op))

theorem setK_get (big : List Nat) : ∀ (l : List (GOp × Nat)) (i j : Nat), (setK big i l)[j]? = (l[j]?).map fun (g, k) => (g, if big.contains (i + j) then 2 else k)
  | [], i, j => by simp [setK]
  | (g, k) :: r, i, j => by
    cases j with
    | zero => simp [setK]
    | succ j => simp only [setK, List.getElem?_cons_succ, setK_get big r (i + 1) j]; rw [show i + 1 + j = i + (j + 1) by omega]
theorem dops_eq (big : List Nat) (ops : Array Oper) : dops big ops = (List.range ops.size).map (pick ops (kindAt ops big)) := by
  apply List.ext_getElem?
  intro j
  unfold dops
  rw [setK_get]
  simp only [List.getElem?_map, Nat.zero_add, Array.getElem?_toList]
  rcases Nat.lt_or_ge j ops.size with h | h
  · simp [Array.getElem?_eq_getElem h, List.getElem?_range h, pick, kindAt]
  · simp [Array.getElem?_eq_none h, List.getElem?_eq_none (show (List.range ops.size).length ≤ j by simpa using h)]

/-- A row whose order is drawn: in the text's order, each operation held to its kind. -/
def XD (P : Program) (l : List (GOp × Nat)) (K : Env → World → Prop) (e : Env) (w : World) : Prop :=
  ∃ C : World → Prop, (∀ d, C { w with drawn := d }) ∧ XE P K l C e

theorem wp_of_XD {P : Program} (hm : P.follows .mixedOrders = true) {id N : Nat} {ops : Array Oper} {Q : Exit → Act → World → Prop} {K : Env → World → Prop} (hN : N ≤ 1000000)
    (hQ : ∀ a e w, Sim N a e → K e w → Q .normal a w) {a : Act} {e : Env} {w : World} {big : List Nat} (hok : orderOK ops (kindAt ops big) = true) (hdo : dstsOK N ops.toList = true) (h : Sim N a e) (hx : XD P (dops big ops) K e w) : (Code.region id ops true).wp P Q a w := by
  obtain ⟨C, hC, hq⟩ := hx
  rw [dops_eq] at hq
  have hdall : ∀ (j : Nat) (o : Oper), ops[j]? = some o → ∀ x, o.dst = some x → x < N := fun j o ho x hx => by
    have hmem : o ∈ ops.toList := Array.mem_toList_iff.2 (Array.mem_of_getElem? ho)
    have := List.all_eq_true.1 hdo o hmem
    rw [hx] at this
    simpa using this
  have hun : un ops.size (Array.replicate ops.size false) = List.range ops.size := by
    unfold un
    refine List.filter_eq_self.2 fun i hi => ?_
    have := List.mem_range.1 hi
    simp [Array.getD_eq_getD_getElem?, this]
  refine wp_region_any hm (wpAny_of_XE (OrderOK.of hok) hN hQ hdall _ _ a e _ C ?_ ⟨by simp, fun j o hj hl => ?_⟩ h (hC _) ?_)
  · rw [hun]; simp
  · have hjl : j < ops.size := (Array.getElem?_eq_some_iff.1 hj).1
    simp [Array.getD_eq_getD_getElem?, hjl] at hl
  · rw [hun]; exact hq

theorem XE_mono {P : Program} {K K' : Env → World → Prop} (h : ∀ e w, K e w → K' e w) : ∀ (l : List (GOp × Nat)) (C : World → Prop) (e : Env), XE P K l C e → XE P K' l C e
  | [], _, _, hh => fun w hw => h _ _ (hh w hw)
  | (_, 0) :: r, _, _, hh => hh.imp (fun ⟨a, v, b, c⟩ => ⟨a, v, b, XE_mono h r _ _ c⟩) (fun ⟨a, c⟩ => ⟨a, XE_mono h r _ _ c⟩)
  | (_, 1) :: r, _, _, hh => hh.imp (fun ⟨a, v, b, c⟩ => ⟨a, v, b, XE_mono h r _ _ c⟩) (fun ⟨a, c⟩ => ⟨a, XE_mono h r _ _ c⟩)
  | (_, _ + 2) :: r, _, _, hh => hh.imp (fun ⟨a, b⟩ => ⟨a, fun w hw => XV_mono (fun _ _ ⟨C', hC', c⟩ => ⟨C', hC', XE_mono h r _ _ c⟩) (b w hw)⟩) (fun ⟨a, c⟩ => ⟨a, XE_mono h r _ _ c⟩)

def kindW (ops : Array Oper) (big wd : List Nat) (i : Nat) : Nat := if big.contains i then 2 else if wd.contains (i + 1000) then 3 else if wd.contains i then 4 else ((ops[i]?).map fun o => kindOf o.op).getD 0
def setW (big wd : List Nat) : Nat → List (GOp × Nat) → List (GOp × Nat)
  | _, [] => []
  | i, (g, k) :: r => (g, if big.contains i then 2 else if wd.contains (i + 1000) then 3 else if wd.contains i then 4 else k) :: setW big wd (i + 1) r
def dopsW (big wd : List Nat) (ops : Array Oper) : List (GOp × Nat) := setW big wd 0 (ops.toList.map fun o => (gop ops o, kindOf o.op))
theorem setW_get (big wd : List Nat) : ∀ (l : List (GOp × Nat)) (i j : Nat), (setW big wd i l)[j]? = (l[j]?).map fun (g, k) => (g, if big.contains (i + j) then 2 else if wd.contains (i + j + 1000) then 3 else if wd.contains (i + j) then 4 else k)
  | [], i, j => by simp [setW]
  | (g, k) :: r, i, j => by
    cases j with
    | zero => simp [setW]
    | succ j => simp only [setW, List.getElem?_cons_succ, setW_get big wd r (i + 1) j]; rw [show i + 1 + j = i + (j + 1) by omega]
theorem dopsW_eq (big wd : List Nat) (ops : Array Oper) : dopsW big wd ops = (List.range ops.size).map (pick ops (kindW ops big wd)) := by
  apply List.ext_getElem?
  intro j
  unfold dopsW
  rw [setW_get]
  simp only [List.getElem?_map, Nat.zero_add, Array.getElem?_toList]
  rcases Nat.lt_or_ge j ops.size with h | h
  · simp [Array.getElem?_eq_getElem h, List.getElem?_range h, pick, kindW]
  · simp [Array.getElem?_eq_none h, List.getElem?_eq_none (show (List.range ops.size).length ≤ j by simpa using h)]
def XW (P : Program) (l : List (GOp × Nat)) (K : Env → World → Prop) (e : Env) (w : World) : Prop :=
  ∃ C D : World → Prop, (∀ d, C { w with drawn := d }) ∧ (∀ u, C u → D u) ∧ Cl C ∧ XF P K l C D e
theorem wp_of_XW {P : Program} (hm : P.follows .mixedOrders = true) {id N : Nat} {ops : Array Oper} {Q : Exit → Act → World → Prop} {K : Env → World → Prop} (hN : N ≤ 1000000)
    (hQ : ∀ a e w, Sim N a e → K e w → Q .normal a w) {a : Act} {e : Env} {w : World} {big wd : List Nat} (hok : orderW ops (kindW ops big wd) = true) (hdo : dstsOK N ops.toList = true) (h : Sim N a e) (hx : XW P (dopsW big wd ops) K e w) : (Code.region id ops true).wp P Q a w := by
  obtain ⟨C, D, hC, hCD, hCl, hq⟩ := hx
  simp only [orderW, Bool.and_eq_true] at hok
  obtain ⟨hok0, hok1⟩ := hok
  have ord : ∀ i j, i < j → j < ops.size → j ∈ blkFrom ops i ops.size ∨ compatW ops (kindW ops big wd) i j = true := fun i j hij hj => by
    have := List.all_eq_true.1 (List.all_eq_true.1 hok1 i (List.mem_range.2 (by omega))) j (List.mem_range.2 hj)
    simp only [Bool.or_eq_true, decide_eq_true_eq] at this
    rcases this with (h | h) | h
    · omega
    · exact .inl (by simpa using h)
    · exact .inr h
  rw [dopsW_eq] at hq
  have hdall : ∀ (j : Nat) (o : Oper), ops[j]? = some o → ∀ x, o.dst = some x → x < N := fun j o ho x hx => by
    have hmem : o ∈ ops.toList := Array.mem_toList_iff.2 (Array.mem_of_getElem? ho)
    have := List.all_eq_true.1 hdo o hmem
    rw [hx] at this
    simpa using this
  have hun : un ops.size (Array.replicate ops.size false) = List.range ops.size := by
    unfold un
    refine List.filter_eq_self.2 fun i hi => ?_
    have := List.mem_range.1 hi
    simp [Array.getD_eq_getD_getElem?, this]
  refine wp_region_any hm (wpAny_of_XF (OrderOK.of hok0) ord hN hQ hdall _ _ a e _ C D ?_ ⟨by simp, fun j o hj hl => ?_⟩ h (hC _) hCD hCl ?_)
  · rw [hun]; simp
  · have hjl : j < ops.size := (Array.getElem?_eq_some_iff.1 hj).1
    simp [Array.getD_eq_getD_getElem?, hjl] at hl
  · rw [hun]; exact hq

theorem XF_mono {P : Program} {K K' : Env → World → Prop} (h : ∀ e w, K e w → K' e w) : ∀ (l : List (GOp × Nat)) (C D : World → Prop) (e : Env), XF P K l C D e → XF P K' l C D e
  | [], _, _, _, hh => fun w hw => h _ _ (hh w hw)
  | (_, 0) :: r, _, _, _, hh => hh.imp (fun ⟨a, v, b, c⟩ => ⟨a, v, b, XF_mono h r _ _ _ c⟩) (fun ⟨a, c⟩ => ⟨a, XF_mono h r _ _ _ c⟩)
  | (_, 1) :: r, _, _, _, hh => hh.imp (fun ⟨a, v, b, c⟩ => ⟨a, v, b, XF_mono h r _ _ _ c⟩) (fun ⟨a, c⟩ => ⟨a, XF_mono h r _ _ _ c⟩)
  | (_, 2) :: r, _, _, _, hh => hh.imp (fun ⟨a, b⟩ => ⟨a, fun w hw => XV_mono (fun _ _ ⟨C', k1, k2, k4, c⟩ => ⟨C', k1, k2, k4, XF_mono h r _ _ _ c⟩) (b w hw)⟩) (fun ⟨a, c⟩ => ⟨a, XF_mono h r _ _ _ c⟩)
  | (_, 3) :: r, _, _, _, hh => hh.imp (fun ⟨a, b⟩ => ⟨a, fun w hw => XV_mono (fun _ _ ⟨C', D', k1, k2, k4, c⟩ => ⟨C', D', k1, k2, k4, XF_mono h r _ _ _ c⟩) (b w hw)⟩) (fun ⟨a, c⟩ => ⟨a, XF_mono h r _ _ _ c⟩)
  | (_, _ + 4) :: r, _, _, _, hh => hh.imp (fun ⟨a, v, b, c⟩ => ⟨a, v, b, XF_mono h r _ _ _ c⟩) (fun ⟨a, c⟩ => ⟨a, XF_mono h r _ _ _ c⟩)

/-! ### Rows in which an operation yields some value with a property that lasts -/
/-- Some value with the property, in a world that extends. -/
def RV (P : Program) (op : Op) (ty : TypeId) (e : Env) (u : World) (R : Value → World → Prop) : Prop :=
  match (execG (ev e) op ty).run P u with
  | .ok (.value x) w' => Ext u w' ∧ R x w'
  | .ok (.enter f args) w' => w' = u ∧ Calls P f args u (fun en w'' => ∃ v, en = .returned v ∧ Ext u w'' ∧ R v w'')
  | _ => False
theorem RV_XV {P : Program} {op : Op} {ty : TypeId} {e : Env} {u : World} {R : Value → World → Prop} (h : RV P op ty e u R) : XV P op ty e u (fun v w' => Ext u w' ∧ R v w') := by
  unfold RV at h
  unfold XV
  generalize (execG (ev e) op ty).run P u = r at *
  cases r with
  | ok n w' =>
    cases n <;> simp only [] at h ⊢
    case value x => exact h
    case enter f args => obtain ⟨rfl, hc⟩ := h; exact hc
  | halt x w' => exact h
/-- F: what lasts. Kind 5 + n: some value with F n. -/
def XR (P : Program) (F : Nat → Value → World → Prop) (K : Env → World → Prop) : List (GOp × Nat) → (World → Prop) → (World → Prop) → Env → Prop
  | [], C, _, e => ∀ w, C w → K e w
  | (o, 0) :: r, C, D, e => (wantG e o.guard ∧ ∃ v, PV P o.op o.ty e v ∧ XR P F K r C D (e.put o.dst v)) ∨ (badG e o.guard ∧ XR P F K r C D (e.put o.dst undef))
  | (o, 1) :: r, C, D, e => (wantG e o.guard ∧ ∃ v, (∀ w, C w → QV P C o.op o.ty e w v) ∧ XR P F K r C D (e.put o.dst v)) ∨ (badG e o.guard ∧ XR P F K r C D (e.put o.dst undef))
  | (o, 2) :: r, C, D, e => (wantG e o.guard ∧ ∀ w, C w → XV P o.op o.ty e w (fun v w' => ∃ C' : World → Prop, C' w' ∧ (∀ u, C' u → D u) ∧ Cl C' ∧ (∀ k u, F k u w → F k u w') ∧ XR P F K r C' D (e.put o.dst v))) ∨ (badG e o.guard ∧ XR P F K r C D (e.put o.dst undef))
  | (o, 3) :: r, C, D, e => (wantG e o.guard ∧ ∀ w, C w → XV P o.op o.ty e w (fun v w' => ∃ C' D' : World → Prop, C' w' ∧ (∀ u, C' u → D' u) ∧ Cl C' ∧ XR P F K r C' D' (e.put o.dst v))) ∨ (badG e o.guard ∧ XR P F K r C D (e.put o.dst undef))
  | (o, 4) :: r, C, D, e => (wantG e o.guard ∧ ∃ v, (∀ u, D u → WV P o.op o.ty e u v) ∧ XR P F K r C D (e.put o.dst v)) ∨ (badG e o.guard ∧ XR P F K r C D (e.put o.dst undef))
  | (o, n + 5) :: r, C, D, e => (wantG e o.guard ∧ (∀ u, D u → RV P o.op o.ty e u (F n)) ∧ ∀ v, (∃ w, C w ∧ F n v w) → XR P F K r (fun w => C w ∧ F n v w) D (e.put o.dst v)) ∨ (badG e o.guard ∧ XR P F K r C D (e.put o.dst undef))

def compatR (ops : Array Oper) (kd : Nat → Nat) (i j : Nat) : Bool :=
  match ops[i]?, ops[j]? with
  | some x, some y => apartB ops x y && kd i != 3 && kd j != 3 && ((kd i == 0 && decide (kd j ≤ 4)) || (kd j == 0 && decide (kd i ≤ 4)) || (kd i != 2 && kd j != 2 && decide (kd i ≤ 4) && decide (kd j ≤ 4)) || (kd i == 2 && kd j == 4) || (kd i == 4 && kd j == 2) ||
      (decide (5 ≤ kd j) && (kd i == 0 || kd i == 4 || kd i == 2)) || (decide (5 ≤ kd i) && (kd j == 0 || kd j == 4)))
  | _, _ => true
def orderR (ops : Array Oper) (kd : Nat → Nat) : Bool :=
  orderOK ops (fun _ => 0) && ((List.range ops.size).all fun i => (List.range ops.size).all fun j => decide (j ≤ i) || (blkFrom ops i ops.size).contains j || compatR ops kd i j)

section
variable {P : Program} {F : Nat → Value → World → Prop} {K : Env → World → Prop} {C D : World → Prop} {ops : Array Oper}
theorem XR_low {k : Nat} (hk : k ≠ 2) (hk3 : k ≠ 3) (hk5 : k ≤ 4) {o : GOp} {r : List (GOp × Nat)} {e : Env} : XR P F K ((o, k) :: r) C D e ↔ ∃ v, YldW P k C D o e v ∧ XR P F K r C D (e.put o.dst v) := by
  have key : ∀ {A : Value → Prop}, ((wantG e o.guard ∧ ∃ v, A v ∧ XR P F K r C D (e.put o.dst v)) ∨ (badG e o.guard ∧ XR P F K r C D (e.put o.dst undef))) ↔
      ∃ v, ((wantG e o.guard ∧ A v) ∨ (badG e o.guard ∧ v = undef)) ∧ XR P F K r C D (e.put o.dst v) := by
    intro A
    constructor
    · rintro (⟨h1, v, h2, h3⟩ | ⟨h1, h2⟩)
      · exact ⟨v, .inl ⟨h1, h2⟩, h3⟩
      · exact ⟨undef, .inr ⟨h1, rfl⟩, h2⟩
    · rintro ⟨v, ⟨h1, h2⟩ | ⟨h1, rfl⟩, h3⟩
      · exact .inl ⟨h1, v, h2, h3⟩
      · exact .inr ⟨h1, h3⟩
  match k, hk, hk3, hk5 with
  | 0, _, _, _ => simp only [XR, YldW, if_true]; exact key
  | 1, _, _, _ => simp only [XR, YldW, Nat.one_ne_zero, if_false, if_true]; exact key
  | 4, _, _, _ =>
    have h0 : (4 : Nat) ≠ 0 := by omega
    have h1 : (4 : Nat) ≠ 1 := by omega
    simp only [XR, YldW, h0, h1, if_false]; exact key
theorem RV_congr {o : Oper} {e e' : Env} {u : World} {R : Value → World → Prop} (hs : ∀ cs b, o.op ≠ .select cs b) (h : Agree ops o e e') (hx : RV P (gop ops o).op (gop ops o).ty e u R) : RV P (gop ops o).op (gop ops o).ty e' u R := by
  have he : execG (ev e) (gop ops o).op (gop ops o).ty = execG (ev e') (gop ops o).op (gop ops o).ty := exec_congr hs h
  unfold RV at *
  rwa [he] at hx
theorem RV_some {op : Op} {ty : TypeId} {e : Env} {u : World} {R : Value → World → Prop} (h : RV P op ty e u R) : ∃ v w', Ext u w' ∧ R v w' := XV_some (RV_XV h)

theorem XR_swap (hF : ∀ k v u u', F k v u → Ext u u' → F k v u') {kd : Nat → Nat} (ok : OrderOK ops (fun _ => 0)) {i j : Nat} {x y : Oper} (hx : ops[i]? = some x) (hy : ops[j]? = some y) (hc : compatR ops kd i j = true) (hne : ∃ w, C w) (hCD : ∀ u, C u → D u) (hCl : Cl C) {r : List (GOp × Nat)} {e : Env}
    (h : XR P F K ((gop ops x, kd i) :: (gop ops y, kd j) :: r) C D e) : XR P F K ((gop ops y, kd j) :: (gop ops x, kd i) :: r) C D e := by
  simp only [compatR, hx, hy, Bool.and_eq_true, Bool.or_eq_true, beq_iff_eq, bne_iff_ne, decide_eq_true_eq] at hc
  obtain ⟨⟨⟨hap, hi3⟩, hj3⟩, hkd⟩ := hc
  obtain ⟨a1, a2, a3⟩ := apartB_spec hap
  have sx := ok.sel i x hx
  have sy := ok.sel j y hy
  have gx := ok.grd i x hx
  have gy := ok.grd j y hy
  have comm : ∀ (v u : Value), (e.put (gop ops x).dst v).put (gop ops y).dst u = (e.put (gop ops y).dst u).put (gop ops x).dst v := fun v u => put_comm a2 e v u
  have ay : ∀ v, Agree ops y e (e.put (gop ops x).dst v) := fun v => agree_put a1 e v
  have ax : ∀ v, Agree ops x e (e.put (gop ops y).dst v) := fun v => agree_put a3 e v
  by_cases hj5 : kd j ≤ 4
  · by_cases hi5 : kd i ≤ 4
    · skip
      by_cases hi : kd i ≠ 2
      · by_cases hj : kd j ≠ 2
        · rw [XR_low hi hi3 hi5] at h
          obtain ⟨v, h1, h2⟩ := h
          rw [XR_low hj hj3 hj5] at h2
          obtain ⟨u, h3, h4⟩ := h2
          rw [XR_low hj hj3 hj5]
          refine ⟨u, YldW_congr sy gy (ay v).symm h3, ?_⟩
          rw [XR_low hi hi3 hi5]
          exact ⟨v, YldW_congr sx gx (ax u) h1, by rw [← comm]; exact h4⟩
        · have hi0 : kd i ≠ 1 := by omega
          have hj2 : kd j = 2 := by omega
          rw [XR_low hi hi3 hi5] at h
          obtain ⟨v, h1, h2⟩ := h
          rw [hj2] at h2 ⊢
          obtain ⟨g1, g2⟩ := guard_congr gy (ay v)
          rcases h2 with ⟨hw, h2⟩ | ⟨hb, h2⟩
          · refine .inl ⟨g1.2 hw, fun w hCw => ?_⟩
            refine XV_mono (fun u w' ⟨C', k1, k2, k4, k5, hk⟩ => ⟨C', k1, k2, k4, k5, ?_⟩) (XV_congr sy (ay v).symm (h2 w hCw))
            rw [XR_low hi hi3 hi5]
            refine ⟨v, ?_, by rw [← comm]; exact hk⟩
            have := YldW_congr sx gx (ax u) h1
            rcases this with ⟨q1, q2⟩ | q
            · refine .inl ⟨q1, ?_⟩
              rw [if_neg hi0] at q2 ⊢
              exact q2
            · exact .inr q
          · refine .inr ⟨g2.2 hb, ?_⟩
            rw [XR_low hi hi3 hi5]
            exact ⟨v, YldW_congr sx gx (ax undef) h1, by rw [← comm]; exact h2⟩
      · have hi2 : kd i = 2 := by omega
        have hj : kd j ≠ 2 := by omega
        have hj1 : kd j ≠ 1 := by omega
        rw [XR_low hj hj3 hj5]
        rw [hi2] at h ⊢
        obtain ⟨w0, hw0⟩ := hne
        have det : ∀ {e : Env} {u u' : Value}, YldW P (kd j) C D (gop ops y) e u → YldW P (kd j) C D (gop ops y) e u' → u = u' := by
          intro e u u' q q'
          rcases q with ⟨q1, q2⟩ | ⟨q1, q2⟩
          · rcases q' with ⟨q3, q4⟩ | ⟨⟨t, b, q3, q5⟩, q4⟩
            · split at q2
              · rename_i h0
                rw [if_pos h0] at q4
                have e1 := q2 w0
                have e2 := q4 w0
                rw [e1] at e2
                injection e2 with e3 _
                injection e3
              · rename_i h0
                rw [if_neg h0, if_neg hj1] at q4
                (try rw [if_neg hj1] at q2)
                exact WV_det (q2 w0 (hCD w0 hw0)) (q4 w0 (hCD w0 hw0))
            · rw [q3] at q1; exact absurd q1 q5
          · rcases q' with ⟨q3, q4⟩ | ⟨_, q4⟩
            · obtain ⟨t, b, q5, q6⟩ := q1
              rw [q5] at q3; exact absurd q3 q6
            · rw [q2, q4]
        have down : ∀ {e : Env} {C' : World → Prop} {u : Value}, YldW P (kd j) C' D (gop ops y) e u → YldW P (kd j) C D (gop ops y) e u := by
          intro e C' u q
          rcases q with ⟨q1, q2⟩ | q
          · refine .inl ⟨q1, ?_⟩
            rw [if_neg hj1] at q2 ⊢
            exact q2
          · exact .inr q
        rcases h with ⟨hw, h⟩ | ⟨hb, h⟩
        · obtain ⟨v0, w1, C1, k1, k2, k4, _, h1⟩ := XV_some (h w0 hw0)
          rw [XR_low hj hj3 hj5] at h1
          obtain ⟨u, hu, _⟩ := h1
          have hu' := down (YldW_congr sy gy (ay v0).symm hu)
          refine ⟨u, hu', .inl ⟨(guard_congr gx (ax u)).1.1 hw, fun w hCw => ?_⟩⟩
          refine XV_mono (fun v w' ⟨C', k1, k2, k4, k5, hk⟩ => ⟨C', k1, k2, k4, k5, ?_⟩) (XV_congr sx (ax u) (h w hCw))
          rw [XR_low hj hj3 hj5] at hk
          obtain ⟨u', hu2, hk⟩ := hk
          have : u = u' := det hu' (down (YldW_congr sy gy (ay v).symm hu2))
          subst this
          rw [← comm]
          exact hk
        · rw [XR_low hj hj3 hj5] at h
          obtain ⟨u, hu, h⟩ := h
          exact ⟨u, YldW_congr sy gy (ay undef).symm hu, .inr ⟨(guard_congr gx (ax u)).2.1 hb, by rw [← comm]; exact h⟩⟩
    · have hj1 : kd j ≠ 1 := by omega
      have hj : kd j ≠ 2 := by omega
      obtain ⟨n, hn⟩ : ∃ n, kd i = n + 5 := ⟨kd i - 5, by omega⟩
      rw [hn] at h ⊢
      obtain ⟨w0, hw0⟩ := hne
      have det : ∀ {e : Env} {C C' : World → Prop} {u u' : Value}, YldW P (kd j) C D (gop ops y) e u → YldW P (kd j) C' D (gop ops y) e u' → u = u' := by
        intro e C C' u u' q q'
        rcases q with ⟨q1, q2⟩ | ⟨q1, q2⟩
        · rcases q' with ⟨q3, q4⟩ | ⟨⟨t, b, q3, q5⟩, q4⟩
          · split at q2
            · rename_i h0
              rw [if_pos h0] at q4
              have e1 := q2 w0
              have e2 := q4 w0
              rw [e1] at e2
              injection e2 with e3 _
              injection e3
            · rename_i h0
              rw [if_neg h0, if_neg hj1] at q4
              (try rw [if_neg hj1] at q2)
              exact WV_det (q2 w0 (hCD w0 hw0)) (q4 w0 (hCD w0 hw0))
          · rw [q3] at q1; exact absurd q1 q5
        · rcases q' with ⟨q3, q4⟩ | ⟨_, q4⟩
          · obtain ⟨t, b, q5, q6⟩ := q1
            rw [q5] at q3; exact absurd q3 q6
          · rw [q2, q4]
      have clss : ∀ {e : Env} {C C' : World → Prop} {u : Value}, YldW P (kd j) C' D (gop ops y) e u → YldW P (kd j) C D (gop ops y) e u := by
        intro e C C' u q
        rcases q with ⟨q1, q2⟩ | q
        · refine .inl ⟨q1, ?_⟩
          rw [if_neg hj1] at q2 ⊢
          exact q2
        · exact .inr q
      rw [XR_low hj hj3 hj5]
      rcases h with ⟨hw, hs, h⟩ | ⟨hb, h⟩
      · obtain ⟨u0, w1, hE, hf⟩ := RV_some (hs w0 (hCD w0 hw0))
        have h1 := h u0 ⟨w1, hCl _ _ hw0 hE, hf⟩
        rw [XR_low hj hj3 hj5] at h1
        obtain ⟨v, hv, _⟩ := h1
        have hv' : YldW P (kd j) C D (gop ops y) e v := clss (YldW_congr sy gy (ay u0).symm hv)
        refine ⟨v, hv', .inl ⟨(guard_congr gx (ax v)).1.1 hw, fun u hu => RV_congr sx (ax v) (hs u hu), fun u hu => ?_⟩⟩
        have h2 := h u hu
        rw [XR_low hj hj3 hj5] at h2
        obtain ⟨v', hv2, h3⟩ := h2
        have : v = v' := det hv' (YldW_congr sy gy (ay u).symm hv2)
        subst this
        rw [← comm]
        exact h3
      · rw [XR_low hj hj3 hj5] at h
        obtain ⟨u, hu, h⟩ := h
        exact ⟨u, YldW_congr sy gy (ay undef).symm hu, .inr ⟨(guard_congr gx (ax u)).2.1 hb, by rw [← comm]; exact h⟩⟩
  · obtain ⟨n, hn⟩ : ∃ n, kd j = n + 5 := ⟨kd j - 5, by omega⟩
    by_cases hi2 : kd i = 2
    · rw [hn] at h ⊢
      rw [hi2] at h ⊢
      obtain ⟨w0, hw0⟩ := hne
      rcases h with ⟨hw, h⟩ | ⟨hb, h⟩
      · obtain ⟨v0, w1, C1, k1, k2, k4, k5, h1⟩ := XV_some (h w0 hw0)
        rcases h1 with ⟨hwy, hsy, _⟩ | ⟨hby, _⟩
        · have hwy' := (guard_congr gy (ay v0)).1.2 hwy
          refine .inl ⟨hwy', fun u hu => RV_congr sy (ay v0).symm (hsy u hu), fun u hu => .inl ⟨(guard_congr gx (ax u)).1.1 hw, fun w hCw => ?_⟩⟩
          refine XV_mono (fun v w' hh => ?_) (XV_congr sx (ax u) (h w hCw.1))
          obtain ⟨C', m1, m2, m4, m5, hk⟩ := hh
          rcases hk with ⟨_, _, hk⟩ | ⟨hb2, _⟩
          · refine ⟨fun w => C' w ∧ F n u w, ⟨m1, m5 n u hCw.2⟩, fun z hz => m2 z hz.1, fun z z' hz hE => ⟨m4 _ _ hz.1 hE, hF n u _ _ hz.2 hE⟩, m5, ?_⟩
            rw [← comm]
            exact hk u ⟨w', m1, m5 n u hCw.2⟩
          · obtain ⟨t, b, q1, q2⟩ := (guard_congr gy (ay v)).2.2 hb2
            rw [q1] at hwy'
            exact absurd hwy' q2
        · have hby' := (guard_congr gy (ay v0)).2.2 hby
          refine .inr ⟨hby', .inl ⟨(guard_congr gx (ax undef)).1.1 hw, fun w hCw => ?_⟩⟩
          refine XV_mono (fun v w' hh => ?_) (XV_congr sx (ax undef) (h w hCw))
          obtain ⟨C', m1, m2, m4, m5, hk⟩ := hh
          rcases hk with ⟨hw2, _⟩ | ⟨_, hk⟩
          · have := (guard_congr gy (ay v)).1.2 hw2
            obtain ⟨t, b, q1, q2⟩ := hby'
            rw [q1] at this
            exact absurd this q2
          · exact ⟨C', m1, m2, m4, m5, by rw [← comm]; exact hk⟩
      · rcases h with ⟨hwy, hsy, h⟩ | ⟨hby, h⟩
        · refine .inl ⟨(guard_congr gy (ay undef)).1.2 hwy, fun u hu => RV_congr sy (ay undef).symm (hsy u hu), fun u hu => .inr ⟨(guard_congr gx (ax u)).2.1 hb, ?_⟩⟩
          rw [← comm]; exact h u hu
        · exact .inr ⟨(guard_congr gy (ay undef)).2.2 hby, .inr ⟨(guard_congr gx (ax undef)).2.1 hb, by rw [← comm]; exact h⟩⟩
    · have hi1 : kd i ≠ 1 := by omega
      have hi5 : kd i ≤ 4 := by omega
      have clss : ∀ {e : Env} {C C' : World → Prop} {u : Value}, YldW P (kd i) C' D (gop ops x) e u → YldW P (kd i) C D (gop ops x) e u := by
        intro e C C' u q
        rcases q with ⟨q1, q2⟩ | q
        · refine .inl ⟨q1, ?_⟩
          rw [if_neg hi1] at q2 ⊢
          exact q2
        · exact .inr q
      rw [XR_low hi2 hi3 hi5] at h
      obtain ⟨v, hv, h⟩ := h
      rw [hn] at h ⊢
      rcases h with ⟨hwy, hsy, h⟩ | ⟨hby, h⟩
      · refine .inl ⟨(guard_congr gy (ay v)).1.2 hwy, fun u hu => RV_congr sy (ay v).symm (hsy u hu), fun u hu => ?_⟩
        rw [XR_low hi2 hi3 hi5]
        exact ⟨v, clss (YldW_congr sx gx (ax u) hv), by rw [← comm]; exact h u hu⟩
      · refine .inr ⟨(guard_congr gy (ay v)).2.2 hby, ?_⟩
        rw [XR_low hi2 hi3 hi5]
        exact ⟨v, YldW_congr sx gx (ax undef) hv, by rw [← comm]; exact h⟩
theorem XR_tail (hF : ∀ k v u u', F k v u → Ext u u' → F k v u') {o : GOp} {k : Nat} {r r' : List (GOp × Nat)} (hne : ∃ w, C w) (hCD : ∀ u, C u → D u) (hCl : Cl C) (h : ∀ C' D' e, (∃ w, C' w) → (∀ u, C' u → D' u) → Cl C' → XR P F K r C' D' e → XR P F K r' C' D' e) {e : Env} (hh : XR P F K ((o, k) :: r) C D e) : XR P F K ((o, k) :: r') C D e := by
  match k with
  | 0 => exact hh.imp (fun ⟨a, v, b, c⟩ => ⟨a, v, b, h _ _ _ hne hCD hCl c⟩) (fun ⟨a, c⟩ => ⟨a, h _ _ _ hne hCD hCl c⟩)
  | 1 => exact hh.imp (fun ⟨a, v, b, c⟩ => ⟨a, v, b, h _ _ _ hne hCD hCl c⟩) (fun ⟨a, c⟩ => ⟨a, h _ _ _ hne hCD hCl c⟩)
  | 2 => exact hh.imp (fun ⟨a, b⟩ => ⟨a, fun w hw => XV_mono (fun _ w' ⟨C', k1, k2, k4, k5, c⟩ => ⟨C', k1, k2, k4, k5, h _ _ _ ⟨w', k1⟩ k2 k4 c⟩) (b w hw)⟩) (fun ⟨a, c⟩ => ⟨a, h _ _ _ hne hCD hCl c⟩)
  | 3 => exact hh.imp (fun ⟨a, b⟩ => ⟨a, fun w hw => XV_mono (fun _ w' ⟨C', D', k1, k2, k4, c⟩ => ⟨C', D', k1, k2, k4, h _ _ _ ⟨w', k1⟩ k2 k4 c⟩) (b w hw)⟩) (fun ⟨a, c⟩ => ⟨a, h _ _ _ hne hCD hCl c⟩)
  | 4 => exact hh.imp (fun ⟨a, v, b, c⟩ => ⟨a, v, b, h _ _ _ hne hCD hCl c⟩) (fun ⟨a, c⟩ => ⟨a, h _ _ _ hne hCD hCl c⟩)
  | n + 5 => exact hh.imp (fun ⟨a, b, c⟩ => ⟨a, b, fun v hv => h _ _ _ hv (fun u hu => hCD u hu.1) (fun z z' hz hE => ⟨hCl _ _ hz.1 hE, hF n v _ _ hz.2 hE⟩) (c v hv)⟩) (fun ⟨a, c⟩ => ⟨a, h _ _ _ hne hCD hCl c⟩)
theorem XR_front (hF : ∀ k v u u', F k v u → Ext u u' → F k v u') {kd : Nat → Nat} (ok : OrderOK ops (fun _ => 0)) {j : Nat} {y : Oper} (hy : ops[j]? = some y) : ∀ (r1 r2 : List Nat) (C D : World → Prop) (e : Env), (∃ w, C w) → (∀ u, C u → D u) → Cl C → (∀ i ∈ r1, i < ops.size ∧ compatR ops kd i j = true) →
    XR P F K ((r1 ++ j :: r2).map (pick ops kd)) C D e → XR P F K ((j :: (r1 ++ r2)).map (pick ops kd)) C D e
  | [], _, _, _, _, _, _, _, _, h => h
  | i :: r1, r2, C, D, e, hne, hCD, hCl, hall, h => by
    obtain ⟨hi, hc⟩ := hall i (by simp)
    have hx : ops[i]? = some ops[i] := Array.getElem?_eq_getElem hi
    have h1 : XR P F K (pick ops kd i :: (j :: (r1 ++ r2)).map (pick ops kd)) C D e := by
      simp only [List.cons_append, List.map_cons] at h
      exact XR_tail hF hne hCD hCl (fun C' D' e' hne' hCD' hCl' hh => XR_front hF ok hy r1 r2 C' D' e' hne' hCD' hCl' (fun k hk => hall k (by simp [hk])) hh) h
    simp only [List.map_cons, List.cons_append, pick, hx, hy, Option.map_some, Option.getD_some] at h1 ⊢
    exact XR_swap hF ok hx hy hc hne hCD hCl h1
end

theorem wpAny_of_XR {P : Program} {F : Nat → Value → World → Prop} (hF : ∀ k v u u', F k v u → Ext u u' → F k v u') {ops : Array Oper} {kd : Nat → Nat} (ok : OrderOK ops (fun _ => 0)) (ord : ∀ i j, i < j → j < ops.size → j ∈ blkFrom ops i ops.size ∨ compatR ops kd i j = true) {N : Nat} (hN : N ≤ 1000000) {Q : Exit → Act → World → Prop} {K : Env → World → Prop} (hQ : ∀ a e w, Sim N a e → K e w → Q .normal a w)
    (hd : ∀ (j : Nat) (o : Oper), ops[j]? = some o → ∀ x, o.dst = some x → x < N) :
    ∀ (fuel : Nat) (listed : Array Bool) (a : Act) (e : Env) (w : World) (C D : World → Prop), (un ops.size listed).length ≤ fuel → Inv ops listed → Sim N a e → C w → (∀ u, C u → D u) → Cl C → XR P F K ((un ops.size listed).map (pick ops kd)) C D e → wpAny P .any ops Q fuel listed a w := by
  intro fuel
  induction fuel with
  | zero =>
    intro listed a e w C D hf inv sim hC hCD hCl h
    have hnil : un ops.size listed = [] := List.length_eq_zero_iff.1 (by omega)
    rw [hnil] at h
    refine ⟨List.eq_nil_iff_forall_not_mem.2 fun i hi => ?_, hQ _ _ _ sim (h w hC)⟩
    obtain ⟨hi1, hi2, _⟩ := ready_iff.1 hi
    have : i ∈ un ops.size listed := mem_un.2 ⟨hi1, hi2⟩
    rw [hnil] at this
    cases this
  | succ f ih =>
    intro listed a e w C D hf inv sim hC hCD hCl h
    refine ⟨fun h0 => ?_, fun j hj => ?_⟩
    · have hnil : un ops.size listed = [] := by
        cases hun : un ops.size listed with
        | nil => rfl
        | cons i r =>
          exfalso
          have hex : ∀ i, i < ops.size → listed.getD i true = false → ∃ k, k ∈ Region.ready .any ops listed := by
            intro i
            induction i using Nat.strongRecOn with
            | _ i ih2 =>
              intro hi hl
              by_cases hb : ∃ k, k < i ∧ listed.getD k true = false
              · obtain ⟨k, hk, hk2⟩ := hb
                exact ih2 k hk (by omega) hk2
              · refine ⟨i, ready_iff.2 ⟨hi, hl, ops[i], Array.getElem?_eq_getElem hi, fun ed he hbd => ?_⟩⟩
                have hlt := ok.back i _ (Array.getElem?_eq_getElem hi) ed he hbd
                rw [← getD_tf (by rw [inv.size]; omega)]
                cases hle : listed.getD ed.on true with
                | true => rfl
                | false => exact absurd ⟨ed.on, hlt, hle⟩ hb
          have hm : i ∈ un ops.size listed := by rw [hun]; simp
          obtain ⟨hi1, hi2⟩ := mem_un.1 hm
          obtain ⟨k, hk⟩ := hex i hi1 hi2
          rw [h0] at hk
          cases hk
      rw [hnil] at h
      exact hQ _ _ _ sim (h w hC)
    · obtain ⟨hjl, hju, y, hy, hallj⟩ := ready_iff.1 hj
      obtain ⟨r1, r2, hs1, hs2, hs3⟩ := filter_split (fun i => listed.getD i true == false) ops.size j hjl (by simp [hju])
      have hset : un ops.size (listed.setIfInBounds j true) = r1 ++ r2 := by rw [un_set inv.size hjl, ← hs3]
      have hun : un ops.size listed = r1 ++ j :: r2 := hs1
      rw [hun] at h hf
      have hfr := XR_front hF ok hy r1 r2 C D e ⟨w, hC⟩ hCD hCl (fun i hi => by
        have him : i ∈ un ops.size listed := by rw [hun]; simp [hi]
        obtain ⟨hi1, hi2⟩ := mem_un.1 him
        refine ⟨hi1, ?_⟩
        rcases ord i j (hs2 i hi) hjl with hb | hc
        · exact absurd hj (blk_not ok inv hi1 hi2 _ (Nat.le_refl _) j hb).2
        · exact hc) h
      have inv' : Inv ops (listed.setIfInBounds j true) := by
        refine ⟨by simp [inv.size], fun k o ho hl ed he hb => ?_⟩
        rw [getD_set]
        split
        · rfl
        · rw [getD_set] at hl
          split at hl
          · rename_i hjk
            obtain ⟨rfl, _⟩ := hjk
            have : o = y := Option.some.inj (ho.symm.trans hy)
            subst this
            have h1 := hallj ed he hb
            rcases Nat.lt_or_ge ed.on listed.size with h2 | h2
            · rw [getD_tf h2]; exact h1
            · simp [Array.getD_eq_getD_getElem?, Array.getElem?_eq_none h2]
          · exact inv.closed k o ho hl ed he hb
      have next : ∀ (C' D' : World → Prop) (v : Value) (w' : World), C' w' → (∀ u, C' u → D' u) → Cl C' → XR P F K ((r1 ++ r2).map (pick ops kd)) C' D' (e.put y.dst v) → wpAny P .any ops Q f (listed.setIfInBounds j true) (a.put y.dst v) w' := by
        intro C' D' v w' hC' hCD' hCl' hx
        refine ih _ _ (e.put y.dst v) w' C' D' (by rw [hset]; simp at hf ⊢; omega) inv' (sim.put (hd j y hy) v) hC' hCD' hCl' (by rw [hset]; exact hx)
      simp only [List.map_cons, pick, hy, Option.map_some, Option.getD_some] at hfr
      unfold wpOp
      rw [hy]
      simp only []
      have notW : badG e (gop ops y).guard → ¬ Region.wanted y (yielded ops a.tmps) = true := fun ⟨t, b, hg, hne⟩ hw => by
        have := (wanted_iff sim hN).1 hw
        simp only [gop] at hg
        rw [hg] at this
        exact hne this
      by_cases hk : kd j ≠ 2 ∧ kd j ≠ 3 ∧ kd j ≤ 4
      · rw [XR_low hk.1 hk.2.1 hk.2.2] at hfr
        obtain ⟨v, hyl, hx⟩ := hfr
        rcases hyl with ⟨hw, hq⟩ | ⟨hb, rfl⟩
        · rw [if_pos ((wanted_iff sim hN).2 hw)]
          refine .inl (wp_of_XV sim (K := fun v' w' => v' = v ∧ C w') (fun v' w' ⟨hv, hC'⟩ => by subst hv; exact next C D v' w' hC' hCD hCl hx) ?_)
          split at hq
          · have := hq w
            simp only [gop] at this
            unfold XV
            rw [this]
            exact ⟨rfl, hC⟩
          · split at hq
            · have := hq w hC
              unfold QV at this
              unfold XV
              simp only [gop] at this
              generalize (execG (ev e) y.op y.type).run P w = r at *
              cases r with
              | ok n w' =>
                cases n <;> simp only [] at this ⊢
                case value u => exact ⟨this.2, by rw [this.1]; exact hC⟩
                case enter g args => obtain ⟨rfl, hc⟩ := this; exact hc.mono fun en w'' ⟨he, hC'⟩ => ⟨v, he, rfl, hC'⟩
              | halt x w' => exact this
            · have := hq w (hCD w hC)
              unfold WV at this
              unfold XV
              simp only [gop] at this
              generalize (execG (ev e) y.op y.type).run P w = r at *
              cases r with
              | ok n w' =>
                cases n <;> simp only [] at this ⊢
                case value u => exact ⟨this.2, by rw [this.1]; exact hC⟩
                case enter g args => obtain ⟨rfl, _, hc⟩ := this; exact hc.mono fun en w'' ⟨he, hE⟩ => ⟨v, he, rfl, hCl _ _ hC hE⟩
              | halt x w' => exact this
        · rw [if_neg (notW hb)]
          exact next C D undef w hC hCD hCl hx
      · rcases (by omega : kd j = 2 ∨ kd j = 3 ∨ 5 ≤ kd j) with hm | hm | hm
        · rw [hm] at hfr
          rcases hfr with ⟨hw, hx⟩ | ⟨hb, hx⟩
          · rw [if_pos ((wanted_iff sim hN).2 hw)]
            exact .inl (wp_of_XV sim (fun v w' ⟨C', k1, k2, k4, _, hx'⟩ => next C' D v w' k1 k2 k4 hx') (hx w hC))
          · rw [if_neg (notW hb)]
            exact next C D undef w hC hCD hCl hx
        · rw [hm] at hfr
          rcases hfr with ⟨hw, hx⟩ | ⟨hb, hx⟩
          · rw [if_pos ((wanted_iff sim hN).2 hw)]
            exact .inl (wp_of_XV sim (fun v w' ⟨C', D', k1, k2, k4, hx'⟩ => next C' D' v w' k1 k2 k4 hx') (hx w hC))
          · rw [if_neg (notW hb)]
            exact next C D undef w hC hCD hCl hx
        · obtain ⟨n, hn⟩ : ∃ n, kd j = n + 5 := ⟨kd j - 5, by omega⟩
          rw [hn] at hfr
          rcases hfr with ⟨hw, hs, hx⟩ | ⟨hb, hx⟩
          · rw [if_pos ((wanted_iff sim hN).2 hw)]
            exact .inl (wp_of_XV sim (fun v w' ⟨hE, hf⟩ => next (fun w => C w ∧ F n v w) D v w' ⟨hCl _ _ hC hE, hf⟩ (fun u hu => hCD u hu.1) (fun z z' hz hE => ⟨hCl _ _ hz.1 hE, hF n v _ _ hz.2 hE⟩) (hx v ⟨w', hCl _ _ hC hE, hf⟩)) (RV_XV (hs w (hCD w hC))))
          · rw [if_neg (notW hb)]
            exact next C D undef w hC hCD hCl hx

def kindR (ops : Array Oper) (big wd rl : List Nat) (i : Nat) : Nat := if rl.contains i then 5 else if rl.contains (i + 1000) then 6 else if rl.contains (i + 2000) then 7 else if rl.contains (i + 3000) then 1 else kindW ops big wd i
def setR (big wd rl : List Nat) : Nat → List (GOp × Nat) → List (GOp × Nat)
  | _, [] => []
  | i, (g, k) :: r => (g, if rl.contains i then 5 else if rl.contains (i + 1000) then 6 else if rl.contains (i + 2000) then 7 else if rl.contains (i + 3000) then 1 else if big.contains i then 2 else if wd.contains (i + 1000) then 3 else if wd.contains i then 4 else k) :: setR big wd rl (i + 1) r
def dopsR (big wd rl : List Nat) (ops : Array Oper) : List (GOp × Nat) := setR big wd rl 0 (ops.toList.map fun o => (gop ops o, kindOf o.op))
theorem setR_get (big wd rl : List Nat) : ∀ (l : List (GOp × Nat)) (i j : Nat), (setR big wd rl i l)[j]? = (l[j]?).map fun (g, k) => (g, if rl.contains (i + j) then 5 else if rl.contains (i + j + 1000) then 6 else if rl.contains (i + j + 2000) then 7 else if rl.contains (i + j + 3000) then 1 else if big.contains (i + j) then 2 else if wd.contains (i + j + 1000) then 3 else if wd.contains (i + j) then 4 else k)
  | [], i, j => by simp [setR]
  | (g, k) :: r, i, j => by
    cases j with
    | zero => simp [setR]
    | succ j => simp only [setR, List.getElem?_cons_succ, setR_get big wd rl r (i + 1) j]; rw [show i + 1 + j = i + (j + 1) by omega]
theorem dopsR_eq (big wd rl : List Nat) (ops : Array Oper) : dopsR big wd rl ops = (List.range ops.size).map (pick ops (kindR ops big wd rl)) := by
  apply List.ext_getElem?
  intro j
  unfold dopsR
  rw [setR_get]
  simp only [List.getElem?_map, Nat.zero_add, Array.getElem?_toList]
  rcases Nat.lt_or_ge j ops.size with h | h
  · simp [Array.getElem?_eq_getElem h, List.getElem?_range h, pick, kindR, kindW]
  · simp [Array.getElem?_eq_none h, List.getElem?_eq_none (show (List.range ops.size).length ≤ j by simpa using h)]
def XY (P : Program) (l : List (GOp × Nat)) (K : Env → World → Prop) (e : Env) (w : World) : Prop :=
  ∃ (F : Nat → Value → World → Prop) (C D : World → Prop), (∀ k v u u', F k v u → Ext u u' → F k v u') ∧ (∀ d, C { w with drawn := d }) ∧ (∀ u, C u → D u) ∧ Cl C ∧ XR P F K l C D e
theorem wp_of_XY {P : Program} (hm : P.follows .mixedOrders = true) {id N : Nat} {ops : Array Oper} {Q : Exit → Act → World → Prop} {K : Env → World → Prop} (hN : N ≤ 1000000)
    (hQ : ∀ a e w, Sim N a e → K e w → Q .normal a w) {a : Act} {e : Env} {w : World} {big wd rl : List Nat} (hok : orderR ops (kindR ops big wd rl) = true) (hdo : dstsOK N ops.toList = true) (h : Sim N a e) (hx : XY P (dopsR big wd rl ops) K e w) : (Code.region id ops true).wp P Q a w := by
  obtain ⟨F, C, D, hF, hC, hCD, hCl, hq⟩ := hx
  simp only [orderR, Bool.and_eq_true] at hok
  obtain ⟨hok0, hok1⟩ := hok
  have ord : ∀ i j, i < j → j < ops.size → j ∈ blkFrom ops i ops.size ∨ compatR ops (kindR ops big wd rl) i j = true := fun i j hij hj => by
    have := List.all_eq_true.1 (List.all_eq_true.1 hok1 i (List.mem_range.2 (by omega))) j (List.mem_range.2 hj)
    simp only [Bool.or_eq_true, decide_eq_true_eq] at this
    rcases this with (h | h) | h
    · omega
    · exact .inl (by simpa using h)
    · exact .inr h
  rw [dopsR_eq] at hq
  have hdall : ∀ (j : Nat) (o : Oper), ops[j]? = some o → ∀ x, o.dst = some x → x < N := fun j o ho x hx => by
    have hmem : o ∈ ops.toList := Array.mem_toList_iff.2 (Array.mem_of_getElem? ho)
    have := List.all_eq_true.1 hdo o hmem
    rw [hx] at this
    simpa using this
  have hun : un ops.size (Array.replicate ops.size false) = List.range ops.size := by
    unfold un
    refine List.filter_eq_self.2 fun i hi => ?_
    have := List.mem_range.1 hi
    simp [Array.getD_eq_getD_getElem?, this]
  refine wp_region_any hm (wpAny_of_XR hF (OrderOK.of hok0) ord hN hQ hdall _ _ a e _ C D ?_ ⟨by simp, fun j o hj hl => ?_⟩ h (hC _) hCD hCl ?_)
  · rw [hun]; simp
  · have hjl : j < ops.size := (Array.getElem?_eq_some_iff.1 hj).1
    simp [Array.getD_eq_getD_getElem?, hjl] at hl
  · rw [hun]; exact hq

theorem XR_mono {P : Program} {F : Nat → Value → World → Prop} {K K' : Env → World → Prop} (h : ∀ e w, K e w → K' e w) : ∀ (l : List (GOp × Nat)) (C D : World → Prop) (e : Env), XR P F K l C D e → XR P F K' l C D e
  | [], _, _, _, hh => fun w hw => h _ _ (hh w hw)
  | (_, 0) :: r, _, _, _, hh => hh.imp (fun ⟨a, v, b, c⟩ => ⟨a, v, b, XR_mono h r _ _ _ c⟩) (fun ⟨a, c⟩ => ⟨a, XR_mono h r _ _ _ c⟩)
  | (_, 1) :: r, _, _, _, hh => hh.imp (fun ⟨a, v, b, c⟩ => ⟨a, v, b, XR_mono h r _ _ _ c⟩) (fun ⟨a, c⟩ => ⟨a, XR_mono h r _ _ _ c⟩)
  | (_, 2) :: r, _, _, _, hh => hh.imp (fun ⟨a, b⟩ => ⟨a, fun w hw => XV_mono (fun _ _ ⟨C', k1, k2, k4, k5, c⟩ => ⟨C', k1, k2, k4, k5, XR_mono h r _ _ _ c⟩) (b w hw)⟩) (fun ⟨a, c⟩ => ⟨a, XR_mono h r _ _ _ c⟩)
  | (_, 3) :: r, _, _, _, hh => hh.imp (fun ⟨a, b⟩ => ⟨a, fun w hw => XV_mono (fun _ _ ⟨C', D', k1, k2, k4, c⟩ => ⟨C', D', k1, k2, k4, XR_mono h r _ _ _ c⟩) (b w hw)⟩) (fun ⟨a, c⟩ => ⟨a, XR_mono h r _ _ _ c⟩)
  | (_, 4) :: r, _, _, _, hh => hh.imp (fun ⟨a, v, b, c⟩ => ⟨a, v, b, XR_mono h r _ _ _ c⟩) (fun ⟨a, c⟩ => ⟨a, XR_mono h r _ _ _ c⟩)
  | (_, _ + 5) :: r, _, _, _, hh => hh.imp (fun ⟨a, b, c⟩ => ⟨a, b, fun v hv => XR_mono h r _ _ _ (c v hv)⟩) (fun ⟨a, c⟩ => ⟨a, XR_mono h r _ _ _ c⟩)

/-! ### Code -/
inductive GCode where
  | skip
  | reg (l : List GOp)
  | draw (l : List (GOp × Nat))
  | wide (l : List (GOp × Nat))
  | rel (l : List (GOp × Nat))
  | seq (a b : GCode)
  | cond (c : Operand) (a b : GCode)
  | block (id : Nat) (c : GCode)
  | loop (c : GCode)
  | exit (id : Nat)
  | ret
  | bad

/-- Of each row that draws its order, which operations may do anything. -/
abbrev Bigs := List (Nat × List Nat)
def bigOf (bs : Bigs) (id : Nat) : List Nat := (bs.lookup id).getD []
/-- The row with the number id is taken wide; of it those that are read wide. -/
def drawOf (bs : Bigs) (id : Nat) (ops : Array Oper) : Option (List Nat) → GCode
  | none => .draw (dops (bigOf bs id) ops)
  | some wd => .wide (dopsW (bigOf bs id) wd ops)
def drawOK (bs : Bigs) (id : Nat) (ops : Array Oper) : Option (List Nat) → Bool
  | none => orderOK ops (kindAt ops (bigOf bs id))
  | some wd => orderW ops (kindW ops (bigOf bs id) wd)

/-- The row with the number id has operations that yield some value with a property that lasts. -/
def drawOf2 (bs : Bigs) (id : Nat) (ops : Array Oper) : Option (List Nat) → GCode
  | none => drawOf bs id ops (bs.lookup (id + 1000))
  | some rl => .rel (dopsR (bigOf bs id) (bigOf bs (id + 1000)) rl ops)
def drawOK2 (bs : Bigs) (id : Nat) (ops : Array Oper) : Option (List Nat) → Bool
  | none => drawOK bs id ops (bs.lookup (id + 1000))
  | some rl => orderR ops (kindR ops (bigOf bs id) (bigOf bs (id + 1000)) rl)

def comp (bs : Bigs) : Code → GCode
  | .skip => .skip
  | .region _ ops false => .reg (ops.toList.map (gop ops))
  | .region id ops true => drawOf2 bs id ops (bs.lookup (id + 2000))
  | .seq a b => .seq (comp bs a) (comp bs b)
  | .cond c a b => .cond c (comp bs a) (comp bs b)
  | .block id c => .block id (comp bs c)
  | .loop c => .loop (comp bs c)
  | .exit id => .exit id
  | .ret => .ret
  | _ => .bad

def okN (bs : Bigs) (n : Nat) : Code → Bool
  | .region id ops dr => dstsOK n ops.toList && (!dr || drawOK2 bs id ops (bs.lookup (id + 2000)))
  | .seq a b => okN bs n a && okN bs n b
  | .cond _ a b => okN bs n a && okN bs n b
  | .block _ c => okN bs n c
  | .loop c => okN bs n c
  | _ => true

/-- What follows, where it goes on. -/
def thenX (K : Env → World → Prop) (Q : Exit → Env → World → Prop) : Exit → Env → World → Prop
  | .normal => K
  | ex => Q ex
def inX (id : Nat) (Q : Exit → Env → World → Prop) : Exit → Env → World → Prop
  | .exit i => if i = id then Q .normal else Q (.exit i)
  | ex => Q ex

def X (P : Program) : GCode → (Exit → Env → World → Prop) → Env → World → Prop
  | .skip, Q, e, w => Q .normal e w
  | .reg l, Q, e, w => XO P l (Q .normal) e w
  | .draw l, Q, e, w => XD P l (Q .normal) e w
  | .wide l, Q, e, w => XW P l (Q .normal) e w
  | .rel l, Q, e, w => XY P l (Q .normal) e w
  | .seq a b, Q, e, w => X P a (thenX (X P b Q) Q) e w
  | .cond c a b, Q, e, w => ∃ t, ev e c = .bool t ∧ (if t then X P a Q e w else X P b Q e w)
  | .block id c, Q, e, w => X P c (inX id Q) e w
  | .loop c, Q, e, w => ∃ (I : Env → World → Prop) (m : Env → World → Nat), I e w ∧ ∀ e w, I e w → X P c (thenX (fun e' w' => I e' w' ∧ m e' w' < m e w) Q) e w
  | .exit id, Q, e, w => Q (.exit id) e w
  | .ret, Q, e, w => Q .ret e w
  | .bad, _, _, _ => False

theorem thenX_mono {K K' : Env → World → Prop} {Q Q' : Exit → Env → World → Prop} (hK : ∀ e w, K e w → K' e w) (hQ : ∀ ex e w, Q ex e w → Q' ex e w) : ∀ ex e w, thenX K Q ex e w → thenX K' Q' ex e w := by
  intro ex e w h
  cases ex <;> first | exact hK _ _ h | exact hQ _ _ _ h
theorem inX_mono {id : Nat} {Q Q' : Exit → Env → World → Prop} (hQ : ∀ ex e w, Q ex e w → Q' ex e w) : ∀ ex e w, inX id Q ex e w → inX id Q' ex e w := by
  intro ex e w h
  cases ex with
  | exit i =>
    simp only [inX] at h ⊢
    split
    · rename_i hi; rw [if_pos hi] at h; exact hQ _ _ _ h
    · rename_i hi; rw [if_neg hi] at h; exact hQ _ _ _ h
  | _ => exact hQ _ _ _ h

theorem X_mono {P : Program} : ∀ (c : GCode) {Q Q' : Exit → Env → World → Prop} {e : Env} {w : World}, (∀ ex e w, Q ex e w → Q' ex e w) → X P c Q e w → X P c Q' e w
  | .skip, _, _, _, _, h, hh => h _ _ _ hh
  | .reg l, _, _, _, _, h, hh => XO_mono (fun e w => h .normal e w) l _ _ hh
  | .draw l, _, _, _, _, h, hh => by
    obtain ⟨C, h2, h3⟩ := hh
    exact ⟨C, h2, XE_mono (fun e w => h .normal e w) _ _ _ h3⟩
  | .wide l, _, _, _, _, h, hh => by
    obtain ⟨C, D, h2, h3, h4, h5⟩ := hh
    exact ⟨C, D, h2, h3, h4, XF_mono (fun e w => h .normal e w) _ _ _ _ h5⟩
  | .rel l, _, _, _, _, h, hh => by
    obtain ⟨F, C, D, h1, h2, h3, h4, h5⟩ := hh
    exact ⟨F, C, D, h1, h2, h3, h4, XR_mono (fun e w => h .normal e w) _ _ _ _ h5⟩
  | .seq a b, _, _, _, _, h, hh => X_mono a (thenX_mono (fun _ _ => X_mono b h) h) hh
  | .cond c a b, _, _, _, _, h, hh => by
    obtain ⟨t, ht, hh⟩ := hh
    refine ⟨t, ht, ?_⟩
    cases t
    · exact X_mono b h hh
    · exact X_mono a h hh
  | .block id c, _, _, _, _, h, hh => X_mono c (inX_mono h) hh
  | .loop c, _, _, _, _, h, hh => by
    obtain ⟨I, m, h1, h2⟩ := hh
    exact ⟨I, m, h1, fun e w hI => X_mono c (thenX_mono (fun _ _ x => x) h) (h2 e w hI)⟩
  | .exit id, _, _, _, _, h, hh => h _ _ _ hh
  | .ret, _, _, _, _, h, hh => h _ _ _ hh
  | .bad, _, _, _, _, _, hh => hh

theorem wp_of_X {P : Program} (hm : P.follows .mixedOrders = true) {bs : Bigs} {N : Nat} (hN : N ≤ 1000000) : ∀ (c : Code) (Q : Exit → Env → World → Prop) (Q' : Exit → Act → World → Prop) (a : Act) (e : Env) (w : World),
    okN bs N c = true → Sim N a e → (∀ ex a e w, Sim N a e → Q ex e w → Q' ex a w) → X P (comp bs c) Q e w → c.wp P Q' a w
  | .skip, Q, Q', a, e, w, _, h, hQ, hx => wp_skip (hQ _ _ _ _ h hx)
  | .region id ops false, Q, Q', a, e, w, hk, h, hQ, hx => by
    simp only [okN, Bool.and_eq_true] at hk
    exact wp_region_list (wpList_of_XO hN (hQ .normal) _ _ _ _ hk.1 h hx)
  | .region id ops true, Q, Q', a, e, w, hk, h, hQ, hx => by
    simp only [okN, Bool.and_eq_true, Bool.not_true, Bool.false_or] at hk
    simp only [comp] at hx
    obtain ⟨hk1, hk2⟩ := hk
    cases hl2 : List.lookup (id + 2000) bs with
    | some rl =>
      rw [hl2] at hk2 hx
      exact wp_of_XY hm hN (hQ .normal) hk2 hk1 h hx
    | none =>
      rw [hl2] at hk2 hx
      simp only [drawOf2, drawOK2] at hk2 hx
      cases hl : List.lookup (id + 1000) bs with
      | none =>
        rw [hl] at hk2 hx
        exact wp_of_XD hm hN (hQ .normal) hk2 hk1 h hx
      | some wd =>
        rw [hl] at hk2 hx
        exact wp_of_XW hm hN (hQ .normal) hk2 hk1 h hx
  | .seq x y, Q, Q', a, e, w, hk, h, hQ, hx => by
    simp only [okN, Bool.and_eq_true] at hk
    refine wp_seq (wp_of_X hm hN x _ _ a e w hk.1 h (fun ex a e w hs hq => ?_) hx)
    cases ex <;> first | exact wp_of_X hm hN y Q Q' a e w hk.2 hs hQ hq | exact hQ _ _ _ _ hs hq
  | .cond c x y, Q, Q', a, e, w, hk, h, hQ, hx => by
    simp only [okN, Bool.and_eq_true] at hk
    obtain ⟨t, ht, hx⟩ := hx
    refine wp_cond (t := t) (by rw [h.eval]; exact ht) ?_
    cases t
    · exact wp_of_X hm hN y Q Q' a e w hk.2 h hQ hx
    · exact wp_of_X hm hN x Q Q' a e w hk.1 h hQ hx
  | .block id c, Q, Q', a, e, w, hk, h, hQ, hx => by
    refine wp_block (wp_of_X hm hN c _ _ a e w hk h (fun ex a e w hs hq => ?_) hx)
    cases ex with
    | exit i =>
      simp only [inX] at hq
      simp only [Exit.inBlock]
      split
      · rename_i hi; rw [if_pos hi] at hq; exact hQ _ _ _ _ hs hq
      · rename_i hi; rw [if_neg hi] at hq; exact hQ _ _ _ _ hs hq
    | _ => exact hQ _ _ _ _ hs hq
  | .loop c, Q, Q', a, e, w, hk, h, hQ, hx => by
    obtain ⟨I, m, h1, h2⟩ := hx
    have uniq : ∀ {a : Act} {e : Env}, Sim N a e → (fun i => a.tmps.getD i undef) = e := fun hs => funext hs.get
    refine wp_loop (fun a w => ∃ e, Sim N a e ∧ I e w) (fun a w => m (fun i => a.tmps.getD i undef) w) ⟨e, h, h1⟩ (fun a w ⟨e, hs, hI⟩ => ?_)
    refine wp_of_X hm hN c _ _ a e w hk hs (fun ex a' e' w' hs' hq => ?_) (h2 e w hI)
    cases ex with
    | normal =>
      obtain ⟨hq1, hq2⟩ := hq
      refine ⟨⟨e', hs', hq1⟩, ?_⟩
      simp only [uniq hs, uniq hs']
      exact hq2
    | _ => exact hQ _ _ _ _ hs' hq
  | .exit id, Q, Q', a, e, w, _, h, hQ, hx => wp_exit (hQ _ _ _ _ h hx)
  | .ret, Q, Q', a, e, w, _, h, hQ, hx => wp_ret (hQ _ _ _ _ h hx)
  | .rangeFunc .., _, _, _, _, _, _, _, _, hx => hx.elim
  | .scope .., _, _, _, _, _, _, _, _, hx => hx.elim
  | .label .., _, _, _, _, _, _, _, _, hx => hx.elim
  | .goto .., _, _, _, _, _, _, _, _, hx => hx.elim
  | .refuse .., _, _, _, _, _, _, _, _, hx => hx.elim

/-! ### A function -/
def resM (rs : Array ResultVar) (e : Env) : Sem Value := do
  let vs ← rs.mapM fun
    | .tmp t => pure (e t)
    | .cell a t => do loadVar t (← asAddr (e a))
  pure (if h : vs.size = 1 then vs[0] else .tuple vs)

theorem results_eq {n : Nat} {fn : Func} {a : Act} {e : Env} (h : Sim n a e) : results fn a.tmps = resM fn.results e := by
  unfold results resM
  congr 1
  congr 1
  funext r
  cases r with
  | tmp t => simp only [h.get]
  | cell b t => simp only [h.get]

def retX (P : Program) (rs : Array ResultVar) (R : Value → World → Prop) : Exit → Env → World → Prop
  | .normal, e, w => ∃ v, (resM rs e).run P w = .ok v w ∧ R v w
  | .ret, e, w => ∃ v, (resM rs e).run P w = .ok v w ∧ R v w
  | _, _, _ => False

/-- A call that returns v, w such that R. -/
def CallsR (P : Program) (f : FuncId) (args : Array Value) (w : World) (R : Value → World → Prop) : Prop :=
  Calls P f args w fun en w' => ∃ v, en = .returned v ∧ R v w'

theorem CallsR.mono {P : Program} {f : FuncId} {args : Array Value} {w : World} {R R' : Value → World → Prop} (h : CallsR P f args w R) (hr : ∀ v w', R v w' → R' v w') : CallsR P f args w R' :=
  Calls.mono h fun _ _ ⟨v, he, hv⟩ => ⟨v, he, hr _ _ hv⟩

def envOf (args : Array Value) : Env := fun i => args.getD i undef

theorem calls_of_X {P : Program} {f : FuncId} {fn : Func} {c : Code} {args : Array Value} {w : World} {R : Value → World → Prop}
    (hf : P.funcs[f]? = some fn) (hb : fn.body = some c) (hm : P.follows .mixedOrders = true) {bs : Bigs} (hk : (okN bs fn.ntmps c && decide (fn.ntmps ≤ 1000000) && decide (args.size ≤ fn.ntmps)) = true)
    (h : X P (comp bs c) (retX P fn.results R) (envOf args) w) : CallsR P f args w R := by
  simp only [Bool.and_eq_true, decide_eq_true_eq] at hk
  obtain ⟨⟨hk, hn⟩, hsz⟩ := hk
  refine calls_of_wp hf hb (wp_of_X hm hn c _ _ _ (envOf args) w hk ⟨by simp; omega, rfl, fun i => ?_⟩ (fun ex a e w hs hq => ?_) h)
  · simp only [envOf, Array.getD_eq_getD_getElem?]
    rcases Nat.lt_or_ge i args.size with h1 | h1
    · simp [Array.getElem?_append_left h1]
    · rw [Array.getElem?_append_right h1, Array.getElem?_eq_none h1]
      rcases Nat.lt_or_ge (i - args.size) (fn.ntmps - args.size) with h2 | h2
      · simp [h2]
      · simp [Nat.not_lt.2 h2]
  · cases ex <;> simp only [retX] at hq <;> try exact hq.elim
    all_goals
      obtain ⟨v, h1, h2⟩ := hq
      refine ⟨hs.defers, v, ?_, ⟨v, rfl, h2⟩⟩
      rw [results_eq hs]
      exact h1

/-! ### Steps -/
theorem X_seq {P : Program} {a b : GCode} {Q : Exit → Env → World → Prop} {e : Env} {w : World} (h : ∀ K : Env → World → Prop, (∀ e w, X P b Q e w → K e w) → X P a (thenX K Q) e w) : X P (.seq a b) Q e w := h _ fun _ _ h => h
theorem X_cut {P : Program} {a b : GCode} {Q : Exit → Env → World → Prop} {e : Env} {w : World} (M : Env → World → Prop) (h : X P a (thenX M Q) e w) (h2 : ∀ e w, M e w → X P b Q e w) : X P (.seq a b) Q e w :=
  X_mono a (thenX_mono h2 (fun _ _ _ x => x)) h
theorem X_loop {P : Program} {c : GCode} {Q : Exit → Env → World → Prop} {e : Env} {w : World} (I : Env → World → Prop) (m : Env → World → Nat) (h0 : I e w)
    (h : ∀ e w, I e w → X P c (thenX (fun e' w' => I e' w' ∧ m e' w' < m e w) Q) e w) : X P (.loop c) Q e w := ⟨I, m, h0, h⟩
theorem X_if {P : Program} {c : Operand} {a b : GCode} {Q : Exit → Env → World → Prop} {e : Env} {w : World} {t : Bool} (hc : ev e c = .bool t) (ha : t = true → X P a Q e w) (hb : t = false → X P b Q e w) : X P (.cond c a b) Q e w := by
  refine ⟨t, hc, ?_⟩
  cases t
  · exact hb rfl
  · exact ha rfl
theorem X_skip {P : Program} {Q : Exit → Env → World → Prop} {e : Env} {w : World} : X P .skip Q e w = Q .normal e w := rfl
theorem X_reg {P : Program} {l : List GOp} {Q : Exit → Env → World → Prop} {e : Env} {w : World} : X P (.reg l) Q e w = XO P l (Q .normal) e w := rfl
theorem X_draw {P : Program} {l : List (GOp × Nat)} {Q : Exit → Env → World → Prop} {e : Env} {w : World} : X P (.draw l) Q e w = XD P l (Q .normal) e w := rfl
theorem X_rel {P : Program} {l : List (GOp × Nat)} {Q : Exit → Env → World → Prop} {e : Env} {w : World} : X P (.rel l) Q e w = XY P l (Q .normal) e w := rfl
theorem X_wide {P : Program} {l : List (GOp × Nat)} {Q : Exit → Env → World → Prop} {e : Env} {w : World} : X P (.wide l) Q e w = XW P l (Q .normal) e w := rfl
theorem X_block {P : Program} {id : Nat} {c : GCode} {Q : Exit → Env → World → Prop} {e : Env} {w : World} : X P (.block id c) Q e w = X P c (inX id Q) e w := rfl
theorem X_exit {P : Program} {id : Nat} {Q : Exit → Env → World → Prop} {e : Env} {w : World} : X P (.exit id) Q e w = Q (.exit id) e w := rfl
theorem X_ret {P : Program} {Q : Exit → Env → World → Prop} {e : Env} {w : World} : X P .ret Q e w = Q .ret e w := rfl
theorem thenX_normal {K : Env → World → Prop} {Q : Exit → Env → World → Prop} : thenX K Q .normal = K := rfl
theorem thenX_ret {K : Env → World → Prop} {Q : Exit → Env → World → Prop} : thenX K Q .ret = Q .ret := rfl
theorem thenX_exit {K : Env → World → Prop} {Q : Exit → Env → World → Prop} {i : Nat} : thenX K Q (.exit i) = Q (.exit i) := rfl
theorem inX_normal {id : Nat} {Q : Exit → Env → World → Prop} : inX id Q .normal = Q .normal := rfl
theorem inX_ret {id : Nat} {Q : Exit → Env → World → Prop} : inX id Q .ret = Q .ret := rfl
theorem inX_exit {id i : Nat} {Q : Exit → Env → World → Prop} : inX id Q (.exit i) = if i = id then Q .normal else Q (.exit i) := rfl
theorem retX_ret {P : Program} {rs : Array ResultVar} {R : Value → World → Prop} {e : Env} {w : World} : retX P rs R .ret e w = ∃ v, (resM rs e).run P w = .ok v w ∧ R v w := rfl
theorem retX_normal {P : Program} {rs : Array ResultVar} {R : Value → World → Prop} {e : Env} {w : World} : retX P rs R .normal e w = ∃ v, (resM rs e).run P w = .ok v w ∧ R v w := rfl

end Go.Bx
