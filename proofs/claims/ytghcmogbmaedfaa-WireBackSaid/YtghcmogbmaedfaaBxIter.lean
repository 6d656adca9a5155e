/- Ranging over a map that the loop does not write. -/
import Derived.Test.YtghcmogbmaedfaaBxMap
import Derived.Laws.IdiomRangeMap
namespace Go.Bx
open Go
set_option linter.unusedSimpArgs false
set_option linter.unusedVariables false

/-- What never asks the system. -/
inductive Calm {α : Type} : Sem α → Prop where
  | pure (a : α) : Calm (.pure a)
  | getObj {r : Nat} {k : Obj → Sem α} (h : ∀ o, Calm (k o)) : Calm (.getObj r k)
  | setObj {r : Nat} {o : Obj} {k : Sem α} (h : Calm k) : Calm (.setObj r o k)
  | choose {q : Question} {k : Nat → Sem α} (h : ∀ n, Calm (k n)) : Calm (.choose q k)
  | halt (h : Halt) : Calm (.halt h)
theorem Calm.bind {α β : Type} {s : Sem α} {f : α → Sem β} (h : Calm s) (hf : ∀ a, Calm (f a)) : Calm (s >>= f) := by
  show Calm (s.bind f)
  induction h with
  | pure a => exact hf a
  | getObj _ ih => exact .getObj ih
  | setObj _ ih => exact .setObj ih
  | choose _ ih => exact .choose ih
  | halt h => exact .halt h
theorem Calm.tape {α : Type} {P : Program} {s : Sem α} (h : Calm s) : ∀ {w w' : World} {v : α}, s.run P w = .ok v w' → w'.tape = w.tape := by
  induction h with
  | pure a => intro w w' v h; cases h; rfl
  | getObj _ ih =>
    intro w w' v h
    simp only [Sem.run] at h
    split at h
    · cases h
    · exact ih _ h
    · cases h
  | setObj _ ih =>
    intro w w' v h
    simp only [Sem.run] at h
    split at h
    · cases h
    · have := ih h
      exact this
    · cases h
  | choose _ ih =>
    intro w w' v h
    simp only [Sem.run] at h
    split at h
    · exact ih _ h
    · have := ih _ h
      exact this
  | halt h => intro w w' v h'; cases h'
theorem next_calm {it : Value} {b : Bool} {ty : TypeId} : Calm (Instr.next it b ty) := by
  unfold Instr.next
  split
  · refine Calm.bind (.getObj fun o => .pure o) fun o => ?_
    split
    · split
      · exact Calm.bind (.setObj (.pure _)) fun _ => .pure _
      · exact .pure _
    · exact .pure _
    · refine Calm.bind (.getObj fun o => .pure o) fun o => ?_
      split
      · split
        · exact .halt _
        · refine Calm.bind (.choose fun n => .pure n) fun n => ?_
          split
          · exact Calm.bind (.setObj (.pure _)) fun _ => .pure _
          · exact .pure _
          · exact .halt _
      · exact .halt _
    · exact .halt _
  · exact .halt _

def rgR (P : Program) (t : TypeId) (a : Value) (w : World) : Result Value := (Instr.range t a).run P w
theorem rG_range {P : Program} {t ty : TypeId} {e : Env} {w : World} {x : Operand} : rG P (.range t x) ty e w = vR (rgR P t (ev e x) w) := run_v _
def nxR (P : Program) (a : Value) (w : World) : Result Value := (Instr.next a false 0).run P w
theorem rG_next {P : Program} {ty : TypeId} {e : Env} {w : World} {x : Operand} : rG P (.next x false) ty e w = vR (nxR P (ev e x) w) := run_v _
def enR (P : Program) (a : Value) (w : World) : Result Value := (Instr.entry a).run P w
theorem rG_entry {P : Program} {ty : TypeId} {e : Env} {w : World} {x : Operand} : rG P (.entry x) ty e w = vR (enR P (ev e x) w) := run_v _

/-- The world of a loop over the map in block b: w0 when the loop began; the iterator behind it; 'seen': what has been handed out. -/
def Iter (w0 w' : World) (b clock : Nat) (seen : Array Nat) : Prop := ∃ w1 : World, w1.heap = w0.heap ∧ w1.os = w0.os ∧ w1.tape = w0.tape ∧ w1.output = w0.output ∧ w' = w1.alloc (.mapIter (some b) clock seen clock)
theorem Iter.ext {w0 w' : World} {b clock : Nat} {seen : Array Nat} (h : Iter w0 w' b clock seen) : Ext w0 w' := by
  obtain ⟨w1, hh, ho, ht, hu, rfl⟩ := h
  have hE : Ext w0 w1 := ⟨ho, ht, hu, by rw [hh]; exact Nat.le_refl _, fun k _ => by rw [hh]⟩
  exact hE.alloc _

theorem Iter.seen {w0 w' : World} {b clock : Nat} {seen : Array Nat} (h : Iter w0 w' b clock seen) : w'.iterSeen w0.heap.size = seen := by
  obtain ⟨w1, hh, _, _, _, rfl⟩ := h
  rw [← hh]
  exact World.iterSeen_alloc w1 _ _ _ _
/-- What is left. -/
def leftN {κ : Type} (es : List (Ent κ)) (w0 w' : World) : Nat := (es.filter fun x => !(w'.iterSeen w0.heap.size).contains x.2.2).length
theorem leftN_lt {κ : Type} {es : List (Ent κ)} {w0 w' w'' : World} {b clock : Nat} {seen : Array Nat} {x : Ent κ} (h : Iter w0 w' b clock seen) (h' : Iter w0 w'' b clock (seen.push x.2.2)) (hx : x ∈ es) (hs : x.2.2 ∉ seen) : leftN es w0 w'' < leftN es w0 w' := by
  unfold leftN
  rw [h.seen, h'.seen]
  refine filter_lt _ _ (fun y hy => ?_) x ?_ ?_ es hx
  · simp at hy ⊢; exact hy.1
  · simpa using hs
  · simp

section
variable {κ : Type} [DecidableEq κ] {kf : κ → Value} {ok : κ → Prop} {P : Program} {w w' : World} {t kt et b clock sz by_ : Nat} {z : Value} {es : List (Ent κ)} {seen : Array Nat}
theorem MapK.range (h : MapK kf ok w b es clock) (ht : TI P t (.map kt et) sz by_ z) :
    ∃ w', rgR P t (.map (some b)) w = .ok (.pointer (some ⟨w.heap.size, 0, none⟩)) w' ∧ Iter w w' b clock #[] :=
  ⟨_, run_range_map w t kt et b _ clock ht.und h.at_, w, rfl, rfl, rfl, rfl, rfl⟩
theorem MapK.next (h : MapK kf ok w b es clock) (hi : Iter w w' b clock seen) :
    ((∀ e ∈ es, e.2.2 ∈ seen) ∧ nxR P (.pointer (some ⟨w.heap.size, 0, none⟩)) w' = .ok (.tuple #[.bool false]) w') ∨
    ∃ e ∈ es, e.2.2 ∉ seen ∧ ∃ w'', nxR P (.pointer (some ⟨w.heap.size, 0, none⟩)) w' = .ok (.tuple #[.bool true, kf e.1, e.2.1]) w'' ∧ Iter w w'' b clock (seen.push e.2.2) ∧ enR P (.pointer (some ⟨w.heap.size, 0, none⟩)) w'' = .ok (.tuple #[kf e.1, e.2.1]) w'' := by
  obtain ⟨w1, hh, ho, ht, hu, rfl⟩ := hi
  have hb1 : w1.heap[b]? = some (.map (es.map (mEnt kf)).toArray clock) := by rw [hh]; exact h.at_
  have hs : w1.heap.size = w.heap.size := by rw [hh]
  rw [← hs]
  have hold : ∀ x ∈ ((es.map (mEnt kf)).toArray).toList, x.born < clock := by
    intro x hx
    rw [List.toList_toArray] at hx
    obtain ⟨e, he, rfl⟩ := List.mem_map.1 hx
    exact h.born e he
  rcases run_next_map (P := P) w1 0 b clock clock seen _ clock hb1 hold (Nat.le_refl _) with ⟨h0, hr⟩ | ⟨x, hx, w2, hal, hr⟩
  · left
    refine ⟨fun e he => ?_, hr⟩
    have h1 : (leftOf (es.map (mEnt kf)).toArray seen) = #[] := Array.eq_empty_of_size_eq_zero h0
    unfold leftOf at h1
    rw [Array.filter_eq_empty_iff] at h1
    have := h1 (mEnt kf e) (by simpa using ⟨e.1, e.2.1, e.2.2, he, rfl⟩)
    simpa [mEnt] using this
  · right
    have hx' : x ∈ (es.map (mEnt kf)) ∧ x.born ∉ seen := by
      unfold leftOf at hx
      simpa using hx
    obtain ⟨e, he, rfl⟩ := List.mem_map.1 hx'.1
    have htape := Calm.tape next_calm hr
    have ht2 : w2.tape = w1.tape := htape
    have hb2 : w2.heap[b]? = some (.map (es.map (mEnt kf)).toArray clock) := by rw [hal.1]; exact hb1
    have hs2 : w2.heap.size = w1.heap.size := by rw [hal.1]
    refine ⟨e, he, hx'.2, _, hr, ⟨w2, hal.1.trans hh, hal.2.1.trans ho, ht2.trans ht, hal.2.2.trans hu, rfl⟩, ?_⟩
    have hen := run_entry_map (P := P) w2 b clock seen (es.map (mEnt kf)).toArray clock (mEnt kf e) hb2 (by simpa using List.mem_map.2 ⟨e, he, rfl⟩) (by
      rw [List.toList_toArray, List.map_map]; exact h.borns)
    rw [hs2] at hen
    exact hen
end
end Go.Bx
