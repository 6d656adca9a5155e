/- BxMap, BxIter, BxEq, Bz, Bw: texts of this work, one behind the other. -/
import Derived.Test.YtpeindhocndmnaaSb1
import Derived.MapKept
import Derived.Laws.IdiomRangeMap
/- Maps in memory, by the keys' kind. -/
namespace Go.Bx
open Go
set_option linter.unusedSimpArgs false
set_option linter.unusedVariables false

section
variable {κ : Type} [DecidableEq κ]
/-- An entry: key, value, stamp. -/
abbrev Ent (κ : Type) := κ × Value × Nat
def mEnt (kf : κ → Value) (e : Ent κ) : MapEntry := { key := kf e.1, val := e.2.1, born := e.2.2 }
def mfindFrom (k : κ) : List (Ent κ) → Nat → Option (Nat × Value)
  | [], _ => none
  | e :: es, i => if e.1 = k then some (i, e.2.1) else mfindFrom k es (i + 1)
abbrev mfind (es : List (Ent κ)) (k : κ) : Option (Nat × Value) := mfindFrom k es 0
def mget (es : List (Ent κ)) (k : κ) : Option Value := (mfind es k).map (·.2)
def mput (es : List (Ent κ)) (k : κ) (v : Value) (clock : Nat) : List (Ent κ) := match mfind es k with
  | some (i, _) => es.modify i fun e => (k, v, e.2.2)
  | none => es ++ [(k, v, clock)]
def mclock (es : List (Ent κ)) (k : κ) (clock : Nat) : Nat := if (mfind es k).isSome then clock else clock + 1
def mdel (es : List (Ent κ)) (k : κ) : List (Ent κ) := match mfind es k with
  | some (i, _) => es.eraseIdx i
  | none => es

/-- What the model does with keys of a kind. -/
structure KeyOK (P : Program) (kt : TypeId) (kf : κ → Value) (ok : κ → Prop) : Prop where
  check : ∀ (e : Bool) (k : κ) (w : World), ok k → (Instr.checkKey e 10000 kt (kf k)).run P w = .ok () w
  find : ∀ (k : κ) (es : List (Ent κ)) (w : World), ok k → (∀ e ∈ es, ok e.1) → (Instr.findKey kt (kf k) (es.map (mEnt kf))).run P w = .ok (mfind es k) w
  stay : ∀ (k : κ) (w : World), ok k → (Instr.keyThatStays (kf k) (kf k)).run P w = .ok (kf k) w

theorem mfindFrom_some {k : κ} : ∀ {es : List (Ent κ)} {i j : Nat} {v : Value}, mfindFrom k es i = some (j, v) → i ≤ j ∧ ∃ b, es[j - i]? = some (k, v, b)
  | [], _, _, _, h => by cases h
  | e :: es, i, j, v, h => by
    unfold mfindFrom at h
    split at h
    · rename_i he
      cases h
      subst he
      exact ⟨Nat.le_refl _, e.2.2, by simp⟩
    · obtain ⟨h1, b, h2⟩ := mfindFrom_some h
      refine ⟨by omega, b, ?_⟩
      rw [show j - i = (j - (i + 1)) + 1 by omega]
      simpa using h2
theorem mfindFrom_none {k : κ} : ∀ {es : List (Ent κ)} {i : Nat}, mfindFrom k es i = none ↔ ∀ e ∈ es, e.1 ≠ k
  | [], _ => by simp [mfindFrom]
  | e :: es, i => by
    unfold mfindFrom
    by_cases he : e.1 = k
    · rw [if_pos he]; simp [he]
    · rw [if_neg he, mfindFrom_none]; simp [he]
end

/-- A map in memory. -/
structure MapK {κ : Type} [DecidableEq κ] (kf : κ → Value) (ok : κ → Prop) (w : World) (b : Nat) (es : List (Ent κ)) (clock : Nat) : Prop where
  at_ : w.heap[b]? = some (.map (es.map (mEnt kf)).toArray clock)
  keys : (es.map (·.1)).Nodup
  oks : ∀ e ∈ es, ok e.1
  born : ∀ e ∈ es, e.2.2 < clock
  borns : (es.map (·.2.2)).Nodup

def luR (P : Program) (t : TypeId) (a k : Value) (b : Bool) (w : World) : Result Value := (Instr.lookup t a k b).run P w
theorem rG_lookup {P : Program} {t ty : TypeId} {e : Env} {w : World} {x y : Operand} {b : Bool} : rG P (.lookup t x y b) ty e w = vR (luR P t (ev e x) (ev e y) b w) := run_v _
def muR (P : Program) (t : TypeId) (a k v : Value) (w : World) : Result Unit := (Instr.mapUpdate t a k v).run P w
theorem rG_mapUpdate {P : Program} {t ty : TypeId} {e : Env} {w : World} {x y z : Operand} : rG P (.mapUpdate t x y z) ty e w = uR (muR P t (ev e x) (ev e y) (ev e z) w) := run_u _
def deR (P : Program) (t : TypeId) (a k : Value) (w : World) : Result Value := (Builtin.delete_ #[t, 0] 0 #[a, k]).run P w
theorem rG_makeMap {P : Program} {t ty : TypeId} {e : Env} {w : World} : rG P (.makeMap t none) ty e w = .ok (.value (.map (some w.heap.size))) (w.alloc (.map #[] 0)) := rfl
theorem rG_delete {P : Program} {t t2 ty : TypeId} {e : Env} {w : World} {x y : Operand} : rG P (.call { callee := .builtin .delete, args := #[x, y], argTypes := #[t, t2] }) ty e w = vR (deR P t (ev e x) (ev e y) w) := by
  show (do let d ← resolve (ev e) { callee := .builtin .delete, args := #[x, y], argTypes := #[t, t2] } ty; invoke d.target d.args : Sem Next).run P w = _
  simp only [Sem.run_bind, resolve, pure, Sem.run, Result.andThen_ok, invoke, builtin]
  simp only [List.map_toArray, List.map_cons, List.map_nil]
  rfl

section
variable {κ : Type} [DecidableEq κ] {kf : κ → Value} {ok : κ → Prop} {P : Program} {w w' : World} {t kt et b clock sz by_ s2 b2 : Nat} {z zv : Value} {de : TypeDesc} {es : List (Ent κ)} {k : κ}

theorem MapK.lookup (h : MapK kf ok w b es clock) (ht : TI P t (.map kt et) sz by_ z) (he : TI P et de s2 b2 zv) (hk : KeyOK P kt kf ok) (hok : ok k) :
    luR P t (.map (some b)) (kf k) true w = .ok (.tuple #[(mget es k).getD zv, .bool (mget es k).isSome]) w := by
  simp only [luR, Instr.lookup, Sem.run_bind, ht.underlying, Result.andThen_ok, MapKept.run_getObj_map h.at_, List.toList_toArray]
  (try simp only [Sem.run_pure, Result.andThen_ok, List.toList_toArray])
  rw [hk.check _ _ _ hok]
  simp only [Result.andThen_ok, Sem.run_bind]
  rw [hk.find k es w hok h.oks]
  simp only [Result.andThen_ok]
  unfold mget
  cases hm : mfind es k with
  | none => simp [he.zeroValue, pure, Sem.run]
  | some r => simp [pure, Sem.run]
theorem MapK.lookup1 (h : MapK kf ok w b es clock) (ht : TI P t (.map kt et) sz by_ z) (he : TI P et de s2 b2 zv) (hk : KeyOK P kt kf ok) (hok : ok k) :
    luR P t (.map (some b)) (kf k) false w = .ok ((mget es k).getD zv) w := by
  simp only [luR, Instr.lookup, Sem.run_bind, ht.underlying, Result.andThen_ok, MapKept.run_getObj_map h.at_, List.toList_toArray]
  (try simp only [Sem.run_pure, Result.andThen_ok, List.toList_toArray])
  rw [hk.check _ _ _ hok]
  simp only [Result.andThen_ok, Sem.run_bind]
  rw [hk.find k es w hok h.oks]
  simp only [Result.andThen_ok]
  unfold mget
  cases hm : mfind es k with
  | none => simp [he.zeroValue, pure, Sem.run]
  | some r => simp [pure, Sem.run]
theorem set_upd {o : Obj} : ({ w with heap := w.heap.setIfInBounds b o } : World) = upd w b o := rfl
theorem MapK.update (h : MapK kf ok w b es clock) (ht : TI P t (.map kt et) sz by_ z) (hk : KeyOK P kt kf ok) (hok : ok k) (v : Value) :
    muR P t (.map (some b)) (kf k) v w = .ok () (upd w b (.map ((mput es k v clock).map (mEnt kf)).toArray (mclock es k clock))) := by
  simp only [muR, Instr.mapUpdate, Sem.run_bind, ht.underlying, Result.andThen_ok, MapKept.run_getObj_map h.at_, List.toList_toArray]
  (try simp only [Sem.run_pure, Result.andThen_ok, List.toList_toArray])
  rw [hk.check _ _ _ hok]
  simp only [Result.andThen_ok, Sem.run_bind]
  rw [hk.find k es w hok h.oks]
  simp only [Result.andThen_ok]
  unfold mput mclock
  cases hm : mfind es k with
  | none =>
    simp only [Option.isSome_none, Bool.false_eq_true, if_false, MapKept.run_setObj_map _ h.at_]
    simp [set_upd, mEnt]
  | some r =>
    obtain ⟨i, u⟩ := r
    obtain ⟨_, bb, hi⟩ := mfindFrom_some hm
    rw [Nat.sub_zero] at hi
    have h1 : (((es.map (mEnt kf)).toArray[i]?).map (·.key)).getD (kf k) = kf k := by
      simp [hi, mEnt]
    simp only [Option.isSome_some, if_true, Sem.run_bind, h1, hk.stay k w hok, Result.andThen_ok, MapKept.run_setObj_map _ h.at_, set_upd]
    congr 3
    apply Array.ext_getElem?
    intro j
    simp only [Array.getElem?_modify, List.getElem?_toArray, List.getElem?_map, List.getElem?_modify]
    by_cases hj : i = j
    · subst hj; simp [hi, mEnt]
    · simp [hj]
theorem MapK.delete (h : MapK kf ok w b es clock) (ht : TI P t (.map kt et) sz by_ z) (hk : KeyOK P kt kf ok) (hok : ok k) :
    deR P t (.map (some b)) (kf k) w = .ok (.tuple #[]) (upd w b (.map ((mdel es k).map (mEnt kf)).toArray clock)) := by
  have e0 : (#[t, 0] : Array Nat)[0]? = some t := rfl
  simp only [deR, Builtin.delete_, List.getElem?_toArray, List.getElem?_cons_zero, List.getElem?_cons_succ, Sem.run_bind, ht.underlying, Result.andThen_ok, MapKept.run_getObj_map h.at_, List.toList_toArray]
  (try simp only [Sem.run_pure, Result.andThen_ok, List.toList_toArray])
  rw [hk.check _ _ _ hok]
  simp only [Result.andThen_ok, Sem.run_bind]
  rw [hk.find k es w hok h.oks]
  simp only [Result.andThen_ok]
  unfold mdel
  cases hm : mfind es k with
  | none => simp [MapKept.run_setObj_map _ h.at_, set_upd, pure, Sem.run]
  | some r =>
    obtain ⟨i, u⟩ := r
    obtain ⟨_, bb, hi⟩ := mfindFrom_some hm
    rw [Nat.sub_zero] at hi
    have hlt : i < es.length := (List.getElem?_eq_some_iff.1 hi).1
    have : (es.map (mEnt kf)).toArray.eraseIdxIfInBounds i = ((es.eraseIdx i).map (mEnt kf)).toArray := by
      rw [Array.eraseIdxIfInBounds, dif_pos (by simpa using hlt)]
      have e1 : (es.map (mEnt kf)).eraseIdx i = (es.eraseIdx i).map (mEnt kf) := by
        rw [List.eraseIdx_eq_take_drop_succ, List.eraseIdx_eq_take_drop_succ, List.map_append, List.map_take, List.map_drop]
      simp [e1]
    dsimp only
    rw [this]
    simp only [Sem.run_bind, MapKept.run_setObj_map _ h.at_, Result.andThen_ok, set_upd]
    rfl
end

/-! ### What is in a map behind each -/
section
variable {κ : Type} [DecidableEq κ] {kf : κ → Value} {ok : κ → Prop} {w w' : World} {b clock : Nat} {es : List (Ent κ)} {k j : κ} {v : Value}
theorem mfindFrom_mem {bb : Nat} : ∀ {es : List (Ent κ)} {i : Nat}, (es.map (·.1)).Nodup → (k, v, bb) ∈ es → ∃ m, mfindFrom k es i = some (m, v)
  | [], _, _, h => by cases h
  | e :: es, i, hn, h => by
    rw [List.map_cons, List.nodup_cons] at hn
    unfold mfindFrom
    rcases List.mem_cons.1 h with rfl | h
    · exact ⟨i, by simp⟩
    · have : e.1 ≠ k := fun e' => hn.1 (by rw [e']; exact List.mem_map.2 ⟨_, h, rfl⟩)
      rw [if_neg this]
      exact mfindFrom_mem hn.2 h
theorem mget_of_mem {bb : Nat} (hn : (es.map (·.1)).Nodup) (h : (k, v, bb) ∈ es) : mget es k = some v := by
  obtain ⟨m, hm⟩ := mfindFrom_mem (i := 0) hn h
  unfold mget mfind
  rw [hm]; rfl
theorem mget_some (h : mget es k = some v) : ∃ bb, (k, v, bb) ∈ es := by
  unfold mget at h
  obtain ⟨⟨i, u⟩, h1, h2⟩ := Option.map_eq_some_iff.1 h
  obtain ⟨_, bb, h3⟩ := mfindFrom_some h1
  cases h2
  exact ⟨bb, List.mem_iff_getElem?.2 ⟨_, h3⟩⟩
theorem mget_none : mget es k = none ↔ ∀ e ∈ es, e.1 ≠ k := by
  unfold mget
  rw [Option.map_eq_none_iff]
  exact mfindFrom_none
theorem mget_eq {es' : List (Ent κ)} (hn : (es.map (·.1)).Nodup) (h : ∀ u, (∃ bb, (k, u, bb) ∈ es') ↔ (∃ bb, (k, u, bb) ∈ es)) (hn' : (es'.map (·.1)).Nodup) : mget es' k = mget es k := by
  cases h1 : mget es k with
  | none =>
    rw [mget_none] at h1 ⊢
    intro e he hek
    obtain ⟨bb, hb⟩ := (h e.2.1).1 ⟨e.2.2, by rw [← hek]; exact he⟩
    exact h1 _ hb rfl
  | some u =>
    obtain ⟨bb, hb⟩ := (h u).2 (mget_some h1)
    exact mget_of_mem hn' hb

theorem mput_keys (hn : (es.map (·.1)).Nodup) : ((mput es k v clock).map (·.1)).Nodup := by
  unfold mput
  cases hm : mfind es k with
  | none =>
    rw [List.map_append, List.nodup_append]
    have := mfindFrom_none.1 hm
    refine ⟨hn, by simp, fun a ha c hc => ?_⟩
    obtain ⟨e, he, rfl⟩ := List.mem_map.1 ha
    simp only [List.map_cons, List.map_nil, List.mem_singleton] at hc
    subst hc
    exact this e he
  | some r =>
    obtain ⟨i, u⟩ := r
    obtain ⟨_, bb, hi⟩ := mfindFrom_some hm
    rw [Nat.sub_zero] at hi
    have : (es.modify i fun e => (k, v, e.2.2)).map (·.1) = es.map (·.1) := by
      apply List.ext_getElem?
      intro m
      rw [List.getElem?_map, List.getElem?_map, List.getElem?_modify]
      by_cases hm' : i = m
      · subst hm'; simp [hi]
      · simp [hm']
    show ((es.modify i fun e => (k, v, e.2.2)).map (·.1)).Nodup
    rw [this]; exact hn
theorem mput_mem {e : Ent κ} (hn : (es.map (·.1)).Nodup) : e ∈ mput es k v clock → (e ∈ es ∧ e.1 ≠ k) ∨ (e.1 = k ∧ e.2.1 = v ∧ ((∃ u, (k, u, e.2.2) ∈ es) ∨ e.2.2 = clock)) := by
  unfold mput
  cases hm : mfind es k with
  | none =>
    intro h
    rcases List.mem_append.1 h with h | h
    · exact .inl ⟨h, mfindFrom_none.1 hm e h⟩
    · rw [List.mem_singleton] at h
      subst h
      exact .inr ⟨rfl, rfl, .inr rfl⟩
  | some r =>
    obtain ⟨i, u⟩ := r
    obtain ⟨_, bb, hi⟩ := mfindFrom_some hm
    rw [Nat.sub_zero] at hi
    intro h
    have h' : e ∈ es.modify i fun e => (k, v, e.2.2) := h
    obtain ⟨m, hm'⟩ := List.mem_iff_getElem?.1 h'
    rw [List.getElem?_modify] at hm'
    by_cases him : i = m
    · subst him
      simp [hi] at hm'
      subst hm'
      exact .inr ⟨rfl, rfl, .inl ⟨u, List.mem_iff_getElem?.2 ⟨i, hi⟩⟩⟩
    · simp [him] at hm'
      refine .inl ⟨List.mem_iff_getElem?.2 ⟨m, hm'⟩, fun hek => him ?_⟩
      have h1 : (es.map (·.1))[i]? = some k := by rw [List.getElem?_map, hi]; rfl
      have h2 : (es.map (·.1))[m]? = some k := by rw [List.getElem?_map, hm', ← hek]; rfl
      have hlt : i < (es.map (·.1)).length := (List.getElem?_eq_some_iff.1 h1).1
      exact (List.getElem?_inj hlt hn).1 (h1.trans h2.symm)

theorem mput_mem' (hn : (es.map (·.1)).Nodup) : (∃ bb, (k, v, bb) ∈ mput es k v clock) ∧ ∀ e ∈ es, e.1 ≠ k → e ∈ mput es k v clock := by
  unfold mput
  cases hm : mfind es k with
  | none => exact ⟨⟨clock, by simp⟩, fun e he _ => by simp [he]⟩
  | some r =>
    obtain ⟨i, u⟩ := r
    obtain ⟨_, bb, hi⟩ := mfindFrom_some hm
    rw [Nat.sub_zero] at hi
    refine ⟨⟨bb, List.mem_iff_getElem?.2 ⟨i, ?_⟩⟩, fun e he hek => ?_⟩
    · show (es.modify i fun e => (k, v, e.2.2))[i]? = _
      rw [List.getElem?_modify]; simp [hi]
    · obtain ⟨m, hm'⟩ := List.mem_iff_getElem?.1 he
      have him : i ≠ m := fun h => by subst h; rw [hi] at hm'; cases hm'; exact hek rfl
      refine List.mem_iff_getElem?.2 ⟨m, ?_⟩
      show (es.modify i fun e => (k, v, e.2.2))[m]? = _
      rw [List.getElem?_modify]; simp [him, hm']
theorem mget_put (hn : (es.map (·.1)).Nodup) : mget (mput es k v clock) j = if j = k then some v else mget es j := by
  have hn' := mput_keys (v := v) (clock := clock) (k := k) hn
  by_cases hj : j = k
  · subst hj
    rw [if_pos rfl]
    obtain ⟨bb, hb⟩ := (mput_mem' (k := j) (v := v) (clock := clock) hn).1
    exact mget_of_mem hn' hb
  · rw [if_neg hj]
    refine mget_eq hn (fun u => ⟨fun ⟨bb, hb⟩ => ?_, fun ⟨bb, hb⟩ => ⟨bb, (mput_mem' hn).2 _ hb hj⟩⟩) hn'
    rcases mput_mem hn hb with h | ⟨h, _⟩
    · exact ⟨bb, h.1⟩
    · exact absurd h hj
theorem mdel_mem (hn : (es.map (·.1)).Nodup) {e : Ent κ} : e ∈ mdel es k ↔ e ∈ es ∧ e.1 ≠ k := by
  unfold mdel
  cases hm : mfind es k with
  | none =>
    have := mfindFrom_none.1 hm
    exact ⟨fun h => ⟨h, this e h⟩, fun h => h.1⟩
  | some r =>
    obtain ⟨i, u⟩ := r
    obtain ⟨_, bb, hi⟩ := mfindFrom_some hm
    rw [Nat.sub_zero] at hi
    show e ∈ es.eraseIdx i ↔ _
    rw [List.mem_eraseIdx_iff_getElem?]
    constructor
    · rintro ⟨m, him, hm'⟩
      refine ⟨List.mem_iff_getElem?.2 ⟨m, hm'⟩, fun hek => him ?_⟩
      have h1 : (es.map (·.1))[i]? = some k := by rw [List.getElem?_map, hi]; rfl
      have h2 : (es.map (·.1))[m]? = some k := by rw [List.getElem?_map, hm', ← hek]; rfl
      have hlt : m < (es.map (·.1)).length := (List.getElem?_eq_some_iff.1 h2).1
      exact (List.getElem?_inj hlt hn).1 (h2.trans h1.symm)
    · rintro ⟨h1, h2⟩
      obtain ⟨m, hm'⟩ := List.mem_iff_getElem?.1 h1
      exact ⟨m, fun h => by subst h; rw [hi] at hm'; cases hm'; exact h2 rfl, hm'⟩
theorem mdel_sub : (mdel es k).Sublist es := by
  unfold mdel
  split
  · exact List.eraseIdx_sublist ..
  · exact List.Sublist.refl _
theorem mdel_keys (hn : (es.map (·.1)).Nodup) : ((mdel es k).map (·.1)).Nodup := hn.sublist (mdel_sub.map _)
theorem mget_del (hn : (es.map (·.1)).Nodup) : mget (mdel es k) j = if j = k then none else mget es j := by
  by_cases hj : j = k
  · subst hj
    rw [if_pos rfl, mget_none]
    exact fun e he => ((mdel_mem hn).1 he).2
  · rw [if_neg hj]
    exact mget_eq hn (fun u => ⟨fun ⟨bb, hb⟩ => ⟨bb, ((mdel_mem hn).1 hb).1⟩, fun ⟨bb, hb⟩ => ⟨bb, (mdel_mem hn).2 ⟨hb, hj⟩⟩⟩) (mdel_keys hn)

theorem MapK.put (h : MapK kf ok w b es clock) (hok : ok k) : MapK kf ok (upd w b (.map ((mput es k v clock).map (mEnt kf)).toArray (mclock es k clock))) b (mput es k v clock) (mclock es k clock) := by
  refine ⟨upd_same (lt_of_heap h.at_), mput_keys h.keys, fun e he => ?_, fun e he => ?_, ?_⟩
  · rcases mput_mem h.keys he with h' | h'
    · exact h.oks e h'.1
    · rw [h'.1]; exact hok
  · have hc : clock ≤ mclock es k clock := by unfold mclock; split <;> omega
    rcases mput_mem h.keys he with h' | ⟨_, _, h' | h'⟩
    · exact Nat.lt_of_lt_of_le (h.born e h'.1) hc
    · obtain ⟨u, hu⟩ := h'
      have := h.born _ hu
      exact Nat.lt_of_lt_of_le this hc
    · have hnone : mfind es k = none := by
        cases hm : mfind es k with
        | none => rfl
        | some r =>
          exfalso
          obtain ⟨i, u⟩ := r
          unfold mput at he
          rw [hm] at he
          obtain ⟨m, hm'⟩ := List.mem_iff_getElem?.1 he
          have hm2 : (es.modify i fun e => (k, v, e.2.2))[m]? = some e := hm'
          rw [List.getElem?_modify] at hm2
          obtain ⟨e0, he0, he1⟩ := Option.map_eq_some_iff.1 hm2
          have := h.born e0 (List.mem_iff_getElem?.2 ⟨m, he0⟩)
          have e2 : e.2.2 = e0.2.2 := by rw [← he1]; split <;> rfl
          omega
      unfold mclock
      rw [hnone]; simp; omega
  · unfold mput
    cases hm : mfind es k with
    | none =>
      show ((es ++ [(k, v, clock)]).map (·.2.2)).Nodup
      rw [List.map_append, List.nodup_append]
      refine ⟨h.borns, by simp, fun x hx y hy => ?_⟩
      obtain ⟨e, he, rfl⟩ := List.mem_map.1 hx
      simp only [List.map_cons, List.map_nil, List.mem_singleton] at hy
      subst hy
      have := h.born e he
      omega
    | some r =>
      obtain ⟨i, u⟩ := r
      have : (es.modify i fun e => (k, v, e.2.2)).map (·.2.2) = es.map (·.2.2) := by
        apply List.ext_getElem?
        intro m
        rw [List.getElem?_map, List.getElem?_map, List.getElem?_modify]
        cases es[m]? with
        | none => rfl
        | some e => by_cases hm' : i = m <;> simp [hm']
      show ((es.modify i fun e => (k, v, e.2.2)).map (·.2.2)).Nodup
      rw [this]; exact h.borns
theorem MapK.del (h : MapK kf ok w b es clock) : MapK kf ok (upd w b (.map ((mdel es k).map (mEnt kf)).toArray clock)) b (mdel es k) clock :=
  ⟨upd_same (lt_of_heap h.at_), mdel_keys h.keys, fun e he => h.oks e (mdel_sub.mem he), fun e he => h.born e (mdel_sub.mem he), h.borns.sublist (mdel_sub.map _)⟩
theorem MapK.keep (h : MapK kf ok w b es clock) (hk : w'.heap[b]? = w.heap[b]?) : MapK kf ok w' b es clock := ⟨by rw [hk]; exact h.at_, h.keys, h.oks, h.born, h.borns⟩
theorem MapK.new (w : World) : MapK kf ok (w.alloc (.map #[] 0)) w.heap.size [] 0 := ⟨alloc_new, List.nodup_nil, fun e h => (by cases h), fun e h => (by cases h), List.nodup_nil⟩
end

/-! ### Keys that are numbers -/
theorem int_keys {P : Program} {kt : TypeId} {kk : IntKind} (hd : P.underlying kt = some (.int kk)) : KeyOK P kt (fun k : Int => Value.int kk k) (fun _ => True) := by
  have fn : ∀ (k : Int) (es : List (Ent Int)) (i : Nat), Instr.findNow (.int kk) (.int kk k) (es.map (mEnt fun k : Int => Value.int kk k)) i = some (mfindFrom k es i) := by
    intro k es
    induction es with
    | nil => intro i; rfl
    | cons e es ih =>
      intro i
      simp only [List.map_cons, Instr.findNow, mEnt, Instr.sameNow, if_true, mfindFrom]
      by_cases he : e.1 = k
      · subst he; simp
      · have hb : (k == e.1) = false := beq_eq_false_iff_ne.2 (fun h => he h.symm)
        simp only [hb, if_neg he]
        exact ih (i + 1)
  refine ⟨fun e k w _ => ?_, fun k es w _ _ => ?_, fun k w _ => ?_⟩
  · exact MapKept.run_checkKey hd (n := 9999) (by simp [MapKept.IsKey]) e
  · exact MapKept.run_findKey hd (fn k es 0)
  · exact MapKept.run_keyThatStays (d := .int kk) (by simp [MapKept.IsKey])
end Go.Bx

/- Ranging over a map that the loop does not write. -/
namespace Go.Bx
open Go
set_option linter.unusedSimpArgs false
set_option linter.unusedVariables false

/-- What never asks the system. -/
inductive Calm {α : Type} : Sem α → Prop where
  | pure (a : α) : Calm (.pure a)
  | getObj {r : Nat} {k : Obj → Sem α} (h : ∀ o, Calm (k o)) : Calm (.getObj r k)
  | setObj {r : Nat} {o : Obj} {k : Sem α} (h : Calm k) : Calm (.setObj r o k)
  | choose {q : Question} {k : Nat → Sem α} (h : ∀ n, Calm (k n)) : Calm (.choose q k)
  | halt (h : Halt) : Calm (.halt h)
theorem Calm.bind {α β : Type} {s : Sem α} {f : α → Sem β} (h : Calm s) (hf : ∀ a, Calm (f a)) : Calm (s >>= f) := by
  show Calm (s.bind f)
  induction h with
  | pure a => exact hf a
  | getObj _ ih => exact .getObj ih
  | setObj _ ih => exact .setObj ih
  | choose _ ih => exact .choose ih
  | halt h => exact .halt h
theorem Calm.tape {α : Type} {P : Program} {s : Sem α} (h : Calm s) : ∀ {w w' : World} {v : α}, s.run P w = .ok v w' → w'.tape = w.tape := by
  induction h with
  | pure a => intro w w' v h; cases h; rfl
  | getObj _ ih =>
    intro w w' v h
    simp only [Sem.run] at h
    split at h
    · cases h
    · exact ih _ h
    · cases h
  | setObj _ ih =>
    intro w w' v h
    simp only [Sem.run] at h
    split at h
    · cases h
    · have := ih h
      exact this
    · cases h
  | choose _ ih =>
    intro w w' v h
    simp only [Sem.run] at h
    split at h
    · exact ih _ h
    · have := ih _ h
      exact this
  | halt h => intro w w' v h'; cases h'
theorem next_calm {it : Value} {b : Bool} {ty : TypeId} : Calm (Instr.next it b ty) := by
  unfold Instr.next
  split
  · refine Calm.bind (.getObj fun o => .pure o) fun o => ?_
    split
    · split
      · exact Calm.bind (.setObj (.pure _)) fun _ => .pure _
      · exact .pure _
    · exact .pure _
    · refine Calm.bind (.getObj fun o => .pure o) fun o => ?_
      split
      · split
        · exact .halt _
        · refine Calm.bind (.choose fun n => .pure n) fun n => ?_
          split
          · exact Calm.bind (.setObj (.pure _)) fun _ => .pure _
          · exact .pure _
          · exact .halt _
      · exact .halt _
    · exact .halt _
  · exact .halt _

def rgR (P : Program) (t : TypeId) (a : Value) (w : World) : Result Value := (Instr.range t a).run P w
theorem rG_range {P : Program} {t ty : TypeId} {e : Env} {w : World} {x : Operand} : rG P (.range t x) ty e w = vR (rgR P t (ev e x) w) := run_v _
def nxR (P : Program) (a : Value) (w : World) : Result Value := (Instr.next a false 0).run P w
theorem rG_next {P : Program} {ty : TypeId} {e : Env} {w : World} {x : Operand} : rG P (.next x false) ty e w = vR (nxR P (ev e x) w) := run_v _
def enR (P : Program) (a : Value) (w : World) : Result Value := (Instr.entry a).run P w
theorem rG_entry {P : Program} {ty : TypeId} {e : Env} {w : World} {x : Operand} : rG P (.entry x) ty e w = vR (enR P (ev e x) w) := run_v _

/-- The world of a loop over the map in block b: w0 when the loop began; the iterator behind it; 'seen': what has been handed out. -/
def Iter (w0 w' : World) (b clock : Nat) (seen : Array Nat) : Prop := ∃ w1 : World, w1.heap = w0.heap ∧ w1.os = w0.os ∧ w1.tape = w0.tape ∧ w1.output = w0.output ∧ w' = w1.alloc (.mapIter (some b) clock seen clock)
theorem Iter.ext {w0 w' : World} {b clock : Nat} {seen : Array Nat} (h : Iter w0 w' b clock seen) : Ext w0 w' := by
  obtain ⟨w1, hh, ho, ht, hu, rfl⟩ := h
  have hE : Ext w0 w1 := ⟨ho, ht, hu, by rw [hh]; exact Nat.le_refl _, fun k _ => by rw [hh]⟩
  exact hE.alloc _

theorem Iter.seen {w0 w' : World} {b clock : Nat} {seen : Array Nat} (h : Iter w0 w' b clock seen) : w'.iterSeen w0.heap.size = seen := by
  obtain ⟨w1, hh, _, _, _, rfl⟩ := h
  rw [← hh]
  exact World.iterSeen_alloc w1 _ _ _ _
/-- What is left. -/
def leftN {κ : Type} (es : List (Ent κ)) (w0 w' : World) : Nat := (es.filter fun x => !(w'.iterSeen w0.heap.size).contains x.2.2).length
theorem leftN_lt {κ : Type} {es : List (Ent κ)} {w0 w' w'' : World} {b clock : Nat} {seen : Array Nat} {x : Ent κ} (h : Iter w0 w' b clock seen) (h' : Iter w0 w'' b clock (seen.push x.2.2)) (hx : x ∈ es) (hs : x.2.2 ∉ seen) : leftN es w0 w'' < leftN es w0 w' := by
  unfold leftN
  rw [h.seen, h'.seen]
  refine filter_lt _ _ (fun y hy => ?_) x ?_ ?_ es hx
  · simp at hy ⊢; exact hy.1
  · simpa using hs
  · simp

section
variable {κ : Type} [DecidableEq κ] {kf : κ → Value} {ok : κ → Prop} {P : Program} {w w' : World} {t kt et b clock sz by_ : Nat} {z : Value} {es : List (Ent κ)} {seen : Array Nat}
theorem MapK.range (h : MapK kf ok w b es clock) (ht : TI P t (.map kt et) sz by_ z) :
    ∃ w', rgR P t (.map (some b)) w = .ok (.pointer (some ⟨w.heap.size, 0, none⟩)) w' ∧ Iter w w' b clock #[] :=
  ⟨_, run_range_map w t kt et b _ clock ht.und h.at_, w, rfl, rfl, rfl, rfl, rfl⟩
theorem MapK.next (h : MapK kf ok w b es clock) (hi : Iter w w' b clock seen) :
    ((∀ e ∈ es, e.2.2 ∈ seen) ∧ nxR P (.pointer (some ⟨w.heap.size, 0, none⟩)) w' = .ok (.tuple #[.bool false]) w') ∨
    ∃ e ∈ es, e.2.2 ∉ seen ∧ ∃ w'', nxR P (.pointer (some ⟨w.heap.size, 0, none⟩)) w' = .ok (.tuple #[.bool true, kf e.1, e.2.1]) w'' ∧ Iter w w'' b clock (seen.push e.2.2) ∧ enR P (.pointer (some ⟨w.heap.size, 0, none⟩)) w'' = .ok (.tuple #[kf e.1, e.2.1]) w'' := by
  obtain ⟨w1, hh, ho, ht, hu, rfl⟩ := hi
  have hb1 : w1.heap[b]? = some (.map (es.map (mEnt kf)).toArray clock) := by rw [hh]; exact h.at_
  have hs : w1.heap.size = w.heap.size := by rw [hh]
  rw [← hs]
  have hold : ∀ x ∈ ((es.map (mEnt kf)).toArray).toList, x.born < clock := by
    intro x hx
    rw [List.toList_toArray] at hx
    obtain ⟨e, he, rfl⟩ := List.mem_map.1 hx
    exact h.born e he
  rcases run_next_map (P := P) w1 0 b clock clock seen _ clock hb1 hold (Nat.le_refl _) with ⟨h0, hr⟩ | ⟨x, hx, w2, hal, hr⟩
  · left
    refine ⟨fun e he => ?_, hr⟩
    have h1 : (leftOf (es.map (mEnt kf)).toArray seen) = #[] := Array.eq_empty_of_size_eq_zero h0
    unfold leftOf at h1
    rw [Array.filter_eq_empty_iff] at h1
    have := h1 (mEnt kf e) (by simpa using ⟨e.1, e.2.1, e.2.2, he, rfl⟩)
    simpa [mEnt] using this
  · right
    have hx' : x ∈ (es.map (mEnt kf)) ∧ x.born ∉ seen := by
      unfold leftOf at hx
      simpa using hx
    obtain ⟨e, he, rfl⟩ := List.mem_map.1 hx'.1
    have htape := Calm.tape next_calm hr
    have ht2 : w2.tape = w1.tape := htape
    have hb2 : w2.heap[b]? = some (.map (es.map (mEnt kf)).toArray clock) := by rw [hal.1]; exact hb1
    have hs2 : w2.heap.size = w1.heap.size := by rw [hal.1]
    refine ⟨e, he, hx'.2, _, hr, ⟨w2, hal.1.trans hh, hal.2.1.trans ho, ht2.trans ht, hal.2.2.trans hu, rfl⟩, ?_⟩
    have hen := run_entry_map (P := P) w2 b clock seen (es.map (mEnt kf)).toArray clock (mEnt kf e) hb2 (by simpa using List.mem_map.2 ⟨e, he, rfl⟩) (by
      rw [List.toList_toArray, List.map_map]; exact h.borns)
    rw [hs2] at hen
    exact hen
end
end Go.Bx

/- Comparisons of interfaces, pointers, slices and maps. -/
namespace Go.Bx
open Go
set_option linter.unusedSimpArgs false
set_option linter.unusedVariables false
section
variable {P : Program} {t T E : TypeId} {x y : Operand} {w : World} {sz by_ a1 b1 : Nat} {z z1 : Value} {ms : Array (String × TypeId)} {k : IntKind} {m n : Int} {p q : Bool} {a : Addr} {l c l2 c2 : Nat} {v u : Value}

theorem binR_eq_of {r : Bool} (hg : (eqGuard .eql t x y v u).run P w = .ok () w) (hb : binOp .eql t v u = (do pure (.bool (← Op.equal t v u)) : Sem Value)) (h : (Op.equal t v u).run P w = .ok r w) : binR P .eql t x y v u w = .ok (.bool r) w := by
  unfold binR
  simp only [Sem.run_bind, hg, Result.andThen_ok, hb, h]; rfl
theorem binR_ne_of {r : Bool} (hg : (eqGuard .neq t x y v u).run P w = .ok () w) (hb : binOp .neq t v u = (do pure (.bool (!(← Op.equal t v u))) : Sem Value)) (h : (Op.equal t v u).run P w = .ok r w) : binR P .neq t x y v u w = .ok (.bool (!r)) w := by
  unfold binR
  simp only [Sem.run_bind, hg, Result.andThen_ok, hb, h]; rfl

theorem equal_nn (h : TI P t (.interface ms) sz by_ z) : (Op.equal t .nilIface .nilIface).run P w = .ok true w := by
  show (Op.equalIn (9999 + 1) t _ _).run P w = _
  unfold Op.equalIn
  simp only [Sem.run_bind, h.underlying, Result.andThen_ok]; rfl
theorem equal_in (h : TI P t (.interface ms) sz by_ z) : (Op.equal t (.iface T v) .nilIface).run P w = .ok false w := by
  show (Op.equalIn (9999 + 1) t _ _).run P w = _
  unfold Op.equalIn
  simp only [Sem.run_bind, h.underlying, Result.andThen_ok]; rfl
theorem equal_ni (h : TI P t (.interface ms) sz by_ z) : (Op.equal t .nilIface (.iface T v)).run P w = .ok false w := by
  show (Op.equalIn (9999 + 1) t _ _).run P w = _
  unfold Op.equalIn
  simp only [Sem.run_bind, h.underlying, Result.andThen_ok]; rfl
theorem equal_ii (h : TI P t (.interface ms) sz by_ z) (h2 : TI P T (.int k) a1 b1 z1) (hc : (P.info? T).map (·.comparable) = some true) : (Op.equal t (.iface T (.int k m)) (.iface T (.int k n))).run P w = .ok (m == n) w := by
  obtain ⟨i, hi, _, _, _⟩ := h2.inf
  have hci : i.comparable = true := by rw [hi] at hc; simpa using hc
  have e : (Go.typeInfo T).run P w = .ok i w := by simp [Go.typeInfo, hi]
  show (Op.equalIn (9999 + 1) t _ _).run P w = _
  unfold Op.equalIn
  simp only [Sem.run_bind, h.underlying, Result.andThen_ok, ne_eq, not_true_eq_false, if_false, e, hci, Bool.not_true, Bool.false_eq_true, run_equalIn_int w 9998 T k k _ _ h2.und]
theorem eql_nn {u' : Value} (h : TI P t (.interface ms) sz by_ z) : binR P .eql t x (.const u') .nilIface .nilIface w = .ok (.bool true) w :=
  binR_eq_of (by cases x <;> rfl) rfl (equal_nn h)
theorem neq_nn {u' : Value} (h : TI P t (.interface ms) sz by_ z) : binR P .neq t x (.const u') .nilIface .nilIface w = .ok (.bool false) w :=
  binR_ne_of (by cases x <;> rfl) rfl (equal_nn h)
theorem eql_in (h : TI P t (.interface ms) sz by_ z) : binR P .eql t x y (.iface T v) .nilIface w = .ok (.bool false) w := binR_eq_of rfl rfl (equal_in h)
theorem neq_in (h : TI P t (.interface ms) sz by_ z) : binR P .neq t x y (.iface T v) .nilIface w = .ok (.bool true) w := binR_ne_of rfl rfl (equal_in h)
theorem eql_ni (h : TI P t (.interface ms) sz by_ z) : binR P .eql t x y .nilIface (.iface T v) w = .ok (.bool false) w := binR_eq_of rfl rfl (equal_ni h)
theorem neq_ni (h : TI P t (.interface ms) sz by_ z) : binR P .neq t x y .nilIface (.iface T v) w = .ok (.bool true) w := binR_ne_of rfl rfl (equal_ni h)
theorem eql_ii (h : TI P t (.interface ms) sz by_ z) (h2 : TI P T (.int k) a1 b1 z1) (hc : (P.info? T).map (·.comparable) = some true) : binR P .eql t x y (.iface T (.int k m)) (.iface T (.int k n)) w = .ok (.bool (m == n)) w := binR_eq_of rfl rfl (equal_ii h h2 hc)
theorem neq_ii (h : TI P t (.interface ms) sz by_ z) (h2 : TI P T (.int k) a1 b1 z1) (hc : (P.info? T).map (·.comparable) = some true) : binR P .neq t x y (.iface T (.int k m)) (.iface T (.int k n)) w = .ok (.bool (!(m == n))) w := binR_ne_of rfl rfl (equal_ii h h2 hc)

theorem equal_pp (h : TI P t (.pointer E) sz by_ z) : (Op.equal t (.pointer none) (.pointer none)).run P w = .ok true w := by
  show (Op.equalIn (9999 + 1) t _ _).run P w = _
  unfold Op.equalIn
  simp only [Sem.run_bind, h.underlying, Result.andThen_ok]; rfl
theorem equal_pa (h : TI P t (.pointer E) sz by_ z) : (Op.equal t (.pointer (some a)) (.pointer none)).run P w = .ok false w := by
  show (Op.equalIn (9999 + 1) t _ _).run P w = _
  unfold Op.equalIn
  simp only [Sem.run_bind, h.underlying, Result.andThen_ok]; rfl
theorem eql_pp (h : TI P t (.pointer E) sz by_ z) : binR P .eql t x y (.pointer none) (.pointer none) w = .ok (.bool true) w := binR_eq_of rfl rfl (equal_pp h)
theorem neq_pp (h : TI P t (.pointer E) sz by_ z) : binR P .neq t x y (.pointer none) (.pointer none) w = .ok (.bool false) w := binR_ne_of rfl rfl (equal_pp h)
theorem eql_pa (h : TI P t (.pointer E) sz by_ z) : binR P .eql t x y (.pointer (some a)) (.pointer none) w = .ok (.bool false) w := binR_eq_of rfl rfl (equal_pa h)
theorem neq_pa (h : TI P t (.pointer E) sz by_ z) : binR P .neq t x y (.pointer (some a)) (.pointer none) w = .ok (.bool true) w := binR_ne_of rfl rfl (equal_pa h)

theorem equal_ss (h : TI P t (.slice E) sz by_ z) : (Op.equal t (.slice none l c) (.slice none l2 c2)).run P w = .ok true w := by
  show (Op.equalIn (9999 + 1) t _ _).run P w = _
  unfold Op.equalIn
  simp only [Sem.run_bind, h.underlying, Result.andThen_ok]; rfl
theorem equal_sa (h : TI P t (.slice E) sz by_ z) : (Op.equal t (.slice (some a) l c) (.slice none l2 c2)).run P w = .ok false w := by
  show (Op.equalIn (9999 + 1) t _ _).run P w = _
  unfold Op.equalIn
  simp only [Sem.run_bind, h.underlying, Result.andThen_ok]; rfl
theorem eql_ss (h : TI P t (.slice E) sz by_ z) : binR P .eql t x y (.slice none l c) (.slice none l2 c2) w = .ok (.bool true) w := binR_eq_of rfl rfl (equal_ss h)
theorem neq_ss (h : TI P t (.slice E) sz by_ z) : binR P .neq t x y (.slice none l c) (.slice none l2 c2) w = .ok (.bool false) w := binR_ne_of rfl rfl (equal_ss h)
theorem eql_sa (h : TI P t (.slice E) sz by_ z) : binR P .eql t x y (.slice (some a) l c) (.slice none l2 c2) w = .ok (.bool false) w := binR_eq_of rfl rfl (equal_sa h)
theorem neq_sa (h : TI P t (.slice E) sz by_ z) : binR P .neq t x y (.slice (some a) l c) (.slice none l2 c2) w = .ok (.bool true) w := binR_ne_of rfl rfl (equal_sa h)
end

def mnR (a b : Value) (P : Program) (w : World) : Result Value := (Builtin.min_ #[] 0 #[a, b]).run P w
def mxR (a b : Value) (P : Program) (w : World) : Result Value := (Builtin.max_ #[] 0 #[a, b]).run P w
theorem rG_min {P : Program} {t t2 ty : TypeId} {e : Env} {w : World} {x y : Operand} : rG P (.call { callee := .builtin .min, args := #[x, y], argTypes := #[t, t2] }) ty e w = vR (mnR (ev e x) (ev e y) P w) := by
  show (do let d ← resolve (ev e) { callee := .builtin .min, args := #[x, y], argTypes := #[t, t2] } ty; invoke d.target d.args : Sem Next).run P w = _
  simp only [Sem.run_bind, resolve, pure, Sem.run, Result.andThen_ok, invoke, builtin]
  simp only [List.map_toArray, List.map_cons, List.map_nil]
  rfl
theorem rG_max {P : Program} {t t2 ty : TypeId} {e : Env} {w : World} {x y : Operand} : rG P (.call { callee := .builtin .max, args := #[x, y], argTypes := #[t, t2] }) ty e w = vR (mxR (ev e x) (ev e y) P w) := by
  show (do let d ← resolve (ev e) { callee := .builtin .max, args := #[x, y], argTypes := #[t, t2] } ty; invoke d.target d.args : Sem Next).run P w = _
  simp only [Sem.run_bind, resolve, pure, Sem.run, Result.andThen_ok, invoke, builtin]
  simp only [List.map_toArray, List.map_cons, List.map_nil]
  rfl
theorem mnR_int {P : Program} {w : World} {k : IntKind} {m n : Int} : mnR (.int k m) (.int k n) P w = .ok (.int k (if n < m then n else m)) w := rfl
theorem mxR_int {P : Program} {w : World} {k : IntKind} {m n : Int} : mxR (.int k m) (.int k n) P w = .ok (.int k (if m < n then n else m)) w := rfl
end Go.Bx

/- The walk by itself: code in right-nested form, frames of slots, and steps that find what they need. No program is in sight. -/
namespace Go.Bx
open Go
set_option linter.unusedSimpArgs false
set_option linter.unusedVariables false

structure Box (A : Prop) : Prop where out : A

/-! ### Code, right-nested -/
def cs (bs : Bigs) : Code → GCode → GCode
  | .skip, k => k
  | .region _ ops false, k => .seq (.reg (ops.toList.map (gop ops))) k
  | .region id ops true, k => .seq (drawOf2 bs id ops (bs.lookup (id + 2000))) k
  | .seq a b, k => cs bs a (cs bs b k)
  | .cond c a b, k => .seq (.cond c (cs bs a .skip) (cs bs b .skip)) k
  | .block id c, k => .seq (.block id (cs bs c .skip)) k
  | .loop c, k => .seq (.loop (cs bs c .skip)) k
  | .exit id, _ => .exit id
  | .ret, _ => .ret
  | _, _ => .bad

section
variable {P : Program}
theorem then_then {K K' : Env → World → Prop} {Q : Exit → Env → World → Prop} : thenX K (thenX K' Q) = thenX K Q := by
  funext ex e w; cases ex <;> rfl
theorem then_self {Q : Exit → Env → World → Prop} : thenX (Q .normal) Q = Q := by
  funext ex e w; cases ex <;> rfl
theorem X_cs {bs : Bigs} : ∀ (c : Code) {k : GCode} {Q : Exit → Env → World → Prop} {e : Env} {w : World}, X P (cs bs c k) Q e w → X P (comp bs c) (thenX (X P k Q) Q) e w
  | .skip, _, _, _, _, h => h
  | .region _ _ false, _, _, _, _, h => h
  | .region _ _ true, _, _, _, _, h => h
  | .seq a b, k, Q, e, w, h => by
    have h1 := X_cs a h
    show X P (comp bs a) (thenX (X P (comp bs b) (thenX (X P k Q) Q)) (thenX (X P k Q) Q)) e w
    rw [then_then]
    exact X_mono _ (thenX_mono (fun e w h => X_cs b h) fun _ _ _ h => h) h1
  | .cond c a b, k, Q, e, w, h => by
    obtain ⟨t, ht, h⟩ := h
    refine ⟨t, ht, ?_⟩
    cases t
    · have := X_cs b h; rwa [show X P GCode.skip (thenX (X P k Q) Q) = thenX (X P k Q) Q .normal from rfl, then_self] at this
    · have := X_cs a h; rwa [show X P GCode.skip (thenX (X P k Q) Q) = thenX (X P k Q) Q .normal from rfl, then_self] at this
  | .block id c, k, Q, e, w, h => by
    have h' : X P (cs bs c .skip) (inX id (thenX (X P k Q) Q)) e w := h
    have := X_cs c h'
    rwa [show X P GCode.skip (inX id (thenX (X P k Q) Q)) = inX id (thenX (X P k Q) Q) .normal from rfl, then_self] at this
  | .loop c, k, Q, e, w, h => by
    obtain ⟨I, m, h1, h2⟩ := h
    refine ⟨I, m, h1, fun e w hI => ?_⟩
    have := X_cs c (h2 e w hI)
    rwa [show X P GCode.skip (thenX (fun e' w' => I e' w' ∧ m e' w' < m e w) (thenX (X P k Q) Q)) = thenX (fun e' w' => I e' w' ∧ m e' w' < m e w) (thenX (X P k Q) Q) .normal from rfl, then_self] at this
  | .exit _, _, _, _, _, h => h
  | .ret, _, _, _, _, h => h
  | .rangeFunc .., _, _, _, _, h => h.elim
  | .scope .., _, _, _, _, h => h.elim
  | .label .., _, _, _, _, h => h.elim
  | .goto .., _, _, _, _, h => h.elim
  | .refuse .., _, _, _, _, h => h.elim
theorem X_comp {bs : Bigs} {c : Code} {Q : Exit → Env → World → Prop} {e : Env} {w : World} (h : X P (cs bs c .skip) Q e w) : X P (comp bs c) Q e w := by
  have := X_cs c h
  rwa [show X P GCode.skip Q = Q .normal from rfl, then_self] at this
end

/-! ### Slots that a code does not write -/
def dG : GCode → List Nat
  | .reg l => l.filterMap (·.dst)
  | .draw l => l.filterMap (·.1.dst)
  | .wide l => l.filterMap (·.1.dst)
  | .rel l => l.filterMap (·.1.dst)
  | .seq a b => dG a ++ dG b
  | .cond _ a b => dG a ++ dG b
  | .block _ c => dG c
  | .loop c => dG c
  | _ => []
def Off (D : List Nat) (e e' : Env) : Prop := ∀ i, D.contains i = false → e' i = e i
section
variable {P : Program} {D : List Nat}
theorem Off.refl (e : Env) : Off D e e := fun _ _ => rfl
theorem Off.trans {a b c : Env} (h : Off D a b) (k : Off D b c) : Off D a c := fun i hi => (k i hi).trans (h i hi)
theorem Off.put {e : Env} {d : Option Tmp} {v : Value} (h : ∀ x, d = some x → x ∈ D) : Off D e (e.put d v) := by
  intro i hi
  cases d with
  | none => rfl
  | some x =>
    have hx := h x rfl
    show (if i = x then v else e i) = e i
    rw [if_neg]
    rintro rfl
    rw [List.contains_iff_mem.2 hx] at hi; cases hi
theorem XO_frame {K : Env → World → Prop} : ∀ (l : List GOp) (e0 e : Env) (w : World), (∀ x ∈ l.filterMap (·.dst), x ∈ D) → Off D e0 e → XO P l K e w → XO P l (fun e' w' => K e' w' ∧ Off D e0 e') e w
  | [], _, _, _, _, ho, h => ⟨h, ho⟩
  | o :: r, e0, e, w, hd, ho, h => by
    have h1 : ∀ x, o.dst = some x → x ∈ D := fun x hx => hd x (by simp [hx])
    have h2 : ∀ x ∈ r.filterMap (·.dst), x ∈ D := fun x hx => hd x (by rw [List.filterMap_cons]; cases o.dst <;> simp [hx])
    exact h.imp (fun ⟨a, b⟩ => ⟨a, XV_mono (fun v w' k => XO_frame r e0 _ _ h2 (ho.trans (Off.put h1)) k) b⟩) (fun ⟨a, b⟩ => ⟨a, XO_frame r e0 _ _ h2 (ho.trans (Off.put h1)) b⟩)
theorem XE_frame {K : Env → World → Prop} : ∀ (l : List (GOp × Nat)) (C : World → Prop) (e0 e : Env), (∀ x ∈ l.filterMap (·.1.dst), x ∈ D) → Off D e0 e → XE P K l C e → XE P (fun e' w' => K e' w' ∧ Off D e0 e') l C e
  | [], _, _, _, _, ho, h => fun w hw => ⟨h w hw, ho⟩
  | (o, n) :: r, C, e0, e, hd, ho, h => by
    have h1 : ∀ x, o.dst = some x → x ∈ D := fun x hx => hd x (by simp [hx])
    have h2 : ∀ x ∈ r.filterMap (·.1.dst), x ∈ D := fun x hx => hd x (by rw [List.filterMap_cons]; cases o.dst <;> simp [hx])
    have k : ∀ C v, XE P K r C (e.put o.dst v) → XE P (fun e' w' => K e' w' ∧ Off D e0 e') r C (e.put o.dst v) := fun C v hh => XE_frame r C e0 _ h2 (ho.trans (Off.put h1)) hh
    match n with
    | 0 => exact h.imp (fun ⟨a, v, b, c⟩ => ⟨a, v, b, k _ _ c⟩) (fun ⟨a, c⟩ => ⟨a, k _ _ c⟩)
    | 1 => exact h.imp (fun ⟨a, v, b, c⟩ => ⟨a, v, b, k _ _ c⟩) (fun ⟨a, c⟩ => ⟨a, k _ _ c⟩)
    | _ + 2 => exact h.imp (fun ⟨a, b⟩ => ⟨a, fun w hw => XV_mono (fun _ _ ⟨C', hC', c⟩ => ⟨C', hC', k _ _ c⟩) (b w hw)⟩) (fun ⟨a, c⟩ => ⟨a, k _ _ c⟩)
theorem XF_frame {K : Env → World → Prop} : ∀ (l : List (GOp × Nat)) (C E : World → Prop) (e0 e : Env), (∀ x ∈ l.filterMap (·.1.dst), x ∈ D) → Off D e0 e → XF P K l C E e → XF P (fun e' w' => K e' w' ∧ Off D e0 e') l C E e
  | [], _, _, _, _, _, ho, h => fun w hw => ⟨h w hw, ho⟩
  | (o, n) :: r, C, E, e0, e, hd, ho, h => by
    have h1 : ∀ x, o.dst = some x → x ∈ D := fun x hx => hd x (by simp [hx])
    have h2 : ∀ x ∈ r.filterMap (·.1.dst), x ∈ D := fun x hx => hd x (by rw [List.filterMap_cons]; cases o.dst <;> simp [hx])
    have k : ∀ C E v, XF P K r C E (e.put o.dst v) → XF P (fun e' w' => K e' w' ∧ Off D e0 e') r C E (e.put o.dst v) := fun C E v hh => XF_frame r C E e0 _ h2 (ho.trans (Off.put h1)) hh
    match n with
    | 0 => exact h.imp (fun ⟨a, v, b, c⟩ => ⟨a, v, b, k _ _ _ c⟩) (fun ⟨a, c⟩ => ⟨a, k _ _ _ c⟩)
    | 1 => exact h.imp (fun ⟨a, v, b, c⟩ => ⟨a, v, b, k _ _ _ c⟩) (fun ⟨a, c⟩ => ⟨a, k _ _ _ c⟩)
    | 2 => exact h.imp (fun ⟨a, b⟩ => ⟨a, fun w hw => XV_mono (fun _ _ ⟨C', k1, k2, k4, c⟩ => ⟨C', k1, k2, k4, k _ _ _ c⟩) (b w hw)⟩) (fun ⟨a, c⟩ => ⟨a, k _ _ _ c⟩)
    | 3 => exact h.imp (fun ⟨a, b⟩ => ⟨a, fun w hw => XV_mono (fun _ _ ⟨C', D', k1, k2, k4, c⟩ => ⟨C', D', k1, k2, k4, k _ _ _ c⟩) (b w hw)⟩) (fun ⟨a, c⟩ => ⟨a, k _ _ _ c⟩)
    | _ + 4 => exact h.imp (fun ⟨a, v, b, c⟩ => ⟨a, v, b, k _ _ _ c⟩) (fun ⟨a, c⟩ => ⟨a, k _ _ _ c⟩)
theorem XR_frame {F : Nat → Value → World → Prop} {K : Env → World → Prop} : ∀ (l : List (GOp × Nat)) (C E : World → Prop) (e0 e : Env), (∀ x ∈ l.filterMap (·.1.dst), x ∈ D) → Off D e0 e → XR P F K l C E e → XR P F (fun e' w' => K e' w' ∧ Off D e0 e') l C E e
  | [], _, _, _, _, _, ho, h => fun w hw => ⟨h w hw, ho⟩
  | (o, n) :: r, C, E, e0, e, hd, ho, h => by
    have h1 : ∀ x, o.dst = some x → x ∈ D := fun x hx => hd x (by simp [hx])
    have h2 : ∀ x ∈ r.filterMap (·.1.dst), x ∈ D := fun x hx => hd x (by rw [List.filterMap_cons]; cases o.dst <;> simp [hx])
    have k : ∀ C E v, XR P F K r C E (e.put o.dst v) → XR P F (fun e' w' => K e' w' ∧ Off D e0 e') r C E (e.put o.dst v) := fun C E v hh => XR_frame r C E e0 _ h2 (ho.trans (Off.put h1)) hh
    match n with
    | 0 => exact h.imp (fun ⟨a, v, b, c⟩ => ⟨a, v, b, k _ _ _ c⟩) (fun ⟨a, c⟩ => ⟨a, k _ _ _ c⟩)
    | 1 => exact h.imp (fun ⟨a, v, b, c⟩ => ⟨a, v, b, k _ _ _ c⟩) (fun ⟨a, c⟩ => ⟨a, k _ _ _ c⟩)
    | 2 => exact h.imp (fun ⟨a, b⟩ => ⟨a, fun w hw => XV_mono (fun _ _ ⟨C', k1, k2, k4, k5, c⟩ => ⟨C', k1, k2, k4, k5, k _ _ _ c⟩) (b w hw)⟩) (fun ⟨a, c⟩ => ⟨a, k _ _ _ c⟩)
    | 3 => exact h.imp (fun ⟨a, b⟩ => ⟨a, fun w hw => XV_mono (fun _ _ ⟨C', D', k1, k2, k4, c⟩ => ⟨C', D', k1, k2, k4, k _ _ _ c⟩) (b w hw)⟩) (fun ⟨a, c⟩ => ⟨a, k _ _ _ c⟩)
    | 4 => exact h.imp (fun ⟨a, v, b, c⟩ => ⟨a, v, b, k _ _ _ c⟩) (fun ⟨a, c⟩ => ⟨a, k _ _ _ c⟩)
    | _ + 5 => exact h.imp (fun ⟨a, b, c⟩ => ⟨a, b, fun v hv => k _ _ _ (c v hv)⟩) (fun ⟨a, c⟩ => ⟨a, k _ _ _ c⟩)
theorem X_frame : ∀ (c : GCode) {Q : Exit → Env → World → Prop} {e : Env} {w : World}, (∀ x ∈ dG c, x ∈ D) → X P c Q e w → X P c (fun ex e' w' => Q ex e' w' ∧ Off D e e') e w
  | .skip, _, e, _, _, h => ⟨h, Off.refl e⟩
  | .reg l, _, e, w, hd, h => XO_frame l e e w hd (Off.refl e) h
  | .draw l, _, e, _, hd, ⟨C, h2, h3⟩ => ⟨C, h2, XE_frame l C e e hd (Off.refl e) h3⟩
  | .wide l, _, e, _, hd, ⟨C, E, h2, h3, h4, h5⟩ => ⟨C, E, h2, h3, h4, XF_frame l C E e e hd (Off.refl e) h5⟩
  | .rel l, _, e, _, hd, ⟨F, C, E, h1, h2, h3, h4, h5⟩ => ⟨F, C, E, h1, h2, h3, h4, XR_frame l C E e e hd (Off.refl e) h5⟩
  | .seq a b, Q, e, w, hd, h => by
    have h1 := X_frame a (fun x hx => hd x (by simp [dG, hx])) h
    refine X_mono a (fun ex e' w' hq => ?_) h1
    cases ex with
    | normal => exact X_mono b (fun ex e2 w2 ⟨h3, h4⟩ => ⟨h3, hq.2.trans h4⟩) (X_frame b (fun x hx => hd x (by simp [dG, hx])) hq.1)
    | _ => exact hq
  | .cond c a b, Q, e, w, hd, ⟨t, ht, h⟩ => by
    refine ⟨t, ht, ?_⟩
    cases t
    · exact X_frame b (fun x hx => hd x (by simp [dG, hx])) h
    · exact X_frame a (fun x hx => hd x (by simp [dG, hx])) h
  | .block id c, Q, e, w, hd, h => by
    refine X_mono c (fun ex e' w' hq => ?_) (X_frame c hd h)
    cases ex with
    | exit i =>
      simp only [inX] at hq ⊢
      split
      · rename_i hi; rw [if_pos hi] at hq; exact hq
      · rename_i hi; rw [if_neg hi] at hq; exact hq
    | _ => exact hq
  | .loop c, Q, e, w, hd, ⟨I, m, h1, h2⟩ => by
    refine ⟨fun e' w' => I e' w' ∧ Off D e e', m, ⟨h1, Off.refl e⟩, fun e' w' ⟨hI, ho⟩ => ?_⟩
    refine X_mono c (fun ex e2 w2 hq => ?_) (X_frame c hd (h2 e' w' hI))
    cases ex with
    | normal => exact ⟨⟨hq.1.1, ho.trans hq.2⟩, hq.1.2⟩
    | _ => exact ⟨hq.1, ho.trans hq.2⟩
  | .exit _, _, e, _, _, h => ⟨h, Off.refl e⟩
  | .ret, _, e, _, _, h => ⟨h, Off.refl e⟩
  | .bad, _, _, _, _, h => h.elim
theorem mem_of_dG {c : GCode} (hD : dG c = D) : ∀ x ∈ dG c, x ∈ D := fun _ h => hD ▸ h
end

/-! ### Rules -/
section
variable {P : Program} {Q : Exit → Env → World → Prop} {K : Env → World → Prop} {e : Env} {w : World} {a b c k : GCode} {x : Operand} {l : List GOp} {ld : List (GOp × Nat)} {i j : Nat} {D : List Nat}
theorem s_reg (h : XO P l (X P k Q) e w) : X P (.seq (.reg l) k) Q e w := h
theorem s_draw (h : XD P ld (X P k Q) e w) : X P (.seq (.draw ld) k) Q e w := h
theorem s_rel (h : XY P ld (X P k Q) e w) : X P (.seq (.rel ld) k) Q e w := h
theorem s_wide (h : XW P ld (X P k Q) e w) : X P (.seq (.wide ld) k) Q e w := h
theorem s_assoc (h : X P (.seq a (.seq b k)) Q e w) : X P (.seq (.seq a b) k) Q e w := by
  show X P a (thenX (X P b (thenX (X P k Q) Q)) (thenX (X P k Q) Q)) e w
  rw [then_then]; exact h
theorem s_skip (h : X P k Q e w) : X P (.seq .skip k) Q e w := h
theorem s_exit (h : Q (.exit i) e w) : X P (.seq (.exit i) k) Q e w := h
theorem s_ret (h : Q .ret e w) : X P (.seq .ret k) Q e w := h
theorem e_skip (h : Q .normal e w) : X P .skip Q e w := h
theorem e_exit (h : Q (.exit i) e w) : X P (.exit i) Q e w := h
theorem e_ret (h : Q .ret e w) : X P .ret Q e w := h
theorem s_block (h : X P c (inX i (thenX (X P k Q) Q)) e w) : X P (.seq (.block i c) k) Q e w := h
theorem s_t (hc : ev e x = .bool true) (h : X P (.seq a k) Q e w) : X P (.seq (.cond x a b) k) Q e w := ⟨true, hc, h⟩
theorem s_f (hc : ev e x = .bool false) (h : X P (.seq b k) Q e w) : X P (.seq (.cond x a b) k) Q e w := ⟨false, hc, h⟩
theorem q_n (h : K e w) : thenX K Q .normal e w := h
theorem q_r (h : Q .ret e w) : thenX K Q .ret e w := h
theorem q_e (h : Q (.exit i) e w) : thenX K Q (.exit i) e w := h
theorem q_in (h : Q .normal e w) : inX i Q .normal e w := h
theorem q_ir (h : Q .ret e w) : inX i Q .ret e w := h
theorem q_is (h : Q .normal e w) : inX i Q (.exit i) e w := by rw [inX_exit, if_pos rfl]; exact h
theorem q_id (hn : (j == i) = false) (h : Q (.exit j) e w) : inX i Q (.exit j) e w := by rw [inX_exit, if_neg (by simpa using hn)]; exact h

/-- A loop: what is so each time round, how much is left; slots that the loop does not write are as they were. -/
theorem loopF (I : Env → World → Prop) (m : Env → World → Nat) (h0 : I e w)
    (h : ∀ e' w', (∀ i, D.contains i = false → e' i = e i) → I e' w' → X P c (thenX (fun e2 w2 => I e2 w2 ∧ m e2 w2 < m e' w') Q) e' w') (hD : dG c = D) : X P (.loop c) Q e w := by
  refine ⟨fun e' w' => I e' w' ∧ Off D e e', m, ⟨h0, Off.refl e⟩, fun e' w' ⟨hI, ho⟩ => ?_⟩
  refine X_mono c (fun ex e2 w2 hq => ?_) (X_frame c (mem_of_dG hD) (h e' w' ho hI))
  cases ex with
  | normal => exact ⟨⟨hq.1.1, ho.trans hq.2⟩, hq.1.2⟩
  | _ => exact hq.1
theorem cutF (M : Env → World → Prop) (h : X P a (thenX M Q) e w) (h2 : ∀ e' w', (∀ i, D.contains i = false → e' i = e i) → M e' w' → X P k Q e' w') (hD : dG a = D) : X P (.seq a k) Q e w := by
  refine X_mono a (fun ex e' w' hq => ?_) (X_frame a (mem_of_dG hD) h)
  cases ex with
  | normal => exact h2 e' w' hq.2 hq.1
  | _ => exact hq.1
end

/-- A loop, unrolled: it ends within n rounds. -/
def Un (P : Program) (c : GCode) (Q : Exit → Env → World → Prop) : Nat → Env → World → Prop
  | 0 => fun _ _ => False
  | n + 1 => fun e w => X P c (thenX (Un P c Q n) Q) e w
theorem un_s {P : Program} {c : GCode} {Q : Exit → Env → World → Prop} {n : Nat} {e : Env} {w : World} (h : X P c (thenX (Un P c Q n) Q) e w) : Un P c Q (n + 1) e w := h
theorem least' {p : Nat → Prop} : ∀ (n : Nat), p n → ∃ m, p m ∧ ∀ j, p j → m ≤ j := by
  intro n
  induction n using Nat.strongRecOn with
  | _ n ih =>
    intro h
    by_cases hex : ∃ j, j < n ∧ p j
    · obtain ⟨j, hj, hp⟩ := hex
      exact ih j hj hp
    · exact ⟨n, h, fun j hj => Nat.le_of_not_lt fun hlt => hex ⟨j, hlt, hj⟩⟩
open Classical in
theorem un_loop {P : Program} {c : GCode} {Q : Exit → Env → World → Prop} (n : Nat) {e : Env} {w : World} (h : Un P c Q n e w) : X P (.loop c) Q e w := by
  have ex : ∀ e w, (∃ k, Un P c Q k e w) → ∃ m, Un P c Q m e w ∧ ∀ j, Un P c Q j e w → m ≤ j := fun e w ⟨k, hk⟩ => least' (p := fun k => Un P c Q k e w) k hk
  refine ⟨fun e w => ∃ k, Un P c Q k e w, fun e w => if h : ∃ k, Un P c Q k e w then (ex e w h).choose else 0, ⟨n, h⟩, fun e w hk => ?_⟩
  have hm := (ex e w hk).choose_spec
  simp only [dif_pos hk]
  generalize (ex e w hk).choose = m at hm ⊢
  obtain ⟨h1, h2⟩ := hm
  cases m with
  | zero => exact h1.elim
  | succ m =>
    refine X_mono c (fun x e' w' hq => ?_) h1
    cases x with
    | normal =>
      have hk' : ∃ k, Un P c Q k e' w' := ⟨m, hq⟩
      refine ⟨hk', ?_⟩
      simp only [dif_pos hk']
      have := (ex e' w' hk').choose_spec.2 m hq
      omega
    | _ => exact hq

section
variable {P : Program} {fs : Array ResultVar} {R : Value → World → Prop} {e : Env} {w : World} {t u s r : Nat} {v v2 v3 v4 : Value} {ex : Exit}
def isEnd : Exit → Bool
  | .normal => true
  | .ret => true
  | _ => false
theorem ret_of (hx : isEnd ex = true) (hv : (resM fs e).run P w = .ok v w) (h : R v w) : retX P fs R ex e w := by
  cases ex <;> first | exact ⟨v, hv, h⟩ | cases hx
theorem r0 (hx : isEnd ex = true) (h : R (.tuple #[]) w) : retX P #[] R ex e w := ret_of hx resM_0 h
theorem r1 (hx : isEnd ex = true) (h1 : e t = v) (h : R v w) : retX P #[.tmp t] R ex e w := ret_of hx (h1 ▸ resM_1) h
theorem r2 (hx : isEnd ex = true) (h1 : e t = v) (h2 : e u = v2) (h : R (.tuple #[v, v2]) w) : retX P #[.tmp t, .tmp u] R ex e w := ret_of hx (h1 ▸ h2 ▸ resM_2) h
theorem r3 (hx : isEnd ex = true) (h1 : e t = v) (h2 : e u = v2) (h3 : e s = v3) (h : R (.tuple #[v, v2, v3]) w) : retX P #[.tmp t, .tmp u, .tmp s] R ex e w := ret_of hx (h1 ▸ h2 ▸ h3 ▸ resM_3) h
theorem r4 (hx : isEnd ex = true) (h1 : e t = v) (h2 : e u = v2) (h3 : e s = v3) (h4 : e r = v4) (h : R (.tuple #[v, v2, v3, v4]) w) : retX P #[.tmp t, .tmp u, .tmp s, .tmp r] R ex e w := ret_of hx (h1 ▸ h2 ▸ h3 ▸ h4 ▸ resM_4) h
end

/-! ### A row in its order, over a class of worlds -/
def kd (l : List GOp) : List (GOp × Nat) := l.map fun o => (o, kindOf o.op)
theorem XO_of_XE {P : Program} {K : Env → World → Prop} : ∀ (l : List GOp) (C : World → Prop) (e : Env) (w : World), C w → XE P K (kd l) C e → XO P l K e w
  | [], C, e, w, hw, h => h w hw
  | o :: r, C, e, w, hw, h => by
    have ih : ∀ (C' : World → Prop) (e' : Env) (w' : World), C' w' → XE P K (kd r) C' e' → XO P r K e' w' := XO_of_XE r
    show (wantG e o.guard ∧ _) ∨ (badG e o.guard ∧ _)
    have h' : XE P K ((o, kindOf o.op) :: kd r) C e := h
    rcases hk : kindOf o.op with _ | _ | n
    · rw [hk] at h'
      rcases h' with ⟨hg, v, hv, hr⟩ | ⟨hb, hr⟩
      · refine .inl ⟨hg, ?_⟩
        unfold XV
        rw [hv w]
        exact ih _ _ _ hw hr
      · exact .inr ⟨hb, ih _ _ _ hw hr⟩
    · rw [hk] at h'
      rcases h' with ⟨hg, v, hv, hr⟩ | ⟨hb, hr⟩
      · refine .inl ⟨hg, ?_⟩
        have hq := hv w hw
        unfold QV at hq
        unfold XV
        generalize (execG (ev e) o.op o.ty).run P w = x at hq ⊢
        cases x with
        | ok n w' =>
          cases n <;> simp only [] at hq ⊢
          case value u => obtain ⟨rfl, rfl⟩ := hq; exact ih _ _ _ hw hr
          case enter f args => obtain ⟨rfl, hc⟩ := hq; exact hc.mono fun en w'' ⟨he, hC⟩ => ⟨v, he, ih _ _ _ hC hr⟩
        | halt y w' => exact hq
      · exact .inr ⟨hb, ih _ _ _ hw hr⟩
    · rw [hk] at h'
      rcases h' with ⟨hg, hv⟩ | ⟨hb, hr⟩
      · exact .inl ⟨hg, XV_mono (fun v w' ⟨C', hC', hr⟩ => ih _ _ _ hC' hr) (hv w hw)⟩
      · exact .inr ⟨hb, ih _ _ _ hw hr⟩
theorem s_regE {P : Program} {Q : Exit → Env → World → Prop} {e : Env} {w : World} {k : GCode} {l : List GOp} {l' : List (GOp × Nat)} (hl : kd l = l') (h : XE P (X P k Q) l' (Ext w) e) : X P (.seq (.reg l) k) Q e w := XO_of_XE l _ e w (Ext.refl w) (hl ▸ h)
theorem xo_E {P : Program} {K : Env → World → Prop} {e : Env} {w : World} {l : List GOp} {l' : List (GOp × Nat)} (hl : kd l = l') (h : XE P K l' (Ext w) e) : XO P l K e w := XO_of_XE l _ e w (Ext.refl w) (hl ▸ h)

/-! ### Worlds by their heaps -/
section
variable {P : Program} {w w' w1 : World} {b c i : Nat} {o : Obj} {F : Nat → Prop}
theorem upd_dr : upd (dr w i) b o = dr (upd w b o) i := rfl
theorem alloc_dr : (dr w i).alloc o = dr (w.alloc o) i := rfl
theorem dr_dr : dr (dr w i) b = dr w b := rfl
/-- A world's block (so that simp sees no mere exchange of names). -/
def hp (w : World) (b : Nat) : Option Obj := w.heap[b]?
theorem hp_eq : hp w b = w.heap[b]? := rfl
theorem Ext.rd (h : Ext w w') (hb : b < w.heap.size) : w'.heap[b]? = hp w b := h.heap b hb
theorem Chg.rd (h : Chg F w w') (hb : b < w.heap.size) (hF : ¬ F b) : w'.heap[b]? = hp w b := h.heap b hb hF
end

/-! ### Rows that draw, over worlds that are alike but for the draws -/
section
variable {P : Program} {K : Env → World → Prop} {d : Option Tmp} {op : Op} {ty : TypeId} {e : Env} {w w1 : World} {l : List (GOp × Nat)} {v : Value} {t : Tmp} {b : Bool}
theorem xd2v (h : ∀ i, rG P op ty e (dr w i) = .ok (.value v) (dr w1 i)) (hk : XE P K l (DR w1) (e.put d v)) : XE P K ((⟨d, op, ty, none⟩, 2) :: l) (DR w) e := by
  rw [XE_cons2]
  rintro w' ⟨i, rfl⟩
  rw [h i]
  exact ⟨DR w1, ⟨i, rfl⟩, hk⟩
theorem xd2s (h : ∀ i, rG P op ty e (dr w i) = .ok .skip (dr w1 i)) (hk : XE P K l (DR w1) (e.put d undef)) : XE P K ((⟨d, op, ty, none⟩, 2) :: l) (DR w) e := by
  rw [XE_cons2]
  rintro w' ⟨i, rfl⟩
  rw [h i]
  exact ⟨DR w1, ⟨i, rfl⟩, hk⟩
theorem xd_nil (h : ∀ d, K e (dr w d)) : XE P K [] (DR w) e := by rintro w' ⟨d, rfl⟩; exact h d
theorem xe2_t {C : World → Prop} (hg : e t = .bool b) (h : XE P K ((⟨d, op, ty, none⟩, 2) :: l) C e) : XE P K ((⟨d, op, ty, some (t, b)⟩, 2) :: l) C e := by
  simp only [XE, wantG] at h ⊢
  rcases h with ⟨_, h⟩ | ⟨⟨t', b', hh, _⟩, _⟩
  · exact .inl ⟨hg, h⟩
  · cases hh
theorem xe2_f {C : World → Prop} (hg : e t = .bool (!b)) (h : XE P K l C (e.put d undef)) : XE P K ((⟨d, op, ty, some (t, b)⟩, 2) :: l) C e :=
  .inr ⟨⟨t, b, rfl, by rw [hg]; cases b <;> simp⟩, h⟩
theorem xe2_u {C : World → Prop} (hg : e t = undef) (h : XE P K l C (e.put d undef)) : XE P K ((⟨d, op, ty, some (t, b)⟩, 2) :: l) C e :=
  .inr ⟨⟨t, b, rfl, by rw [hg]; simp [undef]⟩, h⟩
end
end Go.Bx

/- The walk by itself, its tactics: each stands as the default of a lemma's argument. No program is in sight. -/
namespace Go.Bx
open Go
set_option linter.unusedSimpArgs false
set_option linter.unusedVariables false

def msR (P : Program) (t : TypeId) (a b : Value) (w : World) : Result Value := (Instr.makeSlice t a b).run P w
theorem rG_makeSlice {P : Program} {t ty : TypeId} {e : Env} {w : World} {x y : Operand} : rG P (.makeSlice t x y) ty e w = vR (msR P t (ev e x) (ev e y) w) := run_v _

attribute [push_cast] Bool.not_true Bool.not_false vR_ok uR_ok ev_tmp ev_const ev_func Env.put_some Env.put_none Env.set_app rG_move rG_assign opt1_some ext_all dec_t dec_f beq_t beq_f bne_t bne_f wrap_i64 wrap_u64 wrap_u8
attribute [push_cast] Int.toNat_natCast Nat.mul_one Nat.zero_add Nat.add_zero List.map_toArray List.map_cons List.map_nil rG_pick2 pk2_bool Bool.false_eq_true rG_nilCheck nilR_ptr rG_extract exR_opt List.getElem?_toArray List.getElem?_cons_zero List.getElem?_cons_succ
attribute [push_cast] rG_load ld1_some rd1_cells ldN_some rdN_cells rG_store stN_1 stN_2 stN_3 stN_4 stN_5 stN_6 stN_7 stN_8 vcs_int vcs_bool vcs_ptr vcs_slice vcs_map vcs_nil vcs_iface vcs_aggL List.length_cons List.length_nil
attribute [push_cast] rG_box rG_fieldAddr rG_field rG_indexAddr rG_index rG_slice Option.map_some Option.map_none rG_binOp binR_add binR_sub binR_mul binR_and binR_or binR_xor binR_andNot binR_eql binR_neq binR_lss binR_leq binR_gtr binR_geq binR_shl binR_shr binR_quo binR_rem
attribute [push_cast] rG_unOp unR_not unR_neg unR_xor rG_convert rG_len rG_append rG_delete rG_min mnR_int rG_max mxR_int rG_makeSlice rG_lookup rG_mapUpdate rG_makeMap rG_range rG_next rG_entry rG_build rG_buildSlice
attribute [push_cast] dr_heap upd_dr alloc_dr dr_dr alloc_size upd_size nat_int List.setIfInBounds_toArray List.set_cons_zero List.set_cons_succ beq_self_eq_true decide_true decide_false
section
variable {k : IntKind} {n : Int} {b : Bool} {a : Option Addr} {l c : Nat} {cs : Array Value} {r : Option Nat} {t : TypeId} {v : Value}
theorem vc_int : (Value.int k n).cells = #[.int k n] := rfl
theorem vc_bool : (Value.bool b).cells = #[.bool b] := rfl
theorem vc_ptr : (Value.pointer a).cells = #[.pointer a] := rfl
theorem vc_slice : (Value.slice a l c).cells = #[.slice a l c] := rfl
theorem vc_map : (Value.map r).cells = #[.map r] := rfl
theorem vc_nil : Value.nilIface.cells = #[.nilIface] := rfl
theorem vc_iface : (Value.iface t v).cells = #[.iface t v] := rfl
theorem vc_agg : (Value.agg cs).cells = cs := rfl
attribute [push_cast] vc_int vc_bool vc_ptr vc_slice vc_map vc_nil vc_iface vc_agg
end
theorem upd_eq {w : World} {b : Nat} {o : Obj} (h : b < w.heap.size) : (upd w b o).heap[b]? = some o := upd_same h
theorem alloc_at {w : World} {b : Nat} {o : Obj} (h : b = w.heap.size) : (w.alloc o).heap[b]? = some o := by rw [h]; exact alloc_new
theorem upd_allocS {w : World} {b : Nat} {o z : Obj} (h : b = w.heap.size) : upd (w.alloc z) b o = w.alloc o := by rw [h]; exact upd_alloc
theorem upd_allocN {w : World} {b : Nat} {o z : Obj} (h : b < w.heap.size) : upd (w.alloc z) b o = (upd w b o).alloc z := by
  unfold upd World.alloc
  congr 1
  apply Array.ext_getElem?
  intro i
  simp only [Array.getElem?_setIfInBounds, Array.getElem?_push, Array.size_push, Array.size_setIfInBounds]
  by_cases h1 : b = i
  · subst h1
    have : ¬ b = w.heap.size := by omega
    simp [h, this]; omega
  · simp [h1]
theorem Chg.rd1 {w w' : World} {b b0 : Nat} (h : Chg (fun x => x = b0) w w') (hb : b < w.heap.size) (hF : b ≠ b0) : w'.heap[b]? = hp w b := h.heap b hb hF
theorem Chg.rd2 {w w' : World} {b b0 b1 : Nat} (h : Chg (fun x => x = b0 ∨ x = b1) w w') (hb : b < w.heap.size) (hF : b ≠ b0) (hG : b ≠ b1) : w'.heap[b]? = hp w b := h.heap b hb fun h => h.elim hF hG
attribute [push_cast] Chg.rd1 Chg.rd2 hp_eq
attribute [push_cast] upd_eq upd_other alloc_at alloc_old Ext.rd Chg.rd upd_allocS upd_allocN upd_upd

section
variable {P : Program} {K : Env → World → Prop} {Q : Exit → Env → World → Prop} {C : World → Prop} {d : Option Tmp} {op : Op} {ty : TypeId} {e : Env} {w w1 : World} {r : List GOp} {l : List (GOp × Nat)} {x : Result Next} {t u s q : Tmp} {b : Bool} {v v2 v3 v4 : Value} {a c k : GCode} {o : Operand} {i j : Nat} {R : Value → World → Prop} {ex : Exit}

theorem xoA (hk : kN P (fun v w' => XO P r K (e.put d v) w') x)
    (h : rG P op ty e w = x := by (simp (disch := first | assumption | ((try simp only [upd_size, alloc_size, dr_heap, List.size_toArray, List.length_cons, List.length_nil, Nat.reduceAdd]) <;> omega) | (with_unfolding_all (refine Eq.trans rfl ?_; exact rfl)) | exact Nat.le_of_ble_eq_true rfl | fail) only [push_cast, *, Nat.reduceEqDiff, Nat.reduceAdd, Nat.reduceMul, Nat.reduceSub, Int.reduceToNat, Int.reduceAdd, Int.reduceSub, Int.reduceMul, Int.reduceNeg, ↓reduceIte] <;> rfl)) : XO P (⟨d, op, ty, none⟩ :: r) K e w := xo h hk
theorem xtA (h : XO P (⟨d, op, ty, none⟩ :: r) K e w)
    (hg : e t = .bool b := by (simp (disch := first | assumption | ((try simp only [upd_size, alloc_size, dr_heap, List.size_toArray, List.length_cons, List.length_nil, Nat.reduceAdd]) <;> omega) | (with_unfolding_all (refine Eq.trans rfl ?_; exact rfl)) | fail) only [push_cast, *, Nat.reduceEqDiff, ↓reduceIte] <;> fail)) : XO P (⟨d, op, ty, some (t, b)⟩ :: r) K e w := xo_t hg h
theorem xfA (h : XO P r K (e.put d undef) w)
    (hg : e t = .bool (!b) := by (simp (disch := first | assumption | ((try simp only [upd_size, alloc_size, dr_heap, List.size_toArray, List.length_cons, List.length_nil, Nat.reduceAdd]) <;> omega) | (with_unfolding_all (refine Eq.trans rfl ?_; exact rfl)) | fail) only [push_cast, *, Nat.reduceEqDiff, ↓reduceIte] <;> fail)) : XO P (⟨d, op, ty, some (t, b)⟩ :: r) K e w := xo_f hg h
theorem xuA (h : XO P r K (e.put d undef) w)
    (hg : e t = undef := by (simp (disch := first | assumption | ((try simp only [upd_size, alloc_size, dr_heap, List.size_toArray, List.length_cons, List.length_nil, Nat.reduceAdd]) <;> omega) | (with_unfolding_all (refine Eq.trans rfl ?_; exact rfl)) | fail) only [push_cast, *, Nat.reduceEqDiff, ↓reduceIte] <;> fail)) : XO P (⟨d, op, ty, some (t, b)⟩ :: r) K e w := xo_u hg h

theorem stA (h : X P (.seq a k) Q e w) (hc : ev e o = .bool true := by (simp (disch := first | assumption | ((try simp only [upd_size, alloc_size, dr_heap, List.size_toArray, List.length_cons, List.length_nil, Nat.reduceAdd]) <;> omega) | (with_unfolding_all (refine Eq.trans rfl ?_; exact rfl)) | fail) only [push_cast, *, Nat.reduceEqDiff, ↓reduceIte] <;> fail)) : X P (.seq (.cond o a c) k) Q e w := s_t hc h
theorem sfA (h : X P (.seq c k) Q e w) (hc : ev e o = .bool false := by (simp (disch := first | assumption | ((try simp only [upd_size, alloc_size, dr_heap, List.size_toArray, List.length_cons, List.length_nil, Nat.reduceAdd]) <;> omega) | (with_unfolding_all (refine Eq.trans rfl ?_; exact rfl)) | fail) only [push_cast, *, Nat.reduceEqDiff, ↓reduceIte] <;> fail)) : X P (.seq (.cond o a c) k) Q e w := s_f hc h
theorem idA (h : Q (.exit j) e w) (hn : (j == i) = false := by rfl) : inX i Q (.exit j) e w := q_id hn h
theorem eA (h : v = v2) (hv : e t = v := by (first | (simp (disch := first | assumption | ((try simp only [upd_size, alloc_size, dr_heap, List.size_toArray, List.length_cons, List.length_nil, Nat.reduceAdd]) <;> omega) | (with_unfolding_all (refine Eq.trans rfl ?_; exact rfl)) | exact Nat.le_of_ble_eq_true rfl | fail) only [push_cast, *, Nat.reduceEqDiff, Nat.reduceAdd, Nat.reduceMul, Nat.reduceSub, Int.reduceToNat, Int.reduceAdd, Int.reduceSub, Int.reduceMul, Int.reduceNeg, ↓reduceIte] <;> rfl) | rfl)) : e t = v2 := hv.trans h
theorem r1A (h : R v w) (hx : isEnd ex = true := by rfl) (h1 : e t = v := by (first | (simp (disch := first | assumption | ((try simp only [upd_size, alloc_size, dr_heap, List.size_toArray, List.length_cons, List.length_nil, Nat.reduceAdd]) <;> omega) | (with_unfolding_all (refine Eq.trans rfl ?_; exact rfl)) | exact Nat.le_of_ble_eq_true rfl | fail) only [push_cast, *, Nat.reduceEqDiff, Nat.reduceAdd, Nat.reduceMul, Nat.reduceSub, Int.reduceToNat, Int.reduceAdd, Int.reduceSub, Int.reduceMul, Int.reduceNeg, ↓reduceIte] <;> rfl) | rfl)) : retX P #[.tmp t] R ex e w := r1 hx h1 h
theorem r2A (h : R (.tuple #[v, v2]) w) (hx : isEnd ex = true := by rfl) (h1 : e t = v := by (first | (simp (disch := first | assumption | ((try simp only [upd_size, alloc_size, dr_heap, List.size_toArray, List.length_cons, List.length_nil, Nat.reduceAdd]) <;> omega) | (with_unfolding_all (refine Eq.trans rfl ?_; exact rfl)) | exact Nat.le_of_ble_eq_true rfl | fail) only [push_cast, *, Nat.reduceEqDiff, Nat.reduceAdd, Nat.reduceMul, Nat.reduceSub, Int.reduceToNat, Int.reduceAdd, Int.reduceSub, Int.reduceMul, Int.reduceNeg, ↓reduceIte] <;> rfl) | rfl))
    (h2 : e u = v2 := by (first | (simp (disch := first | assumption | ((try simp only [upd_size, alloc_size, dr_heap, List.size_toArray, List.length_cons, List.length_nil, Nat.reduceAdd]) <;> omega) | (with_unfolding_all (refine Eq.trans rfl ?_; exact rfl)) | exact Nat.le_of_ble_eq_true rfl | fail) only [push_cast, *, Nat.reduceEqDiff, Nat.reduceAdd, Nat.reduceMul, Nat.reduceSub, Int.reduceToNat, Int.reduceAdd, Int.reduceSub, Int.reduceMul, Int.reduceNeg, ↓reduceIte] <;> rfl) | rfl)) : retX P #[.tmp t, .tmp u] R ex e w := r2 hx h1 h2 h
theorem r3A (h : R (.tuple #[v, v2, v3]) w) (hx : isEnd ex = true := by rfl) (h1 : e t = v := by (first | (simp (disch := first | assumption | ((try simp only [upd_size, alloc_size, dr_heap, List.size_toArray, List.length_cons, List.length_nil, Nat.reduceAdd]) <;> omega) | (with_unfolding_all (refine Eq.trans rfl ?_; exact rfl)) | exact Nat.le_of_ble_eq_true rfl | fail) only [push_cast, *, Nat.reduceEqDiff, Nat.reduceAdd, Nat.reduceMul, Nat.reduceSub, Int.reduceToNat, Int.reduceAdd, Int.reduceSub, Int.reduceMul, Int.reduceNeg, ↓reduceIte] <;> rfl) | rfl))
    (h2 : e u = v2 := by (first | (simp (disch := first | assumption | ((try simp only [upd_size, alloc_size, dr_heap, List.size_toArray, List.length_cons, List.length_nil, Nat.reduceAdd]) <;> omega) | (with_unfolding_all (refine Eq.trans rfl ?_; exact rfl)) | exact Nat.le_of_ble_eq_true rfl | fail) only [push_cast, *, Nat.reduceEqDiff, Nat.reduceAdd, Nat.reduceMul, Nat.reduceSub, Int.reduceToNat, Int.reduceAdd, Int.reduceSub, Int.reduceMul, Int.reduceNeg, ↓reduceIte] <;> rfl) | rfl))
    (h3 : e s = v3 := by (first | (simp (disch := first | assumption | ((try simp only [upd_size, alloc_size, dr_heap, List.size_toArray, List.length_cons, List.length_nil, Nat.reduceAdd]) <;> omega) | (with_unfolding_all (refine Eq.trans rfl ?_; exact rfl)) | exact Nat.le_of_ble_eq_true rfl | fail) only [push_cast, *, Nat.reduceEqDiff, Nat.reduceAdd, Nat.reduceMul, Nat.reduceSub, Int.reduceToNat, Int.reduceAdd, Int.reduceSub, Int.reduceMul, Int.reduceNeg, ↓reduceIte] <;> rfl) | rfl)) : retX P #[.tmp t, .tmp u, .tmp s] R ex e w := r3 hx h1 h2 h3 h
theorem r4A (h : R (.tuple #[v, v2, v3, v4]) w) (hx : isEnd ex = true := by rfl) (h1 : e t = v := by (first | (simp (disch := first | assumption | ((try simp only [upd_size, alloc_size, dr_heap, List.size_toArray, List.length_cons, List.length_nil, Nat.reduceAdd]) <;> omega) | (with_unfolding_all (refine Eq.trans rfl ?_; exact rfl)) | exact Nat.le_of_ble_eq_true rfl | fail) only [push_cast, *, Nat.reduceEqDiff, Nat.reduceAdd, Nat.reduceMul, Nat.reduceSub, Int.reduceToNat, Int.reduceAdd, Int.reduceSub, Int.reduceMul, Int.reduceNeg, ↓reduceIte] <;> rfl) | rfl))
    (h2 : e u = v2 := by (first | (simp (disch := first | assumption | ((try simp only [upd_size, alloc_size, dr_heap, List.size_toArray, List.length_cons, List.length_nil, Nat.reduceAdd]) <;> omega) | (with_unfolding_all (refine Eq.trans rfl ?_; exact rfl)) | exact Nat.le_of_ble_eq_true rfl | fail) only [push_cast, *, Nat.reduceEqDiff, Nat.reduceAdd, Nat.reduceMul, Nat.reduceSub, Int.reduceToNat, Int.reduceAdd, Int.reduceSub, Int.reduceMul, Int.reduceNeg, ↓reduceIte] <;> rfl) | rfl))
    (h3 : e s = v3 := by (first | (simp (disch := first | assumption | ((try simp only [upd_size, alloc_size, dr_heap, List.size_toArray, List.length_cons, List.length_nil, Nat.reduceAdd]) <;> omega) | (with_unfolding_all (refine Eq.trans rfl ?_; exact rfl)) | exact Nat.le_of_ble_eq_true rfl | fail) only [push_cast, *, Nat.reduceEqDiff, Nat.reduceAdd, Nat.reduceMul, Nat.reduceSub, Int.reduceToNat, Int.reduceAdd, Int.reduceSub, Int.reduceMul, Int.reduceNeg, ↓reduceIte] <;> rfl) | rfl))
    (h4 : e q = v4 := by (first | (simp (disch := first | assumption | ((try simp only [upd_size, alloc_size, dr_heap, List.size_toArray, List.length_cons, List.length_nil, Nat.reduceAdd]) <;> omega) | (with_unfolding_all (refine Eq.trans rfl ?_; exact rfl)) | exact Nat.le_of_ble_eq_true rfl | fail) only [push_cast, *, Nat.reduceEqDiff, Nat.reduceAdd, Nat.reduceMul, Nat.reduceSub, Int.reduceToNat, Int.reduceAdd, Int.reduceSub, Int.reduceMul, Int.reduceNeg, ↓reduceIte] <;> rfl) | rfl)) : retX P #[.tmp t, .tmp u, .tmp s, .tmp q] R ex e w := r4 hx h1 h2 h3 h4 h
theorem rcA {bk t' : Nat} (h : R v w) (hx : isEnd ex = true := by rfl) (h1 : e t = .pointer (some ⟨bk, 0, none⟩) := by (first | (simp (disch := first | assumption | ((try simp only [upd_size, alloc_size, dr_heap, List.size_toArray, List.length_cons, List.length_nil, Nat.reduceAdd]) <;> omega) | (with_unfolding_all (refine Eq.trans rfl ?_; exact rfl)) | fail) only [push_cast, *, Nat.reduceEqDiff, ↓reduceIte] <;> rfl) | rfl))
    (h2 : ldR P t' (.pointer (some ⟨bk, 0, none⟩)) w = .ok v w := by (simp (disch := first | assumption | ((try simp only [upd_size, alloc_size, dr_heap, List.size_toArray, List.length_cons, List.length_nil, Nat.reduceAdd]) <;> omega) | (with_unfolding_all (refine Eq.trans rfl ?_; exact rfl)) | exact Nat.le_of_ble_eq_true rfl | fail) only [push_cast, *, Nat.reduceEqDiff, Nat.reduceAdd, Nat.reduceMul, ↓reduceIte] <;> rfl)) : retX P #[.cell t t'] R ex e w := ret_of hx (by rw [resM_cell (b := bk) (o := 0) h1]; exact h2) h
theorem r0A (h : R (.tuple #[]) w) (hx : isEnd ex = true := by rfl) : retX P #[] R ex e w := r0 hx h

/-! rows that draw -/
theorem xe0A (hk : XE P K l C (e.put d v))
    (h : ∀ w, rG P op ty e w = .ok (.value v) w := by (intro w; simp (disch := first | assumption | ((try simp only [upd_size, alloc_size, dr_heap, List.size_toArray, List.length_cons, List.length_nil, Nat.reduceAdd]) <;> omega) | (with_unfolding_all (refine Eq.trans rfl ?_; exact rfl)) | exact Nat.le_of_ble_eq_true rfl | fail) only [push_cast, *, Nat.reduceEqDiff, Nat.reduceAdd, Nat.reduceMul, Nat.reduceSub, Int.reduceToNat, Int.reduceAdd, Int.reduceSub, Int.reduceMul, Int.reduceNeg, ↓reduceIte] <;> rfl)) : XE P K ((⟨d, op, ty, none⟩, 0) :: l) C e := xe0 h hk
theorem xe1A (hk : XE P K l (DR w) (e.put d v))
    (h : ∀ i, rG P op ty e (dr w i) = .ok (.value v) (dr w i) := by (intro i; simp (disch := first | assumption | ((try simp only [upd_size, alloc_size, dr_heap, List.size_toArray, List.length_cons, List.length_nil, Nat.reduceAdd]) <;> omega) | (with_unfolding_all (refine Eq.trans rfl ?_; exact rfl)) | exact Nat.le_of_ble_eq_true rfl | fail) only [push_cast, *, Nat.reduceEqDiff, Nat.reduceAdd, Nat.reduceMul, Nat.reduceSub, Int.reduceToNat, Int.reduceAdd, Int.reduceSub, Int.reduceMul, Int.reduceNeg, ↓reduceIte] <;> rfl)) : XE P K ((⟨d, op, ty, none⟩, 1) :: l) (DR w) e := xe1 h hk
theorem xd2vA (hk : XE P K l (DR w1) (e.put d v))
    (h : ∀ i, rG P op ty e (dr w i) = .ok (.value v) (dr w1 i) := by (intro i; simp (disch := first | assumption | ((try simp only [upd_size, alloc_size, dr_heap, List.size_toArray, List.length_cons, List.length_nil, Nat.reduceAdd]) <;> omega) | (with_unfolding_all (refine Eq.trans rfl ?_; exact rfl)) | exact Nat.le_of_ble_eq_true rfl | fail) only [push_cast, *, Nat.reduceEqDiff, Nat.reduceAdd, Nat.reduceMul, Nat.reduceSub, Int.reduceToNat, Int.reduceAdd, Int.reduceSub, Int.reduceMul, Int.reduceNeg, ↓reduceIte] <;> rfl)) : XE P K ((⟨d, op, ty, none⟩, 2) :: l) (DR w) e := xd2v h hk
theorem xd2sA (hk : XE P K l (DR w1) (e.put d undef))
    (h : ∀ i, rG P op ty e (dr w i) = .ok .skip (dr w1 i) := by (intro i; simp (disch := first | assumption | ((try simp only [upd_size, alloc_size, dr_heap, List.size_toArray, List.length_cons, List.length_nil, Nat.reduceAdd]) <;> omega) | (with_unfolding_all (refine Eq.trans rfl ?_; exact rfl)) | exact Nat.le_of_ble_eq_true rfl | fail) only [push_cast, *, Nat.reduceEqDiff, Nat.reduceAdd, Nat.reduceMul, Nat.reduceSub, Int.reduceToNat, Int.reduceAdd, Int.reduceSub, Int.reduceMul, Int.reduceNeg, ↓reduceIte] <;> rfl)) : XE P K ((⟨d, op, ty, none⟩, 2) :: l) (DR w) e := xd2s h hk
theorem g0t (h : XE P K ((⟨d, op, ty, none⟩, 0) :: l) C e) (hg : e t = .bool b := by (simp (disch := first | assumption | ((try simp only [upd_size, alloc_size, dr_heap, List.size_toArray, List.length_cons, List.length_nil, Nat.reduceAdd]) <;> omega) | (with_unfolding_all (refine Eq.trans rfl ?_; exact rfl)) | fail) only [push_cast, *, Nat.reduceEqDiff, ↓reduceIte] <;> fail)) : XE P K ((⟨d, op, ty, some (t, b)⟩, 0) :: l) C e := xe0_t hg h
theorem g1t (h : XE P K ((⟨d, op, ty, none⟩, 1) :: l) C e) (hg : e t = .bool b := by (simp (disch := first | assumption | ((try simp only [upd_size, alloc_size, dr_heap, List.size_toArray, List.length_cons, List.length_nil, Nat.reduceAdd]) <;> omega) | (with_unfolding_all (refine Eq.trans rfl ?_; exact rfl)) | fail) only [push_cast, *, Nat.reduceEqDiff, ↓reduceIte] <;> fail)) : XE P K ((⟨d, op, ty, some (t, b)⟩, 1) :: l) C e := xe1_t hg h
theorem g2t (h : XE P K ((⟨d, op, ty, none⟩, 2) :: l) C e) (hg : e t = .bool b := by (simp (disch := first | assumption | ((try simp only [upd_size, alloc_size, dr_heap, List.size_toArray, List.length_cons, List.length_nil, Nat.reduceAdd]) <;> omega) | (with_unfolding_all (refine Eq.trans rfl ?_; exact rfl)) | fail) only [push_cast, *, Nat.reduceEqDiff, ↓reduceIte] <;> fail)) : XE P K ((⟨d, op, ty, some (t, b)⟩, 2) :: l) C e := xe2_t hg h
theorem g0f (h : XE P K l C (e.put d undef)) (hg : e t = .bool (!b) := by (simp (disch := first | assumption | ((try simp only [upd_size, alloc_size, dr_heap, List.size_toArray, List.length_cons, List.length_nil, Nat.reduceAdd]) <;> omega) | (with_unfolding_all (refine Eq.trans rfl ?_; exact rfl)) | fail) only [push_cast, *, Nat.reduceEqDiff, ↓reduceIte] <;> fail)) : XE P K ((⟨d, op, ty, some (t, b)⟩, 0) :: l) C e := xe0_f hg h
theorem g1f (h : XE P K l C (e.put d undef)) (hg : e t = .bool (!b) := by (simp (disch := first | assumption | ((try simp only [upd_size, alloc_size, dr_heap, List.size_toArray, List.length_cons, List.length_nil, Nat.reduceAdd]) <;> omega) | (with_unfolding_all (refine Eq.trans rfl ?_; exact rfl)) | fail) only [push_cast, *, Nat.reduceEqDiff, ↓reduceIte] <;> fail)) : XE P K ((⟨d, op, ty, some (t, b)⟩, 1) :: l) C e := xe1_f hg h
theorem g2f (h : XE P K l C (e.put d undef)) (hg : e t = .bool (!b) := by (simp (disch := first | assumption | ((try simp only [upd_size, alloc_size, dr_heap, List.size_toArray, List.length_cons, List.length_nil, Nat.reduceAdd]) <;> omega) | (with_unfolding_all (refine Eq.trans rfl ?_; exact rfl)) | fail) only [push_cast, *, Nat.reduceEqDiff, ↓reduceIte] <;> fail)) : XE P K ((⟨d, op, ty, some (t, b)⟩, 2) :: l) C e := xe2_f hg h
theorem g0u (h : XE P K l C (e.put d undef)) (hg : e t = undef := by (simp (disch := first | assumption | ((try simp only [upd_size, alloc_size, dr_heap, List.size_toArray, List.length_cons, List.length_nil, Nat.reduceAdd]) <;> omega) | (with_unfolding_all (refine Eq.trans rfl ?_; exact rfl)) | fail) only [push_cast, *, Nat.reduceEqDiff, ↓reduceIte] <;> fail)) : XE P K ((⟨d, op, ty, some (t, b)⟩, 0) :: l) C e := xe0_u hg h
theorem g1u (h : XE P K l C (e.put d undef)) (hg : e t = undef := by (simp (disch := first | assumption | ((try simp only [upd_size, alloc_size, dr_heap, List.size_toArray, List.length_cons, List.length_nil, Nat.reduceAdd]) <;> omega) | (with_unfolding_all (refine Eq.trans rfl ?_; exact rfl)) | fail) only [push_cast, *, Nat.reduceEqDiff, ↓reduceIte] <;> fail)) : XE P K ((⟨d, op, ty, some (t, b)⟩, 1) :: l) C e := xe1_u hg h
theorem g2u (h : XE P K l C (e.put d undef)) (hg : e t = undef := by (simp (disch := first | assumption | ((try simp only [upd_size, alloc_size, dr_heap, List.size_toArray, List.length_cons, List.length_nil, Nat.reduceAdd]) <;> omega) | (with_unfolding_all (refine Eq.trans rfl ?_; exact rfl)) | fail) only [push_cast, *, Nat.reduceEqDiff, ↓reduceIte] <;> fail)) : XE P K ((⟨d, op, ty, some (t, b)⟩, 2) :: l) C e := xe2_u hg h
theorem xn_ {n : Nat} (h : ∀ w', Ext w w' → n ≤ w'.heap.size → K e w') (hn : w.heap.size = n := by (first | (simp only [upd_size, alloc_size, dr_heap, List.size_toArray, List.length_cons, List.length_nil, Nat.reduceAdd] <;> rfl) | rfl)) : XE P K [] (Ext w) e := xe_nil fun w' hE => h w' hE (hn ▸ hE.size)
/-- A call that yields v, in each world that extends w, and leaves all that was there. -/
def Quiet (P : Program) (f : FuncId) (args : Array Value) (w : World) (v : Value) : Prop := ∀ u, Ext w u → CallsR P f args u fun r u' => r = v ∧ Ext u u'
/-- The same, in whatever world. -/
def Sure (P : Program) (f : FuncId) (args : Array Value) (v : Value) : Prop := ∀ u, CallsR P f args u fun r u' => r = v ∧ Ext u u'
theorem Sure.quiet {f : FuncId} {args : Array Value} (h : Sure P f args v) : Quiet P f args w v := fun u _ => h u
theorem xe1eA (hk : XE P K l (Ext w) (e.put d v))
    (h : ∀ w', Ext w w' → rG P op ty e w' = .ok (.value v) w' := by (intro w' hw; simp (disch := first | assumption | ((try simp only [upd_size, alloc_size, dr_heap, List.size_toArray, List.length_cons, List.length_nil, Nat.reduceAdd]) <;> omega) | (with_unfolding_all (refine Eq.trans rfl ?_; exact rfl)) | exact Nat.le_of_ble_eq_true rfl | fail) only [push_cast, *, Nat.reduceEqDiff, Nat.reduceAdd, Nat.reduceMul, Nat.reduceSub, Int.reduceToNat, Int.reduceAdd, Int.reduceSub, Int.reduceMul, Int.reduceNeg, ↓reduceIte] <;> rfl)) : XE P K ((⟨d, op, ty, none⟩, 1) :: l) (Ext w) e := xe1e h hk
theorem xe1qA {f : FuncId} {args : Array Value} (hk : XE P K l (Ext w) (e.put d v))
    (h : ∀ w', Ext w w' → rG P op ty e w' = .ok (.enter f args) w' := by (intro w' hw; simp (disch := first | assumption | ((try simp only [upd_size, alloc_size, dr_heap, List.size_toArray, List.length_cons, List.length_nil, Nat.reduceAdd]) <;> omega) | (with_unfolding_all (refine Eq.trans rfl ?_; exact rfl)) | exact Nat.le_of_ble_eq_true rfl | fail) only [push_cast, *, Nat.reduceEqDiff, Nat.reduceAdd, Nat.reduceMul, Nat.reduceSub, Int.reduceToNat, Int.reduceAdd, Int.reduceSub, Int.reduceMul, Int.reduceNeg, ↓reduceIte] <;> rfl)) (hc : Quiet P f args w v := by (first | with_reducible assumption | exact Sure.quiet (by with_reducible assumption))) : XE P K ((⟨d, op, ty, none⟩, 1) :: l) (Ext w) e := xe1c h hc hk
theorem Ext.updB {w w' : World} {b : Nat} {o : Obj} (h : Ext w w') (hb : b < w.heap.size) : Ext (Bx.upd w b o) (Bx.upd w' b o) :=
  ⟨h.os, h.tape, h.output, by rw [upd_size, upd_size]; exact h.size, fun k hk => by
    rw [upd_size] at hk
    by_cases e : b = k
    · subst e; rw [upd_same hk, upd_same (Nat.lt_of_lt_of_le hk h.size)]
    · rw [upd_other e, upd_other e]; exact h.heap k hk⟩
theorem xe2eA {bk : Nat} {ob : Obj} (hk : XE P K l (Ext (upd w bk ob)) (e.put d undef))
    (h : ∀ w', Ext w w' → rG P op ty e w' = .ok .skip (upd w' bk ob) := by (intro w' hw; simp (disch := first | assumption | ((try simp only [upd_size, alloc_size, dr_heap, List.size_toArray, List.length_cons, List.length_nil, Nat.reduceAdd]) <;> omega) | (with_unfolding_all (refine Eq.trans rfl ?_; exact rfl)) | exact Nat.le_of_ble_eq_true rfl | fail) only [push_cast, *, Nat.reduceEqDiff, Nat.reduceAdd, Nat.reduceMul, Nat.reduceSub, Int.reduceToNat, Int.reduceAdd, Int.reduceSub, Int.reduceMul, Int.reduceNeg, ↓reduceIte] <;> rfl))
    (hb : bk < w.heap.size := by (first | ((try simp only [upd_size, alloc_size, dr_heap, List.size_toArray, List.length_cons, List.length_nil, Nat.reduceAdd]) <;> omega) | fail)) : XE P K ((⟨d, op, ty, none⟩, 2) :: l) (Ext w) e := by
  rw [XE_cons2]
  intro w' hw
  rw [h w' hw]
  exact ⟨Ext (upd w bk ob), hw.updB hb, hk⟩
/-- A quiet call, whose contract is given. -/
theorem xe1cA {f : FuncId} {args : Array Value} (hc : Quiet P f args w v) (hk : XE P K l (Ext w) (e.put d v))
    (h : ∀ w', Ext w w' → rG P op ty e w' = .ok (.enter f args) w' := by (intro w' hw; simp (disch := first | assumption | ((try simp only [upd_size, alloc_size, dr_heap, List.size_toArray, List.length_cons, List.length_nil, Nat.reduceAdd]) <;> omega) | (with_unfolding_all (refine Eq.trans rfl ?_; exact rfl)) | exact Nat.le_of_ble_eq_true rfl | fail) only [push_cast, *, Nat.reduceEqDiff, Nat.reduceAdd, Nat.reduceMul, Nat.reduceSub, Int.reduceToNat, Int.reduceAdd, Int.reduceSub, Int.reduceMul, Int.reduceNeg, ↓reduceIte] <;> rfl)) : XE P K ((⟨d, op, ty, none⟩, 1) :: l) (Ext w) e := xe1c h hc hk
/-! rows taken wide -/
theorem xw_ (h : XF P K l (Ext w) (Ext w) e) : XW P l K e w := XW_ext (fun _ h => h) h
theorem xf0A {D : World → Prop} (hk : XF P K l C D (e.put d v)) (h : ∀ w, rG P op ty e w = .ok (.value v) w := by (intro w; simp (disch := first | assumption | ((try simp only [upd_size, alloc_size, dr_heap, List.size_toArray, List.length_cons, List.length_nil, Nat.reduceAdd]) <;> omega) | (with_unfolding_all (refine Eq.trans rfl ?_; exact rfl)) | exact Nat.le_of_ble_eq_true rfl | fail) only [push_cast, *, Nat.reduceEqDiff, Nat.reduceAdd, Nat.reduceMul, Nat.reduceSub, Int.reduceToNat, Int.reduceAdd, Int.reduceSub, Int.reduceMul, Int.reduceNeg, ↓reduceIte] <;> rfl)) : XF P K ((⟨d, op, ty, none⟩, 0) :: l) C D e := xf0 h hk
theorem xf3A {n : Nat} (hk : XF P K l C (Ext w) (e.put d v)) (h : ∀ u, Ext w u → rG P op ty e u = .ok (.value v) u := by (intro w' hw; simp (disch := first | assumption | ((try simp only [upd_size, alloc_size, dr_heap, List.size_toArray, List.length_cons, List.length_nil, Nat.reduceAdd]) <;> omega) | (with_unfolding_all (refine Eq.trans rfl ?_; exact rfl)) | exact Nat.le_of_ble_eq_true rfl | fail) only [push_cast, *, Nat.reduceEqDiff, Nat.reduceAdd, Nat.reduceMul, Nat.reduceSub, Int.reduceToNat, Int.reduceAdd, Int.reduceSub, Int.reduceMul, Int.reduceNeg, ↓reduceIte] <;> rfl)) : XF P K ((⟨d, op, ty, none⟩, n + 4) :: l) C (Ext w) e := xf3 h hk
theorem xf3qA {n : Nat} {f : FuncId} {args : Array Value} (hk : XF P K l C (Ext w) (e.put d v))
    (h : ∀ u, Ext w u → rG P op ty e u = .ok (.enter f args) u := by (intro w' hw; simp (disch := first | assumption | ((try simp only [upd_size, alloc_size, dr_heap, List.size_toArray, List.length_cons, List.length_nil, Nat.reduceAdd]) <;> omega) | (with_unfolding_all (refine Eq.trans rfl ?_; exact rfl)) | exact Nat.le_of_ble_eq_true rfl | fail) only [push_cast, *, Nat.reduceEqDiff, Nat.reduceAdd, Nat.reduceMul, Nat.reduceSub, Int.reduceToNat, Int.reduceAdd, Int.reduceSub, Int.reduceMul, Int.reduceNeg, ↓reduceIte] <;> rfl)) (hc : Quiet P f args w v := by (first | with_reducible assumption | exact Sure.quiet (by with_reducible assumption)))
    (hi : P.inits.idxOf? f = none := by kernel_rfl) : XF P K ((⟨d, op, ty, none⟩, n + 4) :: l) C (Ext w) e := xf3c hi h hc hk
theorem xf2A (h : ∀ w', Ext w w' → C w' → kN P (fun v w'' => Ext w w'' ∧ XF P K l (Ext w'') (Ext w) (e.put d v)) (rG P op ty e w')) (hC : ∀ w', C w' → Ext w w' := by (intro w' hw'; first | exact hw' | (refine Ext.trans ?_ hw'; (repeat (first | with_reducible assumption | with_reducible refine Ext.alloc ?_ _ | with_reducible refine Ext.dr ?_ _ | (with_reducible refine Ext.upd ?_ ?_ _; rotate_left; focus ((try simp only [upd_size, alloc_size, dr_heap, List.size_toArray, List.length_cons, List.length_nil, Nat.reduceAdd]) <;> omega)) | with_reducible refine Ext.trans ?_ (by with_reducible assumption)))))) : XF P K ((⟨d, op, ty, none⟩, 2) :: l) C (Ext w) e := by
  refine xf2 fun w' hw' => ?_
  have := h w' (hC w' hw') hw'
  generalize rG P op ty e w' = x at *
  cases x with
  | ok n w'' =>
    cases n <;> simp only [kN] at this ⊢
    case value => exact ⟨fun u hu => this.1.trans hu, this.2⟩
    case skip => exact ⟨fun u hu => this.1.trans hu, this.2⟩
    case enter => exact this.mono fun v w3 hv => ⟨fun u hu => hv.1.trans hu, hv.2⟩
    all_goals exact this
  | halt y w' => exact this
/-- An operation in a known world, all else by hand. -/
theorem krA {K : Value → World → Prop} (hk : kN P K x)
    (h : rG P op ty e w = x := by (simp (disch := first | assumption | ((try simp only [upd_size, alloc_size, dr_heap, List.size_toArray, List.length_cons, List.length_nil, Nat.reduceAdd]) <;> omega) | (with_unfolding_all (refine Eq.trans rfl ?_; exact rfl)) | exact Nat.le_of_ble_eq_true rfl | fail) only [push_cast, *, Nat.reduceEqDiff, Nat.reduceAdd, Nat.reduceMul, Nat.reduceSub, Int.reduceToNat, Int.reduceAdd, Int.reduceSub, Int.reduceMul, Int.reduceNeg, ↓reduceIte] <;> rfl)) : kN P K (rG P op ty e w) := kr h hk
end

section
variable {A B : Prop}
/-- As far as it goes: operations, tests that are decided, blocks, exits, rows that draw. -/
theorem w_ {A : Nat → Prop} (q : ∀ d, A d) (h : Box (∀ d, A d) → B := by (intro q; (repeat (first | (refine xoA ?_; first | with_reducible refine kv ?_ | with_reducible refine ks ?_ | with_reducible refine ke ?_) | refine xo_nil ?_ | refine xtA ?_ | refine xfA ?_ | refine xuA ?_ | refine s_reg ?_ | refine s_assoc ?_ | refine stA ?_ | refine sfA ?_ | refine s_skip ?_ | refine s_block ?_ | refine s_exit ?_ | refine s_ret ?_ | refine e_skip ?_ | refine e_exit ?_ | refine e_ret ?_ | refine q_n ?_ | refine q_r ?_ | refine q_e ?_ | refine q_in ?_ | refine q_ir ?_ | refine q_is ?_ | refine idA ?_ | refine un_s ?_ | refine r1A ?_ | refine r0A ?_ | refine r2A ?_ | refine r3A ?_ | refine r4A ?_ | refine rcA ?_ | (refine s_draw (XD_dr ?_); (repeat (first | refine xe0A ?_ | refine xe1A ?_ | refine xd2vA ?_ | refine xd2sA ?_ | refine g0t ?_ | refine g1t ?_ | refine g2t ?_ | refine g0f ?_ | refine g1f ?_ | refine g2f ?_ | refine g0u ?_ | refine g1u ?_ | refine g2u ?_)); refine xd_nil fun dX => ?_; (try simp only [dr_dr])) | (refine s_draw (XD_ext ?_); (repeat (first | refine xe0A ?_ | refine xe1eA ?_ | refine xe1qA ?_ | refine xe2eA ?_ | refine g0t ?_ | refine g1t ?_ | refine g0f ?_ | refine g1f ?_ | refine g0u ?_ | refine g1u ?_)); refine xn_ ?_))); first | exact q.out dX | (have dX : Nat := 0; exact q.out dX))) : B := h ⟨q⟩
theorem s_regA {P : Program} {Q : Exit → Env → World → Prop} {e : Env} {w : World} {k : GCode} {l : List GOp} {l' : List (GOp × Nat)} (h : XE P (X P k Q) l' (Ext w) e) (hl : kd l = l' := by (simp only [kd, List.map_cons, List.map_nil, kindOf] <;> rfl)) : X P (.seq (.reg l) k) Q e w := s_regE hl h
theorem xo_A {P : Program} {K : Env → World → Prop} {e : Env} {w : World} {l : List GOp} {l' : List (GOp × Nat)} (h : XE P K l' (Ext w) e) (hl : kd l = l' := by (simp only [kd, List.map_cons, List.map_nil, kindOf] <;> rfl)) : XO P l K e w := xo_E hl h
/-- A row of readings and quiet calls (whose contracts are at hand), as a whole. -/
theorem q_ (q : A) (h : Box A → B := by (intro q; (first | refine s_regA ?_ | refine xo_A ?_ | refine s_draw (XD_ext ?_)); (repeat (first | refine xe0A ?_ | refine xe1eA ?_ | refine xe1qA ?_ | refine xe2eA ?_ | refine g0t ?_ | refine g1t ?_ | refine g2t ?_ | refine g0f ?_ | refine g1f ?_ | refine g2f ?_ | refine g0u ?_ | refine g1u ?_ | refine g2u ?_)); refine xn_ ?_; exact q.out)) : B := h ⟨q⟩
/-- Within a row that draws, over worlds that extend one. -/
theorem de_ (q : A) (h : Box A → B := by (intro q; (repeat (first | refine xe0A ?_ | refine xe1eA ?_ | refine xe1qA ?_ | refine xe2eA ?_ | refine g0t ?_ | refine g1t ?_ | refine g2t ?_ | refine g0f ?_ | refine g1f ?_ | refine g2f ?_ | refine g0u ?_ | refine g1u ?_ | refine g2u ?_)); exact q.out)) : B := h ⟨q⟩
/-- Within a row that draws, over worlds that are alike but for the draws. -/
theorem dd_ (q : A) (h : Box A → B := by (intro q; (repeat (first | refine xe0A ?_ | refine xe1A ?_ | refine xd2vA ?_ | refine xd2sA ?_ | refine g0t ?_ | refine g1t ?_ | refine g2t ?_ | refine g0f ?_ | refine g1f ?_ | refine g2f ?_ | refine g0u ?_ | refine g1u ?_ | refine g2u ?_)); exact q.out)) : B := h ⟨q⟩
end
/-- A world that is built on another. -/
theorem ext_ {w w' : World} (h : Ext w w' := by (repeat (first | with_reducible exact Ext.refl _ | with_reducible assumption | with_reducible refine Ext.alloc ?_ _ | with_reducible refine Ext.dr ?_ _ | (with_reducible refine Ext.upd ?_ ?_ _; rotate_left; focus ((try simp only [upd_size, alloc_size, dr_heap, List.size_toArray, List.length_cons, List.length_nil, Nat.reduceAdd]) <;> omega)) | with_reducible refine Ext.trans ?_ (by with_reducible assumption)))) : Ext w w' := h
theorem Chg.transE {F : Nat → Prop} {w w1 w2 : World} (h : Chg F w w1) (k : Ext w1 w2) : Chg F w w2 := h.trans (k.chg F) fun _ _ h => h
theorem chg_ {F : Nat → Prop} {w w' : World} (h : Chg F w w' := by (repeat (first | with_reducible exact Chg.refl _ _ | with_reducible assumption | with_reducible refine Chg.alloc ?_ _ | with_reducible refine Chg.dr ?_ _ | (with_reducible refine Chg.upd ?_ ?_ _; rotate_left; focus (intro hlt; first | exact rfl | exact .inl rfl | exact .inr rfl | assumption | (exfalso; omega) | (exfalso; (simp only [upd_size, alloc_size, dr_heap, List.size_toArray, List.length_cons, List.length_nil, Nat.reduceAdd] at hlt); omega))) | with_reducible refine Chg.transE ?_ (by with_reducible assumption) | with_reducible refine Chg.trans ?_ (by with_reducible assumption) (fun _ _ h => h)))) : Chg F w w' := h
/-- How many blocks there are at least. -/
theorem sz_ {n : Nat} {w w' : World} (h : Ext w w') (hn : w.heap.size = n := by (first | (simp only [upd_size, alloc_size, dr_heap] <;> rfl) | rfl)) : n ≤ w'.heap.size := hn ▸ h.size
theorem szc_ {n : Nat} {F : Nat → Prop} {w w' : World} (h : Chg F w w') (hn : w.heap.size = n := by (first | (simp only [upd_size, alloc_size, dr_heap] <;> rfl) | rfl)) : n ≤ w'.heap.size := hn ▸ h.size
/-- What changed are blocks that are new. -/
theorem extc_ {F : Nat → Prop} {w w0 w1 w' : World} (hC : Chg F w0 w1) (hE : Ext w w0 := by (repeat (first | with_reducible exact Ext.refl _ | with_reducible assumption | with_reducible refine Ext.alloc ?_ _ | with_reducible refine Ext.dr ?_ _ | (with_reducible refine Ext.upd ?_ ?_ _; rotate_left; focus ((try simp only [upd_size, alloc_size, dr_heap, List.size_toArray, List.length_cons, List.length_nil, Nat.reduceAdd]) <;> omega)) | with_reducible refine Ext.trans ?_ (by with_reducible assumption))))
    (hF : ∀ k, k < w.heap.size → ¬ F k := by (intro k hk hF; (try dsimp only at hF); omega)) (h : Ext w w1 → Ext w w' := by (intro hx; (repeat (first | with_reducible exact Ext.refl _ | with_reducible assumption | with_reducible refine Ext.alloc ?_ _ | with_reducible refine Ext.dr ?_ _ | (with_reducible refine Ext.upd ?_ ?_ _; rotate_left; focus ((try simp only [upd_size, alloc_size, dr_heap, List.size_toArray, List.length_cons, List.length_nil, Nat.reduceAdd]) <;> omega)) | with_reducible refine Ext.trans ?_ (by with_reducible assumption))))) : Ext w w' := h (hC.toExt hE hF)
/-- What is left of a loop's rounds. -/
theorem mA {e e' : Env} {t : Nat} {k k' : IntKind} {n m : Int} {c : Nat} (h1 : e' t = .int k' m := by (first | (simp (disch := first | assumption | ((try simp only [upd_size, alloc_size, dr_heap, List.size_toArray, List.length_cons, List.length_nil, Nat.reduceAdd]) <;> omega) | (with_unfolding_all (refine Eq.trans rfl ?_; exact rfl)) | fail) only [push_cast, *, Nat.reduceEqDiff, ↓reduceIte] <;> rfl) | rfl)) (h2 : e t = .int k n := by (first | assumption | (simp (disch := first | assumption | ((try simp only [upd_size, alloc_size, dr_heap, List.size_toArray, List.length_cons, List.length_nil, Nat.reduceAdd]) <;> omega) | (with_unfolding_all (refine Eq.trans rfl ?_; exact rfl)) | fail) only [push_cast, *, Nat.reduceEqDiff, ↓reduceIte] <;> rfl) | rfl)) (h : c - m.toNat < c - n.toNat := by omega) : c - nat (e' t) < c - nat (e t) := by rw [h1, h2]; exact h
def upI (v : Value) : Nat := match v with | .int _ n => (n + 1).toNat | _ => 0
theorem mS {e e' : Env} {t : Nat} {k k' : IntKind} {n m : Int} (h1 : e' t = .int k' m := by (first | (simp (disch := first | assumption | ((try simp only [upd_size, alloc_size, dr_heap, List.size_toArray, List.length_cons, List.length_nil, Nat.reduceAdd]) <;> omega) | (with_unfolding_all (refine Eq.trans rfl ?_; exact rfl)) | fail) only [push_cast, *, Nat.reduceEqDiff, ↓reduceIte] <;> rfl) | rfl)) (h2 : e t = .int k n := by (first | assumption | (simp (disch := first | assumption | ((try simp only [upd_size, alloc_size, dr_heap, List.size_toArray, List.length_cons, List.length_nil, Nat.reduceAdd]) <;> omega) | (with_unfolding_all (refine Eq.trans rfl ?_; exact rfl)) | fail) only [push_cast, *, Nat.reduceEqDiff, ↓reduceIte] <;> rfl) | rfl)) (h : (m + 1).toNat < (n + 1).toNat := by omega) : upI (e' t) < upI (e t) := by rw [h1, h2]; exact h
/-- A block's cells. -/
theorem hA {w : World} {b : Nat} {x y : Obj} (h : x = y) (hx : w.heap[b]? = some x := by (simp (disch := first | assumption | ((try simp only [upd_size, alloc_size, dr_heap, List.size_toArray, List.length_cons, List.length_nil, Nat.reduceAdd]) <;> omega) | (with_unfolding_all (refine Eq.trans rfl ?_; exact rfl)) | fail) only [push_cast, *, Nat.reduceEqDiff, ↓reduceIte] <;> rfl)) : w.heap[b]? = some y := h ▸ hx
section
variable {P : Program} {f : FuncId} {args : Array Value} {w : World} {v : Value} {K : Value → World → Prop}
/-- A quiet call. -/
theorem callQ {n : Nat} (h : CallsR P f args w fun r w' => r = v ∧ Ext w w') (hk : ∀ w', Ext w w' → n ≤ w'.heap.size → K v w') (hn : w.heap.size = n := by (first | (simp only [upd_size, alloc_size, dr_heap, List.size_toArray, List.length_cons, List.length_nil, Nat.reduceAdd] <;> rfl) | rfl)) : CallsR P f args w K := h.mono fun r w' ⟨hr, hE⟩ => hr ▸ hk w' hE (hn ▸ hE.size)
theorem Quiet.call (h : Quiet P f args w v) : CallsR P f args w fun r w' => r = v ∧ Ext w w' := h w (Ext.refl w)
theorem Quiet.at {u : World} (h : Quiet P f args w v) (hu : Ext w u) : Quiet P f args u v := fun x hx => h x (hu.trans hx)
end

/-! ### A function's beginning -/
section
variable {P : Program} {f : FuncId} {fn : Func} {c : Code} {w : World} {R : Value → World → Prop} {bs : Bigs} {g : GCode} {rs : Array ResultVar} {v0 v1 v2 v3 v4 v5 : Value}
theorem en0 (hf : P.funcs[f]? = some fn) (hr : fn.results = rs) (hm : P.follows .mixedOrders = true) (bs : Bigs) (h : ∀ e : Env, X P g (retX P rs R) e w) (hb : fn.body = some c := by rfl)
    (hg : cs bs c .skip = g := by (simp only [cs, gop, gslot, dops, bigOf, setK, drawOf, drawOf2, dopsW, setW, dopsR, setR, kindOf, List.lookup, List.map_cons, List.map_nil, Option.bind_some, List.getElem?_toArray, List.getElem?_cons_zero, List.getElem?_cons_succ, Option.getD_some, Option.getD_none, List.contains_nil, List.contains_cons, Bool.false_eq_true, ↓reduceIte, Nat.reduceAdd, Nat.reduceBEq, Bool.or_false, Bool.or_true, Bool.true_or] <;> rfl))
    (hk : (okN bs fn.ntmps c && decide (fn.ntmps ≤ 1000000) && decide (0 ≤ fn.ntmps)) = true := by kernel_rfl) : CallsR P f #[] w R := calls0 hf hb hm hk fun e => X_comp (hg ▸ hr ▸ h e)
theorem en1 (hf : P.funcs[f]? = some fn) (hr : fn.results = rs) (hm : P.follows .mixedOrders = true) (bs : Bigs) (h : ∀ e : Env, e 0 = v0 → X P g (retX P rs R) e w) (hb : fn.body = some c := by rfl)
    (hg : cs bs c .skip = g := by (simp only [cs, gop, gslot, dops, bigOf, setK, drawOf, drawOf2, dopsW, setW, dopsR, setR, kindOf, List.lookup, List.map_cons, List.map_nil, Option.bind_some, List.getElem?_toArray, List.getElem?_cons_zero, List.getElem?_cons_succ, Option.getD_some, Option.getD_none, List.contains_nil, List.contains_cons, Bool.false_eq_true, ↓reduceIte, Nat.reduceAdd, Nat.reduceBEq, Bool.or_false, Bool.or_true, Bool.true_or] <;> rfl))
    (hk : (okN bs fn.ntmps c && decide (fn.ntmps ≤ 1000000) && decide (1 ≤ fn.ntmps)) = true := by kernel_rfl) : CallsR P f #[v0] w R := calls1 hf hb hm hk fun e h0 => X_comp (hg ▸ hr ▸ h e h0)
theorem en2 (hf : P.funcs[f]? = some fn) (hr : fn.results = rs) (hm : P.follows .mixedOrders = true) (bs : Bigs) (h : ∀ e : Env, e 0 = v0 → e 1 = v1 → X P g (retX P rs R) e w) (hb : fn.body = some c := by rfl)
    (hg : cs bs c .skip = g := by (simp only [cs, gop, gslot, dops, bigOf, setK, drawOf, drawOf2, dopsW, setW, dopsR, setR, kindOf, List.lookup, List.map_cons, List.map_nil, Option.bind_some, List.getElem?_toArray, List.getElem?_cons_zero, List.getElem?_cons_succ, Option.getD_some, Option.getD_none, List.contains_nil, List.contains_cons, Bool.false_eq_true, ↓reduceIte, Nat.reduceAdd, Nat.reduceBEq, Bool.or_false, Bool.or_true, Bool.true_or] <;> rfl))
    (hk : (okN bs fn.ntmps c && decide (fn.ntmps ≤ 1000000) && decide (2 ≤ fn.ntmps)) = true := by kernel_rfl) : CallsR P f #[v0, v1] w R := calls2 hf hb hm hk fun e h0 h1 => X_comp (hg ▸ hr ▸ h e h0 h1)
theorem en3 (hf : P.funcs[f]? = some fn) (hr : fn.results = rs) (hm : P.follows .mixedOrders = true) (bs : Bigs) (h : ∀ e : Env, e 0 = v0 → e 1 = v1 → e 2 = v2 → X P g (retX P rs R) e w) (hb : fn.body = some c := by rfl)
    (hg : cs bs c .skip = g := by (simp only [cs, gop, gslot, dops, bigOf, setK, drawOf, drawOf2, dopsW, setW, dopsR, setR, kindOf, List.lookup, List.map_cons, List.map_nil, Option.bind_some, List.getElem?_toArray, List.getElem?_cons_zero, List.getElem?_cons_succ, Option.getD_some, Option.getD_none, List.contains_nil, List.contains_cons, Bool.false_eq_true, ↓reduceIte, Nat.reduceAdd, Nat.reduceBEq, Bool.or_false, Bool.or_true, Bool.true_or] <;> rfl))
    (hk : (okN bs fn.ntmps c && decide (fn.ntmps ≤ 1000000) && decide (3 ≤ fn.ntmps)) = true := by kernel_rfl) : CallsR P f #[v0, v1, v2] w R := calls3 hf hb hm hk fun e h0 h1 h2 => X_comp (hg ▸ hr ▸ h e h0 h1 h2)
theorem en4 (hf : P.funcs[f]? = some fn) (hr : fn.results = rs) (hm : P.follows .mixedOrders = true) (bs : Bigs) (h : ∀ e : Env, e 0 = v0 → e 1 = v1 → e 2 = v2 → e 3 = v3 → X P g (retX P rs R) e w) (hb : fn.body = some c := by rfl)
    (hg : cs bs c .skip = g := by (simp only [cs, gop, gslot, dops, bigOf, setK, drawOf, drawOf2, dopsW, setW, dopsR, setR, kindOf, List.lookup, List.map_cons, List.map_nil, Option.bind_some, List.getElem?_toArray, List.getElem?_cons_zero, List.getElem?_cons_succ, Option.getD_some, Option.getD_none, List.contains_nil, List.contains_cons, Bool.false_eq_true, ↓reduceIte, Nat.reduceAdd, Nat.reduceBEq, Bool.or_false, Bool.or_true, Bool.true_or] <;> rfl))
    (hk : (okN bs fn.ntmps c && decide (fn.ntmps ≤ 1000000) && decide (4 ≤ fn.ntmps)) = true := by kernel_rfl) : CallsR P f #[v0, v1, v2, v3] w R := calls4 hf hb hm hk fun e h0 h1 h2 h3 => X_comp (hg ▸ hr ▸ h e h0 h1 h2 h3)
theorem en5 (hf : P.funcs[f]? = some fn) (hr : fn.results = rs) (hm : P.follows .mixedOrders = true) (bs : Bigs) (h : ∀ e : Env, e 0 = v0 → e 1 = v1 → e 2 = v2 → e 3 = v3 → e 4 = v4 → X P g (retX P rs R) e w) (hb : fn.body = some c := by rfl)
    (hg : cs bs c .skip = g := by (simp only [cs, gop, gslot, dops, bigOf, setK, drawOf, drawOf2, dopsW, setW, dopsR, setR, kindOf, List.lookup, List.map_cons, List.map_nil, Option.bind_some, List.getElem?_toArray, List.getElem?_cons_zero, List.getElem?_cons_succ, Option.getD_some, Option.getD_none, List.contains_nil, List.contains_cons, Bool.false_eq_true, ↓reduceIte, Nat.reduceAdd, Nat.reduceBEq, Bool.or_false, Bool.or_true, Bool.true_or] <;> rfl))
    (hk : (okN bs fn.ntmps c && decide (fn.ntmps ≤ 1000000) && decide (5 ≤ fn.ntmps)) = true := by kernel_rfl) : CallsR P f #[v0, v1, v2, v3, v4] w R := calls5 hf hb hm hk fun e h0 h1 h2 h3 h4 => X_comp (hg ▸ hr ▸ h e h0 h1 h2 h3 h4)
theorem en6 (hf : P.funcs[f]? = some fn) (hr : fn.results = rs) (hm : P.follows .mixedOrders = true) (bs : Bigs) (h : ∀ e : Env, e 0 = v0 → e 1 = v1 → e 2 = v2 → e 3 = v3 → e 4 = v4 → e 5 = v5 → X P g (retX P rs R) e w) (hb : fn.body = some c := by rfl)
    (hg : cs bs c .skip = g := by (simp only [cs, gop, gslot, dops, bigOf, setK, drawOf, drawOf2, dopsW, setW, dopsR, setR, kindOf, List.lookup, List.map_cons, List.map_nil, Option.bind_some, List.getElem?_toArray, List.getElem?_cons_zero, List.getElem?_cons_succ, Option.getD_some, Option.getD_none, List.contains_nil, List.contains_cons, Bool.false_eq_true, ↓reduceIte, Nat.reduceAdd, Nat.reduceBEq, Bool.or_false, Bool.or_true, Bool.true_or] <;> rfl))
    (hk : (okN bs fn.ntmps c && decide (fn.ntmps ≤ 1000000) && decide (6 ≤ fn.ntmps)) = true := by kernel_rfl) : CallsR P f #[v0, v1, v2, v3, v4, v5] w R := calls6 hf hb hm hk fun e h0 h1 h2 h3 h4 h5 => X_comp (hg ▸ hr ▸ h e h0 h1 h2 h3 h4 h5)
end
section
variable {P : Program} {Q : Exit → Env → World → Prop} {e : Env} {w : World} {a c k : GCode} {i : Nat} {D : List Nat}
/-- A loop; I tells of the world at its beginning, of the frame, and of the world. -/
theorem lo_ (I : World → Env → World → Prop) (m : Env → World → Nat) (h0 : I w e w)
    (h : ∀ e' w', (∀ i, D.contains i = false → e' i = e i) → I w e' w' → X P c (thenX (fun e2 w2 => I w e2 w2 ∧ m e2 w2 < m e' w') (thenX (X P k Q) Q)) e' w')
    (hD : dG c = D := by (simp only [dG, List.filterMap_cons, List.filterMap_nil, List.cons_append, List.nil_append, List.append_nil] <;> rfl)) : X P (.seq (.loop c) k) Q e w := loopF (I w) m h0 h hD
/-- A loop, unrolled within n rounds. -/
theorem un_ (n : Nat) (h : Un P c (thenX (X P k Q) Q) n e w) : X P (.seq (.loop c) k) Q e w := un_loop n h
/-- A cut behind a part of the code. -/
theorem cu_ (M : World → Env → World → Prop) (h : X P a (thenX (M w) Q) e w) (h2 : ∀ e' w', (∀ i, D.contains i = false → e' i = e i) → M w e' w' → X P k Q e' w')
    (hD : dG a = D := by (simp only [dG, List.filterMap_cons, List.filterMap_nil, List.cons_append, List.nil_append, List.append_nil] <;> rfl)) : X P (.seq a k) Q e w := cutF (M w) h h2 hD
end
end Go.Bx
