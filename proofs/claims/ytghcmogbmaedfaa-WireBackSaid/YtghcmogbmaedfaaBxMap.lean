/- Maps in memory, by the keys' kind. -/
import Derived.Test.YtghcmogbmaedfaaBxList
import Derived.MapKept
namespace Go.Bx
open Go
set_option linter.unusedSimpArgs false
set_option linter.unusedVariables false

section
variable {κ : Type} [DecidableEq κ]
/-- An entry: key, value, stamp. -/
abbrev Ent (κ : Type) := κ × Value × Nat
def mEnt (kf : κ → Value) (e : Ent κ) : MapEntry := { key := kf e.1, val := e.2.1, born := e.2.2 }
def mfindFrom (k : κ) : List (Ent κ) → Nat → Option (Nat × Value)
  | [], _ => none
  | e :: es, i => if e.1 = k then some (i, e.2.1) else mfindFrom k es (i + 1)
abbrev mfind (es : List (Ent κ)) (k : κ) : Option (Nat × Value) := mfindFrom k es 0
def mget (es : List (Ent κ)) (k : κ) : Option Value := (mfind es k).map (·.2)
def mput (es : List (Ent κ)) (k : κ) (v : Value) (clock : Nat) : List (Ent κ) := match mfind es k with
  | some (i, _) => es.modify i fun e => (k, v, e.2.2)
  | none => es ++ [(k, v, clock)]
def mclock (es : List (Ent κ)) (k : κ) (clock : Nat) : Nat := if (mfind es k).isSome then clock else clock + 1
def mdel (es : List (Ent κ)) (k : κ) : List (Ent κ) := match mfind es k with
  | some (i, _) => es.eraseIdx i
  | none => es

/-- What the model does with keys of a kind. -/
structure KeyOK (P : Program) (kt : TypeId) (kf : κ → Value) (ok : κ → Prop) : Prop where
  check : ∀ (e : Bool) (k : κ) (w : World), ok k → (Instr.checkKey e 10000 kt (kf k)).run P w = .ok () w
  find : ∀ (k : κ) (es : List (Ent κ)) (w : World), ok k → (∀ e ∈ es, ok e.1) → (Instr.findKey kt (kf k) (es.map (mEnt kf))).run P w = .ok (mfind es k) w
  stay : ∀ (k : κ) (w : World), ok k → (Instr.keyThatStays (kf k) (kf k)).run P w = .ok (kf k) w

theorem mfindFrom_some {k : κ} : ∀ {es : List (Ent κ)} {i j : Nat} {v : Value}, mfindFrom k es i = some (j, v) → i ≤ j ∧ ∃ b, es[j - i]? = some (k, v, b)
  | [], _, _, _, h => by cases h
  | e :: es, i, j, v, h => by
    unfold mfindFrom at h
    split at h
    · rename_i he
      cases h
      subst he
      exact ⟨Nat.le_refl _, e.2.2, by simp⟩
    · obtain ⟨h1, b, h2⟩ := mfindFrom_some h
      refine ⟨by omega, b, ?_⟩
      rw [show j - i = (j - (i + 1)) + 1 by omega]
      simpa using h2
theorem mfindFrom_none {k : κ} : ∀ {es : List (Ent κ)} {i : Nat}, mfindFrom k es i = none ↔ ∀ e ∈ es, e.1 ≠ k
  | [], _ => by simp [mfindFrom]
  | e :: es, i => by
    unfold mfindFrom
    by_cases he : e.1 = k
    · rw [if_pos he]; simp [he]
    · rw [if_neg he, mfindFrom_none]; simp [he]
end

/-- A map in memory. -/
structure MapK {κ : Type} [DecidableEq κ] (kf : κ → Value) (ok : κ → Prop) (w : World) (b : Nat) (es : List (Ent κ)) (clock : Nat) : Prop where
  at_ : w.heap[b]? = some (.map (es.map (mEnt kf)).toArray clock)
  keys : (es.map (·.1)).Nodup
  oks : ∀ e ∈ es, ok e.1
  born : ∀ e ∈ es, e.2.2 < clock
  borns : (es.map (·.2.2)).Nodup

def luR (P : Program) (t : TypeId) (a k : Value) (b : Bool) (w : World) : Result Value := (Instr.lookup t a k b).run P w
theorem rG_lookup {P : Program} {t ty : TypeId} {e : Env} {w : World} {x y : Operand} {b : Bool} : rG P (.lookup t x y b) ty e w = vR (luR P t (ev e x) (ev e y) b w) := run_v _
def muR (P : Program) (t : TypeId) (a k v : Value) (w : World) : Result Unit := (Instr.mapUpdate t a k v).run P w
theorem rG_mapUpdate {P : Program} {t ty : TypeId} {e : Env} {w : World} {x y z : Operand} : rG P (.mapUpdate t x y z) ty e w = uR (muR P t (ev e x) (ev e y) (ev e z) w) := run_u _
def deR (P : Program) (t : TypeId) (a k : Value) (w : World) : Result Value := (Builtin.delete_ #[t, 0] 0 #[a, k]).run P w
theorem rG_makeMap {P : Program} {t ty : TypeId} {e : Env} {w : World} : rG P (.makeMap t none) ty e w = .ok (.value (.map (some w.heap.size))) (w.alloc (.map #[] 0)) := rfl
theorem rG_delete {P : Program} {t t2 ty : TypeId} {e : Env} {w : World} {x y : Operand} : rG P (.call { callee := .builtin .delete, args := #[x, y], argTypes := #[t, t2] }) ty e w = vR (deR P t (ev e x) (ev e y) w) := by
  show (do let d ← resolve (ev e) { callee := .builtin .delete, args := #[x, y], argTypes := #[t, t2] } ty; invoke d.target d.args : Sem Next).run P w = _
  simp only [Sem.run_bind, resolve, pure, Sem.run, Result.andThen_ok, invoke, builtin]
  simp only [List.map_toArray, List.map_cons, List.map_nil]
  rfl

section
variable {κ : Type} [DecidableEq κ] {kf : κ → Value} {ok : κ → Prop} {P : Program} {w w' : World} {t kt et b clock sz by_ s2 b2 : Nat} {z zv : Value} {de : TypeDesc} {es : List (Ent κ)} {k : κ}

theorem MapK.lookup (h : MapK kf ok w b es clock) (ht : TI P t (.map kt et) sz by_ z) (he : TI P et de s2 b2 zv) (hk : KeyOK P kt kf ok) (hok : ok k) :
    luR P t (.map (some b)) (kf k) true w = .ok (.tuple #[(mget es k).getD zv, .bool (mget es k).isSome]) w := by
  simp only [luR, Instr.lookup, Sem.run_bind, ht.underlying, Result.andThen_ok, MapKept.run_getObj_map h.at_, List.toList_toArray]
  (try simp only [Sem.run_pure, Result.andThen_ok, List.toList_toArray])
  rw [hk.check _ _ _ hok]
  simp only [Result.andThen_ok, Sem.run_bind]
  rw [hk.find k es w hok h.oks]
  simp only [Result.andThen_ok]
  unfold mget
  cases hm : mfind es k with
  | none => simp [he.zeroValue, pure, Sem.run]
  | some r => simp [pure, Sem.run]
theorem MapK.lookup1 (h : MapK kf ok w b es clock) (ht : TI P t (.map kt et) sz by_ z) (he : TI P et de s2 b2 zv) (hk : KeyOK P kt kf ok) (hok : ok k) :
    luR P t (.map (some b)) (kf k) false w = .ok ((mget es k).getD zv) w := by
  simp only [luR, Instr.lookup, Sem.run_bind, ht.underlying, Result.andThen_ok, MapKept.run_getObj_map h.at_, List.toList_toArray]
  (try simp only [Sem.run_pure, Result.andThen_ok, List.toList_toArray])
  rw [hk.check _ _ _ hok]
  simp only [Result.andThen_ok, Sem.run_bind]
  rw [hk.find k es w hok h.oks]
  simp only [Result.andThen_ok]
  unfold mget
  cases hm : mfind es k with
  | none => simp [he.zeroValue, pure, Sem.run]
  | some r => simp [pure, Sem.run]
theorem set_upd {o : Obj} : ({ w with heap := w.heap.setIfInBounds b o } : World) = upd w b o := rfl
theorem MapK.update (h : MapK kf ok w b es clock) (ht : TI P t (.map kt et) sz by_ z) (hk : KeyOK P kt kf ok) (hok : ok k) (v : Value) :
    muR P t (.map (some b)) (kf k) v w = .ok () (upd w b (.map ((mput es k v clock).map (mEnt kf)).toArray (mclock es k clock))) := by
  simp only [muR, Instr.mapUpdate, Sem.run_bind, ht.underlying, Result.andThen_ok, MapKept.run_getObj_map h.at_, List.toList_toArray]
  (try simp only [Sem.run_pure, Result.andThen_ok, List.toList_toArray])
  rw [hk.check _ _ _ hok]
  simp only [Result.andThen_ok, Sem.run_bind]
  rw [hk.find k es w hok h.oks]
  simp only [Result.andThen_ok]
  unfold mput mclock
  cases hm : mfind es k with
  | none =>
    simp only [Option.isSome_none, Bool.false_eq_true, if_false, MapKept.run_setObj_map _ h.at_]
    simp [set_upd, mEnt]
  | some r =>
    obtain ⟨i, u⟩ := r
    obtain ⟨_, bb, hi⟩ := mfindFrom_some hm
    rw [Nat.sub_zero] at hi
    have h1 : (((es.map (mEnt kf)).toArray[i]?).map (·.key)).getD (kf k) = kf k := by
      simp [hi, mEnt]
    simp only [Option.isSome_some, if_true, Sem.run_bind, h1, hk.stay k w hok, Result.andThen_ok, MapKept.run_setObj_map _ h.at_, set_upd]
    congr 3
    apply Array.ext_getElem?
    intro j
    simp only [Array.getElem?_modify, List.getElem?_toArray, List.getElem?_map, List.getElem?_modify]
    by_cases hj : i = j
    · subst hj; simp [hi, mEnt]
    · simp [hj]
theorem MapK.delete (h : MapK kf ok w b es clock) (ht : TI P t (.map kt et) sz by_ z) (hk : KeyOK P kt kf ok) (hok : ok k) :
    deR P t (.map (some b)) (kf k) w = .ok (.tuple #[]) (upd w b (.map ((mdel es k).map (mEnt kf)).toArray clock)) := by
  have e0 : (#[t, 0] : Array Nat)[0]? = some t := rfl
  simp only [deR, Builtin.delete_, List.getElem?_toArray, List.getElem?_cons_zero, List.getElem?_cons_succ, Sem.run_bind, ht.underlying, Result.andThen_ok, MapKept.run_getObj_map h.at_, List.toList_toArray]
  (try simp only [Sem.run_pure, Result.andThen_ok, List.toList_toArray])
  rw [hk.check _ _ _ hok]
  simp only [Result.andThen_ok, Sem.run_bind]
  rw [hk.find k es w hok h.oks]
  simp only [Result.andThen_ok]
  unfold mdel
  cases hm : mfind es k with
  | none => simp [MapKept.run_setObj_map _ h.at_, set_upd, pure, Sem.run]
  | some r =>
    obtain ⟨i, u⟩ := r
    obtain ⟨_, bb, hi⟩ := mfindFrom_some hm
    rw [Nat.sub_zero] at hi
    have hlt : i < es.length := (List.getElem?_eq_some_iff.1 hi).1
    have : (es.map (mEnt kf)).toArray.eraseIdxIfInBounds i = ((es.eraseIdx i).map (mEnt kf)).toArray := by
      rw [Array.eraseIdxIfInBounds, dif_pos (by simpa using hlt)]
      have e1 : (es.map (mEnt kf)).eraseIdx i = (es.eraseIdx i).map (mEnt kf) := by
        rw [List.eraseIdx_eq_take_drop_succ, List.eraseIdx_eq_take_drop_succ, List.map_append, List.map_take, List.map_drop]
      simp [e1]
    dsimp only
    rw [this]
    simp only [Sem.run_bind, MapKept.run_setObj_map _ h.at_, Result.andThen_ok, set_upd]
    rfl
end

/-! ### What is in a map behind each -/
section
variable {κ : Type} [DecidableEq κ] {kf : κ → Value} {ok : κ → Prop} {w w' : World} {b clock : Nat} {es : List (Ent κ)} {k j : κ} {v : Value}
theorem mfindFrom_mem {bb : Nat} : ∀ {es : List (Ent κ)} {i : Nat}, (es.map (·.1)).Nodup → (k, v, bb) ∈ es → ∃ m, mfindFrom k es i = some (m, v)
  | [], _, _, h => by cases h
  | e :: es, i, hn, h => by
    rw [List.map_cons, List.nodup_cons] at hn
    unfold mfindFrom
    rcases List.mem_cons.1 h with rfl | h
    · exact ⟨i, by simp⟩
    · have : e.1 ≠ k := fun e' => hn.1 (by rw [e']; exact List.mem_map.2 ⟨_, h, rfl⟩)
      rw [if_neg this]
      exact mfindFrom_mem hn.2 h
theorem mget_of_mem {bb : Nat} (hn : (es.map (·.1)).Nodup) (h : (k, v, bb) ∈ es) : mget es k = some v := by
  obtain ⟨m, hm⟩ := mfindFrom_mem (i := 0) hn h
  unfold mget mfind
  rw [hm]; rfl
theorem mget_some (h : mget es k = some v) : ∃ bb, (k, v, bb) ∈ es := by
  unfold mget at h
  obtain ⟨⟨i, u⟩, h1, h2⟩ := Option.map_eq_some_iff.1 h
  obtain ⟨_, bb, h3⟩ := mfindFrom_some h1
  cases h2
  exact ⟨bb, List.mem_iff_getElem?.2 ⟨_, h3⟩⟩
theorem mget_none : mget es k = none ↔ ∀ e ∈ es, e.1 ≠ k := by
  unfold mget
  rw [Option.map_eq_none_iff]
  exact mfindFrom_none
theorem mget_eq {es' : List (Ent κ)} (hn : (es.map (·.1)).Nodup) (h : ∀ u, (∃ bb, (k, u, bb) ∈ es') ↔ (∃ bb, (k, u, bb) ∈ es)) (hn' : (es'.map (·.1)).Nodup) : mget es' k = mget es k := by
  cases h1 : mget es k with
  | none =>
    rw [mget_none] at h1 ⊢
    intro e he hek
    obtain ⟨bb, hb⟩ := (h e.2.1).1 ⟨e.2.2, by rw [← hek]; exact he⟩
    exact h1 _ hb rfl
  | some u =>
    obtain ⟨bb, hb⟩ := (h u).2 (mget_some h1)
    exact mget_of_mem hn' hb

theorem mput_keys (hn : (es.map (·.1)).Nodup) : ((mput es k v clock).map (·.1)).Nodup := by
  unfold mput
  cases hm : mfind es k with
  | none =>
    rw [List.map_append, List.nodup_append]
    have := mfindFrom_none.1 hm
    refine ⟨hn, by simp, fun a ha c hc => ?_⟩
    obtain ⟨e, he, rfl⟩ := List.mem_map.1 ha
    simp only [List.map_cons, List.map_nil, List.mem_singleton] at hc
    subst hc
    exact this e he
  | some r =>
    obtain ⟨i, u⟩ := r
    obtain ⟨_, bb, hi⟩ := mfindFrom_some hm
    rw [Nat.sub_zero] at hi
    have : (es.modify i fun e => (k, v, e.2.2)).map (·.1) = es.map (·.1) := by
      apply List.ext_getElem?
      intro m
      rw [List.getElem?_map, List.getElem?_map, List.getElem?_modify]
      by_cases hm' : i = m
      · subst hm'; simp [hi]
      · simp [hm']
    show ((es.modify i fun e => (k, v, e.2.2)).map (·.1)).Nodup
    rw [this]; exact hn
theorem mput_mem {e : Ent κ} (hn : (es.map (·.1)).Nodup) : e ∈ mput es k v clock → (e ∈ es ∧ e.1 ≠ k) ∨ (e.1 = k ∧ e.2.1 = v ∧ ((∃ u, (k, u, e.2.2) ∈ es) ∨ e.2.2 = clock)) := by
  unfold mput
  cases hm : mfind es k with
  | none =>
    intro h
    rcases List.mem_append.1 h with h | h
    · exact .inl ⟨h, mfindFrom_none.1 hm e h⟩
    · rw [List.mem_singleton] at h
      subst h
      exact .inr ⟨rfl, rfl, .inr rfl⟩
  | some r =>
    obtain ⟨i, u⟩ := r
    obtain ⟨_, bb, hi⟩ := mfindFrom_some hm
    rw [Nat.sub_zero] at hi
    intro h
    have h' : e ∈ es.modify i fun e => (k, v, e.2.2) := h
    obtain ⟨m, hm'⟩ := List.mem_iff_getElem?.1 h'
    rw [List.getElem?_modify] at hm'
    by_cases him : i = m
    · subst him
      simp [hi] at hm'
      subst hm'
      exact .inr ⟨rfl, rfl, .inl ⟨u, List.mem_iff_getElem?.2 ⟨i, hi⟩⟩⟩
    · simp [him] at hm'
      refine .inl ⟨List.mem_iff_getElem?.2 ⟨m, hm'⟩, fun hek => him ?_⟩
      have h1 : (es.map (·.1))[i]? = some k := by rw [List.getElem?_map, hi]; rfl
      have h2 : (es.map (·.1))[m]? = some k := by rw [List.getElem?_map, hm', ← hek]; rfl
      have hlt : i < (es.map (·.1)).length := (List.getElem?_eq_some_iff.1 h1).1
      exact (List.getElem?_inj hlt hn).1 (h1.trans h2.symm)

theorem mput_mem' (hn : (es.map (·.1)).Nodup) : (∃ bb, (k, v, bb) ∈ mput es k v clock) ∧ ∀ e ∈ es, e.1 ≠ k → e ∈ mput es k v clock := by
  unfold mput
  cases hm : mfind es k with
  | none => exact ⟨⟨clock, by simp⟩, fun e he _ => by simp [he]⟩
  | some r =>
    obtain ⟨i, u⟩ := r
    obtain ⟨_, bb, hi⟩ := mfindFrom_some hm
    rw [Nat.sub_zero] at hi
    refine ⟨⟨bb, List.mem_iff_getElem?.2 ⟨i, ?_⟩⟩, fun e he hek => ?_⟩
    · show (es.modify i fun e => (k, v, e.2.2))[i]? = _
      rw [List.getElem?_modify]; simp [hi]
    · obtain ⟨m, hm'⟩ := List.mem_iff_getElem?.1 he
      have him : i ≠ m := fun h => by subst h; rw [hi] at hm'; cases hm'; exact hek rfl
      refine List.mem_iff_getElem?.2 ⟨m, ?_⟩
      show (es.modify i fun e => (k, v, e.2.2))[m]? = _
      rw [List.getElem?_modify]; simp [him, hm']
theorem mget_put (hn : (es.map (·.1)).Nodup) : mget (mput es k v clock) j = if j = k then some v else mget es j := by
  have hn' := mput_keys (v := v) (clock := clock) (k := k) hn
  by_cases hj : j = k
  · subst hj
    rw [if_pos rfl]
    obtain ⟨bb, hb⟩ := (mput_mem' (k := j) (v := v) (clock := clock) hn).1
    exact mget_of_mem hn' hb
  · rw [if_neg hj]
    refine mget_eq hn (fun u => ⟨fun ⟨bb, hb⟩ => ?_, fun ⟨bb, hb⟩ => ⟨bb, (mput_mem' hn).2 _ hb hj⟩⟩) hn'
    rcases mput_mem hn hb with h | ⟨h, _⟩
    · exact ⟨bb, h.1⟩
    · exact absurd h hj
theorem mdel_mem (hn : (es.map (·.1)).Nodup) {e : Ent κ} : e ∈ mdel es k ↔ e ∈ es ∧ e.1 ≠ k := by
  unfold mdel
  cases hm : mfind es k with
  | none =>
    have := mfindFrom_none.1 hm
    exact ⟨fun h => ⟨h, this e h⟩, fun h => h.1⟩
  | some r =>
    obtain ⟨i, u⟩ := r
    obtain ⟨_, bb, hi⟩ := mfindFrom_some hm
    rw [Nat.sub_zero] at hi
    show e ∈ es.eraseIdx i ↔ _
    rw [List.mem_eraseIdx_iff_getElem?]
    constructor
    · rintro ⟨m, him, hm'⟩
      refine ⟨List.mem_iff_getElem?.2 ⟨m, hm'⟩, fun hek => him ?_⟩
      have h1 : (es.map (·.1))[i]? = some k := by rw [List.getElem?_map, hi]; rfl
      have h2 : (es.map (·.1))[m]? = some k := by rw [List.getElem?_map, hm', ← hek]; rfl
      have hlt : m < (es.map (·.1)).length := (List.getElem?_eq_some_iff.1 h2).1
      exact (List.getElem?_inj hlt hn).1 (h2.trans h1.symm)
    · rintro ⟨h1, h2⟩
      obtain ⟨m, hm'⟩ := List.mem_iff_getElem?.1 h1
      exact ⟨m, fun h => by subst h; rw [hi] at hm'; cases hm'; exact h2 rfl, hm'⟩
theorem mdel_sub : (mdel es k).Sublist es := by
  unfold mdel
  split
  · exact List.eraseIdx_sublist ..
  · exact List.Sublist.refl _
theorem mdel_keys (hn : (es.map (·.1)).Nodup) : ((mdel es k).map (·.1)).Nodup := hn.sublist (mdel_sub.map _)
theorem mget_del (hn : (es.map (·.1)).Nodup) : mget (mdel es k) j = if j = k then none else mget es j := by
  by_cases hj : j = k
  · subst hj
    rw [if_pos rfl, mget_none]
    exact fun e he => ((mdel_mem hn).1 he).2
  · rw [if_neg hj]
    exact mget_eq hn (fun u => ⟨fun ⟨bb, hb⟩ => ⟨bb, ((mdel_mem hn).1 hb).1⟩, fun ⟨bb, hb⟩ => ⟨bb, (mdel_mem hn).2 ⟨hb, hj⟩⟩⟩) (mdel_keys hn)

theorem MapK.put (h : MapK kf ok w b es clock) (hok : ok k) : MapK kf ok (upd w b (.map ((mput es k v clock).map (mEnt kf)).toArray (mclock es k clock))) b (mput es k v clock) (mclock es k clock) := by
  refine ⟨upd_same (lt_of_heap h.at_), mput_keys h.keys, fun e he => ?_, fun e he => ?_, ?_⟩
  · rcases mput_mem h.keys he with h' | h'
    · exact h.oks e h'.1
    · rw [h'.1]; exact hok
  · have hc : clock ≤ mclock es k clock := by unfold mclock; split <;> omega
    rcases mput_mem h.keys he with h' | ⟨_, _, h' | h'⟩
    · exact Nat.lt_of_lt_of_le (h.born e h'.1) hc
    · obtain ⟨u, hu⟩ := h'
      have := h.born _ hu
      exact Nat.lt_of_lt_of_le this hc
    · have hnone : mfind es k = none := by
        cases hm : mfind es k with
        | none => rfl
        | some r =>
          exfalso
          obtain ⟨i, u⟩ := r
          unfold mput at he
          rw [hm] at he
          obtain ⟨m, hm'⟩ := List.mem_iff_getElem?.1 he
          have hm2 : (es.modify i fun e => (k, v, e.2.2))[m]? = some e := hm'
          rw [List.getElem?_modify] at hm2
          obtain ⟨e0, he0, he1⟩ := Option.map_eq_some_iff.1 hm2
          have := h.born e0 (List.mem_iff_getElem?.2 ⟨m, he0⟩)
          have e2 : e.2.2 = e0.2.2 := by rw [← he1]; split <;> rfl
          omega
      unfold mclock
      rw [hnone]; simp; omega
  · unfold mput
    cases hm : mfind es k with
    | none =>
      show ((es ++ [(k, v, clock)]).map (·.2.2)).Nodup
      rw [List.map_append, List.nodup_append]
      refine ⟨h.borns, by simp, fun x hx y hy => ?_⟩
      obtain ⟨e, he, rfl⟩ := List.mem_map.1 hx
      simp only [List.map_cons, List.map_nil, List.mem_singleton] at hy
      subst hy
      have := h.born e he
      omega
    | some r =>
      obtain ⟨i, u⟩ := r
      have : (es.modify i fun e => (k, v, e.2.2)).map (·.2.2) = es.map (·.2.2) := by
        apply List.ext_getElem?
        intro m
        rw [List.getElem?_map, List.getElem?_map, List.getElem?_modify]
        cases es[m]? with
        | none => rfl
        | some e => by_cases hm' : i = m <;> simp [hm']
      show ((es.modify i fun e => (k, v, e.2.2)).map (·.2.2)).Nodup
      rw [this]; exact h.borns
theorem MapK.del (h : MapK kf ok w b es clock) : MapK kf ok (upd w b (.map ((mdel es k).map (mEnt kf)).toArray clock)) b (mdel es k) clock :=
  ⟨upd_same (lt_of_heap h.at_), mdel_keys h.keys, fun e he => h.oks e (mdel_sub.mem he), fun e he => h.born e (mdel_sub.mem he), h.borns.sublist (mdel_sub.map _)⟩
theorem MapK.keep (h : MapK kf ok w b es clock) (hk : w'.heap[b]? = w.heap[b]?) : MapK kf ok w' b es clock := ⟨by rw [hk]; exact h.at_, h.keys, h.oks, h.born, h.borns⟩
theorem MapK.new (w : World) : MapK kf ok (w.alloc (.map #[] 0)) w.heap.size [] 0 := ⟨alloc_new, List.nodup_nil, fun e h => (by cases h), fun e h => (by cases h), List.nodup_nil⟩
end

/-! ### Keys that are numbers -/
theorem int_keys {P : Program} {kt : TypeId} {kk : IntKind} (hd : P.underlying kt = some (.int kk)) : KeyOK P kt (fun k : Int => Value.int kk k) (fun _ => True) := by
  have fn : ∀ (k : Int) (es : List (Ent Int)) (i : Nat), Instr.findNow (.int kk) (.int kk k) (es.map (mEnt fun k : Int => Value.int kk k)) i = some (mfindFrom k es i) := by
    intro k es
    induction es with
    | nil => intro i; rfl
    | cons e es ih =>
      intro i
      simp only [List.map_cons, Instr.findNow, mEnt, Instr.sameNow, if_true, mfindFrom]
      by_cases he : e.1 = k
      · subst he; simp
      · have hb : (k == e.1) = false := beq_eq_false_iff_ne.2 (fun h => he h.symm)
        simp only [hb, if_neg he]
        exact ih (i + 1)
  refine ⟨fun e k w _ => ?_, fun k es w _ _ => ?_, fun k w _ => ?_⟩
  · exact MapKept.run_checkKey hd (n := 9999) (by simp [MapKept.IsKey]) e
  · exact MapKept.run_findKey hd (fn k es 0)
  · exact MapKept.run_keyThatStays (d := .int kk) (by simp [MapKept.IsKey])
end Go.Bx
