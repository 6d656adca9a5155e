/- Maps by their blocks: what is looked up, laid, and counted, the block known. No program is in sight. -/
import Derived.Test.YtghcmogbmaedfaaBw
namespace Go.Bx
open Go
set_option linter.unusedSimpArgs false
set_option linter.unusedVariables false

def luO (P : Program) (t : TypeId) (b : Nat) (k : Value) (c : Bool) (w : World) (ob : Option Obj) (_ : w.heap[b]? = ob) : Result Value := luR P t (.map (some b)) k c w
def muO (P : Program) (t : TypeId) (b : Nat) (k v : Value) (w : World) (ob : Option Obj) (_ : w.heap[b]? = ob) : Result Unit := muR P t (.map (some b)) k v w
def meR (P : Program) (t : TypeId) (a k : Value) (w : World) : Result Value := (Instr.mapEntry t a k).run P w
def meO (P : Program) (t : TypeId) (b : Nat) (k : Value) (w : World) (ob : Option Obj) (_ : w.heap[b]? = ob) : Result Value := meR P t (.map (some b)) k w
def esR (P : Program) (t : TypeId) (a s v : Value) (w : World) : Result Unit := (Instr.entryStore t a s v).run P w
def esO (P : Program) (t : TypeId) (b : Nat) (s v : Value) (w : World) (ob : Option Obj) (_ : w.heap[b]? = ob) : Result Unit := esR P t (.map (some b)) s v w
def lnO (P : Program) (t : TypeId) (b : Nat) (w : World) (ob : Option Obj) (_ : w.heap[b]? = ob) : Result Value := lnR P t (.map (some b)) w
section
variable {P : Program} {t ty : TypeId} {e : Env} {w : World} {x y z : Operand} {b : Nat} {k v : Value} {c : Bool}
theorem rG_mapEntry : rG P (.mapEntry t x y) ty e w = vR (meR P t (ev e x) (ev e y) w) := run_v _
theorem rG_entryStore : rG P (.entryStore t x y z) ty e w = uR (esR P t (ev e x) (ev e y) (ev e z) w) := run_u _
theorem luR_map : luR P t (.map (some b)) k c w = luO P t b k c w (w.heap[b]?) rfl := rfl
theorem muR_map : muR P t (.map (some b)) k v w = muO P t b k v w (w.heap[b]?) rfl := rfl
theorem meR_map : meR P t (.map (some b)) k w = meO P t b k w (w.heap[b]?) rfl := rfl
theorem esR_map {s : Value} : esR P t (.map (some b)) s v w = esO P t b s v w (w.heap[b]?) rfl := rfl
theorem lnR_map : lnR P t (.map (some b)) w = lnO P t b w (w.heap[b]?) rfl := rfl
end
attribute [push_cast] rG_mapEntry rG_entryStore luR_map muR_map meR_map esR_map lnR_map

/-- What is so of a map's entries. -/
structure MInv {κ : Type} (es : List (Ent κ)) (clock : Nat) : Prop where
  keys : (es.map (·.1)).Nodup
  born : ∀ e ∈ es, e.2.2 < clock
  borns : (es.map (·.2.2)).Nodup
theorem MInv.nil {κ : Type} : MInv ([] : List (Ent κ)) 0 := ⟨List.nodup_nil, fun _ h => (by cases h), List.nodup_nil⟩

section
variable {κ : Type} [DecidableEq κ] {kf : κ → Value} {ok : κ → Prop} {P : Program} {w w' : World} {t kt et b clock sz by_ s2 b2 : Nat} {z zv : Value} {de : TypeDesc} {es : List (Ent κ)} {k : κ}
/-- The map's block. -/
abbrev mObj (kf : κ → Value) (es : List (Ent κ)) (clock : Nat) : Obj := .map (es.map (mEnt kf)).toArray clock
theorem MInv.put (h : MInv es clock) (k : κ) (v : Value) : MInv (mput es k v clock) (mclock es k clock) := by
  have hM : MapK (fun _ : κ => Value.bool true) (fun _ => True) ((default : World).alloc (mObj (fun _ : κ => Value.bool true) es clock)) (default : World).heap.size es clock := ⟨alloc_new, h.keys, fun _ _ => trivial, h.born, h.borns⟩
  have := hM.put (k := k) (v := v) trivial
  exact ⟨this.keys, this.born, this.borns⟩
/-- The stamp of a key's entry, as it is or would be. -/
def stampOf (es : List (Ent κ)) (k : κ) (clock : Nat) : Nat := match mfind es k with
  | some (i, _) => ((es[i]?).map (·.2.2)).getD 0
  | none => clock
theorem lookup_at (hb : w.heap[b]? = some (mObj kf es clock)) (ht : TI P t (.map kt et) sz by_ z) (he : TI P et de s2 b2 zv) (hk : KeyOK P kt kf ok) (hok : ok k) (hall : ∀ e ∈ es, ok e.1) (c : Bool) :
    luR P t (.map (some b)) (kf k) c w = .ok (if c then .tuple #[(mget es k).getD zv, .bool (mget es k).isSome] else (mget es k).getD zv) w := by
  simp only [luR, Instr.lookup, Sem.run_bind, ht.underlying, Result.andThen_ok, MapKept.run_getObj_map hb, List.toList_toArray]
  (try simp only [Sem.run_pure, Result.andThen_ok, List.toList_toArray])
  rw [hk.check _ _ _ hok]
  simp only [Result.andThen_ok, Sem.run_bind]
  rw [hk.find k es w hok hall]
  simp only [Result.andThen_ok]
  unfold mget
  cases hm : mfind es k with
  | none => cases c <;> simp [he.zeroValue, pure, Sem.run]
  | some r => cases c <;> simp [pure, Sem.run]
theorem update_at (hb : w.heap[b]? = some (mObj kf es clock)) (ht : TI P t (.map kt et) sz by_ z) (hk : KeyOK P kt kf ok) (hok : ok k) (hall : ∀ e ∈ es, ok e.1) (v : Value) :
    muR P t (.map (some b)) (kf k) v w = .ok () (upd w b (mObj kf (mput es k v clock) (mclock es k clock))) := by
  simp only [muR, Instr.mapUpdate, Sem.run_bind, ht.underlying, Result.andThen_ok, MapKept.run_getObj_map hb, List.toList_toArray]
  (try simp only [Sem.run_pure, Result.andThen_ok, List.toList_toArray])
  rw [hk.check _ _ _ hok]
  simp only [Result.andThen_ok, Sem.run_bind]
  rw [hk.find k es w hok hall]
  simp only [Result.andThen_ok]
  unfold mput mclock
  cases hm : mfind es k with
  | none =>
    simp only [Option.isSome_none, Bool.false_eq_true, if_false, MapKept.run_setObj_map _ hb]
    simp [set_upd, mEnt, mObj]
  | some r =>
    obtain ⟨i, u⟩ := r
    obtain ⟨_, bb, hi⟩ := mfindFrom_some hm
    rw [Nat.sub_zero] at hi
    have h1 : (((es.map (mEnt kf)).toArray[i]?).map (·.key)).getD (kf k) = kf k := by
      simp [hi, mEnt]
    simp only [Option.isSome_some, if_true, Sem.run_bind, h1, hk.stay k w hok, Result.andThen_ok, MapKept.run_setObj_map _ hb, set_upd]
    congr 3
    apply Array.ext_getElem?
    intro j
    simp only [Array.getElem?_modify, List.getElem?_toArray, List.getElem?_map, List.getElem?_modify]
    by_cases hj : i = j
    · subst hj; simp [hi, mEnt]
    · simp [hj]
theorem entry_at (hb : w.heap[b]? = some (mObj kf es clock)) (ht : TI P t (.map kt et) sz by_ z) (he : TI P et de s2 b2 zv) (hk : KeyOK P kt kf ok) (hok : ok k) (hall : ∀ e ∈ es, ok e.1) :
    meR P t (.map (some b)) (kf k) w = .ok (.tuple #[(mget es k).getD zv, .int .i64 (stampOf es k clock)]) (upd w b (mObj kf (mput es k ((mget es k).getD zv) clock) (mclock es k clock))) := by
  simp only [meR, Instr.mapEntry, Sem.run_bind, ht.underlying, Result.andThen_ok, MapKept.run_getObj_map hb, List.toList_toArray]
  (try simp only [Sem.run_pure, Result.andThen_ok, List.toList_toArray])
  rw [hk.check _ _ _ hok]
  simp only [Result.andThen_ok, Sem.run_bind]
  rw [hk.find k es w hok hall]
  simp only [Result.andThen_ok]
  unfold mput mclock mget stampOf
  cases hm : mfind es k with
  | none =>
    simp only [Option.isSome_none, Bool.false_eq_true, if_false, Sem.run_bind, he.zeroValue, Result.andThen_ok, MapKept.run_setObj_map _ hb, Option.map_none, Option.getD_none]
    simp [set_upd, mEnt, mObj, goInt, pure, Sem.run]
  | some r =>
    obtain ⟨i, u⟩ := r
    obtain ⟨_, bb, hi⟩ := mfindFrom_some hm
    rw [Nat.sub_zero] at hi
    have h1 : (((es.map (mEnt kf)).toArray[i]?).map (·.key)).getD (kf k) = kf k := by
      simp [hi, mEnt]
    simp only [Option.isSome_some, if_true, Sem.run_bind, h1, hk.stay k w hok, Result.andThen_ok, MapKept.run_setObj_map _ hb, set_upd, Option.map_some, Option.getD_some, pure, Sem.run]
    have e1 : (((es.map (mEnt kf)).toArray.modify i fun e => { e with key := kf k }) : Array MapEntry) = ((es.modify i fun e => (k, u, e.2.2)).map (mEnt kf)).toArray := by
      apply Array.ext_getElem?
      intro j
      simp only [Array.getElem?_modify, List.getElem?_toArray, List.getElem?_map, List.getElem?_modify]
      by_cases hj : i = j
      · subst hj; simp [hi, mEnt]
      · simp [hj]
    rw [e1]
    simp [hi, mEnt, goInt]
/-- An entry's value is laid by its stamp. -/
theorem store_at {u v : Value} (h : MInv es clock) (hb : w.heap[b]? = some (mObj kf (mput es k u clock) (mclock es k clock))) :
    esR P t (.map (some b)) (.int .i64 (stampOf es k clock)) v w = .ok () (upd w b (mObj kf (mput es k v clock) (mclock es k clock))) := by
  have run_asInt : ∀ n : Int, (asInt (.int .i64 n)).run P w = .ok n w := fun n => rfl
  simp only [esR, Instr.entryStore, Sem.run_bind, Result.andThen_ok, MapKept.run_getObj_map hb, run_asInt]
  have key : ∃ i, ((mput es k u clock).map (mEnt kf)).toArray.findIdx? (fun e => (e.born : Int) == ((stampOf es k clock : Nat) : Int)) = some i ∧
      (((mput es k u clock).map (mEnt kf)).toArray.modify i fun e => { e with val := v }) = ((mput es k v clock).map (mEnt kf)).toArray := by
    have hp : ∀ (a c : Nat), (((a : Int) == (c : Int)) = true) ↔ a = c := fun a c => by simp only [beq_iff_eq]; omega
    unfold mput stampOf
    cases hm : mfind es k with
    | none =>
      refine ⟨es.length, ?_, ?_⟩
      · rw [List.findIdx?_toArray, List.findIdx?_eq_some_iff_getElem]
        refine ⟨by simp, by simp [mEnt], fun j hj => ?_⟩
        have hj' : j < es.length := hj
        have := h.born (es[j]) (List.getElem_mem hj')
        simp only [List.getElem_map, mEnt]
        rw [List.getElem_append_left hj']
        intro hc
        have := (hp _ _).1 hc
        omega
      · apply Array.ext_getElem?
        intro j
        simp only [Array.getElem?_modify, List.getElem?_toArray, List.getElem?_map]
        by_cases hj : es.length = j
        · subst hj; simp [mEnt]
        · rw [if_neg hj]
          rcases Nat.lt_or_ge j es.length with hl | hl
          · rw [List.getElem?_append_left hl, List.getElem?_append_left hl]
          · rw [List.getElem?_eq_none (by simp; omega), List.getElem?_eq_none (by simp; omega)]
    | some r =>
      obtain ⟨i, x⟩ := r
      obtain ⟨_, bb, hi⟩ := mfindFrom_some hm
      rw [Nat.sub_zero] at hi
      have hil := (List.getElem?_eq_some_iff.1 hi).1
      have hib : es[i] = (k, x, bb) := (List.getElem?_eq_some_iff.1 hi).2
      have hst : ((es[i]?).map (·.2.2)).getD 0 = bb := by rw [hi]; rfl
      refine ⟨i, ?_, ?_⟩
      · rw [List.findIdx?_toArray, List.findIdx?_eq_some_iff_getElem]
        refine ⟨by simpa using hil, ?_, fun j hj => ?_⟩
        · simp [hst, mEnt, hib]
        · simp only [hst, List.getElem_map, mEnt]
          rw [List.getElem_modify]
          have hne : ¬ i = j := by omega
          rw [if_neg hne]
          intro hc
          have hjb := (hp _ _).1 hc
          have hnd := h.borns
          have hjl : j < es.length := by omega
          have e1 : (es.map (·.2.2))[j]'(by simpa using hjl) = (es.map (·.2.2))[i]'(by simpa using hil) := by
            simp only [List.getElem_map, hib]; exact hjb
          have := (List.getElem_inj hnd).1 e1
          omega
      · apply Array.ext_getElem?
        intro j
        simp only [Array.getElem?_modify, List.getElem?_toArray, List.getElem?_map, List.getElem?_modify]
        by_cases hj : i = j
        · subst hj; simp [hi, mEnt]
        · simp [hj]
  obtain ⟨i, h1, h2⟩ := key
  rw [h1]
  simp only [MapKept.run_setObj_map _ hb]
  rw [h2]; rfl
omit [DecidableEq κ] in
theorem len_at (hb : w.heap[b]? = some (mObj kf es clock)) (ht : TI P t (.map kt et) sz by_ z) : lnR P t (.map (some b)) w = .ok (.int .i64 (es.length : Nat)) w := by
  simp only [lnR, Builtin.len_, List.getElem?_toArray, List.getElem?_cons_zero, Sem.run_bind, ht.underlying, Result.andThen_ok, MapKept.run_getObj_map hb]
  simp [goInt, pure, Sem.run]
end
attribute [push_cast] Option.getD_some Option.getD_none
end Go.Bx
