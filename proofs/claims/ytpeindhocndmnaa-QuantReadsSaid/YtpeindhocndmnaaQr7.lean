/- ReadB2, BxRel, BxRel2, ReadT, CaI, PcO, Law09, BxCut, Law09b, Law10, Law10b, MpI, QuI, Qu2, QuP, Law11, SupP, SoK, RdR, QuW, EmpP, Law11c: texts of this work, one behind the other. -/
import Derived.Test.YtpeindhocndmnaaQr6
import Derived.Shelf.Small.Bits
import Derived.Shelf.Sort.Plain
import Derived.Sort.OwnSortedInts
namespace Go.Proofs.Ytpeindhocndmnaa
open Go Go.Bx
set_option linter.unusedSimpArgs false
set_option linter.unusedVariables false
set_option maxRecDepth 100000
set_option maxHeartbeats 4000000
attribute [local irreducible] X XO XE XF XD XW thenX inX retX kN CallsR
theorem rG_insert {t ty : TypeId} {e : Env} {w : World} {x y z : Operand} : rG Try.prog (.insert t x y z) ty e w = uR (muR Try.prog t (ev e x) (ev e y) (ev e z) w) := run_u _
attribute [push_cast] rG_insert
theorem sc_ {bs : Bigs} {c : Code} {g : GCode} {Q : Exit → Env → World → Prop} {e : Env} {w : World} (h : X Try.prog g Q e w)
    (hg : cs bs c .skip = g := by (simp only [cs, gop, gslot, dops, bigOf, setK, drawOf, drawOf2, dopsW, setW, dopsR, setR, kindOf, List.lookup, List.map_cons, List.map_nil, Option.bind_some, List.getElem?_toArray, List.getElem?_cons_zero, List.getElem?_cons_succ, Option.getD_some, Option.getD_none, List.contains_nil, List.contains_cons, Bool.false_eq_true, ↓reduceIte, Nat.reduceAdd, Nat.reduceBEq, Bool.or_false, Bool.or_true, Bool.true_or] <;> rfl)) : X Try.prog (comp bs c) Q e w := X_comp (hg ▸ h)
def Nb1 (C0 C1 : Fun8) (p m : Nat) (u : World) (q3 q5 q6 q7 q8 q9 : Bool) (x8 x11 x12 x13 x6 : Value) : Prop :=
  ∃ (b ck : Nat) (es : List (Ent Fun8)), x8 = .map (some b) ∧ m ≤ b ∧ u.heap[b]? = some (mObj fv es ck) ∧ MInv es ck ∧ (∀ x ∈ es, (x.1 = C0 ∧ x.2.1 = .int .i64 0) ∨ (x.1 = C1 ∧ x.2.1 = .int .i64 1)) ∧ (q3 = true → mget es C0 ≠ none) ∧ (q5 = true → mget es C1 ≠ none) ∧
    (q6 = true → x11 = .map (some b)) ∧ (q7 = true → x12 = .agg #[.pointer (some ⟨p, 0, none⟩), .map (some b)]) ∧ (q8 = true → ∃ bb, x13 = .pointer (some ⟨bb, 0, none⟩) ∧ m ≤ bb ∧ u.heap[bb]? = some (.cells #[.pointer (some ⟨p, 0, none⟩), .map (some b)] 139) ∧ (q9 = true → x6 = .pointer (some ⟨bb, 0, none⟩)))
section
variable {C0 C1 : Fun8} {p b3 m : Nat} {w u u' : World} {q3 q5 q6 q7 q8 q9 : Bool} {x8 x11 x12 x13 x6 : Value} {S : Nat → Bool} {e : Env}
theorem Nb1.ext (h : Nb1 C0 C1 p m u q3 q5 q6 q7 q8 q9 x8 x11 x12 x13 x6) (hE : Ext u u') : Nb1 C0 C1 p m u' q3 q5 q6 q7 q8 q9 x8 x11 x12 x13 x6 := by
  obtain ⟨b, ck, es, h1, h2, h3, h4, h5, h6, h7, h8, h9, h10⟩ := h
  exact ⟨b, ck, es, h1, h2, hE.at h3, h4, h5, h6, h7, h8, h9, fun h => by obtain ⟨bb, k1, k2, k3, k4⟩ := h10 h; exact ⟨bb, k1, k2, hE.at k3, k4⟩⟩
structure NbI (C0 C1 : Fun8) (p b3 : Nat) (w : World) (S : Nat → Bool) (e : Env) (u : World) : Prop where
  ext : Ext w u
  e0 : e 0 = .pointer (some ⟨p, 0, none⟩)
  e3 : e 3 = .pointer (some ⟨b3, 0, none⟩)
  s0 : S 0 = true → e 7 = .pointer (some ⟨p, 0, none⟩)
  s1 : S 1 = true → Nb1 C0 C1 p w.heap.size u (S 3) (S 5) (S 6) (S 7) (S 8) (S 9) (e 8) (e 11) (e 12) (e 13) (e 6)
  s2 : S 2 = true → e 9 = fv C0
  s4 : S 4 = true → e 10 = fv C1
  cl : S 1 = false → S 3 = false ∧ S 5 = false ∧ S 6 = false ∧ S 7 = false ∧ S 8 = false ∧ S 9 = false
  c9 : S 8 = false → S 9 = false
theorem Nb1.ins {k : Fun8} {v : Value} {b ck : Nat} {es : List (Ent Fun8)} (h2 : m ≤ b) (h3 : u.heap[b]? = some (mObj fv es ck)) (h4 : MInv es ck) (h5 : ∀ x ∈ es, (x.1 = C0 ∧ x.2.1 = .int .i64 0) ∨ (x.1 = C1 ∧ x.2.1 = .int .i64 1)) (h6 : q3 = true → mget es C0 ≠ none) (h7 : q5 = true → mget es C1 ≠ none)
    (h8 : q6 = true → x11 = .map (some b)) (h9 : q7 = true → x12 = .agg #[.pointer (some ⟨p, 0, none⟩), .map (some b)]) (h10 : q8 = true → ∃ bb, x13 = .pointer (some ⟨bb, 0, none⟩) ∧ m ≤ bb ∧ u.heap[bb]? = some (.cells #[.pointer (some ⟨p, 0, none⟩), .map (some b)] 139) ∧ (q9 = true → x6 = .pointer (some ⟨bb, 0, none⟩)))
    (hv : (k = C0 ∧ v = .int .i64 0) ∨ (k = C1 ∧ v = .int .i64 1)) {r3 r5 : Bool} (hr3 : r3 = true → q3 = true ∨ k = C0) (hr5 : r5 = true → q5 = true ∨ k = C1) :
    Nb1 C0 C1 p m (upd u b (mObj fv (mput es k v ck) (mclock es k ck))) r3 r5 q6 q7 q8 q9 (.map (some b)) x11 x12 x13 x6 := by
  have hb := lt_of_heap h3
  have hg : ∀ j, (mget es j ≠ none ∨ k = j) → mget (mput es k v ck) j ≠ none := fun j hj => by
    rw [mget_put h4.keys]
    by_cases e : j = k
    · rw [if_pos e]; simp
    · rw [if_neg e]; exact hj.elim id fun h => absurd h.symm e
  refine ⟨b, mclock es k ck, mput es k v ck, rfl, h2, upd_same hb, h4.put k v, fun x hx => ?_, fun h => hg C0 ((hr3 h).imp h6 id), fun h => hg C1 ((hr5 h).imp h7 id), h8, h9, fun h => ?_⟩
  · rcases mput_mem h4.keys hx with ⟨h1, _⟩ | ⟨h1, h2, _⟩
    · exact h5 x h1
    · rw [h1, h2]; exact hv
  · obtain ⟨bb, k1, k2, k3, k4⟩ := h10 h
    refine ⟨bb, k1, k2, ?_, k4⟩
    rw [upd_other fun e => by subst e; rw [h3] at k3; cases k3]; exact k3
theorem nbI_any (C0 C1 : Fun8) (p b3 : Nat) (w : World) (c0 : ∀ u, CallsR Try.prog 99 #[.bool false] u fun r u' => r = fv C0 ∧ Ext u u') (c1 : ∀ u, CallsR Try.prog 99 #[.bool true] u fun r u' => r = fv C1 ∧ Ext u u') {c2 : Code} {id : Nat} {ops : Array Oper} {x0 : Code}
    (hb : Try.f33.body = some (.seq x0 (.seq (.region id ops true) c2))) : AnyO Try.prog ops (NbI C0 C1 p b3 w) := by
  cases hb
  intro S j o hj hS haf e u hI
  rcases j with _ | _ | _ | _ | _ | _ | _ | _ | _ | _ | j
  · simp only [List.getElem?_toArray, List.getElem?_cons_succ, List.getElem?_cons_zero, Option.some.injEq, Nat.zero_add, Nat.reduceAdd] at hj
    subst hj
    refine ⟨trivial, ?_⟩
    rw [XV_rG]
    have e0 := hI.e0
    refine krA ?_
    refine kv ?_
    exact ⟨hI.ext, by simpa [Env.put, Env.set] using hI.e0, by simpa [Env.put, Env.set] using hI.e3, fun _ => by simp [Env.put, Env.set], fun hs => by have := hI.s1 (by simpa using hs); simpa [Env.put, Env.set] using this, fun hs => by have := hI.s2 (by simpa using hs); simpa [Env.put, Env.set] using this, fun hs => by have := hI.s4 (by simpa using hs); simpa [Env.put, Env.set] using this, fun hs => by have := hI.cl (by simpa using hs); simpa using this, fun hs => by have := hI.c9 (by simpa using hs); simpa using this⟩
  · simp only [List.getElem?_toArray, List.getElem?_cons_succ, List.getElem?_cons_zero, Option.some.injEq, Nat.zero_add, Nat.reduceAdd] at hj
    subst hj
    refine ⟨trivial, ?_⟩
    rw [XV_rG]
    rw [rG_makeMap]
    refine kv ?_
    have hc := hI.cl hS
    have hE : Ext u (u.alloc (.map #[] 0)) := ext_
    exact ⟨hI.ext.trans hE, by simpa [Env.put, Env.set] using hI.e0, by simpa [Env.put, Env.set] using hI.e3, fun hs => by have := hI.s0 (by simpa using hs); simpa [Env.put, Env.set] using this, fun _ => ⟨u.heap.size, 0, [], by simp [Env.put, Env.set], hI.ext.size, alloc_new, MInv.nil, fun x hx => (by cases hx), fun h => by simp [hc.1] at h, fun h => by simp [hc.2.1] at h, fun h => by simp [hc.2.2.1] at h, fun h => by simp [hc.2.2.2.1] at h, fun h => by simp [hc.2.2.2.2.1] at h⟩, fun hs => by have := hI.s2 (by simpa using hs); simpa [Env.put, Env.set] using this, fun hs => by have := hI.s4 (by simpa using hs); simpa [Env.put, Env.set] using this, fun hs => by simp at hs, fun hs => by have := hI.c9 (by simpa using hs); simpa using this⟩
  · simp only [List.getElem?_toArray, List.getElem?_cons_succ, List.getElem?_cons_zero, Option.some.injEq, Nat.zero_add, Nat.reduceAdd] at hj
    subst hj
    refine ⟨trivial, ?_⟩
    rw [XV_rG]
    refine krA ?_
    refine ke ?_
    refine (c0 u).mono ?_
    rintro _ u' ⟨rfl, hE⟩
    exact ⟨hI.ext.trans hE, by simpa [Env.put, Env.set] using hI.e0, by simpa [Env.put, Env.set] using hI.e3, fun hs => by have := hI.s0 (by simpa using hs); simpa [Env.put, Env.set] using this, fun hs => by have := (hI.s1 (by simpa using hs)).ext hE; simpa [Env.put, Env.set] using this, fun _ => by simp [Env.put, Env.set], fun hs => by have := hI.s4 (by simpa using hs); simpa [Env.put, Env.set] using this, fun hs => by have := hI.cl (by simpa using hs); simpa using this, fun hs => by have := hI.c9 (by simpa using hs); simpa using this⟩
  · simp only [List.getElem?_toArray, List.getElem?_cons_succ, List.getElem?_cons_zero, Option.some.injEq, Nat.zero_add, Nat.reduceAdd] at hj
    subst hj
    refine ⟨trivial, ?_⟩
    rw [XV_rG]
    have h1 : S 1 = true := haf ⟨1, .data⟩ (by simp) rfl
    have h2 : S 2 = true := haf ⟨2, .data⟩ (by simp) rfl
    have hk := hI.s2 h2
    obtain ⟨b, ck, es, k1, k2, k3, k4, k5, k6, k7, k8, k9, k10⟩ := hI.s1 h1
    have hbl := lt_of_heap k3
    refine krA ?_
    refine ks ?_
    refine ⟨hI.ext.upd k2 _, hI.e0, hI.e3, fun hs => hI.s0 (by simpa using hs), fun _ => ?_, fun hs => hI.s2 (by simpa using hs), fun hs => hI.s4 (by simpa using hs), fun hs => ?_, fun hs => ?_⟩
    · have := Nb1.ins (k := C0) (v := .int .i64 0) (r3 := true) (r5 := S 5) k2 k3 k4 k5 k6 k7 k8 k9 k10 (.inl ⟨rfl, rfl⟩) (fun _ => .inr rfl) (fun h => .inl h)
      simpa [Env.put, k1] using this
    · simp [h1] at hs
    · have := hI.c9 (by simpa using hs)
      simpa using this
  · simp only [List.getElem?_toArray, List.getElem?_cons_succ, List.getElem?_cons_zero, Option.some.injEq, Nat.zero_add, Nat.reduceAdd] at hj
    subst hj
    refine ⟨trivial, ?_⟩
    rw [XV_rG]
    refine krA ?_
    refine ke ?_
    refine (c1 u).mono ?_
    rintro _ u' ⟨rfl, hE⟩
    exact ⟨hI.ext.trans hE, by simpa [Env.put, Env.set] using hI.e0, by simpa [Env.put, Env.set] using hI.e3, fun hs => by have := hI.s0 (by simpa using hs); simpa [Env.put, Env.set] using this, fun hs => by have := (hI.s1 (by simpa using hs)).ext hE; simpa [Env.put, Env.set] using this, fun hs => by have := hI.s2 (by simpa using hs); simpa [Env.put, Env.set] using this, fun _ => by simp [Env.put, Env.set], fun hs => by have := hI.cl (by simpa using hs); simpa using this, fun hs => by have := hI.c9 (by simpa using hs); simpa using this⟩
  · simp only [List.getElem?_toArray, List.getElem?_cons_succ, List.getElem?_cons_zero, Option.some.injEq, Nat.zero_add, Nat.reduceAdd] at hj
    subst hj
    refine ⟨trivial, ?_⟩
    rw [XV_rG]
    have h1 : S 1 = true := haf ⟨1, .data⟩ (by simp) rfl
    have h2 : S 4 = true := haf ⟨4, .data⟩ (by simp) rfl
    have hk := hI.s4 h2
    obtain ⟨b, ck, es, k1, k2, k3, k4, k5, k6, k7, k8, k9, k10⟩ := hI.s1 h1
    have hbl := lt_of_heap k3
    refine krA ?_
    refine ks ?_
    refine ⟨hI.ext.upd k2 _, hI.e0, hI.e3, fun hs => hI.s0 (by simpa using hs), fun _ => ?_, fun hs => hI.s2 (by simpa using hs), fun hs => hI.s4 (by simpa using hs), fun hs => ?_, fun hs => ?_⟩
    · have := Nb1.ins (k := C1) (v := .int .i64 1) (r3 := S 3) (r5 := true) k2 k3 k4 k5 k6 k7 k8 k9 k10 (.inr ⟨rfl, rfl⟩) (fun h => .inl h) (fun _ => .inr rfl)
      simpa [Env.put, k1] using this
    · simp [h1] at hs
    · have := hI.c9 (by simpa using hs)
      simpa using this
  · simp only [List.getElem?_toArray, List.getElem?_cons_succ, List.getElem?_cons_zero, Option.some.injEq, Nat.zero_add, Nat.reduceAdd] at hj
    subst hj
    refine ⟨trivial, ?_⟩
    rw [XV_rG]
    have h1 : S 1 = true := haf ⟨1, .data⟩ (by simp) rfl
    obtain ⟨b, ck, es, k1, k2, k3, k4, k5, k6, k7, k8, k9, k10⟩ := hI.s1 h1
    refine krA ?_
    refine kv ?_
    exact ⟨hI.ext, by simpa [Env.put, Env.set] using hI.e0, by simpa [Env.put, Env.set] using hI.e3, fun hs => by have := hI.s0 (by simpa using hs); simpa [Env.put, Env.set] using this, fun _ => ⟨b, ck, es, by simpa [Env.put, Env.set] using k1, k2, k3, k4, k5, fun h => k6 (by simpa using h), fun h => k7 (by simpa using h), fun _ => by simp [Env.put, Env.set], by simpa [Env.put, Env.set] using k9, by simpa [Env.put, Env.set] using k10⟩, fun hs => by have := hI.s2 (by simpa using hs); simpa [Env.put, Env.set] using this, fun hs => by have := hI.s4 (by simpa using hs); simpa [Env.put, Env.set] using this, fun hs => by simp [h1] at hs, fun hs => by have := hI.c9 (by simpa using hs); simpa using this⟩
  · simp only [List.getElem?_toArray, List.getElem?_cons_succ, List.getElem?_cons_zero, Option.some.injEq, Nat.zero_add, Nat.reduceAdd] at hj
    subst hj
    refine ⟨trivial, ?_⟩
    rw [XV_rG]
    have h1 : S 1 = true := by
      cases h1 : S 1 with
      | true => rfl
      | false => have := hI.cl h1; have h6 : S 6 = true := haf ⟨6, .data⟩ (by simp) rfl; simp [this] at h6
    obtain ⟨b, ck, es, k1, k2, k3, k4, k5, k6, k7, k8, k9, k10⟩ := hI.s1 h1
    have e7 := hI.s0 (haf ⟨0, .data⟩ (by simp) rfl)
    have e11 := k8 (haf ⟨6, .data⟩ (by simp) rfl)
    refine krA ?_
    refine kv ?_
    exact ⟨hI.ext, by simpa [Env.put, Env.set] using hI.e0, by simpa [Env.put, Env.set] using hI.e3, fun hs => by have := hI.s0 (by simpa using hs); simpa [Env.put, Env.set] using this, fun _ => ⟨b, ck, es, by simpa [Env.put, Env.set] using k1, k2, k3, k4, k5, fun h => k6 (by simpa using h), fun h => k7 (by simpa using h), by simpa [Env.put, Env.set] using k8, fun _ => by simp [Env.put, Env.set], by simpa [Env.put, Env.set] using k10⟩, fun hs => by have := hI.s2 (by simpa using hs); simpa [Env.put, Env.set] using this, fun hs => by have := hI.s4 (by simpa using hs); simpa [Env.put, Env.set] using this, fun hs => by simp [h1] at hs, fun hs => by have := hI.c9 (by simpa using hs); simpa using this⟩
  · simp only [List.getElem?_toArray, List.getElem?_cons_succ, List.getElem?_cons_zero, Option.some.injEq, Nat.zero_add, Nat.reduceAdd] at hj
    subst hj
    refine ⟨trivial, ?_⟩
    rw [XV_rG]
    have h1 : S 1 = true := by
      cases h1 : S 1 with
      | true => rfl
      | false => have := hI.cl h1; have h6 : S 7 = true := haf ⟨7, .data⟩ (by simp) rfl; simp [this] at h6
    obtain ⟨b, ck, es, k1, k2, k3, k4, k5, k6, k7, k8, k9, k10⟩ := hI.s1 h1
    have e12 := k9 (haf ⟨7, .data⟩ (by simp) rfl)
    have hsu := hI.ext.size
    refine krA ?_
    refine kv ?_
    have hE : Ext u (u.alloc (.cells #[.pointer (some ⟨p, 0, none⟩), .map (some b)] 139)) := ext_
    exact ⟨hI.ext.trans hE, by simpa [Env.put, Env.set] using hI.e0, by simpa [Env.put, Env.set] using hI.e3, fun hs => by have := hI.s0 (by simpa using hs); simpa [Env.put, Env.set] using this, fun _ => ⟨b, ck, es, by simpa [Env.put, Env.set] using k1, k2, hE.at k3, k4, k5, fun h => k6 (by simpa using h), fun h => k7 (by simpa using h), by simpa [Env.put, Env.set] using k8, by simpa [Env.put, Env.set] using k9, fun _ => ⟨u.heap.size, by simp [Env.put, Env.set], hsu, alloc_new, fun h => by have h9 : S 9 = true := (by simpa using h); rw [hI.c9 hS] at h9; cases h9⟩⟩, fun hs => by have := hI.s2 (by simpa using hs); simpa [Env.put, Env.set] using this, fun hs => by have := hI.s4 (by simpa using hs); simpa [Env.put, Env.set] using this, fun hs => by simp [h1] at hs, fun hs => by simp at hs⟩
  · simp only [List.getElem?_toArray, List.getElem?_cons_succ, List.getElem?_cons_zero, Option.some.injEq, Nat.zero_add, Nat.reduceAdd] at hj
    subst hj
    refine ⟨trivial, ?_⟩
    rw [XV_rG]
    have h1 : S 1 = true := by
      cases h1 : S 1 with
      | true => rfl
      | false => have := hI.cl h1; have h6 : S 8 = true := haf ⟨8, .data⟩ (by simp) rfl; simp [this] at h6
    obtain ⟨b, ck, es, k1, k2, k3, k4, k5, k6, k7, k8, k9, k10⟩ := hI.s1 h1
    obtain ⟨bb, m1, m2, m3, m4⟩ := k10 (haf ⟨8, .data⟩ (by simp) rfl)
    refine krA ?_
    refine kv ?_
    exact ⟨hI.ext, by simpa [Env.put, Env.set] using hI.e0, by simpa [Env.put, Env.set] using hI.e3, fun hs => by have := hI.s0 (by simpa using hs); simpa [Env.put, Env.set] using this, fun _ => ⟨b, ck, es, by simpa [Env.put, Env.set] using k1, k2, k3, k4, k5, fun h => k6 (by simpa using h), fun h => k7 (by simpa using h), by simpa [Env.put, Env.set] using k8, by simpa [Env.put, Env.set] using k9, fun _ => ⟨bb, by simpa [Env.put, Env.set] using m1, m2, m3, by simp [Env.put, Env.set]⟩⟩, fun hs => by have := hI.s2 (by simpa using hs); simpa [Env.put, Env.set] using this, fun hs => by have := hI.s4 (by simpa using hs); simpa [Env.put, Env.set] using this, fun hs => by simp [h1] at hs, fun hs => by have h8 : S 8 = true := haf ⟨8, .data⟩ (by simp) rfl; simp [h8] at hs⟩
  · cases hj
theorem rdBuildTop_calls {own : Nat → Nat} {s : Md} (hS : StI own w p s []) (G : s.Good []) (f : Fun8) : CallsR Try.prog 33 #[.pointer (some ⟨p, 0, none⟩), fv f] w fun r w' => r = .tuple #[.int .i64 (s.bld f).1.1, errV (s.bld f).1.2] ∧ TrI own w p (s.bld f).2 [] w' := by
  obtain ⟨C0, hC0⟩ : ∃ C, constF false = C := ⟨_, rfl⟩
  obtain ⟨C1, hC1⟩ : ∃ C, constF true = C := ⟨_, rfl⟩
  have c0 : ∀ u, CallsR Try.prog 99 #[.bool false] u fun r u' => r = fv C0 ∧ Ext u u' := hC0 ▸ const_calls false
  have c1 : ∀ u, CallsR Try.prog 99 #[.bool true] u fun r u' => r = fv C1 ∧ Ext u u' := hC1 ▸ const_calls true
  have hne : C0 ≠ C1 := by rw [← hC0, ← hC1]; exact const_ne
  have own0 : ∀ k, w.heap.size ≤ k → own k = 0 := fun k hk => by
    cases ho : own k with
    | zero => rfl
    | succ q => have := hS.lt k (by omega); omega
  refine callsS (bs := []) (I := NbI C0 C1 p w.heap.size (w.alloc (.cells #[vU (word f 0), vU (word f 1), vU (word f 2), vU (word f 3)] 54))) Try.func33 Try.results33 rfl mixed (by kernel_rfl) ?_ (nbI_any C0 C1 p _ _ c0 c1 rfl) ?_
  · refine sc_ ?_
    have h0 : envOf #[.pointer (some ⟨p, 0, none⟩), fv f] 0 = .pointer (some ⟨p, 0, none⟩) := rfl
    have h1 : envOf #[.pointer (some ⟨p, 0, none⟩), fv f] 1 = fv f := rfl
    generalize envOf #[.pointer (some ⟨p, 0, none⟩), fv f] = e0 at h0 h1
    refine w_ fun d => ?_
    refine ⟨rfl, fun d => ⟨(Ext.refl _).drawn d, by simpa [Env.put, Env.set] using h0, by simp [Env.put, Env.set], fun h => (by cases h), fun h => (by cases h), fun h => (by cases h), fun h => (by cases h), fun _ => ⟨rfl, rfl, rfl, rfl, rfl, rfl⟩, fun _ => rfl⟩⟩
  · intro S e u hAll hN
    have hs : ∀ j, j < 10 → S j = true := hAll
    obtain ⟨b, ck, es, k1, k2, k3, k4, k5, k6, k7, k8, k9, k10⟩ := hN.s1 (hs 1 (by decide))
    obtain ⟨bb, m1, m2, m3, m4⟩ := k10 (hs 8 (by decide))
    have h6 := m4 (hs 9 (by decide))
    have h3 := hN.e3
    have hEu : Ext w u := (by exact ext_ : Ext w (w.alloc _)).trans hN.ext
    have hb3 : u.heap[w.heap.size]? = some (.cells #[vU (word f 0), vU (word f 1), vU (word f 2), vU (word f 3)] 54) := hN.ext.at alloc_new
    have hl3 := lt_of_heap hb3
    have hB : BtI own u p s bb b es ck := ⟨hS.ext hEu, m3, k3, k4, ⟨fun x hx => by
      rcases k5 x hx with ⟨e1, e2⟩ | ⟨e1, e2⟩
      · exact ⟨0, e2, by rw [e1, ← hC0]; exact .c0⟩
      · exact ⟨1, e2, by rw [e1, ← hC1]; exact .c1⟩, fun c => by
      cases c
      · rw [hC0]; exact k6 (hs 3 (by decide))
      · rw [hC1]; exact k7 (hs 5 (by decide))⟩, own0 _ (by rw [alloc_size] at m2; omega), own0 _ (by rw [alloc_size] at k2; omega)⟩
    have hwb : w.heap.size ≤ b := by rw [alloc_size] at k2; omega
    have bd := fun v (hE : Ext u v) => rdBuild_calls 8 own v s es ck f 0 (hB.ext hE) G nv_le (by omega) (fun u hu => (G.wf.ord.lt (dep_range hu)).1)
    clear hAll hs hN k1 k5 k6 k7 k8 k9 k10 m1 m4 m3 k3 k4 hB c0 c1 hne hC0 hC1
    refine sc_ ?_
    refine w_ fun d => ?_
    refine (bd u (Ext.refl u)).mono ?_
    rintro _ u2 ⟨rfl, own', es', ck', hB', ho', hC'⟩
    refine w_ fun d => ?_
    exact ⟨rfl, own', hB'.sti, fun k hk => ho' k (Nat.lt_of_lt_of_le hk hEu.size), (hEu.chg _).trans (hC'.mono fun k _ hf => hf) fun k hk hf => hf.elim id fun h => by omega⟩
end
end Go.Proofs.Ytpeindhocndmnaa

namespace Go.Bx
open Go
set_option linter.unusedSimpArgs false
set_option linter.unusedVariables false
end Go.Bx

namespace Go.Bx
open Go
set_option linter.unusedSimpArgs false
set_option linter.unusedVariables false
section
variable {P : Program} {F : Nat → Value → World → Prop} {K : Env → World → Prop} {C D : World → Prop} {d : Option Tmp} {op : Op} {ty : TypeId} {e : Env} {w w1 : World} {l : List (GOp × Nat)} {v : Value} {n : Nat}
theorem xyD (F : Nat → Value → World → Prop) (hF : ∀ k v u u', F k v u → Ext u u' → F k v u') (D : World → Prop) (hD : ∀ u, Ext w u → D u) (h : XR P F K l (Ext w) D e) : XY P l K e w := ⟨F, Ext w, D, hF, fun d => (Ext.refl w).drawn d, hD, Cl_ext, h⟩
theorem xr4D (h : ∀ u, D u → rG P op ty e u = .ok (.value v) u) (hk : XR P F K l C D (e.put d v)) : XR P F K ((⟨d, op, ty, none⟩, 4) :: l) C D e :=
  .inl ⟨trivial, v, fun u hu => by
    have := h u hu
    unfold rG at this
    unfold WV
    rw [this]
    exact ⟨rfl, rfl⟩, hk⟩
theorem xr4S {f : FuncId} {args : Array Value} (hc : Sure P f args v) (hk : XR P F K l C D (e.put d v)) (h : ∀ u, rG P op ty e u = .ok (.enter f args) u := by (intro w'; (simp (disch := first | assumption | ((try simp only [upd_size, alloc_size, dr_heap, List.size_toArray, List.length_cons, List.length_nil, Nat.reduceAdd]) <;> omega) | (with_unfolding_all (refine Eq.trans rfl ?_; exact rfl)) | exact Nat.le_of_ble_eq_true rfl | fail) only [push_cast, *, Nat.reduceEqDiff, Nat.reduceAdd, Nat.reduceMul, Nat.reduceSub, Int.reduceToNat, Int.reduceAdd, Int.reduceSub, Int.reduceMul, Int.reduceNeg, ↓reduceIte] <;> rfl)))
    (hi : P.inits.idxOf? f = none := by kernel_rfl) : XR P F K ((⟨d, op, ty, none⟩, 4) :: l) C D e :=
  .inl ⟨trivial, v, fun u hu => by
    have := h u
    unfold rG at this
    unfold WV
    rw [this]
    exact ⟨rfl, hi, Calls.mono (hc u) fun en w'' ⟨v', he, hv, hx⟩ => ⟨by rw [he, hv], hx⟩⟩, hk⟩
theorem xr2F (h : ∀ w', C w' → kN P (fun v w'' => (∀ k u, F k u w' → F k u w'') ∧ (∀ u, Ext w'' u → D u) ∧ XR P F K l (Ext w'') D (e.put d v)) (rG P op ty e w')) : XR P F K ((⟨d, op, ty, none⟩, 2) :: l) C D e := by
  refine .inl ⟨trivial, fun w' hw => ?_⟩
  have := h w' hw
  rw [XV_rG]
  generalize rG P op ty e w' = x at *
  have mk : ∀ v w'', ((∀ k u, F k u w' → F k u w'') ∧ (∀ u, Ext w'' u → D u) ∧ XR P F K l (Ext w'') D (e.put d v)) → ∃ C' : World → Prop, C' w'' ∧ (∀ u, C' u → D u) ∧ Cl C' ∧ (∀ k u, F k u w' → F k u w'') ∧ XR P F K l C' D (e.put d v) :=
    fun v w'' ⟨hF, hD, hx⟩ => ⟨Ext w'', Ext.refl w'', hD, Cl_ext, hF, hx⟩
  cases x with
  | ok n w'' =>
    cases n <;> simp only [kN] at this ⊢
    case value => exact mk _ _ this
    case skip => exact mk _ _ this
    case enter => exact this.mono fun v w'' hv => mk _ _ hv
    all_goals exact this
  | halt y w' => exact this
theorem xr5a (h : ∀ u, D u → ∃ v u', rG P op ty e u = .ok (.value v) u' ∧ Ext u u' ∧ F n v u') (hk : ∀ v, (∃ w, C w ∧ F n v w) → XR P F K l (fun w => C w ∧ F n v w) D (e.put d v)) : XR P F K ((⟨d, op, ty, none⟩, n + 5) :: l) C D e :=
  .inl ⟨trivial, fun u hu => by
    obtain ⟨v, u', h1, h2, h3⟩ := h u hu
    unfold rG at h1
    unfold RV
    rw [h1]
    exact ⟨h2, h3⟩, hk⟩
theorem d0_ {A B : Prop} (q : A) (h : Box A → B := by (intro q; (repeat (refine xr0A ?_)); exact q.out)) : B := h ⟨q⟩
end
end Go.Bx

namespace Go.Proofs.Ytpeindhocndmnaa
open Go Go.Bx
set_option linter.unusedSimpArgs false
set_option linter.unusedVariables false
set_option maxRecDepth 100000
set_option maxHeartbeats 4000000
attribute [local irreducible] X XO XE XF XD XW thenX inX retX kN CallsR
def KnT (s : Md) (es : List (Ent Int)) : Prop := ∀ e ∈ es, ∃ f, e.2.1 = fv f ∧ Den s e.1 f
theorem KnT.put {s : Md} {es : List (Ent Int)} {ck : Nat} {f : Fun8} {n : Int} (h : KnT s es) (hI : MInv es ck) (d : Den s n f) : KnT s (mput es n (fv f) ck) := by
  intro e he
  rcases mput_mem hI.keys he with ⟨h1, _⟩ | ⟨h1, h2, _⟩
  · exact h e h1
  · exact ⟨f, h2, by rw [h1]; exact d⟩
section
variable {own : Nat → Nat} {w : World} {p b ck : Nat} {es : List (Ent Int)} {v : Value} {n : Int} {s : Md} {f : Fun8}
theorem intK {kt : TypeId} (hd : Try.prog.underlying kt = some (.int .i64)) : KeyOK Try.prog kt (Value.int .i64) fun _ : Int => True := int_keys hd
theorem luT (h : w.heap[b]? = some (mObj (Value.int .i64) es ck)) : luO Try.prog 142 b (.int .i64 n) true w (some (mObj (Value.int .i64) es ck)) h = .ok (.tuple #[(mget es n).getD (.agg #[.int .u64 0, .int .u64 0, .int .u64 0, .int .u64 0]), .bool (mget es n).isSome]) w := lookup_at h T142 T54 (intK T3.und) trivial (fun _ _ => trivial) true
theorem muT (h : w.heap[b]? = some (mObj (Value.int .i64) es ck)) : muO Try.prog 142 b (.int .i64 n) v w (some (mObj (Value.int .i64) es ck)) h = .ok () (upd w b (mObj (Value.int .i64) (mput es n v ck) (mclock es n ck))) := update_at h T142 (intK T3.und) trivial (fun _ _ => trivial) v
attribute [push_cast] luT muT
def TbT (w : World) (s : Md) (bm : Nat) (w' : World) : Prop := ∃ es' ck', w'.heap[bm]? = some (mObj (Value.int .i64) es' ck') ∧ MInv es' ck' ∧ KnT s es' ∧ Chg (fun k => k = bm) w w'
theorem rdTable_none (hS : StI own w p s []) (W : s.WF) (hn : n ≤ 9223372036854775807) (hh : s.has n = false) (bm : Nat) : CallsR Try.prog 101 #[.pointer (some ⟨p, 0, none⟩), .int .i64 n, .map (some bm)] w fun r w' => r = fv (constF (decide (n = 1))) ∧ Ext w w' := by
  have n1 := stNode_calls hS W n hn
  have hnd : s.node n = ((0, 0, 0), false) := by unfold Md.node; rw [hh]; rfl
  rw [hnd] at n1
  simp only [ndV] at n1
  have c1 : Sure Try.prog 99 #[.bool (n == 1)] (fv (constF (decide (n = 1)))) := fun u => by
    have := const_calls (decide (n = 1)) u
    rwa [show (n == 1) = decide (n = 1) from rfl]
  generalize constF (decide (n = 1)) = C at c1
  clear hS hnd
  refine en3 Try.func101 Try.results101 mixed [(7, [7, 12]), (1007, [1, 2, 5, 10, 13, 1015]), (2007, [14])] ?_
  intro e0 h0 h1 h2
  refine w_ fun d => ?_
  refine qq n1 fun w1 hE1 hs1 => ?_
  refine w_ fun d => ?_
  refine qq (c1.quiet (w := w1)) fun w2 hE2 hs2 => ?_
  refine w_ fun d => ?_
  exact ⟨rfl, ext_⟩
theorem TbT.of_ext {bm : Nat} {w' : World} (hm : w.heap[bm]? = some (mObj (Value.int .i64) es ck)) (hI : MInv es ck) (hk : KnT s es) (hE : Ext w w') : TbT w s bm w' := ⟨es, ck, hE.at hm, hI, hk, hE.chg _⟩
theorem rdTable_calls {bm : Nat} (G : s.Good []) (ho : own bm = 0) (d : Den s n f) : ∀ (w : World) (es : List (Ent Int)) (ck : Nat), StI own w p s [] → w.heap[bm]? = some (mObj (Value.int .i64) es ck) → MInv es ck → KnT s es →
    CallsR Try.prog 101 #[.pointer (some ⟨p, 0, none⟩), .int .i64 n, .map (some bm)] w fun r w' => r = fv f ∧ TbT w s bm w' := by
  have W := G.wf
  induction d with
  | c0 =>
    intro w es ck hS hm hI hk
    refine (rdTable_none hS W (by decide) (Md.has_no (by decide)) bm).mono ?_
    rintro r w' ⟨rfl, hE⟩
    exact ⟨rfl, TbT.of_ext hm hI hk hE⟩
  | c1 =>
    intro w es ck hS hm hI hk
    refine (rdTable_none hS W (by decide) (Md.has_no (by decide)) bm).mono ?_
    rintro r w' ⟨rfl, hE⟩
    exact ⟨rfl, TbT.of_ext hm hI hk hE⟩
  | @node n v lo hi f0 f1 h hx h0 h1 ih0 ih1 =>
    intro w es ck hS hm hI hk
    have hN := wf_N W
    have hl := W.lt h
    have n1 := stNode_calls hS W n (by omega)
    rw [show s.node n = ((v, lo, hi), true) by unfold Md.node; rw [h, hx]; rfl] at n1
    simp only [ndV] at n1
    have dn : Den s n (iteF (varF v) f1 f0) := .node h hx h0 h1
    have c2 : Sure Try.prog 143 #[.int .i64 v] (fv (varF v)) := var_calls v
    have c3 : Sure Try.prog 142 #[fv (varF v), fv f1, fv f0] (fv (iteF (varF v) f1 f0)) := ite_calls _ _ _
    generalize iteF (varF v) f1 f0 = F at dn c3
    generalize varF v = V at c2 c3
    have lm := lt_of_heap hm
    clear hx h0 h1 h hl
    cases hg : mget es n with
    | some val =>
      obtain ⟨bb, hbb⟩ := mget_some hg
      obtain ⟨f', e1, e2⟩ := hk _ hbb
      dsimp only at e1 e2
      obtain rfl := e2.fn dn
      subst e1
      have g1 : (mget es n).isSome = true := by rw [hg]; rfl
      have g2 : (mget es n).getD (.agg #[.int .u64 0, .int .u64 0, .int .u64 0, .int .u64 0]) = fv f' := by rw [hg]; rfl
      clear hg hbb e2 ih0 ih1
      refine en3 Try.func101 Try.results101 mixed [(7, [7, 12]), (1007, [1, 2, 5, 10, 13, 1015]), (2007, [14])] ?_
      intro e0 h0 h1 h2
      refine w_ fun d => ?_
      refine qq n1 fun w1 hE1 hs1 => ?_
      have hm1 := (Ext.trans (by exact ext_) hE1 : Ext w w1).at hm
      have lm1 := lt_of_heap hm1
      refine w_ fun d => ?_
      exact ⟨rfl, TbT.of_ext hm hI hk ext_⟩
    | none =>
      have g1 : (mget es n).isSome = false := by rw [hg]; rfl
      have g2 : (mget es n).getD (.agg #[.int .u64 0, .int .u64 0, .int .u64 0, .int .u64 0]) = .agg #[.int .u64 0, .int .u64 0, .int .u64 0, .int .u64 0] := by rw [hg]; rfl
      clear hg
      refine en3 Try.func101 Try.results101 mixed [(7, [7, 12]), (1007, [1, 2, 5, 10, 13, 1015]), (2007, [14])] ?_
      intro e0 h0 h1 h2
      refine w_ fun d => ?_
      refine qq n1 fun w1 hE1 hs1 => ?_
      have hm1 := (Ext.trans (by exact ext_) hE1 : Ext w w1).at hm
      have lm1 := lt_of_heap hm1
      refine w_ fun d => ?_
      refine at_w fun u hu => ?_
      have hE1u : Ext w1 u := by rw [hu]; exact ext_
      have hE01 : Ext w w1 := Ext.trans (by exact ext_) hE1
      have hEu : Ext w u := hE01.trans hE1u
      have h7 : u.heap[w1.heap.size]? = some (.cells #[.int .i64 v, .int .i64 lo, .int .i64 hi] 39) := by rw [hu]; exact hA rfl
      have h6 : u.heap[w.heap.size]? = some (.cells #[.int .u64 0, .int .u64 0, .int .u64 0, .int .u64 0] 54) := hE1u.at (hE1.at (hA rfl))
      have hmu := hE1u.at hm1
      have hSu := hS.ext hEu
      obtain ⟨b7, hb7⟩ : ∃ b, w1.heap.size = b := ⟨_, rfl⟩
      obtain ⟨b6, hb6⟩ : ∃ b, w.heap.size = b := ⟨_, rfl⟩
      rw [hb7] at h7 ⊢
      rw [hb6] at h6 ⊢
      have lmw : bm < b6 := by omega
      clear hu n1 hE1 hE1u hm1 lm1 hS hb7 hE01
      clear hs1
      have l6 := lt_of_heap h6
      have l7 := lt_of_heap h7
      refine s_rel (xyD (fun _ v' u' => ∃ b, v' = .pointer (some ⟨b, 0, none⟩) ∧ u.heap.size ≤ b ∧ u'.heap[b]? = some (.cells #[.int .u64 0, .int .u64 0, .int .u64 0, .int .u64 0] 54)) (fun _ v' u1 u2 ⟨b, e, hb, hc⟩ hE => ⟨b, e, hb, hE.at hc⟩)
        (fun u' => u.heap.size ≤ u'.heap.size ∧ u'.heap[b7]? = some (.cells #[.int .i64 v, .int .i64 lo, .int .i64 hi] 39)) (fun u' hE => ⟨hE.size, hE.at h7⟩) ?_)
      refine d0_ ?_
      refine xr4D (v := .int .i64 v) (fun u' ⟨_, hu'⟩ => by exact rgA) ?_
      refine xr4S c2 ?_
      refine d0_ ?_
      refine xr4D (v := .int .i64 hi) (fun u' ⟨_, hu'⟩ => by exact rgA) ?_
      refine d0_ ?_
      refine xr2F fun u1 hE1 => ?_
      have hm1 := hE1.at hmu
      have h71 := hE1.at h7
      have h61 := hE1.at h6
      refine krA ?_
      refine ke ?_
      refine (ih1 u1 es ck (hSu.ext hE1) hm1 hI hk).mono ?_
      rintro _ u2 ⟨rfl, es2, ck2, hm2, hI2, hk2, hC2⟩
      have h72 := (hC2.heap b7 (lt_of_heap h71) (fun e => by subst e; rw [hm1] at h71; cases h71)).trans h71
      have h62 := (hC2.heap b6 (lt_of_heap h61) (fun e => by subst e; rw [hm1] at h61; cases h61)).trans h61
      have hs2 : u.heap.size ≤ u2.heap.size := Nat.le_trans hE1.size hC2.size
      have hS2 : StI own u2 p s [] := (hSu.ext hE1).chg0 hC2 fun k hk => hk ▸ ho
      refine ⟨fun _ v' ⟨b, e, hb, hc⟩ => ⟨b, e, hb, (hC2.heap b (lt_of_heap hc) (fun e => by subst e; rw [hm1] at hc; cases hc)).trans hc⟩, fun u' hE' => ⟨Nat.le_trans hs2 hE'.size, hE'.at h72⟩, ?_⟩
      refine d0_ ?_
      refine xr4D (v := .int .i64 lo) (fun u' ⟨_, hu'⟩ => by exact rgA) ?_
      refine d0_ ?_
      refine xr2F fun u3 hE3 => ?_
      have hm3 := hE3.at hm2
      have h73 := hE3.at h72
      have h63 := hE3.at h62
      refine krA ?_
      refine ke ?_
      refine (ih0 u3 es2 ck2 (hS2.ext hE3) hm3 hI2 hk2).mono ?_
      rintro _ u4 ⟨rfl, es4, ck4, hm4, hI4, hk4, hC4⟩
      have h74 := (hC4.heap b7 (lt_of_heap h73) (fun e => by subst e; rw [hm3] at h73; cases h73)).trans h73
      have h64 := (hC4.heap b6 (lt_of_heap h63) (fun e => by subst e; rw [hm3] at h63; cases h63)).trans h63
      have hs4 : u.heap.size ≤ u4.heap.size := Nat.le_trans hs2 (Nat.le_trans hE3.size hC4.size)
      refine ⟨fun _ v' ⟨b, e, hb, hc⟩ => ⟨b, e, hb, (hC4.heap b (lt_of_heap hc) (fun e => by subst e; rw [hm3] at hc; cases hc)).trans hc⟩, fun u' hE' => ⟨Nat.le_trans hs4 hE'.size, hE'.at h74⟩, ?_⟩
      have hC04 : Chg (fun k => k = bm) u u4 := (((hE1.chg _).trans hC2 fun _ _ h => h).transE hE3).trans hC4 fun _ _ h => h
      refine xr4S c3 ?_
      refine xr5a (fun u' ⟨hsz, _⟩ => ⟨_, _, rG_alloc T54, (Ext.refl u').alloc _, u'.heap.size, rfl, hsz, alloc_new⟩) fun v' ⟨u5, hu5, b, hvb, hb, _⟩ => ?_
      subst hvb
      refine xr3 fun u6 hC6 => ?_
      obtain ⟨hE6, b', he, _, hb6'⟩ := hC6
      cases he
      have lb6 := lt_of_heap hb6'
      refine krA ?_
      refine ks ?_
      refine xr_nil fun u7 hE7 => ?_
      obtain ⟨ob, hob⟩ : ∃ o, u7.heap[b]? = some o := ⟨_, hE7.at (upd_same lb6)⟩
      have hob' := hob
      rw [hE7.heap b (by rw [upd_size]; exact lb6), upd_same lb6] at hob'
      cases hob'
      have hm6 := hE6.at hm4
      have h66 := hE6.at h64
      have hne : b ≠ bm := fun e => by subst e; rw [hm6] at hb6'; cases hb6'
      have hne6 : b ≠ b6 := by omega
      have hm7 := hE7.at ((upd_other hne (o := _)).trans hm6)
      have h67 := hE7.at ((upd_other hne6 (o := _)).trans h66)
      have hlm7 := lt_of_heap hm7
      have hl67 := lt_of_heap h67
      have hlb7 := lt_of_heap hob
      have hC07 : Chg (fun k => k = bm) u u7 := ((hC04.transE hE6).upd (fun h => absurd h (by omega)) _).transE hE7
      have hC7 : Chg (fun k => k = bm) w u7 := (hEu.chg _).trans hC07 fun _ _ h => h
      have hwb6 : w.heap.size ≤ b6 := by omega
      have hnb : b6 ≠ bm := by omega
      have hI7 := hI4.put n (fv F)
      have hk7 := hk4.put hI4 dn
      clear hm6 h66 hC07 hC04 hE7 hE6 hb6' lb6 hu5 hm1 h71 h61 hE1 hC2 hE3 hC4 hm2 h72 h62 hm3 h73 h63 hm4 h74 h64 hS2 hSu hmu h7 h6 hEu ih0 ih1 hs2 hs4
      refine w_ fun d => ?_
      exact ⟨rfl, _, _, (upd_other hnb).trans (upd_same hlm7), hI7, hk7, (hC7.upd (fun _ => rfl) _).upd (fun h => absurd h (by omega)) _⟩
theorem rdTop_calls (G : s.Good []) (hS : StI own w p s []) (dn : Den s n f) : Quiet Try.prog 38 #[.pointer (some ⟨p, 0, none⟩), .int .i64 n] w (fv f) := by
  intro u hu
  have hSu := hS.ext hu
  have own0 : ∀ k, u.heap.size ≤ k → own k = 0 := fun k hk => by
    cases ho : own k with
    | zero => rfl
    | succ q => have := hSu.lt k (by omega); omega
  clear hS hu
  refine en2 Try.func38 Try.results38 mixed [] ?_
  intro e0 h0 h1
  refine w_ fun d => ?_
  refine (rdTable_calls (bm := u.heap.size + 1) G (own0 _ (by omega)) dn _ [] 0 (hSu.ext ext_) (hA rfl) MInv.nil (fun e he => by cases he)).mono ?_
  rintro _ u2 ⟨rfl, es, ck, hm, _, _, hC⟩
  have h2 := hC.heap u.heap.size (by simp only [alloc_size]; omega) (fun e => by omega)
  have h3 : u2.heap[u.heap.size]? = some (.cells #[.int .u64 0, .int .u64 0, .int .u64 0, .int .u64 0] 54) := h2.trans (hA rfl)
  have hl3 := lt_of_heap h3
  have hE : Ext u u2 := extc_ hC
  clear h2 hC hm
  refine w_ fun d => ?_
  exact ⟨rfl, ext_⟩
end
end Go.Proofs.Ytpeindhocndmnaa

namespace Go.Proofs.Ytpeindhocndmnaa
open Go Go.Bx
set_option linter.unusedSimpArgs false
set_option linter.unusedVariables false
set_option maxRecDepth 100000
set_option maxHeartbeats 4000000
attribute [local irreducible] X XO XE XF XD XW thenX inX retX kN CallsR
def CaI (W w : World) (ps pc : Nat) (s : Md) : Prop := ∃ own bm es ck, IcI own w ps s pc bm es ck ∧ (∀ k, own k ≠ 0 → W.heap.size ≤ k) ∧ W.heap.size ≤ bm ∧ Ext W w
section
variable {W w w' : World} {ps pc : Nat} {s s' : Md} {a b : Int} {f g : Fun8} {L : List Fun8} {M : Int}
theorem CaI.ext (h : CaI W w ps pc s) (hE : Ext w w') : CaI W w' ps pc s := by
  obtain ⟨o, bm, es, ck, h1, h2, h3, h4⟩ := h
  exact ⟨o, bm, es, ck, h1.ext hE, h2, h3, h4.trans hE⟩
theorem CaI.world (h : CaI W w ps pc s) : Ext W w := by obtain ⟨_, _, _, _, _, _, _, h⟩ := h; exact h
theorem CaI.sti (h : CaI W w ps pc s) : ∃ own, StI own w ps s [] := by obtain ⟨o, _, _, _, h, _⟩ := h; exact ⟨o, h.sti⟩
theorem CaI.turn {fn : FuncId} {args : Array Value} {R : Value → Prop} (h : CaI W w ps pc s) (hc : ∀ own bm es ck, IcI own w ps s pc bm es ck → CallsR Try.prog fn args w fun r w' => R r ∧ IcT own w ps s' pc bm w') :
    CallsR Try.prog fn args w fun r w' => R r ∧ CaI W w' ps pc s' := by
  obtain ⟨o, bm, es, ck, h1, h2, h3, h4⟩ := h
  refine (hc o bm es ck h1).mono ?_
  rintro r w' ⟨hr, o', es', ck', g1, g2⟩
  have hsW := h4.size
  refine ⟨hr, o', bm, es', ck', g1, fun k hk => ?_, h3, g2.ch.toExt h4 fun k hk hf => by
    rcases hf with hf | hf
    · have := h2 k hf; omega
    · omega⟩
  by_cases hl : k < w.heap.size
  · exact h2 k (by rw [← g2.ho k hl]; exact hk)
  · omega
theorem CaI.store {fn : FuncId} {args : Array Value} {R : Value → Prop} (h : CaI W w ps pc s) (hd : ∀ n f, Den s n f → Den s' n f) (hc : ∀ own, StI own w ps s [] → CallsR Try.prog fn args w fun r w' => R r ∧ TrI own w ps s' [] w') :
    CallsR Try.prog fn args w fun r w' => R r ∧ CaI W w' ps pc s' := by
  refine h.turn fun own bm es ck h => (hc own h.sti).mono ?_
  rintro r w' ⟨hr, hT⟩
  obtain ⟨o, h1, h2⟩ := h.turn hd hT
  exact ⟨hr, o, es, ck, h1, h2⟩
theorem iteNew_calls (w : World) : CallsR Try.prog 32 #[] w fun r w' => ∃ pc bm, r = .pointer (some ⟨pc, 0, none⟩) ∧ w'.heap[pc]? = some (.cells #[.map (some bm)] 134) ∧ w'.heap[bm]? = some (mObj k3 [] 0) ∧ w.heap.size ≤ pc ∧ w.heap.size ≤ bm ∧ Ext w w' := by
  refine en0 Try.func32 Try.results32 mixed [] ?_
  intro e0
  refine w_ fun d => ?_
  exact ⟨w.heap.size + 1, w.heap.size, rfl, hA rfl, hA rfl, by omega, by omega, ext_⟩
theorem OneI.cache (h : OneI W w ps s) {bm : Nat} (hE : Ext w w') (h1 : w'.heap[pc]? = some (.cells #[.map (some bm)] 134)) (h2 : w'.heap[bm]? = some (mObj k3 [] 0)) (h3 : w.heap.size ≤ pc) (h4 : w.heap.size ≤ bm) : CaI W w' ps pc s := by
  obtain ⟨o, g1, g2, g3⟩ := h
  have own0 : ∀ k, w.heap.size ≤ k → o k = 0 := fun k hk => by
    cases ho : o k with
    | zero => rfl
    | succ q => have := g1.lt k (by omega); omega
  exact ⟨o, bm, [], 0, ⟨g1.ext hE, h1, h2, MInv.nil, fun x hx => (by cases hx), own0 _ h3, own0 _ h4⟩, g2, by have := g3.size; omega, g3.trans hE⟩
theorem caBuild (h : CaI W w ps pc s) (R : Ro s L M) (f : Fun8) (hm : sizeF s.ord (L ++ [f]) ≤ M) : CallsR Try.prog 33 #[.pointer (some ⟨ps, 0, none⟩), fv f] w fun r w' => ∃ n s', r = .tuple #[.int .i64 n, .nilIface] ∧ CaI W w' ps pc s' ∧ Ro s' (L ++ [f]) M ∧ s.Le s' ∧ Den s' n f := by
  obtain ⟨n, s', e, R', l, d⟩ := R.bld f hm
  refine (h.store (s' := s') (R := fun r => r = .tuple #[.int .i64 n, .nilIface]) (fun _ _ d => d.mono l) fun own ho => ?_).mono ?_
  · have := rdBuildTop_calls ho R.good f
    rw [e, errV0] at this
    exact this
  · rintro r w' ⟨hr, hC⟩
    exact ⟨n, s', hr, hC, R', l, d⟩
theorem caAnd (h : CaI W w ps pc s) (R : Ro s L M) (da : Den s a f) (db : Den s b g) (hm : sizeF s.ord (L ++ [andF f g]) ≤ M) : CallsR Try.prog 35 #[.pointer (some ⟨ps, 0, none⟩), .pointer (some ⟨pc, 0, none⟩), .int .i64 a, .int .i64 b] w fun r w' => ∃ n s', r = .tuple #[.int .i64 n, .nilIface] ∧ CaI W w' ps pc s' ∧ Ro s' (L ++ [andF f g]) M ∧ s.Le s' ∧ Den s' n (andF f g) := by
  obtain ⟨n, s', e, R', l, d⟩ := R.bld (andF f g) hm
  refine (h.turn (s' := s') (R := fun r => r = .tuple #[.int .i64 n, .nilIface]) fun own bm es ck ho => ?_).mono ?_
  · have := operAnd_calls ho R.good (bt_rng R.good.wf da) (bt_rng R.good.wf db)
    rw [ite_den da db .c0, iteF_and0, e, errV0] at this
    exact this
  · rintro r w' ⟨hr, hC⟩
    exact ⟨n, s', hr, hC, R', l, d⟩
theorem caNew (h0' : 0 ≤ M) (h1' : M ≤ 20000) (w : World) : CallsR Try.prog 19 #[.int .i64 M] w fun r w' => ∃ ps, r = .pointer (some ⟨ps, 0, none⟩) ∧ OneI w w' ps (Md.new M) := OneI.new h0' h1' w
end
end Go.Proofs.Ytpeindhocndmnaa

namespace Go.Proofs.Ytpeindhocndmnaa
open Go Go.Bx
set_option linter.unusedSimpArgs false
set_option linter.unusedVariables false
set_option maxRecDepth 100000
set_option maxHeartbeats 4000000
attribute [local irreducible] X XO XE XF XD XW thenX inX retX kN CallsR
section
variable {P : Program} {w : World} {t ty kt et b clock sz by_ : Nat} {z : Value} {e : Env} {x : Operand} {κ : Type} {kf : κ → Value} {es : List (Ent κ)}
def clR (P : Program) (t : TypeId) (a : Value) (w : World) : Result Value := (Builtin.clear_ #[t] 0 #[a]).run P w
def clO (P : Program) (t : TypeId) (b : Nat) (w : World) (ob : Option Obj) (_ : w.heap[b]? = ob) : Result Value := clR P t (.map (some b)) w
theorem rG_clear : rG P (.call { callee := .builtin .clear, args := #[x], argTypes := #[t] }) ty e w = vR (clR P t (ev e x) w) := by
  show (do let d ← resolve (ev e) { callee := .builtin .clear, args := #[x], argTypes := #[t] } ty; invoke d.target d.args : Sem Next).run P w = _
  simp only [Sem.run_bind, resolve, pure, Sem.run, Result.andThen_ok, invoke, builtin]
  simp only [List.map_toArray, List.map_cons, List.map_nil]
  rfl
theorem clR_map : clR P t (.map (some b)) w = clO P t b w (w.heap[b]?) rfl := rfl
attribute [push_cast] rG_clear clR_map
end
section
variable {own own1 : Nat → Nat} {W w w' w1 w2 : World} {p pc ps pm bm ck : Nat} {s s' sM s2 : Md} {es : List (Ent (Int × Int × Int))} {a b c n v g : Int} {f : Fun8}
def PcK (W w : World) (ps pc pm : Nat) (s sM : Md) (kp : List (Nat × Obj)) : Prop :=
  ∃ own bm es ck ownM, IcI own w ps s pc bm es ck ∧ RsI ownM w pm sM ∧ (∀ k, own k ≠ 0 → ownM k = 0) ∧ ownM pc = 0 ∧ ownM bm = 0 ∧ (∀ k, own k ≠ 0 → W.heap.size ≤ k) ∧ (∀ k, ownM k ≠ 0 → W.heap.size ≤ k) ∧ W.heap.size ≤ bm ∧ Ext W w ∧ (∀ x ∈ kp, w.heap[x.1]? = some x.2 ∧ own x.1 = 0 ∧ ownM x.1 = 0 ∧ x.1 ≠ bm)
abbrev PcI (W w : World) (ps pc pm : Nat) (s sM : Md) : Prop := PcK W w ps pc pm s sM []
variable {kp : List (Nat × Obj)}
end
end Go.Proofs.Ytpeindhocndmnaa

namespace Go.Proofs.Ytpeindhocndmnaa
open Go Go.Bx
set_option linter.unusedSimpArgs false
set_option linter.unusedVariables false
set_option maxRecDepth 100000
set_option maxHeartbeats 4000000
attribute [local irreducible] X XO XE XF XD XW thenX inX retX kN CallsR
def okL (l : List Int) : Prop := ∀ n ∈ l, okI n
end Go.Proofs.Ytpeindhocndmnaa

namespace Go.Bx
open Go
set_option linter.unusedSimpArgs false
set_option linter.unusedVariables false
end Go.Bx

namespace Go.Proofs.Ytpeindhocndmnaa
open Go Go.Bx
set_option linter.unusedSimpArgs false
set_option linter.unusedVariables false
set_option maxRecDepth 100000
set_option maxHeartbeats 4000000
attribute [local irreducible] X XO XE XF XD XW thenX inX retX kN CallsR
end Go.Proofs.Ytpeindhocndmnaa

namespace Go.Proofs.Ytpeindhocndmnaa
open Go Go.Bx
set_option linter.unusedSimpArgs false
set_option linter.unusedVariables false
set_option maxRecDepth 100000
set_option maxHeartbeats 4000000
attribute [local irreducible] X XO XE XF XD XW thenX inX retX kN CallsR
end Go.Proofs.Ytpeindhocndmnaa

namespace Go.Proofs.Ytpeindhocndmnaa
open Go Go.Bx
set_option linter.unusedSimpArgs false
set_option linter.unusedVariables false
set_option maxRecDepth 100000
set_option maxHeartbeats 4000000
attribute [local irreducible] X XO XE XF XD XW thenX inX retX kN CallsR
end Go.Proofs.Ytpeindhocndmnaa

namespace Go.Proofs.Ytpeindhocndmnaa
open Go Go.Bx
set_option linter.unusedSimpArgs false
set_option linter.unusedVariables false
set_option maxRecDepth 100000
set_option maxHeartbeats 4000000
attribute [local irreducible] X XO XE XF XD XW thenX inX retX kN CallsR
section
variable {w : World} {b ck : Nat} {es : List (Ent Int)} {v : Value} {n : Int}
theorem luI (h : w.heap[b]? = some (mObj (Value.int .i64) es ck)) : luO Try.prog 150 b (.int .i64 n) true w (some (mObj (Value.int .i64) es ck)) h = .ok (.tuple #[(mget es n).getD (.int .i64 0), .bool (mget es n).isSome]) w := lookup_at h T150 T3 (intK T3.und) trivial (fun _ _ => trivial) true
theorem luI1 (h : w.heap[b]? = some (mObj (Value.int .i64) es ck)) : luO Try.prog 150 b (.int .i64 n) false w (some (mObj (Value.int .i64) es ck)) h = .ok ((mget es n).getD (.int .i64 0)) w := lookup_at h T150 T3 (intK T3.und) trivial (fun _ _ => trivial) false
theorem muI (h : w.heap[b]? = some (mObj (Value.int .i64) es ck)) : muO Try.prog 150 b (.int .i64 n) v w (some (mObj (Value.int .i64) es ck)) h = .ok () (upd w b (mObj (Value.int .i64) (mput es n v ck) (mclock es n ck))) := update_at h T150 (intK T3.und) trivial (fun _ _ => trivial) v
attribute [push_cast] luI luI1 muI
theorem nod_has {s : Md} (hh : s.has n = true) : s.node n = (s.nd n, true) := by unfold Md.node; rw [hh]; rfl
theorem nod_no {s : Md} (hh : s.has n = false) : s.node n = ((0, 0, 0), false) := by unfold Md.node; rw [hh]; rfl
end
end Go.Proofs.Ytpeindhocndmnaa

namespace Go.Proofs.Ytpeindhocndmnaa
open Go Go.Bx
set_option linter.unusedSimpArgs false
set_option linter.unusedVariables false
set_option maxRecDepth 100000
set_option maxHeartbeats 4000000
attribute [local irreducible] X XO XE XF XD XW thenX inX retX kN CallsR
def KnQ (s : Md) (v : Int) (b : Bool) (es : List (Ent Int)) : Prop := ∀ x ∈ es, ∃ (m : Int) (f : Fun8), x.2.1 = .int .i64 m ∧ Den s x.1 f ∧ Den s m (cofF f v b)
theorem KnQ.mono {s s' : Md} {v : Int} {b : Bool} {es : List (Ent Int)} (h : KnQ s v b es) (hl : s.Le s') : KnQ s' v b es := fun x hx => by
  obtain ⟨m, f, h1, h2, h3⟩ := h x hx
  exact ⟨m, f, h1, h2.mono hl, h3.mono hl⟩
theorem KnQ.put {s : Md} {v : Int} {b : Bool} {es : List (Ent Int)} {ck : Nat} {n m : Int} {f : Fun8} (h : KnQ s v b es) (hI : MInv es ck) (d : Den s n f) (dm : Den s m (cofF f v b)) : KnQ s v b (mput es n (.int .i64 m) ck) := by
  intro x hx
  rcases mput_mem hI.keys hx with ⟨h1, _⟩ | ⟨h1, h2, _⟩
  · exact h x h1
  · exact ⟨m, f, h2, by rw [h1]; exact d, dm⟩
structure QsI (own : Nat → Nat) (w : World) (p : Nat) (s : Md) (bb bm : Nat) (v : Int) (b : Bool) (es : List (Ent Int)) (ck : Nat) : Prop where
  sti : StI own w p s []
  hb : w.heap[bb]? = some (.cells #[.pointer (some ⟨p, 0, none⟩), .int .i64 v, .bool b, .map (some bm)] 152)
  hm : w.heap[bm]? = some (mObj (Value.int .i64) es ck)
  inv : MInv es ck
  kn : KnQ s v b es
  ob : own bb = 0
  om : own bm = 0
section
variable {own own' own1 : Nat → Nat} {w w' w1 w2 : World} {p bb bm ck : Nat} {s s' s2 : Md} {es : List (Ent Int)} {f : Fun8} {n m v : Int} {b : Bool}
theorem QsI.ext (h : QsI own w p s bb bm v b es ck) (hE : Ext w w') : QsI own w' p s bb bm v b es ck := ⟨h.sti.ext hE, hE.at h.hb, hE.at h.hm, h.inv, h.kn, h.ob, h.om⟩
def QsT (own : Nat → Nat) (w : World) (p : Nat) (s' : Md) (bb bm : Nat) (v : Int) (b : Bool) (w' : World) : Prop := ∃ own' es' ck', QsI own' w' p s' bb bm v b es' ck' ∧ BtS own w bm own' w'
theorem QsT.of_ext (h : QsI own w p s bb bm v b es ck) (hE : Ext w w') : QsT own w p s bb bm v b w' := ⟨own, es, ck, h.ext hE, BtS.of_ext hE⟩
theorem QsT.ext (k : QsT own w p s bb bm v b w1) (hE : Ext w1 w2) : QsT own w p s bb bm v b w2 := by
  obtain ⟨o2, e2, c2, h1, h2⟩ := k
  exact ⟨o2, e2, c2, h1.ext hE, h2.ext hE⟩
theorem QsI.turn (h : QsI own w p s bb bm v b es ck) (hl : s.Le s') (hT : TrI own w p s' [] w') : ∃ own', QsI own' w' p s' bb bm v b es ck ∧ BtS own w bm own' w' := by
  obtain ⟨o, h1, h2, h3⟩ := hT
  have hk : ∀ k, k < w.heap.size → own k = 0 → w'.heap[k]? = w.heap[k]? := fun k hk h0 => h3.heap k hk fun hf => hf h0
  have lb := lt_of_heap h.hb
  have lm := lt_of_heap h.hm
  refine ⟨o, ⟨h1, (hk _ lb h.ob).trans h.hb, (hk _ lm h.om).trans h.hm, h.inv, h.kn.mono hl, (h2 _ lb).trans h.ob, (h2 _ lm).trans h.om⟩, h2, h3.mono fun k _ hk => .inl hk⟩
theorem QsI.put (h : QsI own w p s bb bm v b es ck) (d : Den s n f) (dm : Den s m (cofF f v b)) : QsI own (upd w bm (mObj (Value.int .i64) (mput es n (.int .i64 m) ck) (mclock es n ck))) p s bb bm v b (mput es n (.int .i64 m) ck) (mclock es n ck) := by
  have lm := lt_of_heap h.hm
  have hne : bb ≠ bm := fun e => by have h1 := h.hb; rw [e, h.hm] at h1; cases h1
  have hC : Chg (fun k => k = bm) w (upd w bm (mObj (Value.int .i64) (mput es n (.int .i64 m) ck) (mclock es n ck))) := chg_
  exact ⟨h.sti.chg0 hC fun k hk => hk ▸ h.om, (hC.heap _ (lt_of_heap h.hb) hne).trans h.hb, upd_same lm, h.inv.put _ _, h.kn.put h.inv d dm, h.ob, h.om⟩
theorem qSet_none (h : QsI own w p s bb bm v b es ck) (W : s.WF) (hn : n ≤ 9223372036854775807) (hh : s.has n = false) : CallsR Try.prog 116 #[.pointer (some ⟨bb, 0, none⟩), .int .i64 n] w fun r w' => r = .tuple #[.int .i64 n, errV 0] ∧ Ext w w' := by
  have n1 := stNode_calls h.sti W n hn
  rw [node_no hh] at n1
  simp only [ndV] at n1
  have od := stOrder_calls h.sti
  obtain ⟨oc, hoc⟩ := ordC (ord := s.ord) W.ord.len
  rw [hoc.agg] at od
  have ho8 := hoc.len8
  have hoe := hoc.cell
  have hoz := hoc.size
  have hoa := hoc.all
  have hb := h.hb
  have lb := lt_of_heap hb
  clear h
  refine en2 Try.func116 Try.results116 mixed [(18, [8])] ?_
  intro e0 h0 h1
  refine w_ fun d => ?_
  refine qq n1 fun w1 hE1 hs1 => ?_
  have hb1 := (Ext.trans (by exact ext_) hE1 : Ext w w1).at hb
  have lb1 := lt_of_heap hb1
  refine w_ fun d => ?_
  refine qq od fun w2 hE2 hs2 => ?_
  refine w_ fun d => ?_
  exact ⟨by rw [errV0], ext_⟩
theorem qSet_far (h : QsI own w p s bb bm v b es ck) (W : s.WF) (hn : n ≤ 9223372036854775807) (hh : s.has n = true) (hl : lvl s.ord v < lvl s.ord (s.nd n).1) : CallsR Try.prog 116 #[.pointer (some ⟨bb, 0, none⟩), .int .i64 n] w fun r w' => r = .tuple #[.int .i64 n, errV 0] ∧ Ext w w' := by
  have n1 := stNode_calls h.sti W n hn
  rw [node_has hh] at n1
  obtain ⟨⟨x, lo, hi⟩, hz⟩ : ∃ z, s.nd n = z := ⟨_, rfl⟩
  rw [hz] at n1 hl
  simp only [ndV] at n1
  dsimp only at hl
  have od := stOrder_calls h.sti
  obtain ⟨oc, hoc⟩ := ordC (ord := s.ord) W.ord.len
  rw [hoc.agg] at od
  have ho8 := hoc.len8
  have hoe := hoc.cell
  have hoz := hoc.size
  have hoa := hoc.all
  have lx := level_oc hoc x
  have lv := level_oc hoc v
  have hb := h.hb
  have lb := lt_of_heap hb
  clear h
  generalize lvl s.ord x = Lx at hl lx
  generalize lvl s.ord v = Lv at hl lv
  refine en2 Try.func116 Try.results116 mixed [(18, [8])] ?_
  intro e0 h0 h1
  refine w_ fun d => ?_
  refine qq n1 fun w1 hE1 hs1 => ?_
  have hb1 := (Ext.trans (by exact ext_) hE1 : Ext w w1).at hb
  have lb1 := lt_of_heap hb1
  refine w_ fun d => ?_
  refine qq od fun w2 hE2 hs2 => ?_
  have hb2 := (Ext.trans (by exact ext_) hE2 : Ext w1 w2).at hb1
  have lb2 := lt_of_heap hb2
  refine w_ fun d => ?_
  intro w3 hE3 hs3
  refine w_ fun d => ?_
  exact ⟨by rw [errV0], ext_⟩
theorem qSet_own (h : QsI own w p s bb bm v b es ck) (W : s.WF) (hn : n ≤ 9223372036854775807) (hh : s.has n = true) (hx : (s.nd n).1 = v) : CallsR Try.prog 116 #[.pointer (some ⟨bb, 0, none⟩), .int .i64 n] w fun r w' => r = .tuple #[.int .i64 (if b then (s.nd n).2.2 else (s.nd n).2.1), errV 0] ∧ Ext w w' := by
  have n1 := stNode_calls h.sti W n hn
  rw [node_has hh] at n1
  obtain ⟨⟨x, lo, hi⟩, hz⟩ : ∃ z, s.nd n = z := ⟨_, rfl⟩
  rw [hz] at n1 hx ⊢
  simp only [ndV] at n1
  dsimp only at hx ⊢
  subst hx
  have od := stOrder_calls h.sti
  obtain ⟨oc, hoc⟩ := ordC (ord := s.ord) W.ord.len
  rw [hoc.agg] at od
  have ho8 := hoc.len8
  have hoe := hoc.cell
  have hoz := hoc.size
  have hoa := hoc.all
  have lx := level_oc hoc x
  have hb := h.hb
  have lb := lt_of_heap hb
  clear h
  generalize lvl s.ord x = Lx at lx
  cases b
  · refine en2 Try.func116 Try.results116 mixed [(18, [8])] ?_
    intro e0 h0 h1
    refine w_ fun d => ?_
    refine qq n1 fun w1 hE1 hs1 => ?_
    have hb1 := (Ext.trans (by exact ext_) hE1 : Ext w w1).at hb
    have lb1 := lt_of_heap hb1
    refine w_ fun d => ?_
    refine qq od fun w2 hE2 hs2 => ?_
    have hb2 := (Ext.trans (by exact ext_) hE2 : Ext w1 w2).at hb1
    have lb2 := lt_of_heap hb2
    have h62 : w2.heap[w1.heap.size]? = some (.cells #[.int .i64 x, .int .i64 lo, .int .i64 hi] 39) := hE2.at (hA rfl)
    have l62 := lt_of_heap h62
    refine w_ fun d => ?_
    intro w3 hE3 hs3
    have hb3 := (Ext.trans (by exact ext_) hE3 : Ext w2 w3).at hb2
    have lb3 := lt_of_heap hb3
    have h63 := (Ext.trans (by exact ext_) hE3 : Ext w2 w3).at h62
    have l63 := lt_of_heap h63
    refine w_ fun d => ?_
    exact ⟨by rw [errV0]; rfl, ext_⟩
  · refine en2 Try.func116 Try.results116 mixed [(18, [8])] ?_
    intro e0 h0 h1
    refine w_ fun d => ?_
    refine qq n1 fun w1 hE1 hs1 => ?_
    have hb1 := (Ext.trans (by exact ext_) hE1 : Ext w w1).at hb
    have lb1 := lt_of_heap hb1
    refine w_ fun d => ?_
    refine qq od fun w2 hE2 hs2 => ?_
    have hb2 := (Ext.trans (by exact ext_) hE2 : Ext w1 w2).at hb1
    have lb2 := lt_of_heap hb2
    have h62 : w2.heap[w1.heap.size]? = some (.cells #[.int .i64 x, .int .i64 lo, .int .i64 hi] 39) := hE2.at (hA rfl)
    have l62 := lt_of_heap h62
    refine w_ fun d => ?_
    intro w3 hE3 hs3
    have hb3 := (Ext.trans (by exact ext_) hE3 : Ext w2 w3).at hb2
    have lb3 := lt_of_heap hb3
    have h63 := (Ext.trans (by exact ext_) hE3 : Ext w2 w3).at h62
    have l63 := lt_of_heap h63
    refine w_ fun d => ?_
    exact ⟨by rw [errV0]; rfl, ext_⟩
theorem qSet_calls {p bb bm : Nat} {v : Int} {b : Bool} (hv : 0 ≤ v ∧ v < 8) : ∀ (k : Nat) (own : Nat → Nat) (w : World) (s : Md) (es : List (Ent Int)) (ck : Nat) (n : Int) (f : Fun8), QsI own w p s bb bm v b es ck → s.Good [] → Den s n f → nv f ≤ k →
    CallsR Try.prog 116 #[.pointer (some ⟨bb, 0, none⟩), .int .i64 n] w fun r w' => r = .tuple #[.int .i64 (s.bld (cofF f v b)).1.1, errV (s.bld (cofF f v b)).1.2] ∧ QsT own w p (s.bld (cofF f v b)).2 bb bm v b w' := by
  intro k
  induction k using Nat.strongRecOn with
  | _ k ih =>
  intro own w s es ck n f h G dn hk
  have hn := bt_rng G.wf dn
  have fin : ∀ m, Den s m (cofF f v b) → (CallsR Try.prog 116 #[.pointer (some ⟨bb, 0, none⟩), .int .i64 n] w fun r w' => r = .tuple #[.int .i64 m, errV 0] ∧ Ext w w') → CallsR Try.prog 116 #[.pointer (some ⟨bb, 0, none⟩), .int .i64 n] w fun r w' => r = .tuple #[.int .i64 (s.bld (cofF f v b)).1.1, errV (s.bld (cofF f v b)).1.2] ∧ QsT own w p (s.bld (cofF f v b)).2 bb bm v b w' := fun m dm hc => by
    rw [G.bld_ex dm]
    refine hc.mono ?_
    rintro r w' ⟨rfl, hE⟩
    exact ⟨rfl, QsT.of_ext h hE⟩
  cases hh : s.has n with
  | false =>
    have hf : depF f v = false := by
      cases hd : depF f v
      · rfl
      · have := (G.dep dn hd).1; rw [hh] at this; cases this
    exact fin n (by rw [cof_nodep hf]; exact dn) (qSet_none h G.wf hn hh)
  | true =>
  by_cases hl : lvl s.ord v < lvl s.ord (s.nd n).1
  · have hf : depF f v = false := by
      cases hd : depF f v
      · rfl
      · have := (G.dep dn hd).2; omega
    exact fin n (by rw [cof_nodep hf]; exact dn) (qSet_far h G.wf hn hh hl)
  have ⟨d0, d1⟩ := G.sides dn hh
  by_cases hx : (s.nd n).1 = v
  · refine fin _ ?_ (qSet_own h G.wf hn hh hx)
    rw [hx] at d0 d1
    cases b
    · exact d0
    · exact d1
  have hxr := (G.node n hh (by simp)).var
  have hdx := G.top hh dn
  have hbe := fun u hu => (G.dep dn (v := u) hu).2
  have n1 := stNode_calls h.sti G.wf n hn
  rw [node_has hh] at n1
  obtain ⟨⟨x, lo, hi⟩, hz⟩ : ∃ z, s.nd n = z := ⟨_, rfl⟩
  rw [hz] at n1 hl hx hxr hdx hbe d0 d1
  simp only [ndV] at n1
  dsimp only at hl hx hxr hdx hbe d0 d1
  have nv0 := nv_cof (b := false) hdx
  have nv1 := nv_cof (b := true) hdx
  have hgo := bld_split (f := cofF f v b) G hxr (fun u hu => hbe u (dep_of_cof hu))
  unfold SplB at hgo
  rw [cof_comm (fun e => hx e.symm), cof_comm (fun e => hx e.symm)] at hgo
  have hbl := G.bld (cofF f v b)
  have od := stOrder_calls h.sti
  obtain ⟨oc, hoc⟩ := ordC (ord := s.ord) G.wf.ord.len
  rw [hoc.agg] at od
  have ho8 := hoc.len8
  have hoe := hoc.cell
  have hoz := hoc.size
  have hoa := hoc.all
  have lx := level_oc hoc x
  have lv := level_oc hoc v
  have hxv : (x == v) = false := by simpa using hx
  have hb := h.hb
  have hm := h.hm
  have lb := lt_of_heap hb
  have lm := lt_of_heap hm
  have own0 : ∀ k, w.heap.size ≤ k → own k = 0 := fun k hk => by
    cases ho : own k with
    | zero => rfl
    | succ q => have := h.sti.lt k (by omega); omega
  generalize lvl s.ord x = Lx at hl lx
  generalize lvl s.ord v = Lv at hl lv
  cases hg : mget es n with
  | some val =>
    obtain ⟨bb', hbb⟩ := mget_some hg
    obtain ⟨m, f', e1, e2, e3⟩ := h.kn _ hbb
    dsimp only at e1 e2
    obtain rfl := e2.fn dn
    subst e1
    have g1 : (mget es n).isSome = true := by rw [hg]; rfl
    have g2 : (mget es n).getD (.int .i64 0) = .int .i64 m := by rw [hg]; rfl
    refine fin m e3 ?_
    clear hg hbb e2 e3 ih fin hgo hbl h hbe dn d0 d1 own0 G
    refine en2 Try.func116 Try.results116 mixed [(18, [8])] ?_
    intro e0 h0 h1
    refine w_ fun d => ?_
    refine qq n1 fun w1 hE1 hs1 => ?_
    have hE01 : Ext w w1 := Ext.trans (by exact ext_) hE1
    have hb1 := hE01.at hb
    have hm1 := hE01.at hm
    have lb1 := lt_of_heap hb1
    refine w_ fun d => ?_
    refine qq od fun w2 hE2 hs2 => ?_
    have hE12 : Ext w1 w2 := Ext.trans (by exact ext_) hE2
    have hb2 := hE12.at hb1
    have hm2 := hE12.at hm1
    have lb2 := lt_of_heap hb2
    have h62 : w2.heap[w1.heap.size]? = some (.cells #[.int .i64 x, .int .i64 lo, .int .i64 hi] 39) := hE2.at (hA rfl)
    have l62 := lt_of_heap h62
    refine w_ fun d => ?_
    intro w3 hE3 hs3
    have hE23 : Ext w2 w3 := Ext.trans (by exact ext_) hE3
    have hb3 := hE23.at hb2
    have hm3 := hE23.at hm2
    have lb3 := lt_of_heap hb3
    have lm3 := lt_of_heap hm3
    have h63 := hE23.at h62
    have l63 := lt_of_heap h63
    refine w_ fun d => ?_
    exact ⟨by rw [errV0], ext_⟩
  | none =>
  have g1 : (mget es n).isSome = false := by rw [hg]; rfl
  obtain ⟨R, hR⟩ : ∃ R, s.bld (cofF f v b) = R := ⟨_, rfl⟩
  rw [hR] at hgo hbl ⊢
  clear hg fin hR
  refine en2 Try.func116 Try.results116 mixed [(18, [8])] ?_
  intro e0 h0 h1
  refine w_ fun d => ?_
  refine qq n1 fun w1 hE1 hs1 => ?_
  have hE01 : Ext w w1 := Ext.trans (by exact ext_) hE1
  have hb1 := hE01.at hb
  have hm1 := hE01.at hm
  have lb1 := lt_of_heap hb1
  refine w_ fun d => ?_
  refine qq od fun w2 hE2 hs2 => ?_
  have hE12 : Ext w1 w2 := Ext.trans (by exact ext_) hE2
  have hb2 := hE12.at hb1
  have hm2 := hE12.at hm1
  have lb2 := lt_of_heap hb2
  have h62 : w2.heap[w1.heap.size]? = some (.cells #[.int .i64 x, .int .i64 lo, .int .i64 hi] 39) := hE2.at (hA rfl)
  have l62 := lt_of_heap h62
  have z6 : w.heap.size ≤ w1.heap.size := hE01.size
  obtain ⟨b6, hb6⟩ : ∃ b, w1.heap.size = b := ⟨_, rfl⟩
  rw [hb6] at h62 z6 ⊢
  have o6 := own0 _ z6
  have n6 : b6 ≠ bm := by omega
  refine w_ fun d => ?_
  intro w3 hE3 hs3
  have hE23 : Ext w2 w3 := Ext.trans (by exact ext_) hE3
  have hE03 := (hE01.trans hE12).trans hE23
  have h3 := h.ext hE03
  have hb3 := h3.hb
  have hm3 := h3.hm
  have lb3 := lt_of_heap hb3
  have lm3 := lt_of_heap hm3
  have h63 := hE23.at h62
  have l63 := lt_of_heap h63
  have hS3 := BtS.of_ext (own := own) (bm := bm) hE03
  clear own0 hb hm lb lm hE01 hE12 hE23 hE03 hE1 hE2 hE3 hs1 hs2 hs3 hb1 hm1 lb1 hb2 hm2 lb2 h62 l62 hb6 od n1 hbe h
  refine w_ fun d => ?_
  have hED : Ext w3 (dr w3 d) := ext_
  refine (ih _ (Nat.lt_of_lt_of_le nv0 hk) own _ s es ck lo _ (h3.ext hED) G d0 (Nat.le_refl _)).mono ?_
  rintro r w4 ⟨hr, own1, es1, ck1, hI1, hS1⟩
  have hS4 := (hS3.ext hED).trans hS1
  obtain ⟨o61, h64⟩ := hS1.out (hED.at h63) o6 n6
  have l64 := lt_of_heap h64
  rcases hgo with ⟨e0, eR⟩ | ⟨n0, s0, e0, G0, L0, D0, hgo⟩
  · rw [eR, e0]
    rw [e0] at hr
    dsimp only at hr
    subst hr
    rw [errV2]
    clear ih
    refine w_ fun d => ?_
    exact ⟨rfl, _, _, _, hI1, hS4⟩
  rw [e0] at hr hI1
  dsimp only at hr hI1
  subst hr
  rw [errV0]
  clear h3 hb3 hm3 lb3 lm3 h63 l63 hS3 hS1 hED
  refine w_ fun d => ?_
  refine (ih _ (Nat.lt_of_lt_of_le nv1 hk) own1 w4 s0 es1 ck1 hi _ hI1 G0 (d1.mono L0) (Nat.le_refl _)).mono ?_
  rintro r w5 ⟨hr, own2, es2, ck2, hI2, hS2⟩
  have hS5 := hS4.trans hS2
  obtain ⟨o62, h65⟩ := hS2.out h64 o61 n6
  have l65 := lt_of_heap h65
  rcases hgo with ⟨e1, eR⟩ | ⟨n1, s1, e1, G1, L1, D1, hgo⟩
  · rw [eR, e1]
    rw [e1] at hr
    dsimp only at hr
    subst hr
    rw [errV2]
    clear ih
    refine w_ fun d => ?_
    exact ⟨rfl, _, _, _, hI2, hS5⟩
  rw [e1] at hr hI2
  dsimp only at hr hI2
  subst hr
  rw [errV0]
  have L01 := L0.trans L1
  have hmk := fun u (hu : Ext w5 u) => stMk_calls (v := x) ((hI2.ext hu).sti) G1 (bt_rng G1.wf (D0.mono L1)) (bt_rng G1.wf D1)
  rw [← hgo] at hmk
  have hLR : s1.Le R.2 := by rw [hgo]; exact (G1.mks _ _ _).2.1
  have hb5 := hI2.hb
  have lb5 := lt_of_heap hb5
  clear ih hgo e0 e1 hI1 hS4 hS2 h64 l64
  refine w_ fun d => ?_
  refine s_draw (XD_ext ?_)
  refine de_ ?_
  refine xe2w fun w6 hE6 => ?_
  have hI6 := hI2.ext hE6
  refine krA ?_
  refine ke ?_
  refine (hmk w6 hE6).mono ?_
  rintro _ w7 ⟨rfl, hTr⟩
  obtain ⟨own3, hI3, hS3⟩ := hI6.turn hLR hTr
  have hS7 := (hS5.ext hE6).trans hS3
  clear hmk
  refine de_ ?_
  refine xn_ fun w8 hE8 hs8 => ?_
  have hI8 := hI3.ext hE8
  have hS8 := hS7.ext hE8
  have hb8 := hI8.hb
  have hm8 := hI8.hm
  have lb8 := lt_of_heap hb8
  have lm8 := lt_of_heap hm8
  obtain ⟨⟨Rn, Re⟩, R2⟩ := R
  dsimp only at hI8 hLR ⊢
  clear hI2 hI6 hI3 hTr hS3 hS7 hS5 hE6 hE8 hs8 hb5 lb5 h65 l65
  rcases hbl.res with ⟨e2, D2⟩ | ⟨e2, _⟩
  · dsimp only at e2 D2
    subst e2
    rw [errV0]
    have hput := hI8.put (dn.mono (L01.trans hLR)) D2
    have hTp : BtS own3 w8 bm own3 (upd w8 bm (mObj (Value.int .i64) (mput es2 n (.int .i64 Rn) ck2) (mclock es2 n ck2))) := ⟨fun _ _ => rfl, chg_⟩
    refine w_ fun d => ?_
    exact ⟨rfl, QsT.ext ⟨_, _, _, hput, hS8.trans hTp⟩ ext_⟩
  · cases e2
    rw [errV2]
    refine w_ fun d => ?_
    exact ⟨rfl, QsT.ext ⟨_, _, _, hI8, hS8⟩ ext_⟩
theorem qMay_calls (h : StI own w p s []) (W : s.WF) (n v : Int) (hn : n ≤ 9223372036854775807) : Quiet Try.prog 115 #[.pointer (some ⟨p, 0, none⟩), .int .i64 n, .int .i64 v] w (.bool (s.there n && (decide (0 ≤ v) && decide (v < 8)))) := by
  intro u hu
  have n1 := (stNode_calls h W n hn).at hu
  have hv : (decide (0 ≤ v) && decide (v < 8)) = if v < 0 then false else decide (v < 8) := by
    by_cases h : v < 0
    · rw [if_pos h, decide_eq_false (by omega)]; rfl
    · rw [if_neg h, decide_eq_true (by omega)]; rfl
  rw [hv]
  clear hv
  unfold Md.there
  cases hh : s.has n
  · rw [node_no hh] at n1
    simp only [ndV] at n1
    clear h W hh
    by_cases h0 : n = 0
    · subst h0
      by_cases hv0 : v < 0
      · rw [if_pos hv0]
        refine en3 Try.func115 Try.results115 mixed [] ?_
        intro e0 h0 h1 h2
        refine w_ fun d => ?_
        refine qq n1 fun w1 hE1 hs1 => ?_
        refine w_ fun d => ?_
        exact ⟨rfl, ext_⟩
      · rw [if_neg hv0]
        have hv0' : 0 ≤ v := by omega
        refine en3 Try.func115 Try.results115 mixed [] ?_
        intro e0 h0 h1 h2
        refine w_ fun d => ?_
        refine qq n1 fun w1 hE1 hs1 => ?_
        refine w_ fun d => ?_
        exact ⟨rfl, ext_⟩
    · have e0 : (n == 0) = false := by simpa using h0
      have d0 : decide (n = 0) = false := decide_eq_false h0
      by_cases h1 : n = 1
      · subst h1
        by_cases hv0 : v < 0
        · rw [if_pos hv0]
          refine en3 Try.func115 Try.results115 mixed [] ?_
          intro e0 h0 h1 h2
          refine w_ fun d => ?_
          refine qq n1 fun w1 hE1 hs1 => ?_
          refine w_ fun d => ?_
          exact ⟨rfl, ext_⟩
        · rw [if_neg hv0]
          have hv0' : 0 ≤ v := by omega
          refine en3 Try.func115 Try.results115 mixed [] ?_
          intro e0 h0 h1 h2
          refine w_ fun d => ?_
          refine qq n1 fun w1 hE1 hs1 => ?_
          refine w_ fun d => ?_
          exact ⟨rfl, ext_⟩
      · have e1 : (n == 1) = false := by simpa using h1
        have d1 : decide (n = 1) = false := decide_eq_false h1
        rw [d0, d1]
        clear d0 d1
        refine en3 Try.func115 Try.results115 mixed [] ?_
        intro e0 h0 h1 h2
        refine w_ fun d => ?_
        refine qq n1 fun w1 hE1 hs1 => ?_
        refine w_ fun d => ?_
        exact ⟨rfl, ext_⟩
  · rw [node_has hh] at n1
    rw [Bool.or_true, Bool.or_true, Bool.true_and]
    obtain ⟨⟨a, b, c⟩, hz⟩ : ∃ z, s.nd n = z := ⟨_, rfl⟩
    rw [hz] at n1
    simp only [ndV] at n1
    clear h W hz hh
    by_cases hv0 : v < 0
    · rw [if_pos hv0]
      refine en3 Try.func115 Try.results115 mixed [] ?_
      intro e0 h0 h1 h2
      refine w_ fun d => ?_
      refine qq n1 fun w1 hE1 hs1 => ?_
      refine w_ fun d => ?_
      exact ⟨rfl, ext_⟩
    · rw [if_neg hv0]
      have hv0' : 0 ≤ v := by omega
      refine en3 Try.func115 Try.results115 mixed [] ?_
      intro e0 h0 h1 h2
      refine w_ fun d => ?_
      refine qq n1 fun w1 hE1 hs1 => ?_
      refine w_ fun d => ?_
      exact ⟨rfl, ext_⟩
theorem qRestrict_calls (h : StI own w p s []) (G : s.Good []) (ha : n ≤ 9223372036854775807) (b : Bool) :
    CallsR Try.prog 61 #[.pointer (some ⟨p, 0, none⟩), .int .i64 n, .int .i64 v, .bool b] w fun r w' => r = .tuple #[.int .i64 (s.restr n v b).1.1, errV (s.restr n v b).1.2] ∧ TrI own w p (s.restr n v b).2 [] w' := by
  have my := qMay_calls h G.wf n v ha
  cases hy : s.there n && (decide (0 ≤ v) && decide (v < 8))
  · rw [restr_no hy, errV1]
    rw [hy] at my
    clear hy G
    refine en4 Try.func61 Try.results61 mixed [] ?_
    intro e0 h0 h1 h2 h3
    refine w_ fun d => ?_
    refine qq my fun w1 hE1 hs1 => ?_
    refine w_ fun d => ?_
    exact ⟨rfl, TrI.of_ext h ext_⟩
  rw [restr_yes hy]
  rw [hy] at my
  simp only [Bool.and_eq_true, decide_eq_true_eq] at hy
  obtain ⟨ht, hv⟩ := hy
  have dn := G.there_den ht
  generalize s.tab n = f at dn ⊢
  have own0 : ∀ k, w.heap.size ≤ k → own k = 0 := fun k hk => by
    cases ho : own k with
    | zero => rfl
    | succ q => have := h.lt k (by omega); omega
  refine en4 Try.func61 Try.results61 mixed [] ?_
  intro e0 h0 h1 h2 h3
  refine w_ fun d => ?_
  refine qq my fun w1 hE1 hs1 => ?_
  refine w_ fun d => ?_
  have hEu := hE1.trans (show Ext w1 ((w1.alloc (.map #[] 0)).alloc (.cells #[.pointer (some ⟨p, 0, none⟩), .int .i64 v, .bool b, .map (some w1.heap.size)] 152)) from ext_)
  have z1 := hE1.size
  have hQ : QsI own ((w1.alloc (.map #[] 0)).alloc (.cells #[.pointer (some ⟨p, 0, none⟩), .int .i64 v, .bool b, .map (some w1.heap.size)] 152)) p s (w1.heap.size + 1) w1.heap.size v b [] 0 := ⟨h.ext hEu, hA rfl, hA rfl, MInv.nil, fun x hx => (by cases hx), own0 _ (by omega), own0 _ (by omega)⟩
  refine (qSet_calls hv _ own _ s [] 0 n f hQ G dn (Nat.le_refl _)).mono ?_
  rintro _ w3 ⟨rfl, own1, es1, ck1, hI1, hS1⟩
  have hT : TrI own w p (s.bld (cofF f v b)).2 [] w3 := ⟨own1, hI1.sti, fun k hk => hS1.ho k (Nat.lt_of_lt_of_le hk hEu.size), (hEu.chg _).trans (hS1.ch.mono fun k _ hf => hf) fun k hk hf => hf.elim id fun h => by omega⟩
  refine w_ fun d => ?_
  exact ⟨rfl, hT.ext ext_⟩
end
end Go.Proofs.Ytpeindhocndmnaa

namespace Go.Proofs.Ytpeindhocndmnaa
open Go Go.Bx
set_option linter.unusedSimpArgs false
set_option linter.unusedVariables false
set_option maxRecDepth 100000
set_option maxHeartbeats 4000000
attribute [local irreducible] X XO XE XF XD XW thenX inX retX kN CallsR
structure Bth (s : Md) (a v lo hi e : Int) (s' : Md) : Prop where
  good : s'.Good []
  err : e = 0 ∨ e = 1 ∨ e = 2
  ok : e = 0 → (∀ k, s.both a v k = k s' lo hi) ∧ s'.there lo = true ∧ s'.there hi = true
  no : e ≠ 0 → ∀ k, s.both a v k = ((0, e), s')
theorem errV_some {e : Int} (h : e ≠ 0) : errV e = .iface 127 (.int .i64 e) := if_neg h
section
variable {own own' own1 : Nat → Nat} {w w' w1 w2 : World} {p pc bm ck : Nat} {s s' s2 : Md} {es : List (Ent (Int × Int × Int))} {f : Fun8} {a n m v g : Int} {b : Bool}
theorem qBoth_calls (h : IcI own w p s pc bm es ck) (G : s.Good []) (ha : a ≤ 9223372036854775807) :
    CallsR Try.prog 117 #[.pointer (some ⟨p, 0, none⟩), .int .i64 a, .int .i64 v] w fun r w' => ∃ lo hi e s', r = .tuple #[.int .i64 lo, .int .i64 hi, errV e] ∧ IcT own w p s' pc bm w' ∧ Bth s a v lo hi e s' := by
  have r0 := qRestrict_calls (v := v) h.sti G ha false
  have i0 := G.rtt a v false
  have key : ∀ k, s.both a v k = if (s.restr a v false).1.2 = 0 then
    if ((s.restr a v false).2.restr a v true).1.2 = 0 then k ((s.restr a v false).2.restr a v true).2 (s.restr a v false).1.1 ((s.restr a v false).2.restr a v true).1.1
    else (s.restr a v false).2.restr a v true
  else s.restr a v false := fun k => rfl
  obtain ⟨⟨⟨n0, q0⟩, s0⟩, hR⟩ : ∃ R, s.restr a v false = R := ⟨_, rfl⟩
  rw [hR] at r0 i0
  simp only [hR] at key
  dsimp only at r0 key
  have t0 := fun w' (hT : TrI own w p s0 [] w') => h.turn (fun n f d => d.mono i0.le) hT
  have er0 := i0.err
  have z0 := i0.zero
  dsimp only at er0 z0
  by_cases h0' : q0 = 0
  rotate_left
  · have z := z0 h0'
    subst z
    have hB : Bth s a v 0 0 q0 s0 := ⟨i0.good, er0, fun e => absurd e h0', fun _ k => by rw [key, if_neg h0']⟩
    rw [errV_some h0'] at r0
    clear key z0 er0 i0 hR G
    refine en3 Try.func117 Try.results117 mixed [] ?_
    intro e0 h0 h1 h2
    refine w_ fun d => ?_
    refine r0.mono ?_
    rintro _ w1 ⟨rfl, hT⟩
    obtain ⟨own1, hI1, hS1⟩ := t0 w1 hT
    refine w_ fun d => ?_
    exact ⟨0, 0, q0, s0, by rw [errV_some h0'], IcT.ext ⟨own1, es, ck, hI1, hS1⟩ ext_, hB⟩
  subst h0'
  rw [errV0] at r0
  have g0 := i0.good
  dsimp only at g0
  have r1 := fun own u (h : StI own u p s0 []) => qRestrict_calls (v := v) h g0 ha true
  have i1 := g0.rtt a v true
  obtain ⟨⟨⟨n1, e1⟩, s1⟩, hR1⟩ : ∃ R, s0.restr a v true = R := ⟨_, rfl⟩
  rw [hR1] at i1
  simp only [hR1] at key r1
  have er1 := i1.err
  have z1 := i1.zero
  have th0 := i0.there rfl
  have th1 := i1.there
  dsimp only at er1 z1 th0 th1
  have th0' : s1.there n0 = true := by
    have := g0.there_den th0
    exact (this.mono i1.le).isThere
  have hB : Bth s a v n0 n1 e1 s1 := ⟨i1.good, er1, fun e => ⟨fun k => by rw [key, if_pos trivial, if_pos e], th0', th1 e⟩, fun e k => by
    have := z1 e
    subst this
    rw [key, if_pos trivial, if_neg e]⟩
  have t1 := fun own u w' es ck (h : IcI own u p s0 pc bm es ck) (hT : TrI own u p s1 [] w') => h.turn (fun n f d => d.mono i1.le) hT
  clear key z0 er0 i0 hR G er1 z1 th0 th1 th0' i1 hR1 g0
  refine en3 Try.func117 Try.results117 mixed [] ?_
  intro e0 h0 h1 h2
  refine w_ fun d => ?_
  refine r0.mono ?_
  rintro _ w1 ⟨rfl, hT⟩
  obtain ⟨own1, hI1, hS1⟩ := t0 w1 hT
  clear r0 t0
  refine w_ fun d => ?_
  refine (r1 _ _ hI1.sti).mono ?_
  rintro _ w2 ⟨rfl, hT2⟩
  obtain ⟨own2, hI2, hS2⟩ := t1 _ _ w2 _ _ hI1 hT2
  have hC : IcT own w p s1 pc bm w2 := ⟨own2, es, ck, hI2, hS1.trans hS2⟩
  clear r1 t1
  refine w_ fun d => ?_
  exact ⟨n0, n1, e1, s1, rfl, hC.ext ext_, hB⟩
theorem errV_cases {e : Int} (h : e = 0 ∨ e = 1 ∨ e = 2) : (e = 0 ∧ errV e = .nilIface) ∨ (e ≠ 0 ∧ errV e = .iface 127 (.int .i64 e)) := by
  by_cases he : e = 0
  · exact .inl ⟨he, by rw [he, errV0]⟩
  · exact .inr ⟨he, errV_some he⟩
theorem qExists_calls (h : IcI own w p s pc bm es ck) (G : s.Good []) (ha : a ≤ 9223372036854775807) :
    CallsR Try.prog 65 #[.pointer (some ⟨p, 0, none⟩), .pointer (some ⟨pc, 0, none⟩), .int .i64 a, .int .i64 v] w fun r w' => r = .tuple #[.int .i64 (s.exist a v).1.1, errV (s.exist a v).1.2] ∧ IcT own w p (s.exist a v).2 pc bm w' := by
  have bo := qBoth_calls (v := v) h G ha
  clear h
  have key : s.exist a v = s.both a v fun s lo hi => s.ite lo 1 hi := rfl
  rw [key]
  clear key
  refine en4 Try.func65 Try.results65 mixed [] ?_
  intro e0 h0 h1 h2 h3
  refine w_ fun d => ?_
  refine bo.mono ?_
  rintro _ w1 ⟨lo, hi, e, s', rfl, ⟨own1, es1, ck1, hI1, hS1⟩, B⟩
  rcases errV_cases B.err with ⟨he, hv⟩ | ⟨he, hv⟩
  · obtain ⟨b1, b2, b3⟩ := B.ok he
    rw [b1, hv]
    have go := operOr_calls hI1 B.good (there_rng B.good.wf b2) (there_rng B.good.wf b3)
    generalize s'.ite lo 1 hi = R at go
    clear b1 B bo
    refine w_ fun d => ?_
    refine go.mono ?_
    rintro _ w2 ⟨rfl, hT⟩
    refine w_ fun d => ?_
    exact ⟨rfl, (IcT.trans hS1 hT).ext ext_⟩
  · rw [B.no he, hv]
    clear B bo
    refine w_ fun d => ?_
    exact ⟨rfl, IcT.ext ⟨own1, es1, ck1, hI1, hS1⟩ ext_⟩
theorem qForall_calls (h : IcI own w p s pc bm es ck) (G : s.Good []) (ha : a ≤ 9223372036854775807) :
    CallsR Try.prog 66 #[.pointer (some ⟨p, 0, none⟩), .pointer (some ⟨pc, 0, none⟩), .int .i64 a, .int .i64 v] w fun r w' => r = .tuple #[.int .i64 (s.forall_ a v).1.1, errV (s.forall_ a v).1.2] ∧ IcT own w p (s.forall_ a v).2 pc bm w' := by
  have bo := qBoth_calls (v := v) h G ha
  clear h
  have key : s.forall_ a v = s.both a v fun s lo hi => s.ite lo hi 0 := rfl
  rw [key]
  clear key
  refine en4 Try.func66 Try.results66 mixed [] ?_
  intro e0 h0 h1 h2 h3
  refine w_ fun d => ?_
  refine bo.mono ?_
  rintro _ w1 ⟨lo, hi, e, s', rfl, ⟨own1, es1, ck1, hI1, hS1⟩, B⟩
  rcases errV_cases B.err with ⟨he, hv⟩ | ⟨he, hv⟩
  · obtain ⟨b1, b2, b3⟩ := B.ok he
    rw [b1, hv]
    have go := operAnd_calls hI1 B.good (there_rng B.good.wf b2) (there_rng B.good.wf b3)
    generalize s'.ite lo hi 0 = R at go
    clear b1 B bo
    refine w_ fun d => ?_
    refine go.mono ?_
    rintro _ w2 ⟨rfl, hT⟩
    refine w_ fun d => ?_
    exact ⟨rfl, (IcT.trans hS1 hT).ext ext_⟩
  · rw [B.no he, hv]
    clear B bo
    refine w_ fun d => ?_
    exact ⟨rfl, IcT.ext ⟨own1, es1, ck1, hI1, hS1⟩ ext_⟩
theorem qCompose_calls (h : IcI own w p s pc bm es ck) (G : s.Good []) (ha : a ≤ 9223372036854775807) (hg : g ≤ 9223372036854775807) :
    CallsR Try.prog 63 #[.pointer (some ⟨p, 0, none⟩), .pointer (some ⟨pc, 0, none⟩), .int .i64 a, .int .i64 v, .int .i64 g] w fun r w' => r = .tuple #[.int .i64 (s.compose a v g).1.1, errV (s.compose a v g).1.2] ∧ IcT own w p (s.compose a v g).2 pc bm w' := by
  have my := qMay_calls h.sti G.wf g v hg
  cases hy : s.there g && (decide (0 ≤ v) && decide (v < 8))
  · have e : s.compose a v g = ((0, 1), s) := by unfold Md.compose; rw [hy]; rfl
    rw [e, errV1]
    rw [hy] at my
    clear hy G e
    refine en5 Try.func63 Try.results63 mixed [] ?_
    intro e0 h0 h1 h2 h3 h4
    refine w_ fun d => ?_
    refine qq my fun w1 hE1 hs1 => ?_
    refine w_ fun d => ?_
    exact ⟨rfl, IcT.of_ext h ext_⟩
  have e : s.compose a v g = s.both a v fun s lo hi => s.ite g hi lo := by unfold Md.compose; rw [hy]; rfl
  rw [e]
  rw [hy] at my
  clear hy e
  have bo := fun u (hu : Ext w u) => qBoth_calls (v := v) (h.ext hu) G ha
  refine en5 Try.func63 Try.results63 mixed [] ?_
  intro e0 h0 h1 h2 h3 h4
  refine w_ fun d => ?_
  refine qq my fun w1 hE1 hs1 => ?_
  refine w_ fun d => ?_
  refine (bo w1 hE1).mono ?_
  rintro _ w2 ⟨lo, hi, e, s', rfl, ⟨own1, es1, ck1, hI1, hS1⟩, B⟩
  have hS2 := (BtS.of_ext (own := own) (bm := bm) hE1).trans hS1
  rcases errV_cases B.err with ⟨he, hv⟩ | ⟨he, hv⟩
  · obtain ⟨b1, b2, b3⟩ := B.ok he
    rw [b1, hv]
    have go := iteI_calls (a := g) hI1 B.good hg (there_rng B.good.wf b3) (there_rng B.good.wf b2)
    generalize s'.ite g hi lo = R at go
    clear b1 B bo
    refine w_ fun d => ?_
    refine go.mono ?_
    rintro _ w3 ⟨rfl, hT⟩
    refine w_ fun d => ?_
    exact ⟨rfl, (IcT.trans hS2 hT).ext ext_⟩
  · rw [B.no he, hv]
    clear B bo
    refine w_ fun d => ?_
    exact ⟨rfl, IcT.ext ⟨own1, es1, ck1, hI1, hS2⟩ ext_⟩
end
end Go.Proofs.Ytpeindhocndmnaa

namespace Go.Bx
open Go
set_option linter.unusedSimpArgs false
set_option linter.unusedVariables false
section
variable {s s' : Md} {n m a b c v : Int} {f g h : Fun8} {L K : List Fun8} {ord : List Int} {M : Int}
theorem mk_var (G : s.Good []) (hv : 0 ≤ v ∧ v < 8) : s.mk' [] v 0 1 = s.bld (varF v) := by
  have h := bld_split (f := varF v) G hv fun u hu => by rw [dep_var hu]; exact Int.le_refl _
  unfold SplB at h
  rw [cof_var_same hv, cof_var_same hv, G.bld_ex .c0] at h
  rcases h with ⟨e, _⟩ | ⟨n0, s0, e, _, _, _, h⟩
  · cases e
  · cases e
    rw [G.bld_ex .c1] at h
    rcases h with ⟨e, _⟩ | ⟨n1, s1, e, _, _, _, h⟩
    · cases e
    · cases e
      exact h.symm
theorem Ro.var (R : Ro s L M) (hv : 0 ≤ v ∧ v < 8) (hm : sizeF s.ord (L ++ [varF v]) ≤ M) : ∃ n s', s.mk' [] v 0 1 = ((n, 0), s') ∧ Ro s' (L ++ [varF v]) M ∧ s.Le s' ∧ Den s' n (varF v) := by
  rw [mk_var R.good hv]; exact R.bld _ hm
theorem Ro.both (R : Ro s L M) (d : Den s a f) (hv : 0 ≤ v ∧ v < 8) (h0 : sizeF s.ord (L ++ [cofF f v false]) ≤ M) (h1 : sizeF s.ord (L ++ [cofF f v false] ++ [cofF f v true]) ≤ M) :
    ∃ n0 n1 s', (∀ k, s.both a v k = k s' n0 n1) ∧ Ro s' (L ++ [cofF f v false] ++ [cofF f v true]) M ∧ s.Le s' ∧ Den s' n0 (cofF f v false) ∧ Den s' n1 (cofF f v true) := by
  obtain ⟨n0, s0, e0, R0, l0, d0⟩ := R.bld _ h0
  obtain ⟨n1, s1, e1, R1, l1, d1⟩ := R0.bld _ (by rw [l0.ord]; exact h1)
  refine ⟨n0, n1, s1, fun k => ?_, R1, l0.trans l1, d0.mono l1, d1⟩
  unfold Md.both
  rw [restr_den d hv, e0]
  dsimp only
  rw [if_pos rfl, restr_den (d.mono l0) hv, e1, if_pos rfl]
theorem Ro.exist (R : Ro s L M) (d : Den s a f) (hv : 0 ≤ v ∧ v < 8) (h0 : sizeF s.ord (L ++ [cofF f v false]) ≤ M) (h1 : sizeF s.ord (L ++ [cofF f v false] ++ [cofF f v true]) ≤ M)
    (h2 : sizeF s.ord (L ++ [cofF f v false] ++ [cofF f v true] ++ [orF (cofF f v false) (cofF f v true)]) ≤ M) :
    ∃ n s', s.exist a v = ((n, 0), s') ∧ Ro s' (L ++ [cofF f v false] ++ [cofF f v true] ++ [orF (cofF f v false) (cofF f v true)]) M ∧ s.Le s' ∧ Den s' n (orF (cofF f v false) (cofF f v true)) := by
  obtain ⟨n0, n1, s1, e, R1, l1, d0, d1⟩ := R.both d hv h0 h1
  obtain ⟨n, s2, e2, R2, l2, d2⟩ := R1.bld (orF (cofF f v false) (cofF f v true)) (by rw [l1.ord]; exact h2)
  refine ⟨n, s2, ?_, R2, l1.trans l2, d2⟩
  unfold Md.exist
  rw [e, ite_den d0 .c1 d1, iteF_or1, e2]
theorem Ro.forall_ (R : Ro s L M) (d : Den s a f) (hv : 0 ≤ v ∧ v < 8) (h0 : sizeF s.ord (L ++ [cofF f v false]) ≤ M) (h1 : sizeF s.ord (L ++ [cofF f v false] ++ [cofF f v true]) ≤ M)
    (h2 : sizeF s.ord (L ++ [cofF f v false] ++ [cofF f v true] ++ [andF (cofF f v false) (cofF f v true)]) ≤ M) :
    ∃ n s', s.forall_ a v = ((n, 0), s') ∧ Ro s' (L ++ [cofF f v false] ++ [cofF f v true] ++ [andF (cofF f v false) (cofF f v true)]) M ∧ s.Le s' ∧ Den s' n (andF (cofF f v false) (cofF f v true)) := by
  obtain ⟨n0, n1, s1, e, R1, l1, d0, d1⟩ := R.both d hv h0 h1
  obtain ⟨n, s2, e2, R2, l2, d2⟩ := R1.bld (andF (cofF f v false) (cofF f v true)) (by rw [l1.ord]; exact h2)
  refine ⟨n, s2, ?_, R2, l1.trans l2, d2⟩
  unfold Md.forall_
  rw [e, ite_den d0 d1 .c0, iteF_and0, e2]
theorem Ro.compose (R : Ro s L M) (d : Den s a f) (dg : Den s b g) (hv : 0 ≤ v ∧ v < 8) (h0 : sizeF s.ord (L ++ [cofF f v false]) ≤ M) (h1 : sizeF s.ord (L ++ [cofF f v false] ++ [cofF f v true]) ≤ M)
    (h2 : sizeF s.ord (L ++ [cofF f v false] ++ [cofF f v true] ++ [iteF g (cofF f v true) (cofF f v false)]) ≤ M) :
    ∃ n s', s.compose a v b = ((n, 0), s') ∧ Ro s' (L ++ [cofF f v false] ++ [cofF f v true] ++ [iteF g (cofF f v true) (cofF f v false)]) M ∧ s.Le s' ∧ Den s' n (iteF g (cofF f v true) (cofF f v false)) := by
  obtain ⟨n0, n1, s1, e, R1, l1, d0, d1⟩ := R.both d hv h0 h1
  obtain ⟨n, s2, e2, R2, l2, d2⟩ := R1.bld (iteF g (cofF f v true) (cofF f v false)) (by rw [l1.ord]; exact h2)
  refine ⟨n, s2, ?_, R2, l1.trans l2, d2⟩
  unfold Md.compose
  rw [dg.isThere, decide_eq_true hv.1, decide_eq_true hv.2, if_pos (show (true && (true && true)) = true from rfl), e, ite_den (dg.mono l1) d1 d0, e2]
theorem size_two {u : Int} (ho : AllOnce ord) (h : ∀ x, depF f x = true → x = v ∨ x = u) : sizeF ord [f] ≤ 3 := by
  by_cases ht : 0 ≤ topF ord f
  · rw [size_sides ht]
    have hd := topF_dep ht
    have one : ∀ b, sizeF ord [cofF f (topF ord f) b] ≤ 1 := fun b => by
      rcases h _ hd with e | e
      · refine size_one (v := u) ho fun x hx => ?_
        rcases h x (dep_of_cof hx) with e2 | e2
        · rw [e, ← e2, dep_cof] at hx; cases hx
        · exact e2
      · refine size_one (v := v) ho fun x hx => ?_
        rcases h x (dep_of_cof hx) with e2 | e2
        · exact e2
        · rw [e, ← e2, dep_cof] at hx; cases hx
    unfold kids
    rw [if_pos ht]
    have := size_app (ord := ord) (l := [cofF f (topF ord f) false]) (k := [cofF f (topF ord f) true])
    have h0 := one false
    have h1 := one true
    have e : [cofF f (topF ord f) false] ++ [cofF f (topF ord f) true] = [cofF f (topF ord f) false, cofF f (topF ord f) true] := rfl
    rw [e] at this
    omega
  · have := size_zero (ord := ord).2 ((top_none_iff ho).1 (topF_none ht).2)
    omega
theorem dep_and {u : Int} (h : depF (andF f g) u = true) : depF f u = true ∨ depF g u = true := by
  rw [← iteF_and0] at h
  rcases dep_iteF h with h | h | h
  · exact .inl h
  · exact .inr h
  · rw [dep_const] at h; cases h
theorem cof_and01 (b : Bool) : cofF (andF (varF 0) (varF 1)) 0 b = if b then varF 1 else constF false := by
  rw [← iteF_and0, cof_iteF, cof_var_same (by decide), cof_var_other (by decide), cof_const, ite_const]
theorem or_zero : orF (constF false) f = f := by rw [← iteF_or1, ite_const]; rfl
end
end Go.Bx

namespace Go.Proofs.Ytpeindhocndmnaa
open Go Go.Bx
set_option linter.unusedSimpArgs false
set_option linter.unusedVariables false
set_option maxRecDepth 100000
set_option maxHeartbeats 4000000
attribute [local irreducible] X XO XE XF XD XW thenX inX retX kN CallsR
section
variable {W w w' w1 w2 : World} {p ps pm pc : Nat} {s s' sM : Md} {n v x y lo hi a : Int} {f g : Fun8} {L : List Fun8} {M : Int}
theorem caMkV (h : CaI W w ps pc s) (R : Ro s L M) (hv : 0 ≤ v ∧ v < 8) (hm : sizeF s.ord (L ++ [varF v]) ≤ M) : CallsR Try.prog 82 #[.pointer (some ⟨ps, 0, none⟩), .int .i64 v, .int .i64 0, .int .i64 1] w fun r w' => ∃ n s', r = .tuple #[.int .i64 n, .nilIface] ∧ CaI W w' ps pc s' ∧ Ro s' (L ++ [varF v]) M ∧ s.Le s' ∧ Den s' n (varF v) := by
  obtain ⟨n, s', e, R', l, d⟩ := R.var hv hm
  refine (h.store (s' := s') (R := fun r => r = .tuple #[.int .i64 n, .nilIface]) (fun _ _ d => d.mono l) fun own ho => ?_).mono ?_
  · have := stMk_calls (v := v) (lo := 0) (hi := 1) ho R.good (by decide) (by decide)
    rw [e, errV0] at this
    exact this
  · rintro r w' ⟨hr, hC⟩
    exact ⟨n, s', hr, hC, R', l, d⟩
theorem up11_calls (w : World) : CallsR Try.prog 60 #[] w fun r w' => r = .bool true ∧ Ext w w' := by
  have ca1 := cof_and01
  have oz := fun f => or_zero (f := f)
  obtain ⟨X, hX⟩ : ∃ X, varF 0 = X := ⟨_, rfl⟩
  obtain ⟨Y, hY⟩ : ∃ Y, varF 1 = Y := ⟨_, rfl⟩
  obtain ⟨A, hA⟩ : ∃ A, andF X Y = A := ⟨_, rfl⟩
  have cm0 := fun W w ps pc s L M (h : CaI W w ps pc s) (R : Ro s L M) => caMkV (v := 0) h R (by decide)
  have cm1 := fun W w ps pc s L M (h : CaI W w ps pc s) (R : Ro s L M) => caMkV (v := 1) h R (by decide)
  rw [hX] at cm0 ca1
  rw [hY] at cm1 ca1
  rw [hA] at ca1
  have zx : ∀ ord, AllOnce ord → sizeF ord [X] ≤ 1 := fun ord ho => hX ▸ size_var ho
  have zy : ∀ ord, AllOnce ord → sizeF ord [Y] ≤ 1 := fun ord ho => hY ▸ size_var ho
  have za : ∀ ord, AllOnce ord → sizeF ord [A] ≤ 3 := fun ord ho => size_two (v := 0) (u := 1) ho fun x hx => by
    rw [← hA] at hx
    rcases dep_and hx with h | h
    · rw [← hX] at h; exact .inl (dep_var h)
    · rw [← hY] at h; exact .inr (dep_var h)
  have k0 : cofF A 0 false = constF false := by rw [ca1]; rfl
  have k1 : cofF A 0 true = Y := by rw [ca1]; rfl
  have bd : ∀ ord, AllOnce ord → sizeF ord ([X] ++ [Y] ++ [A] ++ [constF false] ++ [Y] ++ [Y]) ≤ 9 ∧ sizeF ord ([X] ++ [Y] ++ [A] ++ [constF false] ++ [Y]) ≤ 9 ∧ sizeF ord ([X] ++ [Y] ++ [A] ++ [constF false]) ≤ 9 ∧ sizeF ord ([X] ++ [Y] ++ [A]) ≤ 9 ∧ sizeF ord ([X] ++ [Y]) ≤ 9 ∧ sizeF ord ([] ++ [X]) ≤ 9 := fun ord ho => by
    have h1 := size_snoc (ord := ord) (L := [X]) (f := Y)
    have h2 := size_snoc (ord := ord) (L := [X] ++ [Y]) (f := A)
    have h3 := size_snoc (ord := ord) (L := [X] ++ [Y] ++ [A]) (f := constF false)
    have h4 := size_snoc (ord := ord) (L := [X] ++ [Y] ++ [A] ++ [constF false]) (f := Y)
    have h5 := size_snoc (ord := ord) (L := [X] ++ [Y] ++ [A] ++ [constF false] ++ [Y]) (f := Y)
    rw [size_c] at h3
    have := zx ord ho
    have := zy ord ho
    have := za ord ho
    have e : ([] : List Fun8) ++ [X] = [X] := rfl
    rw [e]
    omega
  clear hX hY ca1 zx zy za
  have c0 := fun u => caNew (M := 9) (by decide) (by decide) u
  have code1 := code_sure 1 (by decide) (by decide)
  have cst : ∀ {a b : Nat}, a ≤ b → (a : Int) ≤ (b : Int) := fun h => Int.ofNat_le.2 h
  refine en0 Try.func60 Try.results60 mixed [] ?_
  intro e0
  refine w_ fun d => ?_
  refine (c0 _).mono ?_
  rintro _ w1 ⟨ps, rfl, h1⟩
  refine w_ fun d => ?_
  refine (iteNew_calls _).mono ?_
  rintro _ w2 ⟨pc, bm, rfl, q1, q2, q3, q4, hE⟩
  have h2 := h1.cache hE q1 q2 q3 q4
  have R0 : Ro (Md.new 9) [] 9 := Ro.new (by decide) (by decide)
  clear q1 q2 q3 q4 hE c0 h1
  refine w_ fun d => ?_
  refine (cm0 _ _ _ _ _ _ _ h2 R0 (cst (bd _ R0.good.wf.ord.once).2.2.2.2.2)).mono ?_
  rintro _ w3 ⟨nx, s1, rfl, h3, R1, l1, d1⟩
  refine w_ fun d => ?_
  refine (cm1 _ _ _ _ _ _ _ h3 R1 (cst (bd _ R1.good.wf.ord.once).2.2.2.2.1)).mono ?_
  rintro _ w4 ⟨ny, s2, rfl, h4, R2, l2, d2⟩
  have d12 := d1.mono l2
  have ca := caAnd h4 R2 d12 d2 (by rw [hA]; exact cst (bd _ R2.good.wf.ord.once).2.2.2.1)
  rw [hA] at ca
  refine w_ fun d => ?_
  refine ca.mono ?_
  rintro _ w5 ⟨na, s3, rfl, h5, R3, l3, d3⟩
  have ex := R3.exist (v := 0) d3 (by decide) (by rw [k0]; exact cst (bd _ R3.good.wf.ord.once).2.2.1) (by rw [k0, k1]; exact cst (bd _ R3.good.wf.ord.once).2.1) (by rw [k0, k1, oz]; exact cst (bd _ R3.good.wf.ord.once).1)
  obtain ⟨ne, s4, e4, R4, l4, d4⟩ := ex
  rw [k0, k1, oz] at d4
  obtain rfl : ne = ny := R4.good.canon d4 ((d2.mono l3).mono l4)
  have da := bt_rng R3.good.wf d3
  have c4 : ∀ W u, CaI W u ps pc s3 → CallsR Try.prog 65 #[.pointer (some ⟨ps, 0, none⟩), .pointer (some ⟨pc, 0, none⟩), .int .i64 na, .int .i64 0] u fun r w' => r = .tuple #[.int .i64 ne, errV 0] ∧ CaI W w' ps pc s4 := fun W u h => by
    refine h.turn (R := fun r => r = .tuple #[.int .i64 ne, errV 0]) fun own bm es ck ho => ?_
    have := qExists_calls (v := 0) ho R3.good da
    rw [e4] at this
    exact this
  rw [errV0] at c4
  have rn : s4.restr na 8 true = ((0, 1), s4) := restr_no (by simp) true
  have c5 : ∀ W u, CaI W u ps pc s4 → CallsR Try.prog 61 #[.pointer (some ⟨ps, 0, none⟩), .int .i64 na, .int .i64 8, .bool true] u fun r w' => r = .tuple #[.int .i64 0, errV 1] ∧ CaI W w' ps pc s4 := fun W u h => by
    refine h.store (R := fun r => r = .tuple #[.int .i64 0, errV 1]) (fun _ _ d => d) fun own ho => ?_
    have := qRestrict_calls (v := 8) ho R4.good da true
    rw [rn] at this
    exact this
  clear ca cm0 cm1 bd cst k0 k1 oz h2 h3 h4 R0 R1 R2 R3 R4 l1 l2 l3 l4 d1 d2 d3 d4 d12 e4 rn da hA
  refine w_ fun d => ?_
  refine (c4 _ _ h5).mono ?_
  rintro _ w6 ⟨rfl, h6⟩
  refine w_ fun d => ?_
  refine (c5 _ _ h6).mono ?_
  rintro _ w7 ⟨rfl, h7⟩
  have hW7 := h7.world
  clear c4 c5 h5 h6 h7
  refine w_ fun d => ?_
  refine qq (code1.quiet (w := w7)) fun w8 hE8 hs8 => ?_
  refine w_ fun d => ?_
  exact ⟨rfl, ext_⟩
abbrev Dd11 := Int × Int × Int × Int × Bool × Bool
def encQ (d : Dd11) : List Value := [.int .i64 d.1, .int .i64 d.2.1, .int .i64 d.2.2.1, .int .i64 d.2.2.2.1, .bool d.2.2.2.2.1, .bool d.2.2.2.2.2]
def okQ (d : Dd11) : Prop := okI d.2.1 ∧ okI d.2.2.1 ∧ okI d.2.2.2.1
end
end Go.Proofs.Ytpeindhocndmnaa

namespace Go.Bx
open Go
set_option linter.unusedSimpArgs false
set_option linter.unusedVariables false
section
variable {s : Md} {n m v : Int} {f : Fun8} {l : List Int}
theorem rc_den (G : s.Good []) (d : Den s n f) (h : s.Rc [n] m) : ∃ g, Den s m g ∧ ∀ v, depF g v = true → depF f v = true := by
  induction h with
  | root hm hh => rw [List.mem_singleton.1 hm]; exact ⟨f, d, fun _ h => h⟩
  | lo h hh ih =>
    obtain ⟨g, dg, hg⟩ := ih
    exact ⟨_, (G.sides dg h.has).1, fun v hv => hg v (dep_of_cof2 hv)⟩
  | hi h hh ih =>
    obtain ⟨g, dg, hg⟩ := ih
    exact ⟨_, (G.sides dg h.has).2, fun v hv => hg v (dep_of_cof2 hv)⟩
theorem rc_dep (G : s.Good []) (d : Den s n f) (h : s.Rc [n] m) : depF f (s.nd m).1 = true := by
  obtain ⟨g, dg, hg⟩ := rc_den G d h
  exact hg _ (G.top h.has dg)
def orV (s : Md) : List Int → Nat
  | [] => 0
  | n :: l => orV s l ||| 2 ^ (s.nd n).1.toNat
end
end Go.Bx

namespace Go.Proofs.Ytpeindhocndmnaa
open Go Go.Bx
set_option linter.unusedSimpArgs false
set_option linter.unusedVariables false
set_option maxRecDepth 100000
set_option maxHeartbeats 4000000
attribute [local irreducible] X XO XE XF XD XW thenX inX retX kN CallsR
def lays125_ren : Go.Shelf.Ren := ⟨fun | 125 => 153 | 128 => 172 | 129 => 173 | n => n, fun | 46 => 126 | 3 => 3 | 51 => 204 | 53 => 52 | 4 => 4 | 5 => 5 | 9 => 9 | n => n, fun | n => n⟩
theorem lays125 : Go.Proofs.Lays.n125 Try.prog lays125_ren := {
  mixed := by kernel_rfl
  f125 := Try.func153.trans (congrArg some (by kernel_rfl))
  f128 := Try.func172.trans (congrArg some (by kernel_rfl))
  f129 := Try.func173.trans (congrArg some (by kernel_rfl))
  t3 := Try.underlying3
  a3 := Try.isAgg3
  z3 := Try.sizeOf3
  v3 := Try.zeroValue3
  t4 := Try.underlying4
  a4 := Try.isAgg4
  z4 := Try.sizeOf4
  v4 := Try.zeroValue4
  t5 := Try.underlying5
  a5 := Try.isAgg5
  z5 := Try.sizeOf5
  v5 := Try.zeroValue5
  t9 := Try.underlying9
  a9 := Try.isAgg9
  z9 := Try.sizeOf9
  v9 := Try.zeroValue9
  t46 := Try.underlying126
  a46 := Try.isAgg126
  z46 := Try.sizeOf126
  v46 := Try.zeroValue126
  t51 := Try.underlying204
  a51 := Try.isAgg204
  z51 := Try.sizeOf204
  v51 := Try.zeroValue204
  t53 := Try.underlying52
  a53 := Try.isAgg52
  z53 := Try.sizeOf52
  v53 := Try.zeroValue52 }
theorem bitsLen_sure (x : Int) (h0 : 0 ≤ x) (h1 : x ≤ 18446744073709551615) : Sure Try.prog 153 #[.int .u64 x] (.int .i64 (Lib.bitLen x.toNat)) := fun w => by
  have h : Calls Try.prog 153 #[.int .u64 x] w (fun e w' => e = .returned (.int .i64 (Lib.bitLen x.toNat)) ∧ w' = w) := Any.bits_Len lays125 x w h0 h1
  unfold CallsR
  exact h.mono fun en w' ⟨h, hw⟩ => ⟨_, h, rfl, hw ▸ Ext.refl w⟩
def lays189_ren : Go.Shelf.Ren := ⟨fun | 125 => 153 | 128 => 172 | 129 => 173 | 189 => 127 | 215 => 180 | 216 => 169 | 257 => 152 | 294 => 163 | 295 => 164 | 296 => 165 | 297 => 166 | 298 => 167 | 299 => 168 | 300 => 170 | 301 => 171 | 328 => 175 | 329 => 176 | 330 => 177 | 331 => 178 | 332 => 179 | 343 => 181 | n => n, fun | 0 => 0 | 3 => 3 | 4 => 4 | 5 => 5 | 9 => 9 | 28 => 34 | 46 => 126 | 51 => 204 | 53 => 52 | 131 => 165 | 182 => 197 | 183 => 198 | 218 => 206 | 222 => 210 | 228 => 212 | 229 => 81 | n => n, fun | n => n⟩
theorem lays189 : Go.Proofs.Lays.n189 Try.prog lays189_ren := {
  mixed := by kernel_rfl
  f125 := Try.func153.trans (congrArg some (by kernel_rfl))
  f128 := Try.func172.trans (congrArg some (by kernel_rfl))
  f129 := Try.func173.trans (congrArg some (by kernel_rfl))
  f189 := Try.func127.trans (congrArg some (by kernel_rfl))
  f215 := Try.func180.trans (congrArg some (by kernel_rfl))
  f216 := Try.func169.trans (congrArg some (by kernel_rfl))
  f257 := Try.func152.trans (congrArg some (by kernel_rfl))
  f294 := Try.func163.trans (congrArg some (by kernel_rfl))
  f295 := Try.func164.trans (congrArg some (by kernel_rfl))
  f296 := Try.func165.trans (congrArg some (by kernel_rfl))
  f297 := Try.func166.trans (congrArg some (by kernel_rfl))
  f298 := Try.func167.trans (congrArg some (by kernel_rfl))
  f299 := Try.func168.trans (congrArg some (by kernel_rfl))
  f300 := Try.func170.trans (congrArg some (by kernel_rfl))
  f301 := Try.func171.trans (congrArg some (by kernel_rfl))
  f328 := Try.func175.trans (congrArg some (by kernel_rfl))
  f329 := Try.func176.trans (congrArg some (by kernel_rfl))
  f330 := Try.func177.trans (congrArg some (by kernel_rfl))
  f331 := Try.func178.trans (congrArg some (by kernel_rfl))
  f332 := Try.func179.trans (congrArg some (by kernel_rfl))
  f343 := Try.func181.trans (congrArg some (by kernel_rfl))
  t0 := Try.underlying0
  a0 := Try.isAgg0
  z0 := Try.sizeOf0
  v0 := Try.zeroValue0
  t3 := Try.underlying3
  a3 := Try.isAgg3
  z3 := Try.sizeOf3
  v3 := Try.zeroValue3
  t4 := Try.underlying4
  a4 := Try.isAgg4
  z4 := Try.sizeOf4
  v4 := Try.zeroValue4
  t5 := Try.underlying5
  a5 := Try.isAgg5
  z5 := Try.sizeOf5
  v5 := Try.zeroValue5
  t9 := Try.underlying9
  a9 := Try.isAgg9
  z9 := Try.sizeOf9
  v9 := Try.zeroValue9
  t28 := Try.underlying34
  a28 := Try.isAgg34
  z28 := Try.sizeOf34
  v28 := Try.zeroValue34
  t46 := Try.underlying126
  a46 := Try.isAgg126
  z46 := Try.sizeOf126
  v46 := Try.zeroValue126
  t51 := Try.underlying204
  a51 := Try.isAgg204
  z51 := Try.sizeOf204
  v51 := Try.zeroValue204
  t53 := Try.underlying52
  a53 := Try.isAgg52
  z53 := Try.sizeOf52
  v53 := Try.zeroValue52
  t131 := Try.underlying165
  a131 := Try.isAgg165
  z131 := Try.sizeOf165
  v131 := Try.zeroValue165
  t182 := Try.underlying197
  a182 := Try.isAgg197
  z182 := Try.sizeOf197
  v182 := Try.zeroValue197
  t183 := Try.underlying198
  a183 := Try.isAgg198
  z183 := Try.sizeOf198
  v183 := Try.zeroValue198
  t218 := Try.underlying206
  a218 := Try.isAgg206
  z218 := Try.sizeOf206
  v218 := Try.zeroValue206
  t222 := Try.underlying210
  a222 := Try.isAgg210
  z222 := Try.sizeOf210
  v222 := Try.zeroValue210
  t228 := Try.underlying212
  a228 := Try.isAgg212
  z228 := Try.sizeOf212
  v228 := Try.zeroValue212
  t229 := Try.underlying81
  a229 := Try.isAgg81
  z229 := Try.sizeOf81
  v229 := Try.zeroValue81 }
structure Pm (w0 : World) (g cap : Nat) (l0 : List Int) (w : World) (l : List Int) : Prop where
  perm : l.Perm l0
  up : l.Pairwise (· ≤ ·)
  sl : SlC w 3 (some ⟨g, 0, none⟩) cap (ints l)
  ch : Chg (fun k => k = g) w0 w
theorem at_c {P : Program} {f : FuncId} {args : Array Value} {w : World} {K : Value → World → Prop} (h : ∀ u, u = w → CallsR P f args u K) : CallsR P f args w K := h w rfl
section
variable {w w0 w1 w' : World} {g cap : Nat} {l0 l l1 : List Int} {cur : Array Value} {i j : Int}
theorem Pm.len (h : Pm w0 g cap l0 w l) : l.length = l0.length := h.perm.length_eq
theorem sort_calls (h : SlC w 3 (some ⟨g, 0, none⟩) cap (ints l)) (hl : l.length ≤ 1000000000) :
    CallsR Try.prog 127 #[.slice (some ⟨g, 0, none⟩) l.length cap] w fun r w' => r = .tuple #[] ∧ ∃ k, Pm w g cap l w' k := by
  rcases h.l.row with ⟨e, _⟩ | ⟨g', cur, e, hg, h1, h2, h3, h4⟩
  · cases e
  · cases e
    have hlen : (one1 (ints l)).length = l.length := by simp
    rw [hlen] at h1 h4
    rw [one1_flat, Nat.mul_one] at h4
    have hlt := lt_of_heap hg
    have hH := holds_of_blockI hg (ss := l) h4
    have hc := Go.Proofs.Any.slices_Sort_int lays189 g 0 cap l w hH hlt (by omega)
    unfold CallsR
    refine Calls.mono (R := _) hc ?_
    rintro en w' ⟨rfl, n, os, rfl⟩
    have hperm := List.mergeSort_perm l fun x y => decide (x ≤ y)
    have hup : (l.mergeSort fun x y => decide (x ≤ y)).Pairwise (· ≤ ·) := by
      have := List.pairwise_mergeSort (le := fun x y : Int => decide (x ≤ y)) (fun a b c h1 h2 => by simp at *; omega) (fun a b => by simp; omega) l
      exact this.imp fun h => by simpa using h
    have hml := hperm.length_eq
    generalize (l.mergeSort fun x y => decide (x ≤ y)) = k at *
    have hgb := grownBy_sortedI (w := w) (g := g) (n := n) (os := os) k.toArray
    have hb2 := heap_sortedI (n := n) (os := os) k.toArray hg
    have htk := take_putCellsI cur k (by rw [hml]; omega)
    refine ⟨_, rfl, rfl, k, hperm, hup, ?_, ?_⟩
    · have e1 : (one1 (ints k)).length = k.length := by simp
      exact ⟨⟨by rw [one1_flat, e1]; simp, .inr ⟨g, _, rfl, hb2, by rw [e1]; omega, h2, by simp [Sort.putCells, h3], by rw [e1, one1_flat, Nat.mul_one]; exact htk⟩⟩, one1_len⟩
    · obtain ⟨a, b, c, d, e⟩ := hgb
      exact ⟨a, b, c, d, fun j hj hf => e j hj (by intro h; apply hf; first | exact Option.some.inj h | exact (Option.some.inj h).symm)⟩
theorem insertion_nil : Sure Try.prog 163 #[.slice none 0 0, .int .i64 0, .int .i64 0] (.tuple #[]) := by
  intro w
  refine en3 Try.func163 Try.results163 mixed [(6, [15, 17])] ?_
  intro e0 h0 h1 h2
  refine w_ fun d => ?_
  refine un_ 1 ?_
  refine w_ fun d => ?_
  exact ⟨rfl, ext_⟩
theorem pdq_nil (lim : Int) : Sure Try.prog 152 #[.slice none 0 0, .int .i64 0, .int .i64 0, .int .i64 lim] (.tuple #[]) := by
  intro w
  have go := insertion_nil
  refine en4 Try.func152 Try.results152 mixed [] ?_
  intro e0 h0 h1 h2 h3
  refine w_ fun d => ?_
  refine un_ 1 ?_
  refine w_ fun d => ?_
  refine qq (go.quiet (w := w)) fun w1 hE1 hs1 => ?_
  refine w_ fun d => ?_
  exact ⟨rfl, ext_⟩
theorem sort_nil : Sure Try.prog 127 #[.slice none 0 0] (.tuple #[]) := by
  intro w
  have bl := bitsLen_sure 0 (by omega) (by omega)
  have go := fun n => pdq_nil n
  refine en1 Try.func127 Try.results127 mixed [] ?_
  intro e0 h0
  refine w_ fun d => ?_
  refine qq (bl.quiet (w := w)) fun w1 hE1 hs1 => ?_
  refine w_ fun d => ?_
  refine qq ((go _).quiet (w := w1)) fun w2 hE2 hs2 => ?_
  refine w_ fun d => ?_
  exact ⟨rfl, ext_⟩
theorem slc_app {w : World} {a b0 : Option Addr} {cap c : Nat} {l m : List Int} (h : SlC w 3 a cap (ints l)) (hI : InI w b0 m) (hm : l.length + m.length ≤ 1099511627776) :
    ∃ a' cap' w', apR Try.prog 34 (.slice a l.length cap) (.slice b0 m.length c) w = .ok (.slice a' (l ++ m).length cap') w' ∧ SlC w' 3 a' cap' (ints (l ++ m)) ∧ Chg (fun k => blk a = some k) w w' ∧ (∀ g, blk a' = some g → blk a = some g ∨ (w.heap.size ≤ g ∧ g < w'.heap.size)) := by
  obtain ⟨a2, c2, w2, hr, hS2, hC2, hB2⟩ := Sl.append (news := one1 (ints m)) (c := c) h T34 T3 rfl (by decide) hI one1_len (by rw [one1_flat]; exact List.all_eq_true.2 fun x hx => by obtain ⟨y, _, rfl⟩ := List.mem_map.1 hx; rfl) (by simp; omega) (by decide)
  rw [← List.map_append, ← List.map_append] at hr
  simp only [List.length_map] at hr
  exact ⟨a2, c2, w2, hr, by unfold SlC; rw [ints, List.map_append, one1, List.map_append]; exact hS2, hC2, hB2⟩
theorem clone_calls {a : Option Addr} {c : Nat} (hI : InI w a l) (hl : l.length ≤ 1000000000) :
    CallsR Try.prog 126 #[.slice a l.length c] w fun r w' => ∃ a' c', r = .slice a' l.length c' ∧ SlC w' 3 a' c' (ints l) ∧ (∀ g, blk a' = some g → w.heap.size ≤ g) ∧ Ext w w' := by
  cases a with
  | none =>
    rcases hI with h | ⟨g, o, cs, E, fz, h, _⟩
    · have : l = [] := by simpa using h
      subst this
      refine en1 Try.func126 Try.results126 mixed [] ?_
      intro e0 h0
      refine w_ fun d => ?_
      exact ⟨none, 0, rfl, SlC.nil _ _, (fun g h => by cases h), ext_⟩
    · cases h
  | some ad =>
    have hE0 : Ext w (w.alloc (.cells #[] 3)) := ext_
    have h0' : SlC (w.alloc (.cells #[] 3)) 3 (some ⟨w.heap.size, 0, none⟩) 0 (ints []) := SlC.made (l := []) (hA rfl) (by simp)
    obtain ⟨a2, c2, w2, hr, hS, hC, hB⟩ := slc_app (c := c) h0' (Inp.ext hI hE0) (by simp; omega)
    simp only [List.nil_append, List.length_nil] at hr hS
    have hE2 : Ext w w2 := hC.toExt hE0 fun k hk hb => by have := blk_g hb; omega
    have hs2 := hC.size
    have hB2 : ∀ g, blk a2 = some g → w.heap.size ≤ g := fun g hg => by
      rcases hB g hg with h | h
      · have := blk_g h; omega
      · have := h.1; simp only [alloc_size] at this; omega
    clear hI h0' hC hB hE0
    refine en1 Try.func126 Try.results126 mixed [] ?_
    intro e0 h0
    refine w_ fun d => ?_
    exact ⟨a2, c2, rfl, hS.ext ext_, hB2, ext_⟩
end
end Go.Proofs.Ytpeindhocndmnaa

namespace Go.Proofs.Ytpeindhocndmnaa
open Go Go.Bx
set_option linter.unusedSimpArgs false
set_option linter.unusedVariables false
set_option maxRecDepth 100000
set_option maxHeartbeats 4000000
attribute [local irreducible] X XO XE XF XD XW thenX inX retX kN CallsR
theorem at_o {P : Program} {l : List GOp} {K : Env → World → Prop} {e : Env} {w : World} (h : ∀ u, u = w → XO P l K e u) : XO P l K e w := h w rfl
section
variable {w : World} {a : Option Addr} {cap : Nat} {l : List Int} {x y : Int}
theorem pushI2 (h : SlC w 3 a cap (ints l)) (hm : l.length ≤ 1000000000) (x y : Int) :
    ∃ a' cap' w', apR Try.prog 34 (.slice a l.length cap) (.slice (some ⟨w.heap.size, 0, none⟩) 2 2) (w.alloc (.cells #[.int .i64 x, .int .i64 y] 3)) = .ok (.slice a' (l.length + 2) cap') w' ∧
      SlC w' 3 a' cap' (ints (l ++ [x, y])) ∧ Chg (fun k => blk a = some k) w w' ∧ w.heap.size < w'.heap.size ∧ (∀ g, blk a' = some g → blk a = some g ∨ (w.heap.size ≤ g ∧ g < w'.heap.size)) := by
  obtain ⟨a2, c2, w2, hr, hS2, hC2, hs2, hB2⟩ := h.push (P := Try.prog) (news := [.int .i64 x, .int .i64 y]) T34 T3 rfl rfl (by rw [List.length_map]; simp; omega) (by decide) (k := 2) rfl rfl
  have hl1 : (ints l ++ [Value.int .i64 x, Value.int .i64 y]).length = l.length + 2 := by simp
  rw [List.length_map, hl1] at hr
  exact ⟨a2, c2, w2, hr, by unfold ints; rw [List.map_append]; exact hS2, hC2, hs2, hB2⟩
end
structure KnS (es : List (Ent Int)) (ck : Nat) (K : List Int) : Prop where
  inv : MInv es ck
  get : ∀ n, mget es n = if n ∈ K then some (.int .i64 1) else none
theorem KnS.nil : KnS [] 0 [] := ⟨MInv.nil, fun n => by rw [if_neg (by simp)]; rfl⟩
theorem KnS.put {es : List (Ent Int)} {ck : Nat} {K : List Int} {n : Int} (h : KnS es ck K) : KnS (mput es n (.int .i64 1) ck) (mclock es n ck) (K ++ [n]) := ⟨h.inv.put _ _, fun m => by
  rw [mget_put h.inv.keys, h.get]
  by_cases e : m = n
  · subst e; simp
  · simp [e, Ne.symm e]⟩
structure RchI (w0 w : World) (bm : Nat) (es : List (Ent Int)) (ck : Nat) (aw ao : Option Addr) (cw co : Nat) (wl K : List Int) : Prop where
  hm : w.heap[bm]? = some (mObj (Value.int .i64) es ck)
  kn : KnS es ck K
  sw : SlC w 3 aw cw (ints wl)
  so : SlC w 3 ao co (ints K)
  nw : ∀ g, blk aw = some g → w0.heap.size ≤ g
  no : ∀ g, blk ao = some g → w0.heap.size ≤ g
  nm : w0.heap.size ≤ bm
  dis : ∀ g, blk aw = some g → ¬ blk ao = some g
  ext : Ext w0 w
section
variable {own : Nat → Nat} {w w0 w' w1 : World} {p bm ck cw co : Nat} {es : List (Ent Int)} {aw ao : Option Addr} {wl K rs : List Int} {s : Md} {n x y : Int}
theorem RchI.up (h : RchI w0 w bm es ck aw ao cw co wl K) (hE : Ext w w') : RchI w0 w' bm es ck aw ao cw co wl K := ⟨hE.at h.hm, h.kn, h.sw.ext hE, h.so.ext hE, h.nw, h.no, h.nm, h.dis, h.ext.trans hE⟩
theorem RchI.pop (h : RchI w0 w bm es ck aw ao cw co (wl ++ [n]) K) : RchI w0 w bm es ck aw ao cw co wl K := by
  refine ⟨h.hm, h.kn, ?_, h.so, h.nw, h.no, h.nm, h.dis, h.ext⟩
  have := SlC.take h.sw (k := wl.length) (by simp)
  rwa [show (ints (wl ++ [n])).take wl.length = ints wl by unfold ints; rw [← List.map_take, List.take_left]] at this
theorem perm_up {l k : List Int} (h : l.Perm k) (hl : l.Pairwise (· ≤ ·)) (hk : k.Pairwise (· < ·)) : l = k := by
  refine up_eq ?_ hk fun x => h.mem_iff
  have nd : l.Nodup := h.nodup_iff.2 (hk.imp fun h => by omega)
  exact (hl.and nd).imp fun h => by omega
theorem rdReach_calls {a : Option Addr} {c : Nat} (h : StI own w p s []) (G : s.Good []) (hI : InI w a rs) (hl : rs.length ≤ 1000000) (hn : ∀ n ∈ rs, n ≤ 9223372036854775807) :
    CallsR Try.prog 77 #[.pointer (some ⟨p, 0, none⟩), .slice a rs.length c] w fun r w' => ∃ a' c' l, r = .slice a' l.length c' ∧ SlC w' 3 a' c' (ints l) ∧ (∀ g, blk a' = some g → w.heap.size ≤ g) ∧ Ext w w' ∧ l = s.reach rs := by
  have W := G.wf
  have hN := wf_N W
  have hal : s.all.length ≤ 20000 := by have := allTo_len (s := s) (k := s.N.length); rw [allTo_all] at this; omega
  have cl := fun u (hE : Ext w u) => clone_calls (c := c) (Inp.ext hI hE) (by omega)
  clear hI
  refine en2 Try.func77 Try.results77 mixed [] ?_
  intro e0 h0 h1
  refine w_ fun d => ?_
  refine (cl _ ext_).mono ?_
  rintro _ u1 ⟨aw, cw, rfl, hSw, hBw, hE1⟩
  have hEu1 : Ext w u1 := Ext.trans (by exact ext_) hE1
  have hm1 : u1.heap[w.heap.size]? = some (mObj (Value.int .i64) [] 0) := hE1.at (hA rfl)
  obtain ⟨bm, hbm⟩ : ∃ b, w.heap.size = b := ⟨_, rfl⟩
  rw [hbm] at hm1 ⊢
  have hR : RchI w u1 bm [] 0 aw none cw 0 rs [] := ⟨hm1, KnS.nil, hSw, SlC.nil _ _, fun g hg => by have := hBw g hg; simp only [alloc_size] at this; omega, (fun g hg => by cases hg), by omega, (fun g _ h => by cases h), hEu1⟩
  clear hSw hBw hE1 hm1 cl hEu1
  refine w_ fun d => ?_
  refine log_ (fun m W e u => ∃ es ck aw ao cw co wl K, e 6 = .slice aw wl.length cw ∧ e 7 = .slice ao K.length co ∧ RchI w u bm es ck aw ao cw co wl K ∧ Box (Rdf s rs K wl) ∧ Box (∀ n ∈ wl, n ≤ 9223372036854775807) ∧ wl.length ≤ rs.length + 2 * K.length ∧ 3 * (s.all.length - K.length) + wl.length = m) (3 * s.all.length + rs.length) ?_ ?_
  · exact ⟨[], 0, aw, none, cw, 0, rs, [], eA rfl, eA rfl, hR.up ext_, ⟨.init⟩, ⟨hn⟩, by simp, by simp⟩
  clear hR hn
  rintro m e u hf ⟨es, ck, aw, ao, cw, co, wl, K, h6, h7, hR, ⟨hD⟩, ⟨hn⟩, hwl, hm⟩
  have hKl := hD.len W
  rcases List.eq_nil_or_concat wl with rfl | ⟨ws, n, rfl⟩
  · -- all was met
    have hp : K.Perm (s.reach rs) := by
      rw [List.perm_ext_iff_of_nodup hD.nodup (List.Pairwise.imp (fun h => by omega) Md.reach_up)]
      intro x
      rw [hD.done, W.mem_reach]
    obtain ⟨hm0, kn, sw, so, nw, no, nm, dis, hE⟩ := hR
    simp only [List.length_nil] at h6
    cases ao with
    | none =>
      have hK0 : K.length = 0 ∧ co = 0 := by
        rcases so.l.row with ⟨_, h1, h2⟩ | ⟨g, cur, e, _⟩
        · exact ⟨by simpa using h1, h2⟩
        · cases e
      obtain ⟨h1, rfl⟩ := hK0
      have hK : K = [] := List.length_eq_zero_iff.1 h1
      subst hK
      have sn := sort_nil
      clear hD hn hm0 kn sw nw dis
      refine w_ fun d => ?_
      refine qq (sn.quiet (w := u)) fun u2 hE2 hs2 => ?_
      refine w_ fun d => ?_
      exact ⟨none, 0, [], rfl, SlC.nil _ _, (fun g h => by cases h), ext_, hp.nil_eq⟩
    | some ad =>
      have had : ∃ g, ad = ⟨g, 0, none⟩ := by
        rcases so.l.row with ⟨e, _⟩ | ⟨g, cur, e, _⟩
        · cases e
        · cases e; exact ⟨g, rfl⟩
      obtain ⟨g, rfl⟩ := had
      have sc := sort_calls so (by omega)
      have hg := no g rfl
      clear hD hn hm0 kn sw nw dis so
      refine w_ fun d => ?_
      refine sc.mono ?_
      rintro _ u2 ⟨rfl, l2, hP⟩
      have hE2 : Ext w u2 := hP.ch.toExt hE fun k hk hf => by omega
      have hl2 := hP.len
      rw [← hl2] at h7
      refine w_ fun d => ?_
      exact ⟨_, _, l2, (by rw [hl2]), hP.sl.ext ext_, fun g' hg' => by have := blk_g hg'; omega, ext_, perm_up (hP.perm.trans hp) hP.up Md.reach_up⟩
  rw [List.concat_eq_append] at *
  have hl1 : (ws ++ [n]).length = ws.length + 1 := by simp
  rw [hl1] at h6 hwl hm
  have hnb := hn n (by simp)
  obtain ⟨gw, cur, rfl, hgw, hcw, hlt, hat⟩ := hR.sw.at (i := ws.length) (v := .int .i64 n) (by unfold ints; rw [List.getElem?_map]; simp)
  rw [List.length_map, hl1] at hcw
  have lg := lt_of_heap hgw
  have e1 : (ws.length : Int) + 1 - 1 = ws.length := by omega
  have hR' := hR.pop
  have hm0 := hR.hm
  have lm := lt_of_heap hm0
  have hws : ∀ x ∈ ws, x ≤ 9223372036854775807 := fun x hx => hn x (by simp [hx])
  have n1 := stNode_calls (h.ext hR.ext) W n hnb
  have gk := hR.kn.get n
  have hEu := hR.ext
  clear hR hn
  by_cases hsk : s.has n = false ∨ n ∈ K
  · have hD' : Rdf s rs K ws := hD.skip hsk (fun x hx => by rcases List.mem_append.1 hx with h | h; exact .inr h; exact .inl (List.mem_singleton.1 h)) (fun x hx => by simp [hx])
    cases hh : s.has n with
    | false =>
      rw [nod_no hh] at n1
      simp only [ndV] at n1
      clear hsk hD gk hh
      refine w_ fun d => ?_
      refine qq n1 fun u2 hE2 hs2 => ?_
      refine w_ fun d => ?_
      exact ⟨_, (by omega), es, ck, _, ao, cw, co, ws, K, eA rfl, eA rfl, (hR'.up hE2).up ext_, ⟨hD'⟩, ⟨hws⟩, by omega, rfl⟩
    | true =>
      have hK : n ∈ K := by rcases hsk with h | h; rw [hh] at h; cases h; exact h
      rw [if_pos hK] at gk
      have g1 : (mget es n).getD (.int .i64 0) = .int .i64 1 := by rw [gk]; rfl
      rw [nod_has hh] at n1
      obtain ⟨⟨v, lo, hi⟩, hz⟩ : ∃ z, s.nd n = z := ⟨_, rfl⟩
      rw [hz] at n1
      simp only [ndV] at n1
      clear hsk hD gk hh hz hK
      refine w_ fun d => ?_
      refine qq n1 fun u2 hE2 hs2 => ?_
      have hm2 := hE2.at hm0
      have lm2 := lt_of_heap hm2
      refine w_ fun d => ?_
      exact ⟨_, (by omega), es, ck, _, ao, cw, co, ws, K, eA rfl, eA rfl, (hR'.up hE2).up ext_, ⟨hD'⟩, ⟨hws⟩, by omega, rfl⟩
  · have hh : s.has n = true := by
      cases hh : s.has n with
      | true => rfl
      | false => exact absurd (.inl hh) hsk
    have hK : n ∉ K := fun h => hsk (.inr h)
    rw [if_neg hK] at gk
    have g1 : (mget es n).getD (.int .i64 0) = .int .i64 0 := by rw [gk]; rfl
    have hKl2 := hD.len' W hh hK
    have ok := G.node n hh (by simp)
    have blo := (Md.below_lt W ok.lo).1
    have bhi := (Md.below_lt W ok.hi).1
    have hD' : Rdf s rs (K ++ [n]) (ws ++ [(s.nd n).2.1, (s.nd n).2.2]) := hD.go hh hK (by simp) (fun x hx => by rcases List.mem_append.1 hx with h | h; exact .inr (by simp [h]); exact .inl (List.mem_singleton.1 h)) (fun x hx => by simp at hx ⊢; rcases hx with h | h | h <;> simp [h]) (by simp) (by simp)
    rw [nod_has hh] at n1
    obtain ⟨⟨v, lo, hi⟩, hz⟩ : ∃ z, s.nd n = z := ⟨_, rfl⟩
    rw [hz] at n1 hD' blo bhi
    simp only [ndV] at n1
    dsimp only at hD' blo bhi
    have hws2 : ∀ x ∈ ws ++ [lo, hi], x ≤ 9223372036854775807 := fun x hx => by
      simp only [List.mem_append, List.mem_cons, List.not_mem_nil, or_false] at hx
      rcases hx with h | h | h
      · exact hws x h
      · omega
      · omega
    clear hsk hD gk hh hz hK ok hws
    refine w_ fun d => ?_
    refine qq n1 fun u2 hE2 hs2 => ?_
    have hR2 := hR'.up hE2
    clear hm0 lm
    refine w_ fun d => ?_
    refine at_o fun u3 hu3 => ?_
    have hE3 : Ext u2 u3 := by rw [hu3]; exact ext_
    have hx3 : u3.heap[u2.heap.size]? = some (.cells #[.int .i64 v, .int .i64 lo, .int .i64 hi] 39) := by rw [hu3]; exact hA rfl
    have hR3 := hR2.up hE3
    clear hu3 hR2 hR' hE2 hE3 hs2
    have hxl := lt_of_heap hx3
    obtain ⟨hm3, kn3, sw3, so3, nw3, no3, nm3, dis3, ext3⟩ := hR3
    have lm3 := lt_of_heap hm3
    obtain ⟨aw, haw⟩ : ∃ z : Option Addr, some ⟨gw, 0, none⟩ = z := ⟨_, rfl⟩
    rw [haw] at h6 sw3 nw3 dis3
    have hxm : u2.heap.size ≠ bm := fun e => by rw [e, hm3] at hx3; cases hx3
    have nwm : ∀ g, blk aw = some g → g ≠ bm := fun g hg e => by
      obtain ⟨c, hc⟩ := sw3.tag hg; rw [e, hm3] at hc; cases hc
    have nom : ∀ g, blk ao = some g → g ≠ bm := fun g hg e => by
      obtain ⟨c, hc⟩ := so3.tag hg; rw [e, hm3] at hc; cases hc
    obtain ⟨o, ho⟩ : ∃ o, mObj (Value.int .i64) (mput es n (.int .i64 1) ck) (mclock es n ck) = o := ⟨_, rfl⟩
    have sw4 := sw3.upd (b := bm) (o := o) nwm
    have so4 := so3.upd (b := bm) (o := o) nom
    have hm4 : (upd u3 bm o).heap[bm]? = some o := upd_same lm3
    have hx4 : (upd u3 bm o).heap[u2.heap.size]? = some (.cells #[.int .i64 v, .int .i64 lo, .int .i64 hi] 39) := by rw [upd_other (Ne.symm hxm)]; exact hx3
    have ext4 : Ext w (upd u3 bm o) := ext3.upd nm3 _
    obtain ⟨a5, c5, w5, hr5, so5, hC5, hs5, hB5⟩ := pushI so4 (by omega) n
    have sw5 := sw4.chg hC5 fun g hg h2 => dis3 g hg h2
    have hm5 : w5.heap[bm]? = some o := by rw [hC5.heap _ (lt_of_heap hm4) fun h => nom bm h rfl]; exact hm4
    have hx5 : w5.heap[u2.heap.size]? = some (.cells #[.int .i64 v, .int .i64 lo, .int .i64 hi] 39) := by
      rw [hC5.heap _ (lt_of_heap hx4) fun h => by
        obtain ⟨c, hc⟩ := so3.tag h; rw [hx3] at hc; cases hc]; exact hx4
    have ext5 : Ext w w5 := hC5.toExt ext4 fun g hg hb => by have := no3 g hb; omega
    have no5 : ∀ g, blk a5 = some g → w.heap.size ≤ g := fun g hg => by
      rcases hB5 g hg with h | ⟨h, _⟩
      · exact no3 g h
      · have := ext4.size; omega
    have dis5 : ∀ g, blk aw = some g → ¬ blk a5 = some g := fun g hg h => by
      rcases hB5 g h with h | ⟨h, _⟩
      · exact dis3 g hg h
      · have := sw4.lt hg; omega
    obtain ⟨a6, c6, w6, hr6, sw6, hC6, hs6, hB6⟩ := pushI2 sw5 (by omega) lo hi
    have so6 := so5.chg hC6 fun g hg h2 => dis5 g h2 hg
    have hm6 : w6.heap[bm]? = some o := by rw [hC6.heap _ (lt_of_heap hm5) fun h => nwm bm h rfl]; exact hm5
    have ext6 : Ext w w6 := hC6.toExt ext5 fun g hg hb => by have := nw3 g hb; omega
    have nw6 : ∀ g, blk a6 = some g → w.heap.size ≤ g := fun g hg => by
      rcases hB6 g hg with h | ⟨h, _⟩
      · exact nw3 g h
      · have := ext5.size; omega
    have dis6 : ∀ g, blk a6 = some g → ¬ blk a5 = some g := fun g hg h => by
      rcases hB6 g hg with h2 | ⟨h2, _⟩
      · exact dis5 g h2 h
      · have := so5.lt h; omega
    simp only [upd_size] at hr5
    subst ho haw
    have hR6 : RchI w w6 bm _ _ a6 a5 c6 c5 (ws ++ [lo, hi]) (K ++ [n]) := ⟨hm6, kn3.put, sw6, so6, nw6, no5, nm3, dis6, ext6⟩
    have hx5l := lt_of_heap hx5
    have e1 : (ws ++ [lo, hi]).length = ws.length + 2 := by simp
    have e2 : (K ++ [n]).length = K.length + 1 := by simp
    clear hC5 hC6 hB5 hB6 so5 sw5 so4 sw4 so3 sw3 hm4 hm5 hm6 hx4 nw6 no5 dis5 dis6 nwm nom dis3 no3 nw3 nm3 so6 sw6 ext4 ext5 ext6 kn3
    refine w_ fun d => ?_
    exact ⟨_, (by rw [e1, e2]; omega), _, _, a6, a5, c6, c5, ws ++ [lo, hi], K ++ [n], by rw [e1]; exact eA rfl, by rw [e2]; exact eA rfl, hR6.up ext_, ⟨hD'⟩, ⟨hws2⟩, by rw [e1, e2]; omega, rfl⟩
end
end Go.Proofs.Ytpeindhocndmnaa

namespace Go.Proofs.Ytpeindhocndmnaa
open Go Go.Bx
set_option linter.unusedSimpArgs false
set_option linter.unusedVariables false
set_option maxRecDepth 100000
set_option maxHeartbeats 4000000
attribute [local irreducible] X XO XE XF XD XW thenX inX retX kN CallsR
section
variable {W w w' : World} {ps pc : Nat} {s s' : Md} {n m a b v : Int} {f g : Fun8} {L : List Fun8} {rs : List Int} {M : Int}
theorem _root_.Go.Bx.Ro.sz3 (R : Ro s L M) (h : 77 * ((L.length : Int) + 3) ≤ M) (K : List Fun8) (hk : K.length ≤ L.length + 3) : (sizeF s.ord K : Int) ≤ M := by
  have := size_77s (s := s) R.good.wf.ord.once K
  omega
theorem caRestr (h : CaI W w ps pc s) (R : Ro s L M) (d : Den s a f) (hv : 0 ≤ v ∧ v < 8) (b : Bool) (hm : 77 * ((L.length : Int) + 3) ≤ M) : CallsR Try.prog 61 #[.pointer (some ⟨ps, 0, none⟩), .int .i64 a, .int .i64 v, .bool b] w fun r w' => ∃ n s' L', r = .tuple #[.int .i64 n, .nilIface] ∧ CaI W w' ps pc s' ∧ Ro s' L' M ∧ L'.length ≤ L.length + 3 ∧ s.Le s' ∧ Den s' n (cofF f v b) := by
  obtain ⟨n, s', e, R', l, d'⟩ := R.bld (cofF f v b) (R.sz3 hm _ (by simp))
  refine (h.store (s' := s') (R := fun r => r = .tuple #[.int .i64 n, .nilIface]) (fun _ _ d => d.mono l) fun own ho => ?_).mono ?_
  · have := qRestrict_calls (v := v) ho R.good (bt_rng R.good.wf d) b
    rw [restr_den d hv, e, errV0] at this
    exact this
  · rintro r w' ⟨hr, hC⟩
    exact ⟨n, s', _, hr, hC, R', by simp, l, d'⟩
theorem caExists (h : CaI W w ps pc s) (R : Ro s L M) (d : Den s a f) (hv : 0 ≤ v ∧ v < 8) (hm : 77 * ((L.length : Int) + 3) ≤ M) : CallsR Try.prog 65 #[.pointer (some ⟨ps, 0, none⟩), .pointer (some ⟨pc, 0, none⟩), .int .i64 a, .int .i64 v] w fun r w' => ∃ n s' L', r = .tuple #[.int .i64 n, .nilIface] ∧ CaI W w' ps pc s' ∧ Ro s' L' M ∧ L'.length ≤ L.length + 3 ∧ s.Le s' ∧ Den s' n (orF (cofF f v false) (cofF f v true)) := by
  obtain ⟨n, s', e, R', l, d'⟩ := R.exist d hv (R.sz3 hm _ (by simp)) (R.sz3 hm _ (by simp)) (R.sz3 hm _ (by simp))
  refine (h.turn (s' := s') (R := fun r => r = .tuple #[.int .i64 n, .nilIface]) fun own bm es ck ho => ?_).mono ?_
  · have := qExists_calls (v := v) ho R.good (bt_rng R.good.wf d)
    rw [e, errV0] at this
    exact this
  · rintro r w' ⟨hr, hC⟩
    exact ⟨n, s', _, hr, hC, R', by simp, l, d'⟩
theorem caForall (h : CaI W w ps pc s) (R : Ro s L M) (d : Den s a f) (hv : 0 ≤ v ∧ v < 8) (hm : 77 * ((L.length : Int) + 3) ≤ M) : CallsR Try.prog 66 #[.pointer (some ⟨ps, 0, none⟩), .pointer (some ⟨pc, 0, none⟩), .int .i64 a, .int .i64 v] w fun r w' => ∃ n s' L', r = .tuple #[.int .i64 n, .nilIface] ∧ CaI W w' ps pc s' ∧ Ro s' L' M ∧ L'.length ≤ L.length + 3 ∧ s.Le s' ∧ Den s' n (andF (cofF f v false) (cofF f v true)) := by
  obtain ⟨n, s', e, R', l, d'⟩ := R.forall_ d hv (R.sz3 hm _ (by simp)) (R.sz3 hm _ (by simp)) (R.sz3 hm _ (by simp))
  refine (h.turn (s' := s') (R := fun r => r = .tuple #[.int .i64 n, .nilIface]) fun own bm es ck ho => ?_).mono ?_
  · have := qForall_calls (v := v) ho R.good (bt_rng R.good.wf d)
    rw [e, errV0] at this
    exact this
  · rintro r w' ⟨hr, hC⟩
    exact ⟨n, s', _, hr, hC, R', by simp, l, d'⟩
theorem caCompose (h : CaI W w ps pc s) (R : Ro s L M) (d : Den s a f) (dg : Den s b g) (hv : 0 ≤ v ∧ v < 8) (hm : 77 * ((L.length : Int) + 3) ≤ M) : CallsR Try.prog 63 #[.pointer (some ⟨ps, 0, none⟩), .pointer (some ⟨pc, 0, none⟩), .int .i64 a, .int .i64 v, .int .i64 b] w fun r w' => ∃ n s' L', r = .tuple #[.int .i64 n, .nilIface] ∧ CaI W w' ps pc s' ∧ Ro s' L' M ∧ L'.length ≤ L.length + 3 ∧ s.Le s' ∧ Den s' n (iteF g (cofF f v true) (cofF f v false)) := by
  obtain ⟨n, s', e, R', l, d'⟩ := R.compose d dg hv (R.sz3 hm _ (by simp)) (R.sz3 hm _ (by simp)) (R.sz3 hm _ (by simp))
  refine (h.turn (s' := s') (R := fun r => r = .tuple #[.int .i64 n, .nilIface]) fun own bm es ck ho => ?_).mono ?_
  · have := qCompose_calls (v := v) ho R.good (bt_rng R.good.wf d) (bt_rng R.good.wf dg)
    rw [e, errV0] at this
    exact this
  · rintro r w' ⟨hr, hC⟩
    exact ⟨n, s', _, hr, hC, R', by simp, l, d'⟩
theorem rc_root (h : s.Rc rs m) : ∃ n ∈ rs, s.Rc [n] m := by
  induction h with
  | root hm hh => exact ⟨_, hm, .root (by simp) hh⟩
  | lo h hh ih => obtain ⟨n, h1, h2⟩ := ih; exact ⟨n, h1, .lo h2 hh⟩
  | hi h hh ih => obtain ⟨n, h1, h2⟩ := ih; exact ⟨n, h1, .hi h2 hh⟩
theorem rc_not (G : s.Good []) (hr : ∀ n ∈ rs, ∃ f, Den s n f ∧ depF f v = false) (h : s.Rc rs m) : (s.nd m).1 ≠ v := fun e => by
  obtain ⟨n, hn, h1⟩ := rc_root h
  obtain ⟨f, d, hf⟩ := hr n hn
  have := rc_dep G d h1
  rw [e, hf] at this; cases this
theorem dep_or {u : Int} (h : depF (orF f g) u = true) : depF f u = true ∨ depF g u = true := by
  rw [← iteF_or1] at h
  rcases dep_iteF h with h | h | h
  · exact .inl h
  · rw [dep_const] at h; cases h
  · exact .inr h
theorem nodep_or (f : Fun8) (v : Int) : depF (orF (cofF f v false) (cofF f v true)) v = false := by
  cases h : depF (orF (cofF f v false) (cofF f v true)) v with
  | false => rfl
  | true => rcases dep_or h with h | h <;> (rw [dep_cof] at h; cases h)
theorem nodep_and (f : Fun8) (v : Int) : depF (andF (cofF f v false) (cofF f v true)) v = false := by
  cases h : depF (andF (cofF f v false) (cofF f v true)) v with
  | false => rfl
  | true => rcases dep_and h with h | h <;> (rw [dep_cof] at h; cases h)
end
end Go.Proofs.Ytpeindhocndmnaa

namespace Go.Bx
open Go
set_option linter.unusedSimpArgs false
set_option linter.unusedVariables false
section
variable {s : Md} {M l n : Int}
theorem rch_nil {ord : List Int} {f : Fun8} (h : Rch ord [] f) : False := by
  induction h with
  | base h => cases h
  | step _ _ ih => exact ih
theorem Ro.emp (R : Ro s [] M) : ∀ n, s.has n = false := fun n => by
  cases h : s.has n with
  | false => rfl
  | true =>
    obtain ⟨f, d⟩ := R.good.has_den (.inr (.inr h))
    exact (rch_nil (R.full n f h d)).elim
theorem swap_empty (R : Ro s [] M) (h0 : 0 ≤ l) (h6 : l ≤ 6) : (s.swap l).1 = 0 ∧ Ro (s.swap l).2 [] M := by
  have hall : s.all = [] := by
    rw [List.eq_nil_iff_forall_not_mem]
    intro n hn
    have := R.good.wf.mem_all.1 hn
    rw [R.emp n] at this; cases this
  have hch : ∀ x y, s.change x y = [] := fun x y => by unfold Md.change; rw [hall]; rfl
  have hr : ¬ s.room < 2 * (([] : List Int).length : Int) := by
    have := R.good.wf.ar.many_le
    unfold Md.room
    simp
    omega
  have e : s.swap l = (0, s.ordS l) := by
    unfold Md.swap
    rw [if_neg (by omega), hch, if_neg hr]; rfl
  have gs := (R.good.swap l).1.good
  rw [e] at gs ⊢
  refine ⟨rfl, gs, fun n f hn d => ?_, R.most⟩
  have hn' : s.has n = true := hn
  rw [R.emp n] at hn'; cases hn'
end
end Go.Bx

namespace Go.Proofs.Ytpeindhocndmnaa
open Go Go.Bx
set_option linter.unusedSimpArgs false
set_option linter.unusedVariables false
set_option maxRecDepth 100000
set_option maxHeartbeats 4000000
attribute [local irreducible] X XO XE XF XD XW thenX inX retX kN CallsR
section
variable {w : World}
theorem quantReads_calls (f g : Fun8) (v : Int) (b : Bool) {sl : List Int} {a : Option Addr} {ca : Nat} (hK : InI w a sl) (hk : sl.length ≤ 140737488351232) :
    CallsR Try.prog 16 #[fv f, fv g, .int .i64 v, .bool b, .slice a sl.length ca] w fun r w' => r = .bool true ∧ Ext w w' := by
  have c0 := fun u => caNew (M := 2000) (by decide) (by decide) u
  have nw := iteNew_calls
  have up := up11_calls
  by_cases hno : sl.length ≤ 40 ∧ 0 ≤ v ∧ v ≤ 7
  rotate_left
  · have hno2 : (40 : Int) < sl.length ∨ (¬ (40 : Int) < sl.length ∧ v < 0) ∨ (¬ (40 : Int) < sl.length ∧ ¬ v < 0 ∧ 7 < v) := by omega
    clear hK hno
    rcases hno2 with hn1 | ⟨hn1, hn2⟩ | ⟨hn1, hn2, hn3⟩
    all_goals
      refine en5 Try.func16 Try.results16 mixed [] ?_
      intro e0 h0 h1 h2 h3 h4
      refine w_ fun d => ?_
      refine (up _).mono ?_
      rintro _ u1 ⟨rfl, hE1⟩
      refine w_ fun d => ?_
      refine (c0 _).mono ?_
      rintro _ w1 ⟨ps, rfl, h1⟩
      have hE2 := h1.world
      refine w_ fun d => ?_
      refine (nw _).mono ?_
      rintro _ w2 ⟨pc, bm, rfl, k1, k2, k3', k4, hE⟩
      clear k1 k2 nw up c0 h1
      refine w_ fun d => ?_
      exact ⟨rfl, ext_⟩
  obtain ⟨hk40, vg0, vl7⟩ := hno
  have hk40' : ¬ (40 : Int) < sl.length := by omega
  have vg0' : ¬ v < 0 := by omega
  have vl7' : ¬ 7 < v := by omega
  have hv : 0 ≤ v ∧ v < 8 := ⟨vg0, by omega⟩
  have sz : ∀ (s : Md) (L : List Fun8), Ro s L 2000 → L.length ≤ 10 → ∀ f, (sizeF s.ord (L ++ [f]) : Int) ≤ 2000 := fun s L R h f => R.size (by omega)
  have rv : Sure Try.prog 76 #[.int .i64 v] (fv (varF v)) := refVar_calls v
  have rc : Sure Try.prog 78 #[fv f, .int .i64 v, .bool b] (fv (cofF f v b)) := refCof_calls f v b
  have rm : Sure Try.prog 79 #[fv f, .int .i64 v, fv g] (fv (iteF g (cofF f v true) (cofF f v false))) := refCompose_calls f v g
  have re : Sure Try.prog 80 #[fv f, .int .i64 v] (fv (orF (cofF f v false) (cofF f v true))) := refExists_calls f v
  have ra : Sure Try.prog 81 #[fv f, .int .i64 v] (fv (andF (cofF f v false) (cofF f v true))) := refForall_calls f v
  have nc : depF (cofF f v b) v = false := dep_cof
  have no := nodep_or f v
  have na := nodep_and f v
  have eo : iteF (varF v) (cofF f v true) (cofF f v false) = f := ite_cof
  obtain ⟨V, hV⟩ : ∃ X, varF v = X := ⟨_, rfl⟩
  obtain ⟨C, hC⟩ : ∃ X, cofF f v b = X := ⟨_, rfl⟩
  obtain ⟨K, hKK⟩ : ∃ X, iteF g (cofF f v true) (cofF f v false) = X := ⟨_, rfl⟩
  obtain ⟨E, hEE⟩ : ∃ X, orF (cofF f v false) (cofF f v true) = X := ⟨_, rfl⟩
  obtain ⟨A, hAA⟩ : ∃ X, andF (cofF f v false) (cofF f v true) = X := ⟨_, rfl⟩
  rw [hV] at rv eo
  rw [hC] at rc nc
  rw [hKK] at rm
  rw [hEE] at re no
  rw [hAA] at ra na
  have cB := fun W w ps pc s L (h : CaI W w ps pc s) (R : Ro s L 2000) f hm => caBuild h R f hm
  have cR := fun W w ps pc s L a (h : CaI W w ps pc s) (R : Ro s L 2000) (d : Den s a f) hm => caRestr (v := v) h R d hv b hm
  have cE := fun W w ps pc s L a (h : CaI W w ps pc s) (R : Ro s L 2000) (d : Den s a f) hm => caExists (v := v) h R d hv hm
  have cA := fun W w ps pc s L a (h : CaI W w ps pc s) (R : Ro s L 2000) (d : Den s a f) hm => caForall (v := v) h R d hv hm
  have cG := fun W w ps pc s L a c (h : CaI W w ps pc s) (R : Ro s L 2000) (d : Den s a f) (dg : Den s c g) hm => caCompose (v := v) h R d dg hv hm
  have cO := fun W w ps pc s L a c (h : CaI W w ps pc s) (R : Ro s L 2000) (d : Den s a f) (dg : Den s c V) hm => caCompose (v := v) h R d dg hv hm
  rw [hC] at cR
  rw [hEE] at cE
  rw [hAA] at cA
  rw [hKK] at cG
  rw [eo] at cO
  clear hV hC hKK hEE hAA eo
  refine en5 Try.func16 Try.results16 mixed [] ?_
  intro e0 h0 h1 h2 h3 h4
  refine w_ fun d => ?_
  refine (up _).mono ?_
  rintro _ u1 ⟨rfl, hE1⟩
  have hEu1 : Ext w u1 := Ext.trans (by exact ext_) hE1
  have b5 : u1.heap[w.heap.size]? = some (.cells #[vU (word f 0), vU (word f 1), vU (word f 2), vU (word f 3)] 54) := hE1.at (hA rfl)
  have b6 : u1.heap[w.heap.size + 1]? = some (.cells #[vU (word g 0), vU (word g 1), vU (word g 2), vU (word g 3)] 54) := hE1.at (hA rfl)
  refine w_ fun d => ?_
  refine (c0 _).mono ?_
  rintro _ w1 ⟨ps, rfl, h1⟩
  refine w_ fun d => ?_
  refine (nw _).mono ?_
  rintro _ w2 ⟨pc, bm, rfl, k1, k2, k3', k4, hE⟩
  have h2 := h1.cache hE k1 k2 k3' k4
  have R0 : Ro (Md.new 2000) [] 2000 := Ro.new (by decide) (by decide)
  clear k1 k2 k3' k4 hE h1 c0 nw up hE1
  refine w_ fun d => ?_
  refine lo_ (fun _ e w' => ∃ (i : Nat) (s : Md), i ≤ sl.length ∧ e 14 = .int .i64 i ∧ CaI u1 w' ps pc s ∧ Ro s [] 2000) (fun e _ => sl.length - nat (e 14)) ?_ ?_
  · exact ⟨0, _, by omega, eA rfl, h2.ext ext_, R0⟩
  clear h2 R0
  rintro e u hf ⟨i, s, hi, h14, hP, R⟩
  have hEu := hEu1.trans hP.world
  by_cases hlt : i < sl.length
  · obtain ⟨x, hx⟩ : ∃ x, sl[i]? = some x := ⟨sl[i], List.getElem?_eq_getElem hlt⟩
    rcases InI.at (Inp.ext hK hEu) with rfl | ⟨b1, o1, cs1, E1, fz1, rfl, hb1, hat1⟩
    · simp at hlt
    have hat1 := hat1 i x hx
    have pk := pick_sure x 7 (by decide) (by decide)
    have y0 : 0 ≤ x % 7 := Int.emod_nonneg _ (by decide)
    have y6 : x % 7 ≤ 6 := by have := Int.emod_lt_of_pos x (show (0 : Int) < 7 by decide); omega
    have hltk : (i : Int) < sl.length := by omega
    generalize x % 7 = y at pk y0 y6
    have bI := fun W u (h : CaI W u ps pc s) => h.store (R.good.swap y).1.den fun own ho => stSwap_calls ho R.good y
    obtain ⟨e1, R1⟩ := swap_empty R y0 y6
    obtain ⟨⟨ec, sN⟩, hR⟩ : ∃ R, s.swap y = R := ⟨_, rfl⟩
    rw [hR] at bI e1 R1
    dsimp only at bI e1 R1
    subst e1
    rw [errV0] at bI
    have fin : ∀ (v : World), CaI u1 v ps pc sN → CaI u1 v ps pc sN ∧ Ro sN [] 2000 := fun v h => ⟨h, R1⟩
    clear R hK hx R1 hR hEu cB cR cE cA cG cO rv rc rm re ra
    refine w_ fun d => ?_
    refine qq (pk.quiet (w := u)) fun v1 hE1 hs1 => ?_
    refine w_ fun d => ?_
    refine (bI _ _ ((hP.ext hE1).ext ext_)).mono ?_
    rintro _ u2 ⟨rfl, hP2⟩
    clear bI
    refine w_ fun d => ?_
    exact ⟨⟨i + 1, sN, by omega, eA rfl, fin _ (hP2.ext ext_)⟩, mA⟩
  obtain rfl : i = sl.length := by omega
  clear hK hlt hEu
  have x5 := hP.world.at b5
  have y5 := lt_of_heap x5
  refine w_ fun d => ?_
  refine (cB _ _ _ _ _ _ hP R f (sz _ _ R (by simp) _)).mono ?_
  rintro _ w3 ⟨nx, s1, rfl, h3, R1, l1, dx⟩
  have x6 := h3.world.at b6
  have y6 := lt_of_heap x6
  clear x5 y5 hP R l1
  refine w_ fun d => ?_
  refine (cB _ _ _ _ _ _ h3 R1 g (sz _ _ R1 (by simp) _)).mono ?_
  rintro _ w4 ⟨ny, s2, rfl, h4, R2, l2, dy⟩
  replace dx := dx.mono l2
  clear x6 y6 h3 R1 l2
  refine w_ fun d => ?_
  refine qq (rv.quiet (w := w4)) fun w5 hE5 hs5 => ?_
  have h5 := h4.ext hE5
  refine w_ fun d => ?_
  refine (cB _ _ _ _ _ _ h5 R2 V (sz _ _ R2 (by simp) _)).mono ?_
  rintro _ w6 ⟨nz, s3, rfl, h6, R3, l3, dz⟩
  replace dx := dx.mono l3
  replace dy := dy.mono l3
  have hL3 : ([] ++ [f] ++ [g] ++ [V] : List Fun8).length ≤ 3 := by simp
  generalize ([] ++ [f] ++ [g] ++ [V] : List Fun8) = L3 at R3 hL3
  clear h4 h5 R2 l3 hE5 cB sz rv
  refine w_ fun d => ?_
  refine (cR _ _ _ _ _ _ _ h6 R3 dx (by omega)).mono ?_
  rintro _ w7 ⟨n1, s4, L4, rfl, h7, R4, hL4, l4, d1⟩
  replace dx := dx.mono l4
  replace dy := dy.mono l4
  replace dz := dz.mono l4
  clear h6 R3 l4 cR
  refine w_ fun d => ?_
  refine (cG _ _ _ _ _ _ _ _ h7 R4 dx dy (by omega)).mono ?_
  rintro _ w8 ⟨n2, s5, L5, rfl, h8, R5, hL5, l5, d2⟩
  replace dx := dx.mono l5
  replace dz := dz.mono l5
  replace d1 := d1.mono l5
  clear h7 R4 l5 cG dy
  refine w_ fun d => ?_
  refine (cO _ _ _ _ _ _ _ _ h8 R5 dx dz (by omega)).mono ?_
  rintro _ w9 ⟨no', s6, L6, rfl, h9, R6, hL6, l6, d6⟩
  replace dx := dx.mono l6
  replace d1 := d1.mono l6
  replace d2 := d2.mono l6
  obtain rfl : no' = nx := R6.good.canon d6 dx
  clear h8 R5 l6 cO dz d6
  refine w_ fun d => ?_
  refine (cE _ _ _ _ _ _ _ h9 R6 dx (by omega)).mono ?_
  rintro _ w10 ⟨n3, s7, L7, rfl, h10, R7, hL7, l7, d3⟩
  replace dx := dx.mono l7
  replace d1 := d1.mono l7
  replace d2 := d2.mono l7
  clear h9 R6 l7 cE
  refine w_ fun d => ?_
  refine (cA _ _ _ _ _ _ _ h10 R7 dx (by omega)).mono ?_
  rintro _ w11 ⟨n4, s, L8, rfl, h11, R8, hL8, l8, d4⟩
  replace d1 := d1.mono l8
  replace d2 := d2.mono l8
  replace d3 := d3.mono l8
  have G := R8.good
  have hEw := hEu1.trans h11.world
  have z5 := h11.world.at b5
  have z6 := h11.world.at b6
  obtain ⟨ow, hS⟩ := h11.sti
  clear h10 R7 l8 cA dx h11 R8 hL3 hL4 hL5 hL6 hL7 hL8 b5 b6
  have W := G.wf
  have hnb : ∀ n ∈ [n1, n3, n4], n ≤ 9223372036854775807 := fun n hn => by
    simp only [List.mem_cons, List.not_mem_nil, or_false] at hn
    rcases hn with rfl | rfl | rfl
    · exact bt_rng W d1
    · exact bt_rng W d3
    · exact bt_rng W d4
  have hrt : ∀ n ∈ [n1, n3, n4], ∃ f, Den s n f ∧ depF f v = false := fun n hn => by
    simp only [List.mem_cons, List.not_mem_nil, or_false] at hn
    rcases hn with rfl | rfl | rfl
    · exact ⟨_, d1, nc⟩
    · exact ⟨_, d3, no⟩
    · exact ⟨_, d4, na⟩
  have cR := fun u (hE : Ext w11 u) a (hI : InI u a [n1, n3, n4]) => rdReach_calls (c := 3) (hS.ext hE) G hI (by simp) hnb
  have hrc : ∀ m ∈ s.reach [n1, n3, n4], s.has m = true ∧ (s.nd m).1 ≠ v := fun m hm => by
    have h := W.mem_reach.1 hm
    exact ⟨h.has, rc_not G hrt h⟩
  have hll : (s.reach [n1, n3, n4]).length ≤ 20000 := by
    have := allTo_len (s := s) (k := s.N.length)
    rw [allTo_all] at this
    have := wf_N W
    have : (s.reach [n1, n3, n4]).length ≤ s.all.length := List.length_filter_le _ _
    omega
  generalize s.reach [n1, n3, n4] = RL at cR hrc hll
  clear hrt hnb nc no na
  refine w_ fun d => ?_
  refine at_c fun x0 hx0 => ?_
  have hE0 : Ext w11 x0 := by rw [hx0]; exact ext_
  have hI0 : InI x0 (some ⟨w11.heap.size, 0, none⟩) [n1, n3, n4] := (SlC.made (l := ints [n1, n3, n4]) (by rw [hx0]; exact hA rfl) (by simp)).inp
  clear hx0
  refine (cR _ hE0 _ hI0).mono ?_
  rintro _ x1 ⟨al, cl, l, rfl, hSl, _, hE1, hl⟩
  subst hl
  have hE01 := hE0.trans hE1
  clear cR hE0 hI0 hE1
  refine w_ fun d => ?_
  refine lo_ (fun _ e u => ∃ i : Nat, i ≤ l.length ∧ e 32 = .int .i64 i ∧ Ext x1 u) (fun e _ => l.length - nat (e 32)) ?_ ?_
  · exact ⟨0, by omega, eA rfl, ext_⟩
  rintro e2 x2 hf2 ⟨i, hi, h32, hE2⟩
  have hE02 := hE01.trans hE2
  by_cases hlt : i < l.length
  · obtain ⟨m, hm⟩ : ∃ m, l[i]? = some m := ⟨l[i], List.getElem?_eq_getElem hlt⟩
    obtain ⟨hh, hne⟩ := hrc m (List.mem_of_getElem? hm)
    have n1' := stNode_calls (hS.ext hE02) W m (by have := W.lt hh; have := wf_N W; omega)
    have hnd : s.node m = (s.nd m, true) := by unfold Md.node; rw [hh]; rfl
    rw [hnd] at n1'
    obtain ⟨z, hz⟩ : ∃ z, s.nd m = z := ⟨_, rfl⟩
    rw [hz] at n1' hne
    obtain ⟨vx, lo, hi'⟩ := z
    simp only [ndV] at n1'
    dsimp only at hne
    have hne' : (vx == v) = false := by simpa using hne
    obtain ⟨g', cur, rfl, hg, hc, _, hat⟩ := (hSl.ext hE2).at (i := i) (v := .int .i64 m) (by unfold ints; rw [List.getElem?_map, hm]; rfl)
    rw [List.length_map] at hc
    have hgl := lt_of_heap hg
    have hlti : (i : Int) < l.length := by omega
    have fin : ∀ {u}, Ext x2 u → Ext x1 u := fun h => hE2.trans h
    clear hrc hm hh hne hnd hz hS hSl hE01 hE02 hE2 d1 d2 d3 d4 rc rm re ra
    refine w_ fun d => ?_
    refine qq n1' fun x3 hE3 hs3 => ?_
    refine w_ fun d => ?_
    exact ⟨⟨i + 1, by omega, eA rfl, fin (hE3.trans ext_)⟩, mA⟩
  obtain rfl : i = l.length := by omega
  have z5 := hE02.at z5
  have z6 := hE02.at z6
  have q5 := lt_of_heap z5
  have q6 := lt_of_heap z6
  have t1 := rdTop_calls G (hS.ext hE02) d1
  have t2 := rdTop_calls G (hS.ext hE02) d2
  have t3 := rdTop_calls G (hS.ext hE02) d3
  have t4 := rdTop_calls G (hS.ext hE02) d4
  have hWx := hEw.trans hE02
  clear hlt hrc hS hSl hE01 hE02 hE2 d1 d2 d3 d4 G W hEw
  refine w_ fun d => ?_
  intro x3 hE3 hs3
  refine w_ fun d => ?_
  exact ⟨rfl, ext_⟩
end
end Go.Proofs.Ytpeindhocndmnaa

