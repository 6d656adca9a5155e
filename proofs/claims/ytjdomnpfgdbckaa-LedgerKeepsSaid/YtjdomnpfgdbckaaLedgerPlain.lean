/- Layer 17: what both ledgers hold, plain. -/
import Derived.Test.YtjdomnpfgdbckaaLedgerRef
namespace Go.Proofs.Ytjdomnpfgdbckaa
open Go Go.Bx
set_option linter.unusedSimpArgs false
set_option linter.unusedVariables false

def leaveI (es : List (Ent Int)) (t : Int) : Int × List (Ent Int) := if (qget es t).isSome then (0, mdel es t) else (4, es)
def leaveM (Q : List Int) (t : Int) : Int × List Int := if isR Q t then (0, Q.set t.toNat (-1)) else (4, Q)
theorem lgLeave_calls {F : Nat → Prop} {w : World} {p b clock : Nat} {cap : Int} {es : List (Ent Int)} (h : LgI F w p cap b es clock) (t : Int) :
    CallsR Try.prog 56 #[.pointer (some ⟨p, 0, none⟩), .int .i64 t] w fun r w' => r = errV (leaveI es t).1 ∧ LgI F w' p cap b (leaveI es t).2 clock ∧ Chg F w w' := by
  cases ht : qget es t with
  | none =>
    have e : leaveI es t = (4, es) := by unfold leaveI; rw [ht]; rfl
    rw [e]
    exact (lgLeave_no h t ht).mono fun r w' ⟨h1, h2⟩ => ⟨h1, h.ext h2, h2.chg F⟩
  | some q =>
    have e : leaveI es t = (0, mdel es t) := by unfold leaveI; rw [ht]; rfl
    rw [e]
    exact lgLeave_yes h t ht
theorem lmLeave_calls {F : Nat → Prop} {w : World} {p : Nat} {cap : Int} {Q : List Int} (h : LgM F w p cap Q) (t : Int) :
    CallsR Try.prog 57 #[.pointer (some ⟨p, 0, none⟩), .int .i64 t] w fun r w' => r = .int .i64 (leaveM Q t).1 ∧ LgM F w' p cap (leaveM Q t).2 ∧ Chg F w w' := by
  cases ht : isR Q t
  · have e : leaveM Q t = (4, Q) := by unfold leaveM; rw [ht]; rfl
    rw [e]
    exact (lmLeave_no h t ht).mono fun r w' ⟨h1, h2⟩ => ⟨h1, h.ext h2, h2.chg F⟩
  · have e : leaveM Q t = (0, Q.set t.toNat (-1)) := by unfold leaveM; rw [ht]; rfl
    rw [e]
    exact lmLeave_yes h t ht

theorem qget_put {es : List (Ent Int)} {t q j : Int} {clock : Nat} (hn : (es.map (·.1)).Nodup) : qget (mput es t (.int .i64 q) clock) j = if j = t then some q else qget es j := by
  unfold qget
  rw [mget_put hn]
  split <;> rfl
theorem qget_del {es : List (Ent Int)} {t j : Int} (hn : (es.map (·.1)).Nodup) : qget (mdel es t) j = if j = t then none else qget es j := by
  unfold qget
  rw [mget_del hn]
  split <;> rfl
theorem sum_erase : ∀ (l : List Int) (i : Nat) (x : Int), l[i]? = some x → (l.eraseIdx i).sum = l.sum - x
  | [], _, _, h => by cases h
  | a :: l, 0, x, h => by
    obtain rfl : a = x := by simpa using h
    simp only [List.eraseIdx_cons_zero, List.sum_cons]; omega
  | a :: l, i + 1, x, h => by
    have ih := sum_erase l i x (by simpa using h)
    simp only [List.eraseIdx_cons_succ, List.sum_cons, ih]; omega
theorem vsum_del {es : List (Ent Int)} {t q : Int} (h : qget es t = some q) : vsum (mdel es t) = vsum es - q := by
  unfold qget mget at h
  cases hm : mfind es t with
  | none => rw [hm] at h; cases h
  | some r =>
    obtain ⟨i, u⟩ := r
    rw [hm] at h
    have hu : iv u = q := by simpa using h
    obtain ⟨_, bb, hi⟩ := mfindFrom_some hm
    rw [Nat.sub_zero] at hi
    unfold mdel
    rw [hm]
    show ((es.eraseIdx i).map fun e => iv e.2.1).sum = _
    have e1 : (es.eraseIdx i).map (fun e => iv e.2.1) = (es.map fun e => iv e.2.1).eraseIdx i := by
      rw [List.eraseIdx_eq_take_drop_succ, List.eraseIdx_eq_take_drop_succ, List.map_append, List.map_take, List.map_drop]
    rw [e1, sum_erase _ i q (by rw [List.getElem?_map, hi]; simp [hu])]
    rfl
theorem getD_set {Q : List Int} {t j : Nat} {q : Int} (ht : t < Q.length) : (Q.set t q).getD j 0 = if j = t then q else Q.getD j 0 := by
  rw [List.getD_eq_getElem?_getD]
  by_cases h : j = t
  · subst h; rw [if_pos rfl, List.getElem?_set_self ht]; rfl
  · rw [if_neg h, List.getElem?_set_ne (fun e => h e.symm), ← List.getD_eq_getElem?_getD]
theorem isR_set {Q : List Int} {t q j : Int} (hl : Q.length = 9) (h1 : 1 ≤ t) (h8 : t ≤ 8) : isR (Q.set t.toNat q) j = if j = t then decide (0 ≤ q) else isR Q j := by
  unfold isR
  rw [getD_set (by omega)]
  by_cases hj : j = t
  · subst hj; simp [h1, h8]
  · rw [if_neg hj]
    by_cases hj1 : 1 ≤ j
    · rw [if_neg (by omega)]
    · simp [hj1]
theorem psumTo_set {Q : List Int} {t : Nat} {q : Int} (hl : t < Q.length) (h1 : 1 ≤ t) : ∀ k, psumTo (Q.set t q) k = psumTo Q k + if t < k then pos q - pos (Q.getD t 0) else 0
  | 0 => by simp [psumTo]
  | k + 1 => by
    have ih := psumTo_set (q := q) hl h1 k
    unfold psumTo
    rw [ih, getD_set hl]
    by_cases hk : k = 0
    · subst hk
      have a1 : t ≠ 0 := by omega
      simp [a1]
    · rw [if_neg hk, if_neg hk]
      by_cases hkt : k = t
      · subst hkt; rw [if_neg (by omega), if_pos rfl, if_pos (by omega)]; omega
      · rw [if_neg hkt]
        by_cases hlt : t < k
        · rw [if_pos hlt, if_pos (by omega)]; omega
        · rw [if_neg hlt, if_neg (by omega)]; omega

structure LgInv (cap : Int) (es : List (Ent Int)) (Q : List Int) : Prop where
  nod : (es.map (·.1)).Nodup
  rel : ∀ t, qget es t = if isR Q t then some (Q.getD t.toNat 0) else none
  len : Q.length = 9
  rng : ∀ q ∈ Q, -1 ≤ q ∧ q ≤ 65535
  sum : vsum es = psum Q
  le : vsum es ≤ cap
theorem LgInv.start {cap : Int} (h : 0 ≤ cap) : LgInv cap [] (List.replicate 9 (-1)) := by
  refine ⟨List.nodup_nil, fun t => ?_, rfl, fun q hq => ?_, by decide, h⟩
  · have : isR (List.replicate 9 (-1)) t = false := by
      unfold isR
      by_cases h1 : 1 ≤ t
      · by_cases h8 : t ≤ 8
        · rw [List.getD_eq_getElem?_getD, List.getElem?_replicate, if_pos (by omega)]
          simp
        · simp [h8]
      · simp [h1]
    rw [this]; rfl
  · rw [List.mem_replicate] at hq
    omega
theorem mem_set_rng {Q : List Int} {t : Nat} {q : Int} (h : ∀ q ∈ Q, -1 ≤ q ∧ q ≤ 65535) (hq : -1 ≤ q ∧ q ≤ 65535) : ∀ x ∈ Q.set t q, -1 ≤ x ∧ x ≤ 65535 := by
  intro x hx
  rcases List.mem_or_eq_of_mem_set hx with h' | h'
  · exact h x h'
  · rw [h']; exact hq

theorem LgInv.leave {cap : Int} {es : List (Ent Int)} {Q : List Int} (h : LgInv cap es Q) (t : Int) :
    (leaveI es t).1 = (leaveM Q t).1 ∧ 0 ≤ (leaveI es t).1 ∧ (leaveI es t).1 ≤ 8 ∧ LgInv cap (leaveI es t).2 (leaveM Q t).2 := by
  have hr := h.rel t
  cases ht : isR Q t
  · rw [ht] at hr
    have e1 : leaveI es t = (4, es) := by unfold leaveI; rw [hr]; rfl
    have e2 : leaveM Q t = (4, Q) := by unfold leaveM; rw [ht]; rfl
    rw [e1, e2]
    exact ⟨rfl, (show (0 : Int) ≤ 4 by decide), (show (4 : Int) ≤ 8 by decide), h⟩
  · rw [ht, if_pos rfl] at hr
    have hb : 1 ≤ t ∧ t ≤ 8 ∧ 0 ≤ Q.getD t.toNat 0 := by
      unfold isR at ht
      simp only [Bool.and_eq_true, decide_eq_true_eq] at ht
      exact ⟨ht.1.1, ht.1.2, ht.2⟩
    have e1 : leaveI es t = (0, mdel es t) := by unfold leaveI; rw [hr]; rfl
    have e2 : leaveM Q t = (0, Q.set t.toNat (-1)) := by unfold leaveM; rw [ht]; rfl
    rw [e1, e2]
    have hl := h.len
    have hps := psumTo_set (Q := Q) (t := t.toNat) (q := -1) (by omega) (by omega) 9
    rw [if_pos (by omega)] at hps
    have hpn : pos (-1) = 0 := rfl
    have hpq : pos (Q.getD t.toNat 0) = Q.getD t.toNat 0 := by unfold pos; split <;> omega
    have hvd := vsum_del hr
    have hsum := h.sum
    unfold psum at hsum
    refine ⟨rfl, (show (0 : Int) ≤ 0 by decide), (show (0 : Int) ≤ 8 by decide), ⟨mdel_keys h.nod, fun j => ?_, by simp [hl], mem_set_rng h.rng (by decide), ?_, ?_⟩⟩
    · rw [qget_del h.nod, isR_set hl hb.1 hb.2.1, getD_set (by omega), h.rel j]
      by_cases hj : j = t
      · subst hj; simp
      · rw [if_neg hj, if_neg hj]
        cases hjr : isR Q j
        · rfl
        · have : 1 ≤ j := by
            unfold isR at hjr
            simp only [Bool.and_eq_true, decide_eq_true_eq] at hjr
            exact hjr.1.1
          have hjt : j.toNat ≠ t.toNat := by omega
          simp [hjt]
    · show vsum (mdel es t) = psumTo _ 9
      rw [hvd, hps, hsum, hpn, hpq]; omega
    · have := h.le
      show vsum (mdel es t) ≤ cap
      omega

theorem LgInv.adm {cap : Int} {es : List (Ent Int)} {Q : List Int} (h : LgInv cap es Q) (t q : Int) (clock : Nat) :
    (admitI cap es t q clock).1 = (admitM cap Q t q).1 ∧ 0 ≤ (admitI cap es t q clock).1 ∧ (admitI cap es t q clock).1 ≤ 8 ∧ LgInv cap (admitI cap es t q clock).2.1 (admitM cap Q t q).2 := by
  have hr := h.rel t
  by_cases hbad : t < 1 ∨ 8 < t ∨ q < 0 ∨ 65535 < q
  · have e1 : admitI cap es t q clock = (1, es, clock) := if_pos hbad
    have e2 : admitM cap Q t q = (1, Q) := if_pos hbad
    rw [e1, e2]
    exact ⟨rfl, (show (0 : Int) ≤ 1 by decide), (show (1 : Int) ≤ 8 by decide), h⟩
  · have e1 : admitI cap es t q clock = if (qget es t).isSome then (3, es, clock) else if cap - vsum es < q then (2, es, clock) else (0, mput es t (.int .i64 q) clock, mclock es t clock) := if_neg hbad
    have e2 : admitM cap Q t q = if 0 ≤ Q.getD t.toNat 0 then (3, Q) else if cap - psum Q < q then (2, Q) else (0, Q.set t.toNat q) := if_neg hbad
    have h1 : 1 ≤ t := by omega
    have h8 : t ≤ 8 := by omega
    have hir : isR Q t = decide (0 ≤ Q.getD t.toNat 0) := by unfold isR; simp [h1, h8]
    rw [hir] at hr
    by_cases h0 : 0 ≤ Q.getD t.toNat 0
    · rw [decide_eq_true h0, if_pos rfl] at hr
      rw [if_pos h0] at e2
      rw [hr] at e1
      rw [e1, e2]
      exact ⟨rfl, (show (0 : Int) ≤ 3 by decide), (show (3 : Int) ≤ 8 by decide), h⟩
    · rw [decide_eq_false h0] at hr
      simp only [Bool.false_eq_true, if_false] at hr
      rw [if_neg h0, ← h.sum] at e2
      rw [hr] at e1
      simp only [Option.isSome_none, Bool.false_eq_true, if_false] at e1
      by_cases hf : cap - vsum es < q
      · rw [if_pos hf] at e1 e2
        rw [e1, e2]
        exact ⟨rfl, (show (0 : Int) ≤ 2 by decide), (show (2 : Int) ≤ 8 by decide), h⟩
      · rw [if_neg hf] at e1 e2
        rw [e1, e2]
        have hl := h.len
        have hps := psumTo_set (Q := Q) (t := t.toNat) (q := q) (by omega) (by omega) 9
        rw [if_pos (by omega)] at hps
        have hpo : pos (Q.getD t.toNat 0) = 0 := by unfold pos; rw [if_neg (by omega)]
        have hpq : pos q = q := by unfold pos; split <;> omega
        have hvp := (vsum_put (clock := clock) (k := 0) (q := q) hr).1
        have hsum := h.sum
        unfold psum at hsum
        refine ⟨rfl, (show (0 : Int) ≤ 0 by decide), (show (0 : Int) ≤ 8 by decide), ⟨mput_keys h.nod, fun j => ?_, by simp [hl], mem_set_rng h.rng (by omega), ?_, ?_⟩⟩
        · rw [qget_put h.nod, isR_set hl h1 h8, getD_set (by omega), h.rel j]
          by_cases hj : j = t
          · subst hj
            have : 0 ≤ q := by omega
            simp [this]
          · rw [if_neg hj, if_neg hj]
            cases hjr : isR Q j
            · rfl
            · have : 1 ≤ j := by
                unfold isR at hjr
                simp only [Bool.and_eq_true, decide_eq_true_eq] at hjr
                exact hjr.1.1
              have hjt : j.toNat ≠ t.toNat := by omega
              simp [hjt]
        · show vsum (mput es t (.int .i64 q) clock) = psumTo _ 9
          rw [hvp, hps, hsum, hpo, hpq]; omega
        · show vsum (mput es t (.int .i64 q) clock) ≤ cap
          rw [hvp]; omega
end Go.Proofs.Ytjdomnpfgdbckaa
