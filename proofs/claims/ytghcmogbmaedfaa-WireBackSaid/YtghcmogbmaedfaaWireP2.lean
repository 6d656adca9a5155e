/- What is put is got, and the other way round. No program is in sight. -/
import Derived.Test.YtghcmogbmaedfaaWireP
namespace Go.Bx
open Go
set_option linter.unusedSimpArgs false
set_option linter.unusedVariables false

theorem part_lt {r : RQ} (hr : r.ok) (p : Nat) : partV r p < 18446744073709551616 := by
  unfold partV toU
  split
  · exact hr.a
  · split
    · exact hr.b
    · split
      · exact hr.c
      · split <;> omega
theorem toS_rng {v : Nat} (h : v < 18446744073709551616) : -9223372036854775808 ≤ toS v ∧ toS v < 9223372036854775808 := by unfold toS; split <;> omega
theorem set_ok {r : RQ} {p v : Nat} (hr : r.ok) (h : v < 18446744073709551616) : (setV r p v).ok := by
  have := toS_rng h
  unfold setV
  split
  · exact ⟨hr.op, hr.tn, h, hr.b, hr.c, hr.n, hr.bit⟩
  · split
    · exact ⟨hr.op, hr.tn, hr.a, h, hr.c, hr.n, hr.bit⟩
    · split
      · exact ⟨hr.op, hr.tn, hr.a, hr.b, h, hr.n, hr.bit⟩
      · split
        · exact ⟨hr.op, hr.tn, hr.a, hr.b, hr.c, hr.n, this⟩
        · exact ⟨hr.op, hr.tn, hr.a, hr.b, hr.c, this, hr.bit⟩
theorem fold_ok {r : RQ} (hr : r.ok) : ∀ (l : List Nat) {s : RQ}, s.ok → (l.foldl (fun s p => setV s p (partV r p)) s).ok
  | [], _, h => h
  | p :: l, _, h => fold_ok hr l (set_ok h (part_lt hr p))
theorem toU_inj {i j : Int} (hi : -9223372036854775808 ≤ i ∧ i < 9223372036854775808) (hj : -9223372036854775808 ≤ j ∧ j < 9223372036854775808) (h : toU i = toU j) : i = j := by
  rw [← toS_toU hi, h, toS_toU hj]
theorem rq_ext {r s : RQ} (hr : r.ok) (hs : s.ok) (h1 : r.op = s.op) (h2 : r.tn = s.tn) (h : ∀ p, partV r p = partV s p) : r = s := by
  have a := h 0
  have b := h 1
  have c := h 2
  have bit := toU_inj hr.bit hs.bit (h 5)
  have n := toU_inj hr.n hs.n (h 3)
  cases r; cases s
  simp only [partV] at *
  simp_all
def baseR (op tn : Int) : RQ := ⟨op, tn, 0, 0, 0, 0, 0⟩
theorem base_ok {op tn : Int} (h1 : -9223372036854775808 ≤ op ∧ op < 9223372036854775808) (h2 : -9223372036854775808 ≤ tn ∧ tn < 9223372036854775808) : (baseR op tn).ok :=
  ⟨h1, h2, by simp [baseR], by simp [baseR], by simp [baseR], by simp [baseR], by simp [baseR]⟩
theorem base_part {op tn : Int} (p : Nat) : partV (baseR op tn) p = 0 := by
  unfold partV baseR
  split
  · rfl
  · split
    · rfl
    · split
      · rfl
      · split <;> rfl
theorem fld_mem {l : List Nat} : (0 ∈ l.map fldP ↔ 0 ∈ l) ∧ (1 ∈ l.map fldP ↔ 1 ∈ l) ∧ (2 ∈ l.map fldP ↔ 2 ∈ l) ∧ (5 ∈ l.map fldP ↔ 5 ∈ l) := by
  have key : ∀ k, (k = 0 ∨ k = 1 ∨ k = 2 ∨ k = 5) → (k ∈ l.map fldP ↔ k ∈ l) := fun k hk => by
    rw [List.mem_map]
    constructor
    · rintro ⟨p, hp, he⟩
      have : p = k := by
        unfold fldP at he
        by_cases p0 : p = 0 <;> by_cases p1 : p = 1 <;> by_cases p2 : p = 2 <;> by_cases p5 : p = 5 <;> simp_all <;> omega
      rwa [← this]
    · intro h
      refine ⟨k, h, ?_⟩
      rcases hk with rfl | rfl | rfl | rfl <;> rfl
  exact ⟨key 0 (by simp), key 1 (by simp), key 2 (by simp), key 5 (by simp)⟩
theorem fld3 {l : List Nat} (h : 3 ∈ l ∨ 4 ∈ l) : 3 ∈ l.map fldP := by
  rw [List.mem_map]
  rcases h with h | h
  · exact ⟨3, h, rfl⟩
  · exact ⟨4, h, rfl⟩
theorem only_part {r : RQ} (hr : r.ok) (p : Nat) : partV (onlyR r (pl r.op)) p = if fldP p ∈ (pl r.op).map fldP then partV r p else 0 := by
  have := fold_part hr (pl r.op) (baseR r.op r.tn) p
  rw [base_part] at this
  exact this
theorem only_ok {r : RQ} (hr : r.ok) : (onlyR r (pl r.op)).ok := fold_ok hr _ (base_ok hr.op hr.tn)
theorem only_op (r : RQ) : (onlyR r (pl r.op)).op = r.op ∧ (onlyR r (pl r.op)).tn = r.tn := fold_op r (pl r.op) (baseR r.op r.tn)
theorem toU_zero {i : Int} (hi : -9223372036854775808 ≤ i ∧ i < 9223372036854775808) (h : toU i = 0) : i = 0 := toU_inj hi (by omega) (by rw [h]; rfl)
/-- May it be? As the wire asks. -/
def mayW (r : RQ) : Bool := (partsL r.op).isSome && decide (1 ≤ r.tn ∧ r.tn ≤ 8 ∧ 0 ≤ r.n ∧ r.n ≤ mostV r.op ∧ 0 ≤ r.bit ∧ r.bit ≤ 1) && decide (onlyR r (pl r.op) = r)
theorem only_may {r : RQ} (hr : r.ok) (h : mayF r = true) : onlyR r (pl r.op) = r := by
  obtain ⟨h1, h2, h3, h4, h5, h6, h7, ha, hb, hc, hbit⟩ := may_parts h
  obtain ⟨k, hk, hk2, _⟩ := pl_in h1
  have hm := parts_most_all k hk2
  rw [← hk] at hm
  refine rq_ext (only_ok hr) hr (only_op r).1 (only_op r).2 fun p => ?_
  rw [only_part hr]
  split
  · rfl
  · rename_i hn
    have hf := @fld_mem (pl r.op)
    by_cases p0 : p = 0
    · subst p0
      have : r.a = 0 := ha.resolve_left fun h => hn (hf.1.2 h)
      simp [partV, this]
    by_cases p1 : p = 1
    · subst p1
      have : r.b = 0 := hb.resolve_left fun h => hn (hf.2.1.2 h)
      simp [partV, this]
    by_cases p2 : p = 2
    · subst p2
      have : r.c = 0 := hc.resolve_left fun h => hn (hf.2.2.1.2 h)
      simp [partV, this]
    by_cases p5 : p = 5
    · subst p5
      have : r.bit = 0 := hbit.resolve_left fun h => hn (hf.2.2.2.2 h)
      simp [partV, this, toU]
    · have e3 : fldP p = 3 := by simp [fldP, p0, p1, p2, p5]
      rw [e3] at hn
      have h0 := hm.2.1 (fun h => hn (fld3 (.inl h))) (fun h => hn (fld3 (.inr h)))
      have : r.n = 0 := by omega
      simp [partV, p0, p1, p2, p5, this, toU]
theorem may_eq {r : RQ} (hr : r.ok) : mayW r = mayF r := by
  cases hm : mayF r
  · cases hw : mayW r
    · rfl
    · exfalso
      unfold mayW at hw
      simp only [Bool.and_eq_true, decide_eq_true_eq] at hw
      obtain ⟨⟨hp, hg⟩, ho⟩ := hw
      obtain ⟨l, hl⟩ := Option.isSome_iff_exists.1 hp
      have hpl : pl r.op = l := by rw [pl, hl]; rfl
      have hf := @fld_mem l
      have key : ∀ p, fldP p ∉ l.map fldP → partV r p = 0 := fun p hn => by
        have := only_part hr p
        rw [ho, hpl, if_neg hn] at this
        exact this
      have : mayF r = true := by
        unfold mayF
        rw [hl]
        simp only [decide_eq_true_eq]
        refine ⟨hg.1, hg.2.1, hg.2.2.1, hg.2.2.2.1, hg.2.2.2.2.1, hg.2.2.2.2.2, ?_, ?_, ?_, ?_⟩
        · by_cases h : 0 ∈ l
          · exact .inl h
          · exact .inr (key 0 fun h' => h (hf.1.1 h'))
        · by_cases h : 1 ∈ l
          · exact .inl h
          · exact .inr (key 1 fun h' => h (hf.2.1.1 h'))
        · by_cases h : 2 ∈ l
          · exact .inl h
          · exact .inr (key 2 fun h' => h (hf.2.2.1.1 h'))
        · by_cases h : 5 ∈ l
          · exact .inl h
          · exact .inr (toU_zero hr.bit (key 5 fun h' => h (hf.2.2.2.1 h')))
      rw [hm] at this; cases this
  · unfold mayW
    obtain ⟨h1, h2, h3, h4, h5, h6, h7, _⟩ := may_parts hm
    obtain ⟨k, hk, hk2, hs⟩ := pl_in h1
    rw [hs, only_may hr hm]
    simp [h2, h3, h4, h5, h6, h7]

/-! ### Put and got -/
theorem body_cons {r : RQ} {p : Nat} {l : List Nat} : bodyB r (p :: l) = hiB (wideV p) (partV r p) ++ bodyB r l := by simp [bodyB]
theorem getL_body {r : RQ} {rest : List Nat} : ∀ (l : List Nat) (s : RQ), (∀ p ∈ l, partV r p < 256 ^ wideV p) → getL l (bodyB r l ++ rest) s = some (l.foldl (fun s p => setV s p (partV r p)) s, rest)
  | [], s, _ => by simp [bodyB, getL]
  | p :: l, s, h => by
    have hp := h p (by simp)
    have hlen : (hiB (wideV p) (partV r p)).length = wideV p := hiB_len
    rw [body_cons, List.append_assoc, getL, if_neg (by rw [List.length_append, hlen]; omega), List.drop_left' hlen, List.take_left' hlen, num_hi, Nat.mod_eq_of_lt hp, getL_body l _ fun q hq => h q (by simp [hq])]
    rfl
theorem may_wide {r : RQ} (hr : r.ok) (h : mayF r = true) : ∀ p ∈ pl r.op, partV r p < 256 ^ wideV p := by
  obtain ⟨h1, h2, h3, h4, h5, h6, h7, ha, hb, hc, hbit⟩ := may_parts h
  obtain ⟨k, hk, hk2, _⟩ := pl_in h1
  have hm := parts_most_all k hk2
  have hn := parts_nodup_all k hk2
  rw [← hk] at hm hn
  intro p hp
  have h5' := hn.2.2 p hp
  have e8 : 256 ^ 8 = 18446744073709551616 := by decide
  have hlt := part_lt hr p
  rcases (by omega : p = 0 ∨ p = 1 ∨ p = 2 ∨ p = 3 ∨ p = 4 ∨ p = 5) with rfl | rfl | rfl | rfl | rfl | rfl
  · exact hlt
  · exact hlt
  · exact hlt
  · have := hm.1 hp
    show toU r.n < 256 ^ 1
    unfold toU; omega
  · have := hm.2.2
    show toU r.n < 256 ^ 2
    unfold toU; omega
  · show toU r.bit < 256 ^ 1
    unfold toU; omega
theorem getF_put {r : RQ} (hr : r.ok) (h : mayF r = true) (x : List Nat) : getF (putB r ++ x) = if x = [] then some r else none := by
  obtain ⟨h1, h2, h3, _⟩ := may_parts h
  have e1 : ((r.op.toNat : Nat) : Int) = r.op := by omega
  have e2 : ((r.tn.toNat : Nat) : Int) = r.tn := by omega
  have hg := getL_body (rest := x) (pl r.op) (baseR r.op r.tn) (may_wide hr h)
  have ho : (pl r.op).foldl (fun s p => setV s p (partV r p)) (baseR r.op r.tn) = r := only_may hr h
  rw [ho] at hg
  show (match getL (pl ((r.op.toNat : Nat) : Int)) (bodyB r (pl r.op) ++ x) (baseR ((r.op.toNat : Nat) : Int) ((r.tn.toNat : Nat) : Int)) with
    | some (r, []) => if mayF r then some r else none
    | _ => none) = _
  rw [e1, e2, hg]
  cases x with
  | nil => simp [h]
  | cons y ys => simp
theorem put_lt {r : RQ} (h : mayF r = true) : ∀ x ∈ putB r, x < 256 := by
  obtain ⟨h1, h2, h3, _⟩ := may_parts h
  intro x hx
  simp only [putB, List.mem_cons, bodyB, List.mem_flatMap] at hx
  rcases hx with rfl | rfl | ⟨p, _, hx⟩
  · omega
  · omega
  · exact hiB_lt x hx
theorem wide_le (p : Nat) : wideV p ≤ 8 := by unfold wideV; split <;> (try split) <;> omega
theorem num_take_lt {bs : List Nat} {p : Nat} (hb : ∀ x ∈ bs, x < 256) : numB (bs.take (wideV p)) < 18446744073709551616 := by
  have h1 := num_lt (l := bs.take (wideV p)) fun x hx => hb x (List.mem_of_mem_take hx)
  have h2 : (bs.take (wideV p)).length ≤ 8 := by rw [List.length_take]; have := wide_le p; omega
  have h3 : 256 ^ (bs.take (wideV p)).length ≤ 256 ^ 8 := Nat.pow_le_pow_right (by decide) h2
  have e8 : 256 ^ 8 = 18446744073709551616 := by decide
  omega
theorem getL_inv : ∀ (l : List Nat) {bs rest : List Nat} {s r : RQ}, (∀ x ∈ bs, x < 256) → (l.map fldP).Nodup → s.ok → getL l bs s = some (r, rest) →
    bs = bodyB r l ++ rest ∧ r.op = s.op ∧ r.tn = s.tn ∧ r.ok ∧ ∀ q, fldP q ∉ l.map fldP → partV r q = partV s q
  | [], bs, rest, s, r, _, _, hs, h => by
    simp only [getL, Option.some.injEq, Prod.mk.injEq] at h
    obtain ⟨rfl, rfl⟩ := h
    exact ⟨by simp [bodyB], rfl, rfl, hs, fun _ _ => rfl⟩
  | p :: l, bs, rest, s, r, hb, hn, hs, h => by
    rw [getL] at h
    split at h
    · cases h
    · rename_i hlen
      rw [List.map_cons, List.nodup_cons] at hn
      have hv := num_take_lt (p := p) hb
      obtain ⟨h1, h2, h3, h4, h5⟩ := getL_inv l (fun x hx => hb x (List.mem_of_mem_drop hx)) hn.2 (set_ok hs hv) h
      have htl : (bs.take (wideV p)).length = wideV p := by rw [List.length_take]; omega
      have hpv : partV r p = numB (bs.take (wideV p)) := by rw [h5 p hn.1, part_set hv]
      refine ⟨?_, by rw [h2, set_op.1], by rw [h3, set_op.2], h4, fun q hq => ?_⟩
      · have hh := hi_num (l := bs.take (wideV p)) fun x hx => hb x (List.mem_of_mem_take hx)
        rw [htl] at hh
        rw [body_cons, hpv, hh, List.append_assoc, ← h1, List.take_append_drop]
      · simp only [List.map_cons, List.mem_cons, not_or] at hq
        rw [h5 q hq.2, part_set_ne (fun e => hq.1 e.symm)]
theorem getF_inv {bs : List Nat} {r : RQ} (hb : ∀ x ∈ bs, x < 256) (h : getF bs = some r) : mayF r = true ∧ putB r = bs ∧ r.ok := by
  unfold getF at h
  match bs, h with
  | o :: t :: rest, h =>
    simp only at h
    split at h
    · rename_i r' hg
      have ho := hb o (by simp)
      have ht := hb t (by simp)
      by_cases hin : 1 ≤ (o : Int) ∧ (o : Int) ≤ 21
      · have hn := parts_nodup_all o (by omega)
        obtain ⟨h1, h2, h3, h4, _⟩ := getL_inv _ (fun x hx => hb x (by simp [hx])) hn.1 (base_ok (by omega) (by omega)) hg
        split at h
        · rename_i hm
          cases h
          refine ⟨hm, ?_, h4⟩
          have e1 : r.op = o := h2
          have e2 : r.tn = t := h3
          rw [putB, e1, e2, h1]
          simp
        · cases h
      · rw [(pl_out hin).1] at hg
        simp only [getL, Option.some.injEq, Prod.mk.injEq] at hg
        obtain ⟨rfl, _⟩ := hg
        split at h
        · rename_i hm
          exact absurd (may_parts hm).1 hin
        · cases h
    · cases h
theorem getF_less {r : RQ} (hr : r.ok) (h : mayF r = true) : getF (putB r).dropLast = none := by
  cases hg : getF (putB r).dropLast with
  | none => rfl
  | some s =>
    exfalso
    have hne : putB r ≠ [] := by simp [putB]
    obtain ⟨h1, h2, h3⟩ := getF_inv (fun x hx => put_lt h x ((List.dropLast_sublist _).subset hx)) hg
    have e1 := getF_put h3 h1 [(putB r).getLast hne]
    rw [h2, List.dropLast_concat_getLast] at e1
    have e2 := getF_put hr h []
    rw [List.append_nil, if_pos rfl] at e2
    rw [e2] at e1
    simp at e1

/-! ### Answers -/
structure RS where
  code : Int
  tn : Int
  val : Nat
  charge : Int
  cost : Int
  deriving DecidableEq
structure RS.ok (r : RS) : Prop where
  code : -9223372036854775808 ≤ r.code ∧ r.code < 9223372036854775808
  tn : -9223372036854775808 ≤ r.tn ∧ r.tn < 9223372036854775808
  val : r.val < 18446744073709551616
  charge : -9223372036854775808 ≤ r.charge ∧ r.charge < 9223372036854775808
  cost : -9223372036854775808 ≤ r.cost ∧ r.cost < 9223372036854775808
def mayR (r : RS) : Bool := decide (0 ≤ r.code ∧ r.code ≤ 7 ∧ 0 ≤ r.tn ∧ r.tn ≤ 8 ∧ 0 ≤ r.charge ∧ r.charge ≤ 65535 ∧ 0 ≤ r.cost)
def putR (r : RS) : List Nat := r.code.toNat :: r.tn.toNat :: (hiB 8 r.val ++ (hiB 2 (toU r.charge) ++ hiB 8 (toU r.cost)))
def rsOf (bs : List Nat) : RS := ⟨(bs.getD 0 0 : Nat), (bs.getD 1 0 : Nat), numB ((bs.drop 2).take 8), toS (numB ((bs.drop 10).take 2)), toS (numB (bs.drop 12))⟩
def getR (bs : List Nat) : Option RS := if bs.length = 20 then if mayR (rsOf bs) then some (rsOf bs) else none else none
theorem putR_len {r : RS} : (putR r).length = 20 := by simp [putR, hiB_len]
theorem putR_lt {r : RS} (h : mayR r = true) : ∀ x ∈ putR r, x < 256 := by
  have := of_decide_eq_true h
  intro x hx
  simp only [putR, List.mem_cons, List.mem_append] at hx
  rcases hx with rfl | rfl | h | h | h
  · omega
  · omega
  · exact hiB_lt x h
  · exact hiB_lt x h
  · exact hiB_lt x h
theorem getR_put {r : RS} (hr : r.ok) (h : mayR r = true) : getR (putR r) = some r := by
  have hm := of_decide_eq_true h
  have e8 : 256 ^ 8 = 18446744073709551616 := by decide
  have e2 : 256 ^ 2 = 65536 := by decide
  have he : rsOf (putR r) = r := by
    have l8 : (hiB 8 r.val).length = 8 := hiB_len
    have l2 : (hiB 2 (toU r.charge)).length = 2 := hiB_len
    have d2 : (putR r).drop 2 = hiB 8 r.val ++ (hiB 2 (toU r.charge) ++ hiB 8 (toU r.cost)) := rfl
    have d10 : (putR r).drop 10 = hiB 2 (toU r.charge) ++ hiB 8 (toU r.cost) := by
      rw [show (10 : Nat) = 2 + 8 from rfl, ← List.drop_drop, d2, List.drop_left' l8]
    have d12 : (putR r).drop 12 = hiB 8 (toU r.cost) := by
      rw [show (12 : Nat) = 10 + 2 from rfl, ← List.drop_drop, d10, List.drop_left' l2]
    have hv := hr.val
    have n1 : numB (((putR r).drop 2).take 8) = r.val := by rw [d2, List.take_left' l8, num_hi, e8, Nat.mod_eq_of_lt hv]
    have n2 : numB (((putR r).drop 10).take 2) = toU r.charge := by rw [d10, List.take_left' l2, num_hi, e2, Nat.mod_eq_of_lt (by unfold toU; omega)]
    have n3 : numB ((putR r).drop 12) = toU r.cost := by rw [d12, num_hi, e8, Nat.mod_eq_of_lt (by unfold toU; omega)]
    unfold rsOf
    rw [n1, n2, n3, toS_toU hr.charge, toS_toU hr.cost]
    have c0 : (((putR r).getD 0 0 : Nat) : Int) = r.code := by show ((r.code.toNat : Nat) : Int) = _; omega
    have c1 : (((putR r).getD 1 0 : Nat) : Int) = r.tn := by show ((r.tn.toNat : Nat) : Int) = _; omega
    rw [c0, c1]
  unfold getR
  rw [if_pos putR_len, he, if_pos h]
theorem getR_inv {bs : List Nat} {r : RS} (hb : ∀ x ∈ bs, x < 256) (h : getR bs = some r) : mayR r = true ∧ putR r = bs ∧ r.ok := by
  unfold getR at h
  split at h
  · rename_i hl
    split at h
    · rename_i hm
      cases h
      match bs, hl with
      | o :: t :: rest, hl =>
        have ho := hb o (by simp)
        have ht := hb t (by simp)
        have hl' : rest.length = 18 := by simpa using hl
        have hbr : ∀ x ∈ rest, x < 256 := fun x hx => hb x (by simp [hx])
        have t8 : (rest.take 8).length = 8 := by rw [List.length_take]; omega
        have t2 : ((rest.drop 8).take 2).length = 2 := by rw [List.length_take, List.length_drop]; omega
        have t10 : (rest.drop 10).length = 8 := by rw [List.length_drop]; omega
        have h8 := hi_num (l := rest.take 8) fun x hx => hbr x (List.mem_of_mem_take hx)
        have h2 := hi_num (l := (rest.drop 8).take 2) fun x hx => hbr x (List.mem_of_mem_drop (List.mem_of_mem_take hx))
        have h10 := hi_num (l := rest.drop 10) fun x hx => hbr x (List.mem_of_mem_drop hx)
        have n8 := num_lt (l := rest.take 8) fun x hx => hbr x (List.mem_of_mem_take hx)
        have n2 := num_lt (l := (rest.drop 8).take 2) fun x hx => hbr x (List.mem_of_mem_drop (List.mem_of_mem_take hx))
        have n10 := num_lt (l := rest.drop 10) fun x hx => hbr x (List.mem_of_mem_drop hx)
        rw [t8] at h8 n8
        rw [t2] at h2 n2
        rw [t10] at h10 n10
        have e8 : 256 ^ 8 = 18446744073709551616 := by decide
        have e2 : 256 ^ 2 = 65536 := by decide
        have er : rsOf (o :: t :: rest) = ⟨(o : Int), (t : Int), numB (rest.take 8), toS (numB ((rest.drop 8).take 2)), toS (numB (rest.drop 10))⟩ := by simp [rsOf]
        rw [er] at hm ⊢
        refine ⟨hm, ?_, ⟨by simp only; omega, by simp only; omega, by simp only; omega, toS_rng (by omega), toS_rng (by omega)⟩⟩
        simp only [putR]
        rw [toU_toS (by omega), toU_toS (by omega), h8, h2, h10]
        simp only [Int.toNat_natCast]
        rw [show (10 : Nat) = 8 + 2 from rfl, ← List.drop_drop, List.take_append_drop, List.take_append_drop]
    · cases h
  · cases h
end Go.Bx
