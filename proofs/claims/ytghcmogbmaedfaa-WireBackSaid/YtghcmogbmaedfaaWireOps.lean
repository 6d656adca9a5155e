/- Operations of layer 18: requests and answers compared, strings, bytes in memory. -/
import Derived.Test.YtghcmogbmaedfaaWireP2
import Derived.Test.YtghcmogbmaedfaaTy
namespace Go.Proofs.Ytghcmogbmaedfaa
open Go Go.Bx
set_option linter.unusedSimpArgs false
set_option linter.unusedVariables false
set_option maxRecDepth 100000
set_option maxHeartbeats 4000000
attribute [local irreducible] X XO XE XF XD XW thenX inX retX kN CallsR
theorem eqF_step {P : Program} {w : World} {d : Nat} {xs ys : Array Value} {f : Field} {fs : List Field} {k : IntKind} {a b : Int} {q : Bool} (hn : f.name ≠ "_") (h : P.underlying f.type = some (.int k)) (hx : (part f.type xs f.offset).run P w = .ok (.int k a) w) (hy : (part f.type ys f.offset).run P w = .ok (.int k b) w)
    (hr : (Op.eqFields (d + 1) xs ys fs).run P w = .ok q w) : (Op.eqFields (d + 1) xs ys (f :: fs)).run P w = .ok ((a == b) && q) w := by
  simp only [Op.eqFields]
  rw [if_pos hn]
  simp only [Sem.run_bind, hx, hy, Result.andThen_ok, run_equalIn_int w d f.type k k a b h]
  cases hab : (a == b)
  · simp [pure, Sem.run]
  · simp [hr]
theorem partI {i : Nat} {t : TypeId} {k : IntKind} {a : Int} {w : World} {cs : Array Value} {by_ : Nat} {z : Value} (h : TI Try.prog t (.int k) 1 by_ z) (hv : cs[i]? = some (.int k a)) : (part t cs i).run Try.prog w = .ok (.int k a) w := part_one h rfl hv
/-- A request's value; an answer's. -/
abbrev rqV (r : RQ) : Value := .agg #[.int .i64 r.op, .int .i64 r.tn, .int .u64 (r.a : Int), .int .u64 (r.b : Int), .int .u64 (r.c : Int), .int .i64 r.n, .int .i64 r.bit]
abbrev rsV (r : RS) : Value := .agg #[.int .i64 r.code, .int .i64 r.tn, .int .u64 (r.val : Int), .int .i64 r.charge, .int .i64 r.cost]
def rqL (r : RQ) : List Int := [r.op, r.tn, r.a, r.b, r.c, r.n, r.bit]
theorem rqL_inj {r s : RQ} : rqL r = rqL s ↔ r = s := by
  cases r; cases s
  simp only [rqL, List.cons.injEq, RQ.mk.injEq, Int.natCast_inj, and_true]
def rsL (r : RS) : List Int := [r.code, r.tn, r.val, r.charge, r.cost]
theorem rsL_inj {r s : RS} : rsL r = rsL s ↔ r = s := by
  cases r; cases s
  simp only [rsL, List.cons.injEq, RS.mk.injEq, Int.natCast_inj, and_true]
section
variable {x y : Operand} {w : World} {a0 a1 a2 a3 a4 a5 a6 b0 b1 b2 b3 b4 b5 b6 : Int}
theorem rq_equal (w : World) : (Op.equal 50 (.agg #[.int .i64 a0, .int .i64 a1, .int .u64 a2, .int .u64 a3, .int .u64 a4, .int .i64 a5, .int .i64 a6]) (.agg #[.int .i64 b0, .int .i64 b1, .int .u64 b2, .int .u64 b3, .int .u64 b4, .int .i64 b5, .int .i64 b6])).run Try.prog w =
    .ok (decide ([a0, a1, a2, a3, a4, a5, a6] = [b0, b1, b2, b3, b4, b5, b6])) w := by
  show (Op.equalIn (9999 + 1) _ _ _).run _ _ = _
  rw [run_equalIn_struct w 9999 50 _ _ (by kernel_rfl) (by kernel_rfl)]
  have e : decide ([a0, a1, a2, a3, a4, a5, a6] = [b0, b1, b2, b3, b4, b5, b6]) = ((a0 == b0) && ((a1 == b1) && ((a2 == b2) && ((a3 == b3) && ((a4 == b4) && ((a5 == b5) && ((a6 == b6) && true))))))) := by
    rw [Bool.eq_iff_iff]
    simp only [List.cons.injEq, decide_eq_true_eq, Bool.and_eq_true, beq_iff_eq, and_true]
  rw [e]
  refine eqF_step (by decide) (k := .i64) Try.underlying3 (partI T3 rfl) (partI T3 rfl) ?_
  refine eqF_step (by decide) (k := .i64) Try.underlying3 (partI T3 rfl) (partI T3 rfl) ?_
  refine eqF_step (by decide) (k := .u64) Try.underlying22 (partI T22 rfl) (partI T22 rfl) ?_
  refine eqF_step (by decide) (k := .u64) Try.underlying22 (partI T22 rfl) (partI T22 rfl) ?_
  refine eqF_step (by decide) (k := .u64) Try.underlying22 (partI T22 rfl) (partI T22 rfl) ?_
  refine eqF_step (by decide) (k := .i64) Try.underlying3 (partI T3 rfl) (partI T3 rfl) ?_
  refine eqF_step (by decide) (k := .i64) Try.underlying3 (partI T3 rfl) (partI T3 rfl) ?_
  rfl
theorem rs_equal (w : World) : (Op.equal 52 (.agg #[.int .i64 a0, .int .i64 a1, .int .u64 a2, .int .i64 a3, .int .i64 a4]) (.agg #[.int .i64 b0, .int .i64 b1, .int .u64 b2, .int .i64 b3, .int .i64 b4])).run Try.prog w =
    .ok (decide ([a0, a1, a2, a3, a4] = [b0, b1, b2, b3, b4])) w := by
  show (Op.equalIn (9999 + 1) _ _ _).run _ _ = _
  rw [run_equalIn_struct w 9999 52 _ _ (by kernel_rfl) (by kernel_rfl)]
  have e : decide ([a0, a1, a2, a3, a4] = [b0, b1, b2, b3, b4]) = ((a0 == b0) && ((a1 == b1) && ((a2 == b2) && ((a3 == b3) && ((a4 == b4) && true))))) := by
    rw [Bool.eq_iff_iff]
    simp only [List.cons.injEq, decide_eq_true_eq, Bool.and_eq_true, beq_iff_eq, and_true]
  rw [e]
  refine eqF_step (by decide) (k := .i64) Try.underlying3 (partI T3 rfl) (partI T3 rfl) ?_
  refine eqF_step (by decide) (k := .i64) Try.underlying3 (partI T3 rfl) (partI T3 rfl) ?_
  refine eqF_step (by decide) (k := .u64) Try.underlying22 (partI T22 rfl) (partI T22 rfl) ?_
  refine eqF_step (by decide) (k := .i64) Try.underlying3 (partI T3 rfl) (partI T3 rfl) ?_
  refine eqF_step (by decide) (k := .i64) Try.underlying3 (partI T3 rfl) (partI T3 rfl) ?_
  rfl
theorem rq_eql : binR Try.prog .eql 50 x y (.agg #[.int .i64 a0, .int .i64 a1, .int .u64 a2, .int .u64 a3, .int .u64 a4, .int .i64 a5, .int .i64 a6]) (.agg #[.int .i64 b0, .int .i64 b1, .int .u64 b2, .int .u64 b3, .int .u64 b4, .int .i64 b5, .int .i64 b6]) w =
    .ok (.bool (decide ([a0, a1, a2, a3, a4, a5, a6] = [b0, b1, b2, b3, b4, b5, b6]))) w := binR_eqlA (by kernel_rfl) (rq_equal w)
theorem rq_neq : binR Try.prog .neq 50 x y (.agg #[.int .i64 a0, .int .i64 a1, .int .u64 a2, .int .u64 a3, .int .u64 a4, .int .i64 a5, .int .i64 a6]) (.agg #[.int .i64 b0, .int .i64 b1, .int .u64 b2, .int .u64 b3, .int .u64 b4, .int .i64 b5, .int .i64 b6]) w =
    .ok (.bool (!decide ([a0, a1, a2, a3, a4, a5, a6] = [b0, b1, b2, b3, b4, b5, b6]))) w := binR_neqA (by kernel_rfl) (rq_equal w)
theorem rs_eql : binR Try.prog .eql 52 x y (.agg #[.int .i64 a0, .int .i64 a1, .int .u64 a2, .int .i64 a3, .int .i64 a4]) (.agg #[.int .i64 b0, .int .i64 b1, .int .u64 b2, .int .i64 b3, .int .i64 b4]) w =
    .ok (.bool (decide ([a0, a1, a2, a3, a4] = [b0, b1, b2, b3, b4]))) w := binR_eqlA (by kernel_rfl) (rs_equal w)
theorem rs_neq : binR Try.prog .neq 52 x y (.agg #[.int .i64 a0, .int .i64 a1, .int .u64 a2, .int .i64 a3, .int .i64 a4]) (.agg #[.int .i64 b0, .int .i64 b1, .int .u64 b2, .int .i64 b3, .int .i64 b4]) w =
    .ok (.bool (!decide ([a0, a1, a2, a3, a4] = [b0, b1, b2, b3, b4]))) w := binR_neqA (by kernel_rfl) (rs_equal w)
end
attribute [push_cast] rq_eql rq_neq rs_eql rs_neq eq_self
/-! Bytes and numbers in memory. -/
def intRow (x : Nat) : List Value := [.int .i64 x]
abbrev SlB (w : World) (a : Option Addr) (cap : Nat) (l : List Nat) : Prop := Sl w 5 1 a cap (l.map byteRow)
abbrev SlI (w : World) (a : Option Addr) (cap : Nat) (l : List Nat) : Prop := Sl w 3 1 a cap (l.map intRow)
def rowsB (l : List Nat) : Array Value := (l.map byteRow).flatten.toArray
theorem byte_len {l : List Nat} : ∀ r ∈ l.map byteRow, r.length = 1 := fun r hr => by obtain ⟨f, _, rfl⟩ := List.mem_map.1 hr; rfl
theorem int_len {l : List Nat} : ∀ r ∈ l.map intRow, r.length = 1 := fun r hr => by obtain ⟨f, _, rfl⟩ := List.mem_map.1 hr; rfl
theorem byte_cells {l : List Nat} : (l.map byteRow).flatten.all isCell = true := by
  rw [flat_bytes, List.all_eq_true]
  intro x hx
  obtain ⟨n, _, rfl⟩ := List.mem_map.1 hx
  rfl
theorem pushB {w : World} {a : Option Addr} {cap : Nat} {l news : List Nat} {us : Array Value} (h : SlB w a cap l) (hu : us = rowsB news) (hm : l.length + news.length ≤ 1099511627776) {k : Nat} (hk : k = news.length) :
    ∃ a' cap' w', apR Try.prog 53 (.slice a l.length cap) (.slice (some ⟨w.heap.size, 0, none⟩) k k) (w.alloc (.cells us 5)) = .ok (.slice a' (l ++ news).length cap') w' ∧
      SlB w' a' cap' (l ++ news) ∧ Chg (fun k => blk a = some k) w w' ∧ w.heap.size < w'.heap.size ∧ (∀ g, blk a' = some g → blk a = some g ∨ (w.heap.size ≤ g ∧ g < w'.heap.size)) := by
  subst hk hu
  have := Sl.push h T53 T5 rfl (by decide) (c := news.length) (us := rowsB news) rfl rfl rfl byte_len byte_cells (by rw [List.length_map, List.length_map]; exact hm) (by decide)
  rw [← List.map_append, List.length_map, List.length_map, List.length_map] at this
  exact this
theorem appB {w : World} {a b0 : Option Addr} {cap c : Nat} {l news : List Nat} (h : SlB w a cap l) (hI : Inp w 1 b0 (news.map byteRow)) (hm : l.length + news.length ≤ 1099511627776) :
    ∃ a' cap' w', apR Try.prog 53 (.slice a l.length cap) (.slice b0 news.length c) w = .ok (.slice a' (l ++ news).length cap') w' ∧
      SlB w' a' cap' (l ++ news) ∧ Chg (fun k => blk a = some k) w w' ∧ (∀ g, blk a' = some g → blk a = some g ∨ (w.heap.size ≤ g ∧ g < w'.heap.size)) := by
  have := Sl.append h T53 T5 rfl (by decide) (c := c) hI byte_len byte_cells (by rw [List.length_map, List.length_map]; exact hm) (by decide)
  rw [← List.map_append, List.length_map, List.length_map, List.length_map] at this
  exact this
theorem madeB {w : World} {g cap : Nat} {l : List Nat} {c : Array Value} (hg : w.heap[g]? = some (.cells c 5 (0, 0))) (hc : c = rowsB l) (hm : l.length ≤ 1000) (hcap : cap = l.length) : SlB w (some ⟨g, 0, none⟩) cap l := by
  subst hc hcap
  have := Sl.made (E := 5) (s := 1) hg byte_len (by rw [List.length_map]; omega)
  rw [List.length_map] at this
  exact this
theorem madeI {w : World} {g cap : Nat} {l : List Nat} {c : Array Value} (hg : w.heap[g]? = some (.cells c 3 (0, 0))) (hc : c = (l.map intRow).flatten.toArray) (hm : l.length ≤ 1000) (hcap : cap = l.length) : SlI w (some ⟨g, 0, none⟩) cap l := by
  subst hc hcap
  have := Sl.made (E := 3) (s := 1) hg int_len (by rw [List.length_map]; omega)
  rw [List.length_map] at this
  exact this
/-- A byte of a slice that stands anywhere. -/
theorem inpB {w : World} {a : Option Addr} {l : List Nat} (h : Inp w 1 a (l.map byteRow)) {i x : Nat} (hx : l[i]? = some x) : ∃ b o c E fz, a = some ⟨b, o, none⟩ ∧ w.heap[b]? = some (.cells c E fz) ∧ c[o + i]? = some (.int .u8 x) := by
  obtain ⟨b, o, c, E, fz, h1, h2, h3⟩ := h.at (i := i) (x := byteRow x) (by rw [List.getElem?_map, hx]; rfl)
  have := h3 0 _ rfl
  rw [Nat.mul_one, Nat.add_zero] at this
  exact ⟨b, o, c, E, fz, h1, h2, this⟩
theorem inpI {w : World} {a : Option Addr} {cap : Nat} {l : List Nat} (h : SlI w a cap l) {i x : Nat} (hx : l[i]? = some x) : ∃ b c, a = some ⟨b, 0, none⟩ ∧ w.heap[b]? = some (.cells c 3 (0, 0)) ∧ c[i]? = some (.int .i64 x) := by
  obtain ⟨b, c, h1, h2, _, _, h3⟩ := h.at (i := i) (x := intRow x) (by rw [List.getElem?_map, hx]; rfl)
  have := h3 0 _ rfl
  rw [Nat.mul_one, Nat.add_zero] at this
  exact ⟨b, c, h1, h2, this⟩
end Go.Proofs.Ytghcmogbmaedfaa
