/- Un1, Un2, Un3, Un4: texts of this work, one behind the other. -/
import Derived.Test.YtpeindhocndmnaaOs2
import Derived.Laws.MakeOwn
namespace Go.Proofs.Ytpeindhocndmnaa
open Go Go.Bx
set_option linter.unusedSimpArgs false
set_option linter.unusedVariables false
set_option maxRecDepth 100000
set_option maxHeartbeats 4000000
def ceO : Option (Ky × Int) → List Value
  | none => [.int .i64 0, .int .i64 0, .int .i64 0, .bool false]
  | some ((lo, hi), n) => [.int .i64 lo, .int .i64 hi, .int .i64 n, .bool true]
def tbL (T : Tb) : List Value := T.flatMap ceO
theorem ceO_len (o : Option (Ky × Int)) : (ceO o).length = 4 := by cases o <;> rfl
theorem tbL_len : ∀ T : Tb, (tbL T).length = 4 * T.length
  | [] => rfl
  | o :: T => by
    have := tbL_len T
    simp only [tbL, List.flatMap_cons, List.length_append, List.length_cons, ceO_len] at this ⊢; omega
theorem tbL_cons (o : Option (Ky × Int)) (T : Tb) : tbL (o :: T) = ceO o ++ tbL T := rfl
theorem tbL_get : ∀ (T : Tb) (i j : Nat), i < T.length → j < 4 → (tbL T)[i * 4 + j]? = (ceO (occ T i))[j]?
  | [], _, _, h, _ => by simp at h
  | o :: T, 0, j, _, hj => by
    rw [tbL_cons, Nat.zero_mul, Nat.zero_add, List.getElem?_append_left (by rw [ceO_len]; exact hj)]; rfl
  | o :: T, i + 1, j, h, hj => by
    have ih := tbL_get T i j (by simpa using h) hj
    rw [tbL_cons, List.getElem?_append_right (by rw [ceO_len]; omega), ceO_len, show (i + 1) * 4 + j - 4 = i * 4 + j by omega, ih]; rfl
theorem ceO_set (o o' : Option (Ky × Int)) (a b c d : Value) (h : ceO o' = [a, b, c, d]) : ((((ceO o).set 0 a).set 1 b).set 2 c).set 3 d = ceO o' := by
  rw [h]; cases o <;> rfl
theorem tbL_set : ∀ (T : Tb) (i : Nat) (o : Option (Ky × Int)) (a b c d : Value), i < T.length → ceO o = [a, b, c, d] → ((((tbL T).set (i * 4) a).set (i * 4 + 1) b).set (i * 4 + 2) c).set (i * 4 + 3) d = tbL (T.set i o)
  | [], _, _, _, _, _, _, h, _ => by simp at h
  | x :: T, 0, o, a, b, c, d, _, hc => by
    have e : ∀ (l : List Value) (j : Nat) (v : Value), j < 4 → l.length = 4 → (l ++ tbL T).set j v = l.set j v ++ tbL T := fun l j v hj hl => List.set_append_left _ _ (by omega)
    rw [List.set_cons_zero, tbL_cons, tbL_cons, Nat.zero_mul, Nat.zero_add, Nat.zero_add, Nat.zero_add, e _ 0 _ (by omega) (ceO_len x), e _ 1 _ (by omega) (by simp [ceO_len]), e _ 2 _ (by omega) (by simp [ceO_len]), e _ 3 _ (by omega) (by simp [ceO_len]), ceO_set x o a b c d hc]
  | x :: T, i + 1, o, a, b, c, d, h, hc => by
    have ih := tbL_set T i o a b c d (by simpa using h) hc
    have e : ∀ (l : List Value) (j : Nat) (v : Value), (ceO x ++ l).set (j + 4) v = ceO x ++ l.set j v := fun l j v => by
      rw [List.set_append_right _ _ (by rw [ceO_len]; omega), ceO_len]; rfl
    rw [List.set_cons_succ, tbL_cons, tbL_cons, show (i + 1) * 4 = i * 4 + 4 by omega, show i * 4 + 4 + 1 = i * 4 + 1 + 4 by omega, show i * 4 + 4 + 2 = i * 4 + 2 + 4 by omega, show i * 4 + 4 + 3 = i * 4 + 3 + 4 by omega, e, e, e, e, ih]
theorem tbL_row {T : Tb} {i : Nat} (h : i < T.length) : (tbL T).toArray.extract (i * 4) (i * 4 + 4) = (ceO (occ T i)).toArray := by
  apply Array.ext_getElem?
  intro j
  have hl := tbL_len T
  have hc := ceO_len (occ T i)
  by_cases hj : j < 4
  · have := tbL_get T i j h hj
    rw [Array.getElem?_extract]
    simp only [List.getElem?_toArray]
    rw [← this]
    split
    · rfl
    · rename_i h2; simp [hl] at h2; omega
  · rw [Array.getElem?_eq_none (by simp [hl]; omega), Array.getElem?_eq_none (by simp [hc]; omega)]
theorem tbL_key {T : Tb} {i : Nat} {k : Ky} {v : Int} (h : occ T i = some (k, v)) : (tbL T).toArray.extract (i * 4) (i * 4 + 2) = #[.int .i64 k.1, .int .i64 k.2] := by
  have hi := occ_lt h
  obtain ⟨lo, hh⟩ := k
  have h0 : (tbL T).toArray[i * 4]? = some (.int .i64 lo) := by
    rw [List.getElem?_toArray, ← Nat.add_zero (i * 4), tbL_get T i 0 hi (by decide), h]; rfl
  have h1 : (tbL T).toArray[i * 4 + 1]? = some (.int .i64 hh) := by
    rw [List.getElem?_toArray, tbL_get T i 1 hi (by decide), h]; rfl
  exact (row2 (c := (tbL T).toArray) h0 h1).2
theorem tbA_in {T : Tb} {i : Nat} (h : i < T.length) : (tbL T).toArray[i * 4 + 3]? = some (.bool (occ T i).isSome) := by
  rw [List.getElem?_toArray, tbL_get T i 3 h (by decide)]
  cases occ T i <;> rfl
theorem tbA_set {T : Tb} {i : Nat} {o : Option (Ky × Int)} {a b c d : Value} (h : i < T.length) (hc : ceO o = [a, b, c, d]) :
    ((((tbL T).toArray.setIfInBounds (i * 4) a).setIfInBounds (i * 4 + 1) b).setIfInBounds (i * 4 + 2) c).setIfInBounds (i * 4 + 3) d = (tbL (T.set i o)).toArray := by
  simp only [List.setIfInBounds_toArray]
  rw [tbL_set T i o a b c d h hc]
theorem tbA_some {T : Tb} {i : Nat} {lo hi n : Int} (h : i < T.length) : ((((tbL T).toArray.setIfInBounds (i * 4) (.int .i64 lo)).setIfInBounds (i * 4 + 1) (.int .i64 hi)).setIfInBounds (i * 4 + 2) (.int .i64 n)).setIfInBounds (i * 4 + 3) (.bool true) = (tbL (T.set i (some ((lo, hi), n)))).toArray := tbA_set h rfl
theorem ms_slots {w : World} {n : Nat} (hn : n ≤ 1099511627776) : msR Try.prog 172 (.int .i64 (n : Int)) (.int .i64 (n : Int)) w = .ok (.slice (some ⟨w.heap.size, 0, none⟩) n n) (w.alloc (.cells (tbL (List.replicate n none)).toArray 191)) := by
  obtain ⟨i, hi, hs, hb, hz⟩ := ((TI.mk' (sz := 4) (by_ := 32) (z := Value.agg #[Value.int IntKind.i64 0, Value.int IntKind.i64 0, Value.int IntKind.i64 0, Value.bool false]) Try.underlying191 (by kernel_rfl)) : TI Try.prog 191 _ _ _ _).inf
  have := run_make (P := Try.prog) w 172 191 i _ Try.underlying172 hi hz .i64 .i64 (n : Int) (n : Int) (by omega) (by omega) (by rw [hb]; omega) (by omega)
  rw [msR, this]
  have e2 : ((n : Int)).toNat = n := by omega
  rw [e2, hs]
  congr 3
  apply Array.ext_getElem?
  intro j
  by_cases hj : j < n * 4
  · have h1 := tbL_get (List.replicate n none) (j / 4) (j % 4) (by rw [List.length_replicate]; omega) (by omega)
    rw [show j / 4 * 4 + j % 4 = j by omega] at h1
    rw [show (tbL (List.replicate n none)).toArray[j]? = (tbL (List.replicate n none))[j]? from List.getElem?_toArray .., h1]
    have h2 : occ (List.replicate n none) (j / 4) = none := by
      unfold occ; rw [List.getElem?_replicate]; split <;> rfl
    rw [h2]
    unfold madeCells
    rw [Array.getElem?_map, Array.getElem?_range, if_pos hj]
    have : j % 4 < 4 := by omega
    simp only [Option.map_some, Value.cells]
    have hsz : (#[Value.int IntKind.i64 0, Value.int IntKind.i64 0, Value.int IntKind.i64 0, Value.bool false] : Array Value).size = 4 := rfl
    rw [hsz]
    generalize j % 4 = r at this ⊢
    match r, this with
    | 0, _ => rfl
    | 1, _ => rfl
    | 2, _ => rfl
    | 3, _ => rfl
  · rw [Array.getElem?_eq_none (by rw [size_madeCells]; omega), Array.getElem?_eq_none (by simp [tbL_len]; omega)]
theorem pair_fields : Try.prog.fieldsOf 189 = #[{ name := "lo", type := 3, offset := 0, embedded := false, tag := "", pkgPath := "bower/uniq", byteOffset := 0 }, { name := "hi", type := 3, offset := 1, embedded := false, tag := "", pkgPath := "bower/uniq", byteOffset := 8 }] := by kernel_rfl
theorem pair_equal {a b c d : Int} {w : World} : (Op.equal 189 (.agg #[.int .i64 a, .int .i64 b]) (.agg #[.int .i64 c, .int .i64 d])).run Try.prog w = .ok (decide ((a, b) = ((c, d) : Ky))) w := by
  show (Op.equalIn (9999 + 1) _ _ _).run _ _ = _
  rw [run_equalIn_struct w 9999 189 _ _ (by kernel_rfl) (by kernel_rfl), pair_fields]
  have p1 : ∀ (x y : Int), (part 3 #[.int .i64 x, .int .i64 y] 0).run Try.prog w = .ok (.int .i64 x) w := fun x y => part_one T3 rfl rfl
  have p2 : ∀ (x y : Int), (part 3 #[.int .i64 x, .int .i64 y] 1).run Try.prog w = .ok (.int .i64 y) w := fun x y => part_one T3 rfl rfl
  have p3 : ∀ (x y : Int), (Op.equalIn 9999 3 (.int .i64 x) (.int .i64 y)).run Try.prog w = .ok (x == y) w := fun x y => run_equalIn_int w 9998 3 .i64 .i64 x y T3.und
  have n1 : ("lo" ≠ "_") = True := by decide
  have n2 : ("hi" ≠ "_") = True := by decide
  simp only [Op.eqFields, n1, n2, if_true, Sem.run_bind, p1, p2, p3, Result.andThen_ok, Sem.run_ite, Sem.run_pure]
  by_cases h1 : a = c
  · by_cases h2 : b = d
    · simp [h1, h2]
    · have hb : (b == d) = false := by simpa using h2
      simp [h1, h2, hb]
  · have ha : (a == c) = false := by simpa using h1
    simp [h1, ha]
theorem pair_neq {x y : Operand} {a b c d : Int} {w : World} : binR Try.prog .neq 189 x y (.agg #[.int .i64 a, .int .i64 b]) (.agg #[.int .i64 c, .int .i64 d]) w = .ok (.bool (!decide ((a, b) = ((c, d) : Ky)))) w :=
  binR_neqA (by kernel_rfl) pair_equal
theorem and_u64_le {a b : Int} (h0 : 0 ≤ b) (h1 : b < 18446744073709551616) : 0 ≤ bits .and .u64 a b ∧ bits .and .u64 a b ≤ b := by
  obtain ⟨m, rfl⟩ := Int.eq_ofNat_of_zero_le h0
  have hm : m < 18446744073709551616 := by omega
  have e : bits .and .u64 a (m : Int) = ((BitVec.ofInt 64 a &&& BitVec.ofNat 64 m).toNat : Int) := by
    unfold bits
    simp only [IntKind.bits]
    have e1 : BitVec.ofInt 64 (m : Int) = BitVec.ofNat 64 m := BitVec.ofInt_natCast ..
    rw [e1]
    exact wrap_u64 (by omega) (by have := (BitVec.ofInt 64 a &&& BitVec.ofNat 64 m).isLt; omega)
  rw [e, BitVec.toNat_and, BitVec.toNat_ofNat, Nat.mod_eq_of_lt hm]
  have := Nat.and_le_right (n := (BitVec.ofInt 64 a).toNat) (m := m)
  omega
theorem and_i64 {a b : Nat} (h0 : a < 9223372036854775808) (h1 : b < 9223372036854775808) : bits .and .i64 (a : Int) (b : Int) = ((a &&& b : Nat) : Int) := by
  have hle := Nat.and_le_right (n := a) (m := b)
  unfold bits
  simp only [IntKind.bits]
  have e1 : BitVec.ofInt 64 (a : Int) = BitVec.ofNat 64 a := BitVec.ofInt_natCast ..
  have e2 : BitVec.ofInt 64 (b : Int) = BitVec.ofNat 64 b := BitVec.ofInt_natCast ..
  rw [e1, e2]
  change IntKind.i64.wrap (((BitVec.ofNat 64 a &&& BitVec.ofNat 64 b : BitVec 64).toNat : Nat) : Int) = _
  rw [BitVec.toNat_and, BitVec.toNat_ofNat, BitVec.toNat_ofNat, Nat.mod_eq_of_lt (by omega), Nat.mod_eq_of_lt (by omega)]
  exact wrap_i64 (by omega) (by omega)
theorem and_next {n m i : Nat} (hn : n = 2 ^ m) (hm : 1 ≤ m) (hb : n ≤ 1099511627776) (hi : i < n) : bits .and .i64 ((i : Int) + 1) ((n : Int) - 1) = (cyc n i 1 : Nat) := by
  have hpos : 0 < n := by omega
  have e1 : ((i : Int) + 1) = ((i + 1 : Nat) : Int) := by omega
  have e2 : ((n : Int) - 1) = ((n - 1 : Nat) : Int) := by omega
  rw [e1, e2, and_i64 (by omega) (by omega), hn, Nat.and_two_pow_sub_one_eq_mod, ← hn]
  unfold cyc
  split
  · rw [Nat.mod_eq_of_lt (by omega)]
  · have : i + 1 = n := by omega
    rw [this, Nat.mod_self, Nat.sub_self]
def mixA (k : Ky) : Int := bits .xor .u64 (IntKind.u64.wrap (IntKind.u64.wrap k.1 * 11400714819323198485)) (IntKind.u64.wrap (IntKind.u64.wrap k.2 * 14029467366897019727))
def mixB (a : Int) : Int := bits .xor .u64 a (a.fdiv (2 ^ min (Int.toNat 29) IntKind.u64.bits))
def mixC (a : Int) : Int := IntKind.u64.wrap (a * 13787848793156543929)
def mixD (a : Int) : Int := bits .xor .u64 a (a.fdiv (2 ^ min (Int.toNat 32) IntKind.u64.bits))
def homeI (k : Ky) (n : Nat) : Int := bits .and .u64 (mixD (mixC (mixB (mixA k)))) ((n : Int) - 1)
def homeN (k : Ky) (n : Nat) : Nat := if n ≤ 1099511627776 then (homeI k n).toNat else 0
theorem homeI_rng {k : Ky} {n : Nat} (h : 0 < n) (hb : n ≤ 1099511627776) : 0 ≤ homeI k n ∧ homeI k n ≤ (n : Int) - 1 := and_u64_le (by omega) (by omega)
theorem homeN_lt (k : Ky) (n : Nat) (h : 0 < n) : homeN k n < n := by
  unfold homeN
  split
  · have := homeI_rng (k := k) h (by omega); omega
  · exact h
theorem homeN_eq {k : Ky} {n : Nat} (h : 0 < n) (hb : n ≤ 1099511627776) : homeI k n = (homeN k n : Int) := by
  have := homeI_rng (k := k) h hb
  unfold homeN
  rw [if_pos hb]; omega
structure UqI (w : World) (p g : Nat) (many : Int) (T : Tb) : Prop where
  at_ : w.heap[p]? = some (.cells #[.slice (some ⟨g, 0, none⟩) T.length T.length, .int .i64 many] 174)
  sl : w.heap[g]? = some (.cells (tbL T).toArray 191)
  pw : ∃ m, T.length = 2 ^ m ∧ 1 ≤ m
  pos : 2 ≤ T.length
  lim : T.length ≤ 1073741824
theorem UqI.ext {w w' : World} {p g : Nat} {many : Int} {T : Tb} (h : UqI w p g many T) (hE : Ext w w') : UqI w' p g many T := ⟨hE.at h.at_, hE.at h.sl, h.pw, h.pos, h.lim⟩
theorem UqI.ne {w : World} {p g : Nat} {many : Int} {T : Tb} (h : UqI w p g many T) : p ≠ g := by
  rintro rfl
  have h1 := h.at_
  rw [h.sl] at h1
  simp only [Option.some.injEq, Obj.cells.injEq] at h1
  exact absurd h1.2.1 (by decide)
theorem UqI.next {w : World} {p g : Nat} {many : Int} {T : Tb} (h : UqI w p g many T) {i : Nat} (hi : i < T.length) : bits .and .i64 ((i : Int) + 1) ((T.length : Int) - 1) = (cyc T.length i 1 : Nat) := by
  obtain ⟨m, h1, h2⟩ := h.pw
  have := h.lim
  exact and_next h1 h2 (by omega) hi
theorem ufirst_calls {w : World} {p g : Nat} {many : Int} {T : Tb} (h : UqI w p g many T) (k : Ky) :
    CallsR Try.prog 174 #[.pointer (some ⟨p, 0, none⟩), .agg #[.int .i64 k.1, .int .i64 k.2]] w fun r w' => r = .int .i64 (homeN k T.length : Nat) ∧ Ext w w' := by
  have hlim := h.lim
  have hpos := h.pos
  have hE := (Ext.refl w).alloc (.cells #[.int .i64 k.1, .int .i64 k.2] 189)
  have hp := hE.at h.at_
  have hr := homeI_rng (k := k) (n := T.length) (by omega) (by omega)
  have hw : IntKind.u64.wrap ((T.length : Int) - 1) = (T.length : Int) - 1 := wrap_u64 (by omega) (by omega)
  have hv : IntKind.i64.wrap (homeI k T.length) = homeI k T.length := wrap_i64 (by omega) (by omega)
  have hv2 : IntKind.i64.wrap ((T.length : Int) - 1) = (T.length : Int) - 1 := wrap_i64 (by omega) (by omega)
  obtain ⟨a1, ha1⟩ : ∃ a, IntKind.u64.wrap k.1 = a := ⟨_, rfl⟩
  obtain ⟨a2, ha2⟩ : ∃ a, IntKind.u64.wrap (a1 * 11400714819323198485) = a := ⟨_, rfl⟩
  obtain ⟨a3, ha3⟩ : ∃ a, IntKind.u64.wrap k.2 = a := ⟨_, rfl⟩
  obtain ⟨a4, ha4⟩ : ∃ a, IntKind.u64.wrap (a3 * 14029467366897019727) = a := ⟨_, rfl⟩
  obtain ⟨a5, ha5⟩ : ∃ a, bits .xor .u64 a2 a4 = a := ⟨_, rfl⟩
  obtain ⟨a6, ha6⟩ : ∃ a, a5.fdiv (2 ^ min (Int.toNat 29) IntKind.u64.bits) = a := ⟨_, rfl⟩
  obtain ⟨a7, ha7⟩ : ∃ a, bits .xor .u64 a5 a6 = a := ⟨_, rfl⟩
  obtain ⟨a8, ha8⟩ : ∃ a, IntKind.u64.wrap (a7 * 13787848793156543929) = a := ⟨_, rfl⟩
  obtain ⟨a9, ha9⟩ : ∃ a, a8.fdiv (2 ^ min (Int.toNat 32) IntKind.u64.bits) = a := ⟨_, rfl⟩
  obtain ⟨a10, ha10⟩ : ∃ a, bits .xor .u64 a8 a9 = a := ⟨_, rfl⟩
  have ha11 : bits .and .u64 a10 ((T.length : Int) - 1) = homeI k T.length := by
    rw [homeI, mixA, ha1, ha2, ha3, ha4, ha5, mixB, ha6, ha7, mixC, ha8, mixD, ha9, ha10]
  have hq := homeN_eq (k := k) (n := T.length) (by omega) (by omega)
  generalize homeI k T.length = hm at hr hv ha11 hq
  refine calls2 (bs := []) Try.func174 rfl mixed (by kernel_rfl) ?_
  intro e0 h0 h1
  simp only [comp, gop, gslot, dops, bigOf, setK, drawOf, drawOf2, dopsW, setW, dopsR, setR, kindOf, List.lookup, List.map_cons, List.map_nil, Option.bind_some, List.getElem?_toArray, List.getElem?_cons_zero, List.getElem?_cons_succ, Option.getD_some, Option.getD_none, List.contains_nil, List.contains_cons, Bool.false_eq_true, ↓reduceIte, Nat.reduceAdd, Nat.reduceBEq, Bool.or_false]
  refine X_seq fun K hK => ?_
  simp only [X_reg, thenX_normal]
  repeat (first | (refine xo (by simp (disch := first | assumption | omega | (with_unfolding_all exact id rfl) | exact Nat.le_of_ble_eq_true rfl | fail) only [Bool.not_true, Bool.not_false, vR_ok, uR_ok, ev_tmp, ev_const, ev_func, Env.put_some, Env.put_none, Env.set_app, Nat.reduceEqDiff, ↓reduceIte, rG_move, rG_assign, opt1_some, ext_all, dec_t, dec_f, beq_t, beq_f, bne_t, bne_f, Int.toNat_natCast, Nat.mul_one, Nat.zero_add, Nat.add_zero, List.map_toArray, List.map_cons, List.map_nil, rG_convert, cv52_3, rG_fieldAddr, fa189_0, rG_binOp, binR_sub, rG_len, ln172, rG_nilCheck, nilR_ptr, rG_box, Value.cells, rG_load, ld3, List.getElem?_toArray, List.getElem?_cons_zero, List.getElem?_cons_succ, ld1_some, rd1_cells, binR_and, binR_mul, cv3_52, resM_1, binR_shr, ld172, fa174_0, fa189_1, binR_xor, h1] <;> rfl) ?_; first | with_reducible refine kv ?_ | with_reducible refine ks ?_ | with_reducible refine ke ?_) | (refine xo_t ?_ ?_; focus (simp (disch := first | assumption | omega | (with_unfolding_all exact id rfl) | exact Nat.le_of_ble_eq_true rfl | fail) only [Env.put_some, Env.put_none, Env.set_app, Nat.reduceEqDiff, ↓reduceIte, Bool.not_true, Bool.not_false, h1]; done)) | (refine xo_f ?_ ?_; focus (simp (disch := first | assumption | omega | (with_unfolding_all exact id rfl) | exact Nat.le_of_ble_eq_true rfl | fail) only [Env.put_some, Env.put_none, Env.set_app, Nat.reduceEqDiff, ↓reduceIte, Bool.not_true, Bool.not_false, h1]; done)) | (refine xo_u ?_ ?_; focus (simp (disch := first | assumption | omega | (with_unfolding_all exact id rfl) | exact Nat.le_of_ble_eq_true rfl | fail) only [Env.put_some, Env.put_none, Env.set_app, Nat.reduceEqDiff, ↓reduceIte, Bool.not_true, Bool.not_false, h1]; done)))
  refine xo_nil ?_
  refine hK _ _ ?_
  clear hK K
  refine X_seq fun K hK => ?_
  simp only [X_reg, thenX_normal]
  repeat (first | (refine xo (by simp (disch := first | assumption | omega | (with_unfolding_all exact id rfl) | exact Nat.le_of_ble_eq_true rfl | fail) only [Bool.not_true, Bool.not_false, vR_ok, uR_ok, ev_tmp, ev_const, ev_func, Env.put_some, Env.put_none, Env.set_app, Nat.reduceEqDiff, ↓reduceIte, rG_move, rG_assign, opt1_some, ext_all, dec_t, dec_f, beq_t, beq_f, bne_t, bne_f, Int.toNat_natCast, Nat.mul_one, Nat.zero_add, Nat.add_zero, List.map_toArray, List.map_cons, List.map_nil, rG_convert, cv52_3, rG_fieldAddr, fa189_0, rG_binOp, binR_sub, rG_len, ln172, rG_nilCheck, nilR_ptr, rG_box, Value.cells, rG_load, ld3, List.getElem?_toArray, List.getElem?_cons_zero, List.getElem?_cons_succ, ld1_some, rd1_cells, binR_and, binR_mul, cv3_52, resM_1, binR_shr, ld172, fa174_0, fa189_1, binR_xor, alloc_new, ha1, ha2, ha3, ha4, ha5] <;> rfl) ?_; first | with_reducible refine kv ?_ | with_reducible refine ks ?_ | with_reducible refine ke ?_) | (refine xo_t ?_ ?_; focus (simp (disch := first | assumption | omega | (with_unfolding_all exact id rfl) | exact Nat.le_of_ble_eq_true rfl | fail) only [Env.put_some, Env.put_none, Env.set_app, Nat.reduceEqDiff, ↓reduceIte, Bool.not_true, Bool.not_false, alloc_new, ha1, ha2, ha3, ha4, ha5]; done)) | (refine xo_f ?_ ?_; focus (simp (disch := first | assumption | omega | (with_unfolding_all exact id rfl) | exact Nat.le_of_ble_eq_true rfl | fail) only [Env.put_some, Env.put_none, Env.set_app, Nat.reduceEqDiff, ↓reduceIte, Bool.not_true, Bool.not_false, alloc_new, ha1, ha2, ha3, ha4, ha5]; done)) | (refine xo_u ?_ ?_; focus (simp (disch := first | assumption | omega | (with_unfolding_all exact id rfl) | exact Nat.le_of_ble_eq_true rfl | fail) only [Env.put_some, Env.put_none, Env.set_app, Nat.reduceEqDiff, ↓reduceIte, Bool.not_true, Bool.not_false, alloc_new, ha1, ha2, ha3, ha4, ha5]; done)))
  refine xo_nil ?_
  refine hK _ _ ?_
  clear hK K
  refine X_seq fun K hK => ?_
  simp only [X_reg, thenX_normal]
  repeat (first | (refine xo (by simp (disch := first | assumption | omega | (with_unfolding_all exact id rfl) | exact Nat.le_of_ble_eq_true rfl | fail) only [Bool.not_true, Bool.not_false, vR_ok, uR_ok, ev_tmp, ev_const, ev_func, Env.put_some, Env.put_none, Env.set_app, Nat.reduceEqDiff, ↓reduceIte, rG_move, rG_assign, opt1_some, ext_all, dec_t, dec_f, beq_t, beq_f, bne_t, bne_f, Int.toNat_natCast, Nat.mul_one, Nat.zero_add, Nat.add_zero, List.map_toArray, List.map_cons, List.map_nil, rG_convert, cv52_3, rG_fieldAddr, fa189_0, rG_binOp, binR_sub, rG_len, ln172, rG_nilCheck, nilR_ptr, rG_box, Value.cells, rG_load, ld3, List.getElem?_toArray, List.getElem?_cons_zero, List.getElem?_cons_succ, ld1_some, rd1_cells, binR_and, binR_mul, cv3_52, resM_1, binR_shr, ld172, fa174_0, fa189_1, binR_xor, ha6, ha7] <;> rfl) ?_; first | with_reducible refine kv ?_ | with_reducible refine ks ?_ | with_reducible refine ke ?_) | (refine xo_t ?_ ?_; focus (simp (disch := first | assumption | omega | (with_unfolding_all exact id rfl) | exact Nat.le_of_ble_eq_true rfl | fail) only [Env.put_some, Env.put_none, Env.set_app, Nat.reduceEqDiff, ↓reduceIte, Bool.not_true, Bool.not_false, ha6, ha7]; done)) | (refine xo_f ?_ ?_; focus (simp (disch := first | assumption | omega | (with_unfolding_all exact id rfl) | exact Nat.le_of_ble_eq_true rfl | fail) only [Env.put_some, Env.put_none, Env.set_app, Nat.reduceEqDiff, ↓reduceIte, Bool.not_true, Bool.not_false, ha6, ha7]; done)) | (refine xo_u ?_ ?_; focus (simp (disch := first | assumption | omega | (with_unfolding_all exact id rfl) | exact Nat.le_of_ble_eq_true rfl | fail) only [Env.put_some, Env.put_none, Env.set_app, Nat.reduceEqDiff, ↓reduceIte, Bool.not_true, Bool.not_false, ha6, ha7]; done)))
  refine xo_nil ?_
  refine hK _ _ ?_
  clear hK K
  refine X_seq fun K hK => ?_
  simp only [X_reg, thenX_normal]
  repeat (first | (refine xo (by simp (disch := first | assumption | omega | (with_unfolding_all exact id rfl) | exact Nat.le_of_ble_eq_true rfl | fail) only [Bool.not_true, Bool.not_false, vR_ok, uR_ok, ev_tmp, ev_const, ev_func, Env.put_some, Env.put_none, Env.set_app, Nat.reduceEqDiff, ↓reduceIte, rG_move, rG_assign, opt1_some, ext_all, dec_t, dec_f, beq_t, beq_f, bne_t, bne_f, Int.toNat_natCast, Nat.mul_one, Nat.zero_add, Nat.add_zero, List.map_toArray, List.map_cons, List.map_nil, rG_convert, cv52_3, rG_fieldAddr, fa189_0, rG_binOp, binR_sub, rG_len, ln172, rG_nilCheck, nilR_ptr, rG_box, Value.cells, rG_load, ld3, List.getElem?_toArray, List.getElem?_cons_zero, List.getElem?_cons_succ, ld1_some, rd1_cells, binR_and, binR_mul, cv3_52, resM_1, binR_shr, ld172, fa174_0, fa189_1, binR_xor, ha8] <;> rfl) ?_; first | with_reducible refine kv ?_ | with_reducible refine ks ?_ | with_reducible refine ke ?_) | (refine xo_t ?_ ?_; focus (simp (disch := first | assumption | omega | (with_unfolding_all exact id rfl) | exact Nat.le_of_ble_eq_true rfl | fail) only [Env.put_some, Env.put_none, Env.set_app, Nat.reduceEqDiff, ↓reduceIte, Bool.not_true, Bool.not_false, ha8]; done)) | (refine xo_f ?_ ?_; focus (simp (disch := first | assumption | omega | (with_unfolding_all exact id rfl) | exact Nat.le_of_ble_eq_true rfl | fail) only [Env.put_some, Env.put_none, Env.set_app, Nat.reduceEqDiff, ↓reduceIte, Bool.not_true, Bool.not_false, ha8]; done)) | (refine xo_u ?_ ?_; focus (simp (disch := first | assumption | omega | (with_unfolding_all exact id rfl) | exact Nat.le_of_ble_eq_true rfl | fail) only [Env.put_some, Env.put_none, Env.set_app, Nat.reduceEqDiff, ↓reduceIte, Bool.not_true, Bool.not_false, ha8]; done)))
  refine xo_nil ?_
  refine hK _ _ ?_
  clear hK K
  refine X_seq fun K hK => ?_
  simp only [X_reg, thenX_normal]
  repeat (first | (refine xo (by simp (disch := first | assumption | omega | (with_unfolding_all exact id rfl) | exact Nat.le_of_ble_eq_true rfl | fail) only [Bool.not_true, Bool.not_false, vR_ok, uR_ok, ev_tmp, ev_const, ev_func, Env.put_some, Env.put_none, Env.set_app, Nat.reduceEqDiff, ↓reduceIte, rG_move, rG_assign, opt1_some, ext_all, dec_t, dec_f, beq_t, beq_f, bne_t, bne_f, Int.toNat_natCast, Nat.mul_one, Nat.zero_add, Nat.add_zero, List.map_toArray, List.map_cons, List.map_nil, rG_convert, cv52_3, rG_fieldAddr, fa189_0, rG_binOp, binR_sub, rG_len, ln172, rG_nilCheck, nilR_ptr, rG_box, Value.cells, rG_load, ld3, List.getElem?_toArray, List.getElem?_cons_zero, List.getElem?_cons_succ, ld1_some, rd1_cells, binR_and, binR_mul, cv3_52, resM_1, binR_shr, ld172, fa174_0, fa189_1, binR_xor, ha9, ha10] <;> rfl) ?_; first | with_reducible refine kv ?_ | with_reducible refine ks ?_ | with_reducible refine ke ?_) | (refine xo_t ?_ ?_; focus (simp (disch := first | assumption | omega | (with_unfolding_all exact id rfl) | exact Nat.le_of_ble_eq_true rfl | fail) only [Env.put_some, Env.put_none, Env.set_app, Nat.reduceEqDiff, ↓reduceIte, Bool.not_true, Bool.not_false, ha9, ha10]; done)) | (refine xo_f ?_ ?_; focus (simp (disch := first | assumption | omega | (with_unfolding_all exact id rfl) | exact Nat.le_of_ble_eq_true rfl | fail) only [Env.put_some, Env.put_none, Env.set_app, Nat.reduceEqDiff, ↓reduceIte, Bool.not_true, Bool.not_false, ha9, ha10]; done)) | (refine xo_u ?_ ?_; focus (simp (disch := first | assumption | omega | (with_unfolding_all exact id rfl) | exact Nat.le_of_ble_eq_true rfl | fail) only [Env.put_some, Env.put_none, Env.set_app, Nat.reduceEqDiff, ↓reduceIte, Bool.not_true, Bool.not_false, ha9, ha10]; done)))
  refine xo_nil ?_
  refine hK _ _ ?_
  clear hK K
  refine X_seq fun K hK => ?_
  simp only [X_reg, thenX_normal]
  repeat (first | (refine xo (by simp (disch := first | assumption | omega | (with_unfolding_all exact id rfl) | exact Nat.le_of_ble_eq_true rfl | fail) only [Bool.not_true, Bool.not_false, vR_ok, uR_ok, ev_tmp, ev_const, ev_func, Env.put_some, Env.put_none, Env.set_app, Nat.reduceEqDiff, ↓reduceIte, rG_move, rG_assign, opt1_some, ext_all, dec_t, dec_f, beq_t, beq_f, bne_t, bne_f, Int.toNat_natCast, Nat.mul_one, Nat.zero_add, Nat.add_zero, List.map_toArray, List.map_cons, List.map_nil, rG_convert, cv52_3, rG_fieldAddr, fa189_0, rG_binOp, binR_sub, rG_len, ln172, rG_nilCheck, nilR_ptr, rG_box, Value.cells, rG_load, ld3, List.getElem?_toArray, List.getElem?_cons_zero, List.getElem?_cons_succ, ld1_some, rd1_cells, binR_and, binR_mul, cv3_52, resM_1, binR_shr, ld172, fa174_0, fa189_1, binR_xor, h0, hp, hv2, hw, ha11, hv] <;> rfl) ?_; first | with_reducible refine kv ?_ | with_reducible refine ks ?_ | with_reducible refine ke ?_) | (refine xo_t ?_ ?_; focus (simp (disch := first | assumption | omega | (with_unfolding_all exact id rfl) | exact Nat.le_of_ble_eq_true rfl | fail) only [Env.put_some, Env.put_none, Env.set_app, Nat.reduceEqDiff, ↓reduceIte, Bool.not_true, Bool.not_false, h0, hp, hv2, hw, ha11, hv]; done)) | (refine xo_f ?_ ?_; focus (simp (disch := first | assumption | omega | (with_unfolding_all exact id rfl) | exact Nat.le_of_ble_eq_true rfl | fail) only [Env.put_some, Env.put_none, Env.set_app, Nat.reduceEqDiff, ↓reduceIte, Bool.not_true, Bool.not_false, h0, hp, hv2, hw, ha11, hv]; done)) | (refine xo_u ?_ ?_; focus (simp (disch := first | assumption | omega | (with_unfolding_all exact id rfl) | exact Nat.le_of_ble_eq_true rfl | fail) only [Env.put_some, Env.put_none, Env.set_app, Nat.reduceEqDiff, ↓reduceIte, Bool.not_true, Bool.not_false, h0, hp, hv2, hw, ha11, hv]; done)))
  refine xo_nil ?_
  refine hK _ _ ?_
  clear hK K
  simp (disch := first | assumption | omega | (with_unfolding_all exact id rfl) | exact Nat.le_of_ble_eq_true rfl | fail) only [X_ret, thenX_ret, inX_ret, retX_ret, retX_normal, Try.results174, resM_0, resM_1, resM_2, resM_3, resM_4, Env.put_some, Env.put_none, Env.set_app, Nat.reduceEqDiff, ↓reduceIte]
  refine ⟨_, rfl, ?_, hE⟩
  rw [hq]
theorem ufind_calls {w : World} {p g : Nat} {many : Int} {T : Tb} (h : UqI w p g many T) {k : Ky} {i : Nat} (hf : Finds homeN T k i) :
    CallsR Try.prog 155 #[.pointer (some ⟨p, 0, none⟩), .agg #[.int .i64 k.1, .int .i64 k.2]] w fun r w' => r = .int .i64 (i : Nat) ∧ Ext w w' := by
  have hlim := h.lim
  have hpos := h.pos
  have hh := homeN_lt k T.length (by omega)
  obtain ⟨d, hd, hi, hpath, ho⟩ := hf
  refine calls2 (bs := []) Try.func155 rfl mixed (by kernel_rfl) ?_
  intro e0 h0 h1
  simp only [comp, gop, gslot, dops, bigOf, setK, drawOf, drawOf2, dopsW, setW, dopsR, setR, kindOf, List.lookup, List.map_cons, List.map_nil, Option.bind_some, List.getElem?_toArray, List.getElem?_cons_zero, List.getElem?_cons_succ, Option.getD_some, Option.getD_none, List.contains_nil, List.contains_cons, Bool.false_eq_true, ↓reduceIte, Nat.reduceAdd, Nat.reduceBEq, Bool.or_false]
  refine X_seq fun K hK => ?_
  simp only [X_reg, thenX_normal]
  repeat (first | (refine xo (by simp (disch := first | assumption | omega | (with_unfolding_all exact id rfl) | exact Nat.le_of_ble_eq_true rfl | fail) only [Bool.not_true, Bool.not_false, vR_ok, uR_ok, ev_tmp, ev_const, ev_func, Env.put_some, Env.put_none, Env.set_app, Nat.reduceEqDiff, ↓reduceIte, rG_move, rG_assign, opt1_some, ext_all, dec_t, dec_f, beq_t, beq_f, bne_t, bne_f, wrap_i64, wrap_u64, Int.toNat_natCast, Nat.mul_one, Nat.zero_add, Nat.add_zero, List.map_toArray, List.map_cons, List.map_nil, rG_load, ld4, List.getElem?_toArray, List.getElem?_cons_zero, List.getElem?_cons_succ, ld1_some, rd1_cells, rG_binOp, binR_sub, resM_1, rG_len, ln172, rG_fieldAddr, fa191_2, rG_box, Value.cells, ld189, ldN_some, rdN_cells, binR_and, call174, rG_nilCheck, nilR_ptr, rG_indexAddr, ia172, rG_pick2, pk2_bool, Bool.false_eq_true, fa174_0, binR_add, ld172, fa191_0, h1] <;> rfl) ?_; first | with_reducible refine kv ?_ | with_reducible refine ks ?_ | with_reducible refine ke ?_) | (refine xo_t ?_ ?_; focus (simp (disch := first | assumption | omega | (with_unfolding_all exact id rfl) | exact Nat.le_of_ble_eq_true rfl | fail) only [Env.put_some, Env.put_none, Env.set_app, Nat.reduceEqDiff, ↓reduceIte, Bool.not_true, Bool.not_false, h1]; done)) | (refine xo_f ?_ ?_; focus (simp (disch := first | assumption | omega | (with_unfolding_all exact id rfl) | exact Nat.le_of_ble_eq_true rfl | fail) only [Env.put_some, Env.put_none, Env.set_app, Nat.reduceEqDiff, ↓reduceIte, Bool.not_true, Bool.not_false, h1]; done)) | (refine xo_u ?_ ?_; focus (simp (disch := first | assumption | omega | (with_unfolding_all exact id rfl) | exact Nat.le_of_ble_eq_true rfl | fail) only [Env.put_some, Env.put_none, Env.set_app, Nat.reduceEqDiff, ↓reduceIte, Bool.not_true, Bool.not_false, h1]; done)))
  refine xo_nil ?_
  refine hK _ _ ?_
  clear hK K
  have hE0 := (Ext.refl w).alloc (.cells #[.int .i64 k.1, .int .i64 k.2] 189)
  have hk0 : (w.alloc (.cells #[.int .i64 k.1, .int .i64 k.2] 189)).heap[w.heap.size]? = some (.cells #[.int .i64 k.1, .int .i64 k.2] 189) := alloc_new
  generalize w.alloc (.cells #[.int .i64 k.1, .int .i64 k.2] 189) = w1 at hE0 hk0 ⊢
  have hsz2 : (#[.int .i64 k.1, .int .i64 k.2] : Array Value).size = 2 := rfl
  refine X_seq fun K hK => ?_
  (try simp only [X_reg, thenX_normal])
  repeat (first | (refine xo (by simp (disch := first | assumption | omega | (with_unfolding_all exact id rfl) | exact Nat.le_of_ble_eq_true rfl | fail) only [Bool.not_true, Bool.not_false, vR_ok, uR_ok, ev_tmp, ev_const, ev_func, Env.put_some, Env.put_none, Env.set_app, Nat.reduceEqDiff, ↓reduceIte, rG_move, rG_assign, opt1_some, ext_all, dec_t, dec_f, beq_t, beq_f, bne_t, bne_f, wrap_i64, wrap_u64, Int.toNat_natCast, Nat.mul_one, Nat.zero_add, Nat.add_zero, List.map_toArray, List.map_cons, List.map_nil, rG_load, ld4, List.getElem?_toArray, List.getElem?_cons_zero, List.getElem?_cons_succ, ld1_some, rd1_cells, rG_binOp, binR_sub, resM_1, rG_len, ln172, rG_fieldAddr, fa191_2, rG_box, Value.cells, ld189, ldN_some, rdN_cells, binR_and, call174, rG_nilCheck, nilR_ptr, rG_indexAddr, ia172, rG_pick2, pk2_bool, Bool.false_eq_true, fa174_0, binR_add, ld172, fa191_0, h0, hk0] <;> rfl) ?_; first | with_reducible refine kv ?_ | with_reducible refine ks ?_ | with_reducible refine ke ?_) | (refine xo_t ?_ ?_; focus (simp (disch := first | assumption | omega | (with_unfolding_all exact id rfl) | exact Nat.le_of_ble_eq_true rfl | fail) only [Env.put_some, Env.put_none, Env.set_app, Nat.reduceEqDiff, ↓reduceIte, Bool.not_true, Bool.not_false, h0, hk0]; done)) | (refine xo_f ?_ ?_; focus (simp (disch := first | assumption | omega | (with_unfolding_all exact id rfl) | exact Nat.le_of_ble_eq_true rfl | fail) only [Env.put_some, Env.put_none, Env.set_app, Nat.reduceEqDiff, ↓reduceIte, Bool.not_true, Bool.not_false, h0, hk0]; done)) | (refine xo_u ?_ ?_; focus (simp (disch := first | assumption | omega | (with_unfolding_all exact id rfl) | exact Nat.le_of_ble_eq_true rfl | fail) only [Env.put_some, Env.put_none, Env.set_app, Nat.reduceEqDiff, ↓reduceIte, Bool.not_true, Bool.not_false, h0, hk0]; done)))
  refine (ufirst_calls (h.ext hE0) k).mono ?_
  rintro _ w2 ⟨rfl, hE1⟩
  (try simp only [X_reg, thenX_normal])
  repeat (first | (refine xo (by simp (disch := first | assumption | omega | (with_unfolding_all exact id rfl) | exact Nat.le_of_ble_eq_true rfl | fail) only [Bool.not_true, Bool.not_false, vR_ok, uR_ok, ev_tmp, ev_const, ev_func, Env.put_some, Env.put_none, Env.set_app, Nat.reduceEqDiff, ↓reduceIte, rG_move, rG_assign, opt1_some, ext_all, dec_t, dec_f, beq_t, beq_f, bne_t, bne_f, wrap_i64, wrap_u64, Int.toNat_natCast, Nat.mul_one, Nat.zero_add, Nat.add_zero, List.map_toArray, List.map_cons, List.map_nil, rG_load, ld4, List.getElem?_toArray, List.getElem?_cons_zero, List.getElem?_cons_succ, ld1_some, rd1_cells, rG_binOp, binR_sub, resM_1, rG_len, ln172, rG_fieldAddr, fa191_2, rG_box, Value.cells, ld189, ldN_some, rdN_cells, binR_and, call174, rG_nilCheck, nilR_ptr, rG_indexAddr, ia172, rG_pick2, pk2_bool, Bool.false_eq_true, fa174_0, binR_add, ld172, fa191_0] <;> rfl) ?_; first | with_reducible refine kv ?_ | with_reducible refine ks ?_ | with_reducible refine ke ?_) | (refine xo_t ?_ ?_; focus (simp (disch := first | assumption | omega | (with_unfolding_all exact id rfl) | exact Nat.le_of_ble_eq_true rfl | fail) only [Env.put_some, Env.put_none, Env.set_app, Nat.reduceEqDiff, ↓reduceIte, Bool.not_true, Bool.not_false]; done)) | (refine xo_f ?_ ?_; focus (simp (disch := first | assumption | omega | (with_unfolding_all exact id rfl) | exact Nat.le_of_ble_eq_true rfl | fail) only [Env.put_some, Env.put_none, Env.set_app, Nat.reduceEqDiff, ↓reduceIte, Bool.not_true, Bool.not_false]; done)) | (refine xo_u ?_ ?_; focus (simp (disch := first | assumption | omega | (with_unfolding_all exact id rfl) | exact Nat.le_of_ble_eq_true rfl | fail) only [Env.put_some, Env.put_none, Env.set_app, Nat.reduceEqDiff, ↓reduceIte, Bool.not_true, Bool.not_false]; done)))
  (try refine xo_nil ?_)
  refine hK _ _ ?_
  clear hK K
  have hU2 := (h.ext hE0).ext hE1
  have hk2 := hE1.at hk0
  have hE2 := hE0.trans hE1
  clear hE0 hE1 hk0
  refine X_cut (fun e w' => e 5 = .int .i64 (i : Nat) ∧ Ext w w') ?_ ?_
  · simp only [X_skip, X_exit, X_ret, X_block, thenX_normal, thenX_ret, thenX_exit, inX_normal, inX_ret, inX_exit, ↓reduceIte, Nat.reduceEqDiff]
    refine X_loop (fun e w' => ∃ j : Nat, j ≤ d ∧ e 5 = .int .i64 (cyc T.length (homeN k T.length) j : Nat) ∧ e 0 = .pointer (some ⟨p, 0, none⟩) ∧ e 3 = .pointer (some ⟨w.heap.size, 0, none⟩) ∧ UqI w' p g many T ∧ w'.heap[w.heap.size]? = some (.cells #[.int .i64 k.1, .int .i64 k.2] 189) ∧ Ext w w') (fun e w' => d - crd T.length (homeN k T.length) (nat (e 5))) ?_ ?_
    · refine ⟨0, by omega, ?_, ?_, ?_, hU2, hk2, hE2⟩
      · rw [cyc_zero hh]
        (try simp (disch := first | assumption | omega | (with_unfolding_all exact id rfl) | exact Nat.le_of_ble_eq_true rfl | fail) only [Env.put_some, Env.put_none, Env.set_app, Nat.reduceEqDiff, ↓reduceIte, nat_int, Int.toNat_natCast, wrap_i64])
      · (try simp (disch := first | assumption | omega | (with_unfolding_all exact id rfl) | exact Nat.le_of_ble_eq_true rfl | fail) only [Env.put_some, Env.put_none, Env.set_app, Nat.reduceEqDiff, ↓reduceIte, nat_int, Int.toNat_natCast, wrap_i64, h0])
      · (try simp (disch := first | assumption | omega | (with_unfolding_all exact id rfl) | exact Nat.le_of_ble_eq_true rfl | fail) only [Env.put_some, Env.put_none, Env.set_app, Nat.reduceEqDiff, ↓reduceIte, nat_int, Int.toNat_natCast, wrap_i64])
    · clear h0 h1 hU2 hk2 hE2 w1 w2
      rintro e w1 ⟨j, hj, h5, h0, h3, hU, hk2, hE⟩
      obtain ⟨c, hc⟩ : ∃ c, cyc T.length (homeN k T.length) j = c := ⟨_, rfl⟩
      have hcl : c < T.length := by rw [← hc]; exact cyc_lt hh (by omega)
      have hcl' : (c : Int) < T.length := by omega
      have hcrd : crd T.length (homeN k T.length) c = j := by
        rw [← hc]; unfold cyc crd; split <;> split <;> omega
      have hn5 : nat (e 5) = c := by rw [h5, hc, nat_int]; omega
      rw [hc] at h5
      have hb := hU.at_
      have hs := hU.sl
      have hin := tbA_in hcl
      have htl : (tbL T).toArray.size = T.length * 4 := by simp [tbL_len]; omega
      have hszc : c * 4 + 2 ≤ (tbL T).toArray.size := by omega
      have hnx := hU.next hcl
      by_cases hjd : j < d
      · obtain ⟨x, hx, hne⟩ := hpath j hjd
        rw [hc] at hx
        obtain ⟨kx, vx⟩ := x
        have hkey := tbL_key hx
        rw [hx] at hin
        have hdec : decide ((kx.1, kx.2) = ((k.1, k.2) : Ky)) = false := decide_eq_false (fun h => hne h)
        refine X_seq fun K hK => ?_
        refine X_seq fun K hK => ?_
        simp only [X_draw, thenX_normal]
        refine XD_dr ?_
        repeat (first | (refine xe0 (fun w => (by simp (disch := first | assumption | omega | (with_unfolding_all exact id rfl) | exact Nat.le_of_ble_eq_true rfl | fail) only [Bool.not_true, Bool.not_false, vR_ok, uR_ok, ev_tmp, ev_const, ev_func, Env.put_some, Env.put_none, Env.set_app, Nat.reduceEqDiff, ↓reduceIte, rG_move, rG_assign, opt1_some, ext_all, dec_t, dec_f, beq_t, beq_f, bne_t, bne_f, wrap_i64, wrap_u64, Int.toNat_natCast, Nat.mul_one, Nat.zero_add, Nat.add_zero, List.map_toArray, List.map_cons, List.map_nil, rG_load, ld4, List.getElem?_toArray, List.getElem?_cons_zero, List.getElem?_cons_succ, ld1_some, rd1_cells, rG_binOp, binR_sub, resM_1, rG_len, ln172, rG_fieldAddr, fa191_2, rG_box, Value.cells, ld189, ldN_some, rdN_cells, binR_and, call174, rG_nilCheck, nilR_ptr, rG_indexAddr, ia172, rG_pick2, pk2_bool, Bool.false_eq_true, fa174_0, binR_add, ld172, fa191_0, h0, h3, h5, hb, hs, hin, hkey, hk2, pair_neq, hdec, Option.isSome_some] <;> rfl)) ?_) | (refine xe1 (fun i => (by simp (disch := first | assumption | omega | (with_unfolding_all exact id rfl) | exact Nat.le_of_ble_eq_true rfl | fail) only [Bool.not_true, Bool.not_false, vR_ok, uR_ok, ev_tmp, ev_const, ev_func, Env.put_some, Env.put_none, Env.set_app, Nat.reduceEqDiff, ↓reduceIte, rG_move, rG_assign, opt1_some, ext_all, dec_t, dec_f, beq_t, beq_f, bne_t, bne_f, wrap_i64, wrap_u64, Int.toNat_natCast, Nat.mul_one, Nat.zero_add, Nat.add_zero, List.map_toArray, List.map_cons, List.map_nil, rG_load, ld4, List.getElem?_toArray, List.getElem?_cons_zero, List.getElem?_cons_succ, ld1_some, rd1_cells, rG_binOp, binR_sub, resM_1, rG_len, ln172, rG_fieldAddr, fa191_2, rG_box, Value.cells, ld189, ldN_some, rdN_cells, binR_and, call174, rG_nilCheck, nilR_ptr, rG_indexAddr, ia172, rG_pick2, pk2_bool, Bool.false_eq_true, fa174_0, binR_add, ld172, fa191_0, dr_heap, h0, h3, h5, hb, hs, hin, hkey, hk2, pair_neq, hdec, Option.isSome_some] <;> rfl)) ?_) | (refine xe2x (by simp (disch := first | assumption | omega | (with_unfolding_all exact id rfl) | exact Nat.le_of_ble_eq_true rfl | fail) only [Bool.not_true, Bool.not_false, vR_ok, uR_ok, ev_tmp, ev_const, ev_func, Env.put_some, Env.put_none, Env.set_app, Nat.reduceEqDiff, ↓reduceIte, rG_move, rG_assign, opt1_some, ext_all, dec_t, dec_f, beq_t, beq_f, bne_t, bne_f, wrap_i64, wrap_u64, Int.toNat_natCast, Nat.mul_one, Nat.zero_add, Nat.add_zero, List.map_toArray, List.map_cons, List.map_nil, rG_load, ld4, List.getElem?_toArray, List.getElem?_cons_zero, List.getElem?_cons_succ, ld1_some, rd1_cells, rG_binOp, binR_sub, resM_1, rG_len, ln172, rG_fieldAddr, fa191_2, rG_box, Value.cells, ld189, ldN_some, rdN_cells, binR_and, call174, rG_nilCheck, nilR_ptr, rG_indexAddr, ia172, rG_pick2, pk2_bool, Bool.false_eq_true, fa174_0, binR_add, ld172, fa191_0, h0, h3, h5, hb, hs, hin, hkey, hk2, pair_neq, hdec, Option.isSome_some] <;> rfl) ?_; (first | with_reducible refine kv ?_ | with_reducible refine ks ?_ | with_reducible refine ke ?_)) | (refine xe0_t ?_ ?_; focus (simp (disch := first | assumption | omega | (with_unfolding_all exact id rfl) | exact Nat.le_of_ble_eq_true rfl | fail) only [Env.put_some, Env.put_none, Env.set_app, Nat.reduceEqDiff, ↓reduceIte, Bool.not_true, Bool.not_false, h0, h3, h5, hb, hs, hin, hkey, hk2, pair_neq, hdec, Option.isSome_some]; done)) | (refine xe1_t ?_ ?_; focus (simp (disch := first | assumption | omega | (with_unfolding_all exact id rfl) | exact Nat.le_of_ble_eq_true rfl | fail) only [Env.put_some, Env.put_none, Env.set_app, Nat.reduceEqDiff, ↓reduceIte, Bool.not_true, Bool.not_false, h0, h3, h5, hb, hs, hin, hkey, hk2, pair_neq, hdec, Option.isSome_some]; done)) | (refine xe0_f ?_ ?_; focus (simp (disch := first | assumption | omega | (with_unfolding_all exact id rfl) | exact Nat.le_of_ble_eq_true rfl | fail) only [Env.put_some, Env.put_none, Env.set_app, Nat.reduceEqDiff, ↓reduceIte, Bool.not_true, Bool.not_false, h0, h3, h5, hb, hs, hin, hkey, hk2, pair_neq, hdec, Option.isSome_some]; done)) | (refine xe1_f ?_ ?_; focus (simp (disch := first | assumption | omega | (with_unfolding_all exact id rfl) | exact Nat.le_of_ble_eq_true rfl | fail) only [Env.put_some, Env.put_none, Env.set_app, Nat.reduceEqDiff, ↓reduceIte, Bool.not_true, Bool.not_false, h0, h3, h5, hb, hs, hin, hkey, hk2, pair_neq, hdec, Option.isSome_some]; done)) | (refine xe0_u ?_ ?_; focus (simp (disch := first | assumption | omega | (with_unfolding_all exact id rfl) | exact Nat.le_of_ble_eq_true rfl | fail) only [Env.put_some, Env.put_none, Env.set_app, Nat.reduceEqDiff, ↓reduceIte, Bool.not_true, Bool.not_false, h0, h3, h5, hb, hs, hin, hkey, hk2, pair_neq, hdec, Option.isSome_some]; done)) | (refine xe1_u ?_ ?_; focus (simp (disch := first | assumption | omega | (with_unfolding_all exact id rfl) | exact Nat.le_of_ble_eq_true rfl | fail) only [Env.put_some, Env.put_none, Env.set_app, Nat.reduceEqDiff, ↓reduceIte, Bool.not_true, Bool.not_false, h0, h3, h5, hb, hs, hin, hkey, hk2, pair_neq, hdec, Option.isSome_some]; done)))
        refine xe_nil ?_
        rintro w2 ⟨dd, rfl⟩
        (try refine xo_nil ?_)
        refine hK _ _ ?_
        clear hK K
        refine X_if_t (by simp (disch := first | assumption | omega) only [ev_tmp, Env.put_some, Env.put_none, Env.set_app, Nat.reduceEqDiff, ↓reduceIte, beq_t, dec_t, beq_self_eq_true]) ?_
        simp only [X_skip, X_exit, X_ret, X_block, thenX_normal, thenX_ret, thenX_exit, inX_normal, inX_ret, inX_exit, ↓reduceIte, Nat.reduceEqDiff]
        (try refine xo_nil ?_)
        refine hK _ _ ?_
        clear hK K
        simp only [X_skip, X_exit, X_ret, X_block, thenX_normal, thenX_ret, thenX_exit, inX_normal, inX_ret, inX_exit, ↓reduceIte, Nat.reduceEqDiff]
        (try simp only [X_reg, thenX_normal])
        repeat (first | (refine xo (by simp (disch := first | assumption | omega | (with_unfolding_all exact id rfl) | exact Nat.le_of_ble_eq_true rfl | fail) only [Bool.not_true, Bool.not_false, vR_ok, uR_ok, ev_tmp, ev_const, ev_func, Env.put_some, Env.put_none, Env.set_app, Nat.reduceEqDiff, ↓reduceIte, rG_move, rG_assign, opt1_some, ext_all, dec_t, dec_f, beq_t, beq_f, bne_t, bne_f, wrap_i64, wrap_u64, Int.toNat_natCast, Nat.mul_one, Nat.zero_add, Nat.add_zero, List.map_toArray, List.map_cons, List.map_nil, rG_load, ld4, List.getElem?_toArray, List.getElem?_cons_zero, List.getElem?_cons_succ, ld1_some, rd1_cells, rG_binOp, binR_sub, resM_1, rG_len, ln172, rG_fieldAddr, fa191_2, rG_box, Value.cells, ld189, ldN_some, rdN_cells, binR_and, call174, rG_nilCheck, nilR_ptr, rG_indexAddr, ia172, rG_pick2, pk2_bool, Bool.false_eq_true, fa174_0, binR_add, ld172, fa191_0, h5, h0, hb, hnx, dr_heap] <;> rfl) ?_; first | with_reducible refine kv ?_ | with_reducible refine ks ?_ | with_reducible refine ke ?_) | (refine xo_t ?_ ?_; focus (simp (disch := first | assumption | omega | (with_unfolding_all exact id rfl) | exact Nat.le_of_ble_eq_true rfl | fail) only [Env.put_some, Env.put_none, Env.set_app, Nat.reduceEqDiff, ↓reduceIte, Bool.not_true, Bool.not_false, h5, h0, hb, hnx, dr_heap]; done)) | (refine xo_f ?_ ?_; focus (simp (disch := first | assumption | omega | (with_unfolding_all exact id rfl) | exact Nat.le_of_ble_eq_true rfl | fail) only [Env.put_some, Env.put_none, Env.set_app, Nat.reduceEqDiff, ↓reduceIte, Bool.not_true, Bool.not_false, h5, h0, hb, hnx, dr_heap]; done)) | (refine xo_u ?_ ?_; focus (simp (disch := first | assumption | omega | (with_unfolding_all exact id rfl) | exact Nat.le_of_ble_eq_true rfl | fail) only [Env.put_some, Env.put_none, Env.set_app, Nat.reduceEqDiff, ↓reduceIte, Bool.not_true, Bool.not_false, h5, h0, hb, hnx, dr_heap]; done)))
        refine xo_nil ?_
        simp only [X_skip, X_exit, X_ret, X_block, thenX_normal, thenX_ret, thenX_exit, inX_normal, inX_ret, inX_exit, ↓reduceIte, Nat.reduceEqDiff]
        have hU' := hU.ext ((Ext.refl w1).dr dd)
        refine ⟨⟨j + 1, by omega, ?_, ?_, ?_, hU', hk2, hE.dr dd⟩, ?_⟩
        · rw [← cyc_succ hh (by omega), hc]
          (try simp (disch := first | assumption | omega | (with_unfolding_all exact id rfl) | exact Nat.le_of_ble_eq_true rfl | fail) only [Env.put_some, Env.put_none, Env.set_app, Nat.reduceEqDiff, ↓reduceIte, nat_int, Int.toNat_natCast, wrap_i64])
        · (try simp (disch := first | assumption | omega | (with_unfolding_all exact id rfl) | exact Nat.le_of_ble_eq_true rfl | fail) only [Env.put_some, Env.put_none, Env.set_app, Nat.reduceEqDiff, ↓reduceIte, nat_int, Int.toNat_natCast, wrap_i64, h0])
        · (try simp (disch := first | assumption | omega | (with_unfolding_all exact id rfl) | exact Nat.le_of_ble_eq_true rfl | fail) only [Env.put_some, Env.put_none, Env.set_app, Nat.reduceEqDiff, ↓reduceIte, nat_int, Int.toNat_natCast, wrap_i64, h3])
        · rw [hn5, hcrd]
          have hcrd2 : crd T.length (homeN k T.length) (cyc T.length c 1) = j + 1 := by
            rw [← hc]; unfold cyc crd; split <;> split <;> split <;> omega
          (try simp (disch := first | assumption | omega | (with_unfolding_all exact id rfl) | exact Nat.le_of_ble_eq_true rfl | fail) only [Env.put_some, Env.put_none, Env.set_app, Nat.reduceEqDiff, ↓reduceIte, nat_int, Int.toNat_natCast, wrap_i64])
          rw [hcrd2]
          omega
      · obtain rfl : j = d := by omega
        have hci : c = i := by rw [← hc, hi]
        subst hci
        rcases ho with hnone | ⟨v, hv⟩
        · rw [hnone] at hin
          refine X_seq fun K hK => ?_
          refine X_seq fun K hK => ?_
          simp only [X_draw, thenX_normal]
          refine XD_dr ?_
          repeat (first | (refine xe0 (fun w => (by simp (disch := first | assumption | omega | (with_unfolding_all exact id rfl) | exact Nat.le_of_ble_eq_true rfl | fail) only [Bool.not_true, Bool.not_false, vR_ok, uR_ok, ev_tmp, ev_const, ev_func, Env.put_some, Env.put_none, Env.set_app, Nat.reduceEqDiff, ↓reduceIte, rG_move, rG_assign, opt1_some, ext_all, dec_t, dec_f, beq_t, beq_f, bne_t, bne_f, wrap_i64, wrap_u64, Int.toNat_natCast, Nat.mul_one, Nat.zero_add, Nat.add_zero, List.map_toArray, List.map_cons, List.map_nil, rG_load, ld4, List.getElem?_toArray, List.getElem?_cons_zero, List.getElem?_cons_succ, ld1_some, rd1_cells, rG_binOp, binR_sub, resM_1, rG_len, ln172, rG_fieldAddr, fa191_2, rG_box, Value.cells, ld189, ldN_some, rdN_cells, binR_and, call174, rG_nilCheck, nilR_ptr, rG_indexAddr, ia172, rG_pick2, pk2_bool, Bool.false_eq_true, fa174_0, binR_add, ld172, fa191_0, h0, h3, h5, hb, hs, hin, Option.isSome_none] <;> rfl)) ?_) | (refine xe1 (fun i => (by simp (disch := first | assumption | omega | (with_unfolding_all exact id rfl) | exact Nat.le_of_ble_eq_true rfl | fail) only [Bool.not_true, Bool.not_false, vR_ok, uR_ok, ev_tmp, ev_const, ev_func, Env.put_some, Env.put_none, Env.set_app, Nat.reduceEqDiff, ↓reduceIte, rG_move, rG_assign, opt1_some, ext_all, dec_t, dec_f, beq_t, beq_f, bne_t, bne_f, wrap_i64, wrap_u64, Int.toNat_natCast, Nat.mul_one, Nat.zero_add, Nat.add_zero, List.map_toArray, List.map_cons, List.map_nil, rG_load, ld4, List.getElem?_toArray, List.getElem?_cons_zero, List.getElem?_cons_succ, ld1_some, rd1_cells, rG_binOp, binR_sub, resM_1, rG_len, ln172, rG_fieldAddr, fa191_2, rG_box, Value.cells, ld189, ldN_some, rdN_cells, binR_and, call174, rG_nilCheck, nilR_ptr, rG_indexAddr, ia172, rG_pick2, pk2_bool, Bool.false_eq_true, fa174_0, binR_add, ld172, fa191_0, dr_heap, h0, h3, h5, hb, hs, hin, Option.isSome_none] <;> rfl)) ?_) | (refine xe2x (by simp (disch := first | assumption | omega | (with_unfolding_all exact id rfl) | exact Nat.le_of_ble_eq_true rfl | fail) only [Bool.not_true, Bool.not_false, vR_ok, uR_ok, ev_tmp, ev_const, ev_func, Env.put_some, Env.put_none, Env.set_app, Nat.reduceEqDiff, ↓reduceIte, rG_move, rG_assign, opt1_some, ext_all, dec_t, dec_f, beq_t, beq_f, bne_t, bne_f, wrap_i64, wrap_u64, Int.toNat_natCast, Nat.mul_one, Nat.zero_add, Nat.add_zero, List.map_toArray, List.map_cons, List.map_nil, rG_load, ld4, List.getElem?_toArray, List.getElem?_cons_zero, List.getElem?_cons_succ, ld1_some, rd1_cells, rG_binOp, binR_sub, resM_1, rG_len, ln172, rG_fieldAddr, fa191_2, rG_box, Value.cells, ld189, ldN_some, rdN_cells, binR_and, call174, rG_nilCheck, nilR_ptr, rG_indexAddr, ia172, rG_pick2, pk2_bool, Bool.false_eq_true, fa174_0, binR_add, ld172, fa191_0, h0, h3, h5, hb, hs, hin, Option.isSome_none] <;> rfl) ?_; (first | with_reducible refine kv ?_ | with_reducible refine ks ?_ | with_reducible refine ke ?_)) | (refine xe0_t ?_ ?_; focus (simp (disch := first | assumption | omega | (with_unfolding_all exact id rfl) | exact Nat.le_of_ble_eq_true rfl | fail) only [Env.put_some, Env.put_none, Env.set_app, Nat.reduceEqDiff, ↓reduceIte, Bool.not_true, Bool.not_false, h0, h3, h5, hb, hs, hin, Option.isSome_none]; done)) | (refine xe1_t ?_ ?_; focus (simp (disch := first | assumption | omega | (with_unfolding_all exact id rfl) | exact Nat.le_of_ble_eq_true rfl | fail) only [Env.put_some, Env.put_none, Env.set_app, Nat.reduceEqDiff, ↓reduceIte, Bool.not_true, Bool.not_false, h0, h3, h5, hb, hs, hin, Option.isSome_none]; done)) | (refine xe0_f ?_ ?_; focus (simp (disch := first | assumption | omega | (with_unfolding_all exact id rfl) | exact Nat.le_of_ble_eq_true rfl | fail) only [Env.put_some, Env.put_none, Env.set_app, Nat.reduceEqDiff, ↓reduceIte, Bool.not_true, Bool.not_false, h0, h3, h5, hb, hs, hin, Option.isSome_none]; done)) | (refine xe1_f ?_ ?_; focus (simp (disch := first | assumption | omega | (with_unfolding_all exact id rfl) | exact Nat.le_of_ble_eq_true rfl | fail) only [Env.put_some, Env.put_none, Env.set_app, Nat.reduceEqDiff, ↓reduceIte, Bool.not_true, Bool.not_false, h0, h3, h5, hb, hs, hin, Option.isSome_none]; done)) | (refine xe0_u ?_ ?_; focus (simp (disch := first | assumption | omega | (with_unfolding_all exact id rfl) | exact Nat.le_of_ble_eq_true rfl | fail) only [Env.put_some, Env.put_none, Env.set_app, Nat.reduceEqDiff, ↓reduceIte, Bool.not_true, Bool.not_false, h0, h3, h5, hb, hs, hin, Option.isSome_none]; done)) | (refine xe1_u ?_ ?_; focus (simp (disch := first | assumption | omega | (with_unfolding_all exact id rfl) | exact Nat.le_of_ble_eq_true rfl | fail) only [Env.put_some, Env.put_none, Env.set_app, Nat.reduceEqDiff, ↓reduceIte, Bool.not_true, Bool.not_false, h0, h3, h5, hb, hs, hin, Option.isSome_none]; done)))
          refine xe_nil ?_
          rintro w2 ⟨dd, rfl⟩
          (try refine xo_nil ?_)
          refine hK _ _ ?_
          clear hK K
          refine X_if_f (by simp (disch := first | assumption | omega) only [ev_tmp, Env.put_some, Env.put_none, Env.set_app, Nat.reduceEqDiff, ↓reduceIte, beq_f, dec_f]) ?_
          simp only [X_skip, X_exit, X_ret, X_block, thenX_normal, thenX_ret, thenX_exit, inX_normal, inX_ret, inX_exit, ↓reduceIte, Nat.reduceEqDiff]
          refine ⟨?_, hE.dr dd⟩
          (try simp (disch := first | assumption | omega | (with_unfolding_all exact id rfl) | exact Nat.le_of_ble_eq_true rfl | fail) only [Env.put_some, Env.put_none, Env.set_app, Nat.reduceEqDiff, ↓reduceIte, nat_int, Int.toNat_natCast, wrap_i64, h5])
        · have hkey := tbL_key hv
          rw [hv] at hin
          refine X_seq fun K hK => ?_
          refine X_seq fun K hK => ?_
          simp only [X_draw, thenX_normal]
          refine XD_dr ?_
          repeat (first | (refine xe0 (fun w => (by simp (disch := first | assumption | omega | (with_unfolding_all exact id rfl) | exact Nat.le_of_ble_eq_true rfl | fail) only [Bool.not_true, Bool.not_false, vR_ok, uR_ok, ev_tmp, ev_const, ev_func, Env.put_some, Env.put_none, Env.set_app, Nat.reduceEqDiff, ↓reduceIte, rG_move, rG_assign, opt1_some, ext_all, dec_t, dec_f, beq_t, beq_f, bne_t, bne_f, wrap_i64, wrap_u64, Int.toNat_natCast, Nat.mul_one, Nat.zero_add, Nat.add_zero, List.map_toArray, List.map_cons, List.map_nil, rG_load, ld4, List.getElem?_toArray, List.getElem?_cons_zero, List.getElem?_cons_succ, ld1_some, rd1_cells, rG_binOp, binR_sub, resM_1, rG_len, ln172, rG_fieldAddr, fa191_2, rG_box, Value.cells, ld189, ldN_some, rdN_cells, binR_and, call174, rG_nilCheck, nilR_ptr, rG_indexAddr, ia172, rG_pick2, pk2_bool, Bool.false_eq_true, fa174_0, binR_add, ld172, fa191_0, h0, h3, h5, hb, hs, hin, hkey, hk2, pair_neq, eq_self, decide_true, Option.isSome_some] <;> rfl)) ?_) | (refine xe1 (fun i => (by simp (disch := first | assumption | omega | (with_unfolding_all exact id rfl) | exact Nat.le_of_ble_eq_true rfl | fail) only [Bool.not_true, Bool.not_false, vR_ok, uR_ok, ev_tmp, ev_const, ev_func, Env.put_some, Env.put_none, Env.set_app, Nat.reduceEqDiff, ↓reduceIte, rG_move, rG_assign, opt1_some, ext_all, dec_t, dec_f, beq_t, beq_f, bne_t, bne_f, wrap_i64, wrap_u64, Int.toNat_natCast, Nat.mul_one, Nat.zero_add, Nat.add_zero, List.map_toArray, List.map_cons, List.map_nil, rG_load, ld4, List.getElem?_toArray, List.getElem?_cons_zero, List.getElem?_cons_succ, ld1_some, rd1_cells, rG_binOp, binR_sub, resM_1, rG_len, ln172, rG_fieldAddr, fa191_2, rG_box, Value.cells, ld189, ldN_some, rdN_cells, binR_and, call174, rG_nilCheck, nilR_ptr, rG_indexAddr, ia172, rG_pick2, pk2_bool, Bool.false_eq_true, fa174_0, binR_add, ld172, fa191_0, dr_heap, h0, h3, h5, hb, hs, hin, hkey, hk2, pair_neq, eq_self, decide_true, Option.isSome_some] <;> rfl)) ?_) | (refine xe2x (by simp (disch := first | assumption | omega | (with_unfolding_all exact id rfl) | exact Nat.le_of_ble_eq_true rfl | fail) only [Bool.not_true, Bool.not_false, vR_ok, uR_ok, ev_tmp, ev_const, ev_func, Env.put_some, Env.put_none, Env.set_app, Nat.reduceEqDiff, ↓reduceIte, rG_move, rG_assign, opt1_some, ext_all, dec_t, dec_f, beq_t, beq_f, bne_t, bne_f, wrap_i64, wrap_u64, Int.toNat_natCast, Nat.mul_one, Nat.zero_add, Nat.add_zero, List.map_toArray, List.map_cons, List.map_nil, rG_load, ld4, List.getElem?_toArray, List.getElem?_cons_zero, List.getElem?_cons_succ, ld1_some, rd1_cells, rG_binOp, binR_sub, resM_1, rG_len, ln172, rG_fieldAddr, fa191_2, rG_box, Value.cells, ld189, ldN_some, rdN_cells, binR_and, call174, rG_nilCheck, nilR_ptr, rG_indexAddr, ia172, rG_pick2, pk2_bool, Bool.false_eq_true, fa174_0, binR_add, ld172, fa191_0, h0, h3, h5, hb, hs, hin, hkey, hk2, pair_neq, eq_self, decide_true, Option.isSome_some] <;> rfl) ?_; (first | with_reducible refine kv ?_ | with_reducible refine ks ?_ | with_reducible refine ke ?_)) | (refine xe0_t ?_ ?_; focus (simp (disch := first | assumption | omega | (with_unfolding_all exact id rfl) | exact Nat.le_of_ble_eq_true rfl | fail) only [Env.put_some, Env.put_none, Env.set_app, Nat.reduceEqDiff, ↓reduceIte, Bool.not_true, Bool.not_false, h0, h3, h5, hb, hs, hin, hkey, hk2, pair_neq, eq_self, decide_true, Option.isSome_some]; done)) | (refine xe1_t ?_ ?_; focus (simp (disch := first | assumption | omega | (with_unfolding_all exact id rfl) | exact Nat.le_of_ble_eq_true rfl | fail) only [Env.put_some, Env.put_none, Env.set_app, Nat.reduceEqDiff, ↓reduceIte, Bool.not_true, Bool.not_false, h0, h3, h5, hb, hs, hin, hkey, hk2, pair_neq, eq_self, decide_true, Option.isSome_some]; done)) | (refine xe0_f ?_ ?_; focus (simp (disch := first | assumption | omega | (with_unfolding_all exact id rfl) | exact Nat.le_of_ble_eq_true rfl | fail) only [Env.put_some, Env.put_none, Env.set_app, Nat.reduceEqDiff, ↓reduceIte, Bool.not_true, Bool.not_false, h0, h3, h5, hb, hs, hin, hkey, hk2, pair_neq, eq_self, decide_true, Option.isSome_some]; done)) | (refine xe1_f ?_ ?_; focus (simp (disch := first | assumption | omega | (with_unfolding_all exact id rfl) | exact Nat.le_of_ble_eq_true rfl | fail) only [Env.put_some, Env.put_none, Env.set_app, Nat.reduceEqDiff, ↓reduceIte, Bool.not_true, Bool.not_false, h0, h3, h5, hb, hs, hin, hkey, hk2, pair_neq, eq_self, decide_true, Option.isSome_some]; done)) | (refine xe0_u ?_ ?_; focus (simp (disch := first | assumption | omega | (with_unfolding_all exact id rfl) | exact Nat.le_of_ble_eq_true rfl | fail) only [Env.put_some, Env.put_none, Env.set_app, Nat.reduceEqDiff, ↓reduceIte, Bool.not_true, Bool.not_false, h0, h3, h5, hb, hs, hin, hkey, hk2, pair_neq, eq_self, decide_true, Option.isSome_some]; done)) | (refine xe1_u ?_ ?_; focus (simp (disch := first | assumption | omega | (with_unfolding_all exact id rfl) | exact Nat.le_of_ble_eq_true rfl | fail) only [Env.put_some, Env.put_none, Env.set_app, Nat.reduceEqDiff, ↓reduceIte, Bool.not_true, Bool.not_false, h0, h3, h5, hb, hs, hin, hkey, hk2, pair_neq, eq_self, decide_true, Option.isSome_some]; done)))
          refine xe_nil ?_
          rintro w2 ⟨dd, rfl⟩
          (try refine xo_nil ?_)
          refine hK _ _ ?_
          clear hK K
          refine X_if_f (by simp (disch := first | assumption | omega) only [ev_tmp, Env.put_some, Env.put_none, Env.set_app, Nat.reduceEqDiff, ↓reduceIte, beq_f, dec_f]) ?_
          simp only [X_skip, X_exit, X_ret, X_block, thenX_normal, thenX_ret, thenX_exit, inX_normal, inX_ret, inX_exit, ↓reduceIte, Nat.reduceEqDiff]
          refine ⟨?_, hE.dr dd⟩
          (try simp (disch := first | assumption | omega | (with_unfolding_all exact id rfl) | exact Nat.le_of_ble_eq_true rfl | fail) only [Env.put_some, Env.put_none, Env.set_app, Nat.reduceEqDiff, ↓reduceIte, nat_int, Int.toNat_natCast, wrap_i64, h5])
  · rintro e w3 ⟨h5, hE⟩
    refine X_seq fun K hK => ?_
    simp only [X_reg, thenX_normal]
    repeat (first | (refine xo (by simp (disch := first | assumption | omega | (with_unfolding_all exact id rfl) | exact Nat.le_of_ble_eq_true rfl | fail) only [Bool.not_true, Bool.not_false, vR_ok, uR_ok, ev_tmp, ev_const, ev_func, Env.put_some, Env.put_none, Env.set_app, Nat.reduceEqDiff, ↓reduceIte, rG_move, rG_assign, opt1_some, ext_all, dec_t, dec_f, beq_t, beq_f, bne_t, bne_f, wrap_i64, wrap_u64, Int.toNat_natCast, Nat.mul_one, Nat.zero_add, Nat.add_zero, List.map_toArray, List.map_cons, List.map_nil, rG_load, ld4, List.getElem?_toArray, List.getElem?_cons_zero, List.getElem?_cons_succ, ld1_some, rd1_cells, rG_binOp, binR_sub, resM_1, rG_len, ln172, rG_fieldAddr, fa191_2, rG_box, Value.cells, ld189, ldN_some, rdN_cells, binR_and, call174, rG_nilCheck, nilR_ptr, rG_indexAddr, ia172, rG_pick2, pk2_bool, Bool.false_eq_true, fa174_0, binR_add, ld172, fa191_0, h5] <;> rfl) ?_; first | with_reducible refine kv ?_ | with_reducible refine ks ?_ | with_reducible refine ke ?_) | (refine xo_t ?_ ?_; focus (simp (disch := first | assumption | omega | (with_unfolding_all exact id rfl) | exact Nat.le_of_ble_eq_true rfl | fail) only [Env.put_some, Env.put_none, Env.set_app, Nat.reduceEqDiff, ↓reduceIte, Bool.not_true, Bool.not_false, h5]; done)) | (refine xo_f ?_ ?_; focus (simp (disch := first | assumption | omega | (with_unfolding_all exact id rfl) | exact Nat.le_of_ble_eq_true rfl | fail) only [Env.put_some, Env.put_none, Env.set_app, Nat.reduceEqDiff, ↓reduceIte, Bool.not_true, Bool.not_false, h5]; done)) | (refine xo_u ?_ ?_; focus (simp (disch := first | assumption | omega | (with_unfolding_all exact id rfl) | exact Nat.le_of_ble_eq_true rfl | fail) only [Env.put_some, Env.put_none, Env.set_app, Nat.reduceEqDiff, ↓reduceIte, Bool.not_true, Bool.not_false, h5]; done)))
    refine xo_nil ?_
    refine hK _ _ ?_
    clear hK K
    simp (disch := first | assumption | omega | (with_unfolding_all exact id rfl) | exact Nat.le_of_ble_eq_true rfl | fail) only [X_ret, thenX_ret, inX_ret, retX_ret, retX_normal, Try.results155, resM_0, resM_1, resM_2, resM_3, resM_4, Env.put_some, Env.put_none, Env.set_app, Nat.reduceEqDiff, ↓reduceIte]
    exact ⟨_, rfl, rfl, hE⟩
theorem Finds.ex {H : Ky → Nat → Nat} (hH : ∀ k n, 0 < n → H k n < n) {T : Tb} {z : Nat} (k : Ky) (hz : z < T.length) (he : occ T z = none) : ∃ i, Finds H T k i := by
  have hh := hH k T.length (by omega)
  obtain ⟨d0, h1, h2⟩ := cyc_sur hh hz
  obtain ⟨d, hd, hp, hmin⟩ := least (p := fun d => occ T (cyc T.length (H k T.length) d) = none ∨ ∃ v, occ T (cyc T.length (H k T.length) d) = some (k, v)) d0 (.inl (by rw [← h2]; exact he))
  refine ⟨_, d, by omega, rfl, fun j hj => ?_, hp⟩
  have hne := hmin j hj
  cases ho : occ T (cyc T.length (H k T.length) j) with
  | none => exact absurd (.inl ho) hne
  | some x =>
    obtain ⟨kx, vx⟩ := x
    refine ⟨_, rfl, fun hk => hne (.inr ⟨vx, ?_⟩)⟩
    rw [ho]
    have : kx = k := hk
    rw [this]
def cntT (T : Tb) : Int := sumF (fun o : Option (Ky × Int) => b2 o.isSome) T
theorem cnt_set {T : Tb} {i : Nat} {o : Option (Ky × Int)} (h : i < T.length) : cntT (T.set i o) = cntT T - b2 (occ T i).isSome + b2 o.isSome := sumF_set _ _ _ _ _ (occ_get h)
theorem cnt_rep (n : Nat) : cntT (List.replicate n none) = 0 := by
  unfold cntT
  induction n with
  | zero => rfl
  | succ n ih => rw [List.replicate_succ, sumF_cons, ih]; rfl
theorem cnt_room {T : Tb} (h : cntT T < T.length) : ∃ z, z < T.length ∧ occ T z = none := by
  by_cases hex : ∃ z, z < T.length ∧ occ T z = none
  · exact hex
  · exfalso
    have := sumF_all (fun o : Option (Ky × Int) => b2 o.isSome) T (fun o ho => by
      obtain ⟨i, hi⟩ := List.mem_iff_getElem?.1 ho
      have hl := (List.getElem?_eq_some_iff.1 hi).1
      rw [occ_get hl] at hi
      cases hi
      cases hoc : occ T i with
      | none => exact absurd ⟨i, hl, hoc⟩ hex
      | some x => rfl)
    unfold cntT at h
    omega
structure TabI (T : Tb) (many : Int) : Prop where
  inv : TbInv homeN T
  cnt : cntT T = many
  half : 2 * many ≤ T.length
  many0 : 0 ≤ many
theorem TabI.room {T : Tb} {many : Int} (h : TabI T many) : ∃ z, z < T.length ∧ occ T z = none := cnt_room (by have := h.half; have := h.cnt; have := h.many0; have := h.inv.pos; omega)
theorem TabI.find {T : Tb} {many : Int} (h : TabI T many) (k : Ky) : ∃ i, i < T.length ∧ Finds homeN T k i := by
  obtain ⟨z, h1, h2⟩ := h.room
  obtain ⟨i, hi⟩ := Finds.ex homeN_lt k h1 h2
  obtain ⟨d, hd, he, _⟩ := id hi
  exact ⟨i, by rw [he]; exact cyc_lt (homeN_lt k _ (by omega)) (by omega), hi⟩
def gotO : Option (Ky × Int) → Int × Bool
  | some (_, v) => (v, true)
  | none => (0, false)
theorem unew_calls (w : World) : CallsR Try.prog 85 #[] w fun r w' => ∃ g p, r = .pointer (some ⟨p, 0, none⟩) ∧ UqI w' p g 0 (List.replicate 8 none) ∧ w.heap.size ≤ g ∧ w.heap.size ≤ p ∧ Ext w w' := by
  have hbd : ∀ (g : Nat) (w : World), bdR Try.prog 174 #[(0, .slice (some ⟨g, 0, none⟩) 8 8)] w = .ok (.agg #[.slice (some ⟨g, 0, none⟩) 8 8, .int .i64 0]) w := fun g w => by kernel_rfl
  have hms := ms_slots (w := w) (n := 8) (by omega)
  have e8 : (((8 : Nat) : Int)) = 8 := rfl
  rw [e8] at hms
  refine calls0 (bs := []) Try.func85 rfl mixed (by kernel_rfl) ?_
  intro e0
  simp only [comp, gop, gslot, dops, bigOf, setK, drawOf, drawOf2, dopsW, setW, dopsR, setR, kindOf, List.lookup, List.map_cons, List.map_nil, Option.bind_some, List.getElem?_toArray, List.getElem?_cons_zero, List.getElem?_cons_succ, Option.getD_some, Option.getD_none, List.contains_nil, List.contains_cons, Bool.false_eq_true, ↓reduceIte, Nat.reduceAdd, Nat.reduceBEq, Bool.or_false]
  refine X_seq fun K hK => ?_
  simp only [X_reg, thenX_normal]
  repeat (first | (refine xo (by simp (disch := first | assumption | omega | (with_unfolding_all exact id rfl) | exact Nat.le_of_ble_eq_true rfl | fail) only [Bool.not_true, Bool.not_false, vR_ok, uR_ok, ev_tmp, ev_const, ev_func, Env.put_some, Env.put_none, Env.set_app, Nat.reduceEqDiff, ↓reduceIte, rG_move, rG_assign, opt1_some, ext_all, dec_t, dec_f, beq_t, beq_f, bne_t, bne_f, wrap_i64, wrap_u64, Int.toNat_natCast, Nat.mul_one, Nat.zero_add, Nat.add_zero, List.map_toArray, List.map_cons, List.map_nil, rG_makeSlice, resM_1, rG_build, rG_box, Value.cells] <;> rfl) ?_; first | with_reducible refine kv ?_ | with_reducible refine ks ?_ | with_reducible refine ke ?_) | (refine xo_t ?_ ?_; focus (simp (disch := first | assumption | omega | (with_unfolding_all exact id rfl) | exact Nat.le_of_ble_eq_true rfl | fail) only [Env.put_some, Env.put_none, Env.set_app, Nat.reduceEqDiff, ↓reduceIte, Bool.not_true, Bool.not_false]; done)) | (refine xo_f ?_ ?_; focus (simp (disch := first | assumption | omega | (with_unfolding_all exact id rfl) | exact Nat.le_of_ble_eq_true rfl | fail) only [Env.put_some, Env.put_none, Env.set_app, Nat.reduceEqDiff, ↓reduceIte, Bool.not_true, Bool.not_false]; done)) | (refine xo_u ?_ ?_; focus (simp (disch := first | assumption | omega | (with_unfolding_all exact id rfl) | exact Nat.le_of_ble_eq_true rfl | fail) only [Env.put_some, Env.put_none, Env.set_app, Nat.reduceEqDiff, ↓reduceIte, Bool.not_true, Bool.not_false]; done)))
  refine xo_nil ?_
  refine hK _ _ ?_
  clear hK K
  refine X_seq fun K hK => ?_
  simp only [X_reg, thenX_normal]
  repeat (first | (refine xo (by simp (disch := first | assumption | omega | (with_unfolding_all exact id rfl) | exact Nat.le_of_ble_eq_true rfl | fail) only [Bool.not_true, Bool.not_false, vR_ok, uR_ok, ev_tmp, ev_const, ev_func, Env.put_some, Env.put_none, Env.set_app, Nat.reduceEqDiff, ↓reduceIte, rG_move, rG_assign, opt1_some, ext_all, dec_t, dec_f, beq_t, beq_f, bne_t, bne_f, wrap_i64, wrap_u64, Int.toNat_natCast, Nat.mul_one, Nat.zero_add, Nat.add_zero, List.map_toArray, List.map_cons, List.map_nil, rG_makeSlice, resM_1, rG_build, rG_box, Value.cells, hms, hbd] <;> rfl) ?_; first | with_reducible refine kv ?_ | with_reducible refine ks ?_ | with_reducible refine ke ?_) | (refine xo_t ?_ ?_; focus (simp (disch := first | assumption | omega | (with_unfolding_all exact id rfl) | exact Nat.le_of_ble_eq_true rfl | fail) only [Env.put_some, Env.put_none, Env.set_app, Nat.reduceEqDiff, ↓reduceIte, Bool.not_true, Bool.not_false, hms, hbd]; done)) | (refine xo_f ?_ ?_; focus (simp (disch := first | assumption | omega | (with_unfolding_all exact id rfl) | exact Nat.le_of_ble_eq_true rfl | fail) only [Env.put_some, Env.put_none, Env.set_app, Nat.reduceEqDiff, ↓reduceIte, Bool.not_true, Bool.not_false, hms, hbd]; done)) | (refine xo_u ?_ ?_; focus (simp (disch := first | assumption | omega | (with_unfolding_all exact id rfl) | exact Nat.le_of_ble_eq_true rfl | fail) only [Env.put_some, Env.put_none, Env.set_app, Nat.reduceEqDiff, ↓reduceIte, Bool.not_true, Bool.not_false, hms, hbd]; done)))
  refine xo_nil ?_
  refine hK _ _ ?_
  clear hK K
  simp (disch := first | assumption | omega | (with_unfolding_all exact id rfl) | exact Nat.le_of_ble_eq_true rfl | fail) only [X_ret, thenX_ret, inX_ret, retX_ret, retX_normal, Try.results85, resM_0, resM_1, resM_2, resM_3, resM_4, Env.put_some, Env.put_none, Env.set_app, Nat.reduceEqDiff, ↓reduceIte]
  refine ⟨_, rfl, w.heap.size, w.heap.size + 1, ?_, ⟨?_, al2_0', ⟨3, by simp, by omega⟩, by simp, by simp⟩, Nat.le_refl _, by omega, ((Ext.refl w).alloc _).alloc _⟩
  · rw [alloc_size]
  · have := alloc_new (w := w.alloc (.cells (tbL (List.replicate 8 none)).toArray 191)) (o := .cells #[.slice (some ⟨w.heap.size, 0, none⟩) 8 8, .int .i64 0] 174)
    rw [alloc_size] at this
    rw [List.length_replicate]
    exact this
theorem uget_calls {w : World} {p g : Nat} {many : Int} {T : Tb} (h : UqI w p g many T) {lo hi : Int} {i : Nat} (hil : i < T.length) (hf : Finds homeN T (lo, hi) i) :
    CallsR Try.prog 130 #[.pointer (some ⟨p, 0, none⟩), .int .i64 lo, .int .i64 hi] w fun r w' => r = .tuple #[.int .i64 (gotO (occ T i)).1, .bool (gotO (occ T i)).2] ∧ Ext w w' := by
  have hbd : ∀ (w : World), bdR Try.prog 189 #[(0, .int .i64 lo), (1, .int .i64 hi)] w = .ok (.agg #[.int .i64 lo, .int .i64 hi]) w := fun w => by kernel_rfl
  have hp : ∀ u, Ext w u → u.heap[p]? = some (.cells #[.slice (some ⟨g, 0, none⟩) T.length T.length, .int .i64 many] 174) := fun u hu => hu.at h.at_
  have hs : ∀ u, Ext w u → u.heap[g]? = some (.cells (tbL T).toArray 191) := fun u hu => hu.at h.sl
  have htl : (tbL T).toArray.size = T.length * 4 := by simp [tbL_len]; omega
  have hsz : i * 4 + 4 ≤ (tbL T).toArray.size := by omega
  have hil' : (i : Int) < T.length := by omega
  have hrow := tbL_row hil
  obtain ⟨o, ho⟩ : ∃ o, occ T i = o := ⟨_, rfl⟩
  rw [ho] at hrow ⊢
  obtain ⟨a, b, c, d, hce, hc, hd⟩ : ∃ a b c d, ceO o = [a, b, c, d] ∧ c = .int .i64 (gotO o).1 ∧ d = .bool (gotO o).2 := by
    rcases o with _ | ⟨⟨x, y⟩, z⟩ <;> exact ⟨_, _, _, _, rfl, rfl, rfl⟩
  have hcell : (vcs (.agg #[a, b, c, d])).all isCell = true := by
    show ([a, b, c, d] : List Value).all isCell = true
    rw [← hce]; rcases o with _ | ⟨⟨x, y⟩, z⟩ <;> rfl
  rw [hce] at hrow
  refine calls3 (bs := [(1001, [3, 8, 10])]) Try.func130 rfl mixed (by kernel_rfl) ?_
  intro e0 h0 h1 h2
  simp only [comp, gop, gslot, dops, bigOf, setK, drawOf, drawOf2, dopsW, setW, dopsR, setR, kindOf, List.lookup, List.map_cons, List.map_nil, Option.bind_some, List.getElem?_toArray, List.getElem?_cons_zero, List.getElem?_cons_succ, Option.getD_some, Option.getD_none, List.contains_nil, List.contains_cons, Bool.false_eq_true, ↓reduceIte, Nat.reduceAdd, Nat.reduceBEq, Bool.or_false]
  refine X_seq fun K hK => ?_
  simp only [X_reg, thenX_normal]
  repeat (first | (refine xo (by simp (disch := first | assumption | omega | (with_unfolding_all exact id rfl) | exact Nat.le_of_ble_eq_true rfl | fail) only [Bool.not_true, Bool.not_false, vR_ok, uR_ok, ev_tmp, ev_const, ev_func, Env.put_some, Env.put_none, Env.set_app, Nat.reduceEqDiff, ↓reduceIte, rG_move, rG_assign, opt1_some, ext_all, dec_t, dec_f, beq_t, beq_f, bne_t, bne_f, wrap_i64, wrap_u64, Int.toNat_natCast, Nat.mul_one, Nat.zero_add, Nat.add_zero, List.map_toArray, List.map_cons, List.map_nil, rG_store, st191, stN_1, stN_2, stN_3, stN_4, stN_5, stN_6, stN_7, stN_8, vcs_int, vcs_bool, vcs_ptr, vcs_slice, vcs_map, vcs_nil, vcs_iface, vcs_aggL, List.length_cons, List.length_nil, Nat.reduceAdd, rG_load, ld4, List.getElem?_toArray, List.getElem?_cons_zero, List.getElem?_cons_succ, ld1_some, rd1_cells, rG_nilCheck, nilR_ptr, rG_fieldAddr, fa191_2, rG_alloc_191, Value.cells, ld3, rG_indexAddr, ia172, fa191_1, resM_2, call155, ld172, fa174_0, ld191, ldN_some, rdN_cells, rG_build] <;> rfl) ?_; first | with_reducible refine kv ?_ | with_reducible refine ks ?_ | with_reducible refine ke ?_) | (refine xo_t ?_ ?_; focus (simp (disch := first | assumption | omega | (with_unfolding_all exact id rfl) | exact Nat.le_of_ble_eq_true rfl | fail) only [Env.put_some, Env.put_none, Env.set_app, Nat.reduceEqDiff, ↓reduceIte, Bool.not_true, Bool.not_false]; done)) | (refine xo_f ?_ ?_; focus (simp (disch := first | assumption | omega | (with_unfolding_all exact id rfl) | exact Nat.le_of_ble_eq_true rfl | fail) only [Env.put_some, Env.put_none, Env.set_app, Nat.reduceEqDiff, ↓reduceIte, Bool.not_true, Bool.not_false]; done)) | (refine xo_u ?_ ?_; focus (simp (disch := first | assumption | omega | (with_unfolding_all exact id rfl) | exact Nat.le_of_ble_eq_true rfl | fail) only [Env.put_some, Env.put_none, Env.set_app, Nat.reduceEqDiff, ↓reduceIte, Bool.not_true, Bool.not_false]; done)))
  refine xo_nil ?_
  refine hK _ _ ?_
  clear hK K
  refine X_seq fun K hK => ?_
  rw [X_wide]
  simp only [thenX_normal]
  refine XW_ext (D := Ext w) (fun u hu => hu) ?_
  repeat (first | (refine xf0 (fun w => (by simp (disch := first | assumption | omega | (with_unfolding_all exact id rfl) | exact Nat.le_of_ble_eq_true rfl | fail) only [Bool.not_true, Bool.not_false, vR_ok, uR_ok, ev_tmp, ev_const, ev_func, Env.put_some, Env.put_none, Env.set_app, Nat.reduceEqDiff, ↓reduceIte, rG_move, rG_assign, opt1_some, ext_all, dec_t, dec_f, beq_t, beq_f, bne_t, bne_f, wrap_i64, wrap_u64, Int.toNat_natCast, Nat.mul_one, Nat.zero_add, Nat.add_zero, List.map_toArray, List.map_cons, List.map_nil, rG_store, st191, stN_1, stN_2, stN_3, stN_4, stN_5, stN_6, stN_7, stN_8, vcs_int, vcs_bool, vcs_ptr, vcs_slice, vcs_map, vcs_nil, vcs_iface, vcs_aggL, List.length_cons, List.length_nil, Nat.reduceAdd, rG_load, ld4, List.getElem?_toArray, List.getElem?_cons_zero, List.getElem?_cons_succ, ld1_some, rd1_cells, rG_nilCheck, nilR_ptr, rG_fieldAddr, fa191_2, rG_alloc_191, Value.cells, ld3, rG_indexAddr, ia172, fa191_1, resM_2, call155, ld172, fa174_0, ld191, ldN_some, rdN_cells, rG_build, h0, h1, h2, hp, hbd] <;> rfl)) ?_) | (refine xf1 (fun w' hw => (by simp (disch := first | assumption | omega | (with_unfolding_all exact id rfl) | exact Nat.le_of_ble_eq_true rfl | fail) only [Bool.not_true, Bool.not_false, vR_ok, uR_ok, ev_tmp, ev_const, ev_func, Env.put_some, Env.put_none, Env.set_app, Nat.reduceEqDiff, ↓reduceIte, rG_move, rG_assign, opt1_some, ext_all, dec_t, dec_f, beq_t, beq_f, bne_t, bne_f, wrap_i64, wrap_u64, Int.toNat_natCast, Nat.mul_one, Nat.zero_add, Nat.add_zero, List.map_toArray, List.map_cons, List.map_nil, rG_store, st191, stN_1, stN_2, stN_3, stN_4, stN_5, stN_6, stN_7, stN_8, vcs_int, vcs_bool, vcs_ptr, vcs_slice, vcs_map, vcs_nil, vcs_iface, vcs_aggL, List.length_cons, List.length_nil, Nat.reduceAdd, rG_load, ld4, List.getElem?_toArray, List.getElem?_cons_zero, List.getElem?_cons_succ, ld1_some, rd1_cells, rG_nilCheck, nilR_ptr, rG_fieldAddr, fa191_2, rG_alloc_191, Value.cells, ld3, rG_indexAddr, ia172, fa191_1, resM_2, call155, ld172, fa174_0, ld191, ldN_some, rdN_cells, rG_build, h0, h1, h2, hp, hbd] <;> rfl)) ?_) | (refine xf3 (fun u hu => (by simp (disch := first | assumption | omega | (with_unfolding_all exact id rfl) | exact Nat.le_of_ble_eq_true rfl | fail) only [Bool.not_true, Bool.not_false, vR_ok, uR_ok, ev_tmp, ev_const, ev_func, Env.put_some, Env.put_none, Env.set_app, Nat.reduceEqDiff, ↓reduceIte, rG_move, rG_assign, opt1_some, ext_all, dec_t, dec_f, beq_t, beq_f, bne_t, bne_f, wrap_i64, wrap_u64, Int.toNat_natCast, Nat.mul_one, Nat.zero_add, Nat.add_zero, List.map_toArray, List.map_cons, List.map_nil, rG_store, st191, stN_1, stN_2, stN_3, stN_4, stN_5, stN_6, stN_7, stN_8, vcs_int, vcs_bool, vcs_ptr, vcs_slice, vcs_map, vcs_nil, vcs_iface, vcs_aggL, List.length_cons, List.length_nil, Nat.reduceAdd, rG_load, ld4, List.getElem?_toArray, List.getElem?_cons_zero, List.getElem?_cons_succ, ld1_some, rd1_cells, rG_nilCheck, nilR_ptr, rG_fieldAddr, fa191_2, rG_alloc_191, Value.cells, ld3, rG_indexAddr, ia172, fa191_1, resM_2, call155, ld172, fa174_0, ld191, ldN_some, rdN_cells, rG_build, h0, h1, h2, hp, hbd] <;> rfl)) ?_))
  refine xf3c (by kernel_rfl) (fun u hu => (by simp (disch := first | assumption | omega | (with_unfolding_all exact id rfl) | exact Nat.le_of_ble_eq_true rfl | fail) only [Bool.not_true, Bool.not_false, vR_ok, uR_ok, ev_tmp, ev_const, ev_func, Env.put_some, Env.put_none, Env.set_app, Nat.reduceEqDiff, ↓reduceIte, rG_move, rG_assign, opt1_some, ext_all, dec_t, dec_f, beq_t, beq_f, bne_t, bne_f, wrap_i64, wrap_u64, Int.toNat_natCast, Nat.mul_one, Nat.zero_add, Nat.add_zero, List.map_toArray, List.map_cons, List.map_nil, rG_store, st191, stN_1, stN_2, stN_3, stN_4, stN_5, stN_6, stN_7, stN_8, vcs_int, vcs_bool, vcs_ptr, vcs_slice, vcs_map, vcs_nil, vcs_iface, vcs_aggL, List.length_cons, List.length_nil, Nat.reduceAdd, rG_load, ld4, List.getElem?_toArray, List.getElem?_cons_zero, List.getElem?_cons_succ, ld1_some, rd1_cells, rG_nilCheck, nilR_ptr, rG_fieldAddr, fa191_2, rG_alloc_191, Value.cells, ld3, rG_indexAddr, ia172, fa191_1, resM_2, call155, ld172, fa174_0, ld191, ldN_some, rdN_cells, rG_build, h0] <;> rfl)) (fun u hu => ufind_calls (h.ext hu) hf) ?_
  repeat (first | (refine xf0 (fun w => (by simp (disch := first | assumption | omega | (with_unfolding_all exact id rfl) | exact Nat.le_of_ble_eq_true rfl | fail) only [Bool.not_true, Bool.not_false, vR_ok, uR_ok, ev_tmp, ev_const, ev_func, Env.put_some, Env.put_none, Env.set_app, Nat.reduceEqDiff, ↓reduceIte, rG_move, rG_assign, opt1_some, ext_all, dec_t, dec_f, beq_t, beq_f, bne_t, bne_f, wrap_i64, wrap_u64, Int.toNat_natCast, Nat.mul_one, Nat.zero_add, Nat.add_zero, List.map_toArray, List.map_cons, List.map_nil, rG_store, st191, stN_1, stN_2, stN_3, stN_4, stN_5, stN_6, stN_7, stN_8, vcs_int, vcs_bool, vcs_ptr, vcs_slice, vcs_map, vcs_nil, vcs_iface, vcs_aggL, List.length_cons, List.length_nil, Nat.reduceAdd, rG_load, ld4, List.getElem?_toArray, List.getElem?_cons_zero, List.getElem?_cons_succ, ld1_some, rd1_cells, rG_nilCheck, nilR_ptr, rG_fieldAddr, fa191_2, rG_alloc_191, Value.cells, ld3, rG_indexAddr, ia172, fa191_1, resM_2, call155, ld172, fa174_0, ld191, ldN_some, rdN_cells, rG_build, h0, h1, h2, hs, hrow] <;> rfl)) ?_) | (refine xf1 (fun w' hw => (by simp (disch := first | assumption | omega | (with_unfolding_all exact id rfl) | exact Nat.le_of_ble_eq_true rfl | fail) only [Bool.not_true, Bool.not_false, vR_ok, uR_ok, ev_tmp, ev_const, ev_func, Env.put_some, Env.put_none, Env.set_app, Nat.reduceEqDiff, ↓reduceIte, rG_move, rG_assign, opt1_some, ext_all, dec_t, dec_f, beq_t, beq_f, bne_t, bne_f, wrap_i64, wrap_u64, Int.toNat_natCast, Nat.mul_one, Nat.zero_add, Nat.add_zero, List.map_toArray, List.map_cons, List.map_nil, rG_store, st191, stN_1, stN_2, stN_3, stN_4, stN_5, stN_6, stN_7, stN_8, vcs_int, vcs_bool, vcs_ptr, vcs_slice, vcs_map, vcs_nil, vcs_iface, vcs_aggL, List.length_cons, List.length_nil, Nat.reduceAdd, rG_load, ld4, List.getElem?_toArray, List.getElem?_cons_zero, List.getElem?_cons_succ, ld1_some, rd1_cells, rG_nilCheck, nilR_ptr, rG_fieldAddr, fa191_2, rG_alloc_191, Value.cells, ld3, rG_indexAddr, ia172, fa191_1, resM_2, call155, ld172, fa174_0, ld191, ldN_some, rdN_cells, rG_build, h0, h1, h2, hs, hrow] <;> rfl)) ?_) | (refine xf3 (fun u hu => (by simp (disch := first | assumption | omega | (with_unfolding_all exact id rfl) | exact Nat.le_of_ble_eq_true rfl | fail) only [Bool.not_true, Bool.not_false, vR_ok, uR_ok, ev_tmp, ev_const, ev_func, Env.put_some, Env.put_none, Env.set_app, Nat.reduceEqDiff, ↓reduceIte, rG_move, rG_assign, opt1_some, ext_all, dec_t, dec_f, beq_t, beq_f, bne_t, bne_f, wrap_i64, wrap_u64, Int.toNat_natCast, Nat.mul_one, Nat.zero_add, Nat.add_zero, List.map_toArray, List.map_cons, List.map_nil, rG_store, st191, stN_1, stN_2, stN_3, stN_4, stN_5, stN_6, stN_7, stN_8, vcs_int, vcs_bool, vcs_ptr, vcs_slice, vcs_map, vcs_nil, vcs_iface, vcs_aggL, List.length_cons, List.length_nil, Nat.reduceAdd, rG_load, ld4, List.getElem?_toArray, List.getElem?_cons_zero, List.getElem?_cons_succ, ld1_some, rd1_cells, rG_nilCheck, nilR_ptr, rG_fieldAddr, fa191_2, rG_alloc_191, Value.cells, ld3, rG_indexAddr, ia172, fa191_1, resM_2, call155, ld172, fa174_0, ld191, ldN_some, rdN_cells, rG_build, h0, h1, h2, hs, hrow] <;> rfl)) ?_))
  refine xf2 fun w1 hw1 => ?_
  refine kr (by simp (disch := first | assumption | omega | (with_unfolding_all exact id rfl) | exact Nat.le_of_ble_eq_true rfl | fail) only [Bool.not_true, Bool.not_false, vR_ok, uR_ok, ev_tmp, ev_const, ev_func, Env.put_some, Env.put_none, Env.set_app, Nat.reduceEqDiff, ↓reduceIte, rG_move, rG_assign, opt1_some, ext_all, dec_t, dec_f, beq_t, beq_f, bne_t, bne_f, wrap_i64, wrap_u64, Int.toNat_natCast, Nat.mul_one, Nat.zero_add, Nat.add_zero, List.map_toArray, List.map_cons, List.map_nil, rG_store, st191, stN_1, stN_2, stN_3, stN_4, stN_5, stN_6, stN_7, stN_8, vcs_int, vcs_bool, vcs_ptr, vcs_slice, vcs_map, vcs_nil, vcs_iface, vcs_aggL, List.length_cons, List.length_nil, Nat.reduceAdd, rG_load, ld4, List.getElem?_toArray, List.getElem?_cons_zero, List.getElem?_cons_succ, ld1_some, rd1_cells, rG_nilCheck, nilR_ptr, rG_fieldAddr, fa191_2, rG_alloc_191, Value.cells, ld3, rG_indexAddr, ia172, fa191_1, resM_2, call155, ld172, fa174_0, ld191, ldN_some, rdN_cells, rG_build, h0] <;> rfl) ?_
  first | with_reducible refine kv ?_ | with_reducible refine ks ?_ | with_reducible refine ke ?_
  refine ⟨fun u hu => (hw1.alloc _).trans hu, ?_⟩
  refine xf2 fun w2 hw2 => ?_
  have hb2 := hw2.at (alloc_new (w := w1) (o := .cells #[.int .i64 0, .int .i64 0, .int .i64 0, .bool false] 191))
  have hb2lt := lt_of_heap hb2
  refine kr (x := .ok .skip (upd w2 w1.heap.size (.cells #[a, b, c, d] 191))) ?_ ?_
  · exact rG_store_whole (cs := #[.int .i64 0, .int .i64 0, .int .i64 0, .bool false]) (E := 191) (b := w1.heap.size) (v := .agg #[a, b, c, d]) (TI.mk' (sz := 4) (by_ := 32) (z := Value.agg #[Value.int IntKind.i64 0, Value.int IntKind.i64 0, Value.int IntKind.i64 0, Value.bool false]) Try.underlying191 (by kernel_rfl)) (by simp (disch := first | assumption | omega) only [ev_tmp, ev_const, Env.put_some, Env.put_none, Env.set_app, Nat.reduceEqDiff, ↓reduceIte]) (by simp (disch := first | assumption | omega) only [ev_tmp, ev_const, Env.put_some, Env.put_none, Env.set_app, Nat.reduceEqDiff, ↓reduceIte]) rfl hcell hb2 rfl
  refine ks ?_
  have hE3 : Ext w (upd w2 w1.heap.size (.cells #[a, b, c, d] 191)) := ((hw1.alloc _).trans hw2).upd (Nat.le_trans hw1.size (Nat.le_refl _)) _
  have hb3 := upd_same (w := w2) (o := .cells #[a, b, c, d] 191) hb2lt
  generalize upd w2 w1.heap.size (.cells #[a, b, c, d] 191) = w3 at hE3 hb3 ⊢
  refine ⟨fun u hu => hE3.trans hu, ?_⟩
  refine xf_nil fun w4 hE4 => ?_
  have hb4 := hE4.at hb3
  (try refine xo_nil ?_)
  refine hK _ _ ?_
  clear hK K
  refine X_seq fun K hK => ?_
  simp only [X_draw, thenX_normal]
  refine XD_dr ?_
  repeat (first | (refine xe0 (fun w => (by simp (disch := first | assumption | omega | (with_unfolding_all exact id rfl) | exact Nat.le_of_ble_eq_true rfl | fail) only [Bool.not_true, Bool.not_false, vR_ok, uR_ok, ev_tmp, ev_const, ev_func, Env.put_some, Env.put_none, Env.set_app, Nat.reduceEqDiff, ↓reduceIte, rG_move, rG_assign, opt1_some, ext_all, dec_t, dec_f, beq_t, beq_f, bne_t, bne_f, wrap_i64, wrap_u64, Int.toNat_natCast, Nat.mul_one, Nat.zero_add, Nat.add_zero, List.map_toArray, List.map_cons, List.map_nil, rG_store, st191, stN_1, stN_2, stN_3, stN_4, stN_5, stN_6, stN_7, stN_8, vcs_int, vcs_bool, vcs_ptr, vcs_slice, vcs_map, vcs_nil, vcs_iface, vcs_aggL, List.length_cons, List.length_nil, Nat.reduceAdd, rG_load, ld4, List.getElem?_toArray, List.getElem?_cons_zero, List.getElem?_cons_succ, ld1_some, rd1_cells, rG_nilCheck, nilR_ptr, rG_fieldAddr, fa191_2, rG_alloc_191, Value.cells, ld3, rG_indexAddr, ia172, fa191_1, resM_2, call155, ld172, fa174_0, ld191, ldN_some, rdN_cells, rG_build, hb4, hc, hd] <;> rfl)) ?_) | (refine xe1 (fun i => (by simp (disch := first | assumption | omega | (with_unfolding_all exact id rfl) | exact Nat.le_of_ble_eq_true rfl | fail) only [Bool.not_true, Bool.not_false, vR_ok, uR_ok, ev_tmp, ev_const, ev_func, Env.put_some, Env.put_none, Env.set_app, Nat.reduceEqDiff, ↓reduceIte, rG_move, rG_assign, opt1_some, ext_all, dec_t, dec_f, beq_t, beq_f, bne_t, bne_f, wrap_i64, wrap_u64, Int.toNat_natCast, Nat.mul_one, Nat.zero_add, Nat.add_zero, List.map_toArray, List.map_cons, List.map_nil, rG_store, st191, stN_1, stN_2, stN_3, stN_4, stN_5, stN_6, stN_7, stN_8, vcs_int, vcs_bool, vcs_ptr, vcs_slice, vcs_map, vcs_nil, vcs_iface, vcs_aggL, List.length_cons, List.length_nil, Nat.reduceAdd, rG_load, ld4, List.getElem?_toArray, List.getElem?_cons_zero, List.getElem?_cons_succ, ld1_some, rd1_cells, rG_nilCheck, nilR_ptr, rG_fieldAddr, fa191_2, rG_alloc_191, Value.cells, ld3, rG_indexAddr, ia172, fa191_1, resM_2, call155, ld172, fa174_0, ld191, ldN_some, rdN_cells, rG_build, dr_heap, hb4, hc, hd] <;> rfl)) ?_) | (refine xe2x (by simp (disch := first | assumption | omega | (with_unfolding_all exact id rfl) | exact Nat.le_of_ble_eq_true rfl | fail) only [Bool.not_true, Bool.not_false, vR_ok, uR_ok, ev_tmp, ev_const, ev_func, Env.put_some, Env.put_none, Env.set_app, Nat.reduceEqDiff, ↓reduceIte, rG_move, rG_assign, opt1_some, ext_all, dec_t, dec_f, beq_t, beq_f, bne_t, bne_f, wrap_i64, wrap_u64, Int.toNat_natCast, Nat.mul_one, Nat.zero_add, Nat.add_zero, List.map_toArray, List.map_cons, List.map_nil, rG_store, st191, stN_1, stN_2, stN_3, stN_4, stN_5, stN_6, stN_7, stN_8, vcs_int, vcs_bool, vcs_ptr, vcs_slice, vcs_map, vcs_nil, vcs_iface, vcs_aggL, List.length_cons, List.length_nil, Nat.reduceAdd, rG_load, ld4, List.getElem?_toArray, List.getElem?_cons_zero, List.getElem?_cons_succ, ld1_some, rd1_cells, rG_nilCheck, nilR_ptr, rG_fieldAddr, fa191_2, rG_alloc_191, Value.cells, ld3, rG_indexAddr, ia172, fa191_1, resM_2, call155, ld172, fa174_0, ld191, ldN_some, rdN_cells, rG_build, hb4, hc, hd] <;> rfl) ?_; (first | with_reducible refine kv ?_ | with_reducible refine ks ?_ | with_reducible refine ke ?_)) | (refine xe0_t ?_ ?_; focus (simp (disch := first | assumption | omega | (with_unfolding_all exact id rfl) | exact Nat.le_of_ble_eq_true rfl | fail) only [Env.put_some, Env.put_none, Env.set_app, Nat.reduceEqDiff, ↓reduceIte, Bool.not_true, Bool.not_false, hb4, hc, hd]; done)) | (refine xe1_t ?_ ?_; focus (simp (disch := first | assumption | omega | (with_unfolding_all exact id rfl) | exact Nat.le_of_ble_eq_true rfl | fail) only [Env.put_some, Env.put_none, Env.set_app, Nat.reduceEqDiff, ↓reduceIte, Bool.not_true, Bool.not_false, hb4, hc, hd]; done)) | (refine xe0_f ?_ ?_; focus (simp (disch := first | assumption | omega | (with_unfolding_all exact id rfl) | exact Nat.le_of_ble_eq_true rfl | fail) only [Env.put_some, Env.put_none, Env.set_app, Nat.reduceEqDiff, ↓reduceIte, Bool.not_true, Bool.not_false, hb4, hc, hd]; done)) | (refine xe1_f ?_ ?_; focus (simp (disch := first | assumption | omega | (with_unfolding_all exact id rfl) | exact Nat.le_of_ble_eq_true rfl | fail) only [Env.put_some, Env.put_none, Env.set_app, Nat.reduceEqDiff, ↓reduceIte, Bool.not_true, Bool.not_false, hb4, hc, hd]; done)) | (refine xe0_u ?_ ?_; focus (simp (disch := first | assumption | omega | (with_unfolding_all exact id rfl) | exact Nat.le_of_ble_eq_true rfl | fail) only [Env.put_some, Env.put_none, Env.set_app, Nat.reduceEqDiff, ↓reduceIte, Bool.not_true, Bool.not_false, hb4, hc, hd]; done)) | (refine xe1_u ?_ ?_; focus (simp (disch := first | assumption | omega | (with_unfolding_all exact id rfl) | exact Nat.le_of_ble_eq_true rfl | fail) only [Env.put_some, Env.put_none, Env.set_app, Nat.reduceEqDiff, ↓reduceIte, Bool.not_true, Bool.not_false, hb4, hc, hd]; done)))
  refine xe_nil ?_
  rintro w5 ⟨dd, rfl⟩
  (try refine xo_nil ?_)
  refine hK _ _ ?_
  clear hK K
  simp (disch := first | assumption | omega | (with_unfolding_all exact id rfl) | exact Nat.le_of_ble_eq_true rfl | fail) only [X_ret, thenX_ret, inX_ret, retX_ret, retX_normal, Try.results130, resM_0, resM_1, resM_2, resM_3, resM_4, Env.put_some, Env.put_none, Env.set_app, Nat.reduceEqDiff, ↓reduceIte]
  exact ⟨_, rfl, rfl, (hE3.trans hE4).dr dd⟩
end Go.Proofs.Ytpeindhocndmnaa

namespace Go.Proofs.Ytpeindhocndmnaa
open Go Go.Bx
set_option linter.unusedSimpArgs false
set_option linter.unusedVariables false
set_option maxRecDepth 100000
set_option maxHeartbeats 4000000
theorem sumF_next {α : Type} {f : α → Int} {l : List α} {k : Nat} {x : α} (h : l[k]? = some x) : sumF f (l.take (k + 1)) = sumF f (l.take k) + f x := by
  rw [List.take_add_one, h, sumF_app]; simp [sumF]
theorem cnt_le (T : Tb) : 0 ≤ cntT T ∧ cntT T ≤ T.length := by
  refine ⟨sumF_nonneg _ _ fun x _ => (b2_rng _).1, ?_⟩
  have := sumF_le (fun o : Option (Ky × Int) => b2 o.isSome) 1 T fun x _ => (b2_rng _).2
  unfold cntT; omega
theorem finds_lt {T : Tb} {k : Ky} {i : Nat} (h : Finds homeN T k i) : i < T.length := by
  obtain ⟨d, hd, he, _⟩ := h
  rw [he]; exact cyc_lt (homeN_lt k _ (by omega)) (by omega)
theorem inv_rep {n : Nat} (h : 0 < n) : TbInv homeN (List.replicate n none) := by
  have hn : ∀ p, occ (List.replicate n none) p = none := by
    intro p; unfold occ; rw [List.getElem?_replicate]; split <;> rfl
  exact ⟨by simpa using h, fun p k v hp => (by rw [hn] at hp; cases hp), fun p p' k v v' hp => (by rw [hn] at hp; cases hp)⟩
theorem UqI.row {w : World} {p g : Nat} {many : Int} {T : Tb} (h : UqI w p g many T) {i : Nat} (hi : i < T.length) (o : Option (Ky × Int)) : UqI (upd w g (.cells (tbL (T.set i o)).toArray 191)) p g many (T.set i o) :=
  ⟨by rw [upd_other h.ne.symm, List.length_set]; exact h.at_, upd_same (lt_of_heap h.sl), by rw [List.length_set]; exact h.pw, by rw [List.length_set]; exact h.pos, by rw [List.length_set]; exact h.lim⟩
theorem UqI.setm {w : World} {p g : Nat} {many m : Int} {T : Tb} (h : UqI w p g many T) : UqI (upd w p (.cells #[.slice (some ⟨g, 0, none⟩) T.length T.length, .int .i64 m] 174)) p g m T :=
  ⟨upd_same (lt_of_heap h.at_), by rw [upd_other h.ne]; exact h.sl, h.pw, h.pos, h.lim⟩
theorem ugrow_calls {w : World} {p g : Nat} {many : Int} {T : Tb} (h : UqI w p g many T) (I : TbInv homeN T) (hlim2 : 2 * T.length ≤ 1073741824) :
    CallsR Try.prog 159 #[.pointer (some ⟨p, 0, none⟩)] w fun r w' => ∃ g' T', UqI w' p g' many T' ∧ T'.length = 2 * T.length ∧ TbInv homeN T' ∧ (∀ k v, MemT T' k v ↔ MemT T k v) ∧ cntT T' = cntT T ∧ Chg (fun x => x = p) w w' ∧ w.heap.size ≤ g' := by
  have hp := h.at_
  have hpos := h.pos
  have hlim := h.lim
  have hgl := lt_of_heap h.sl
  have hpl := lt_of_heap hp
  have hms := ms_slots (w := w) (n := 2 * T.length) (by omega)
  have e2 : (((2 * T.length : Nat)) : Int) = 2 * (T.length : Int) := by omega
  rw [e2] at hms
  have hsz2 : (#[.slice (some ⟨g, 0, none⟩) T.length T.length, .int .i64 many] : Array Value).size = 2 := rfl
  refine calls1 (bs := []) Try.func159 rfl mixed (by kernel_rfl) ?_
  intro e0 h0
  simp only [comp, gop, gslot, dops, bigOf, setK, drawOf, drawOf2, dopsW, setW, dopsR, setR, kindOf, List.lookup, List.map_cons, List.map_nil, Option.bind_some, List.getElem?_toArray, List.getElem?_cons_zero, List.getElem?_cons_succ, Option.getD_some, Option.getD_none, List.contains_nil, List.contains_cons, Bool.false_eq_true, ↓reduceIte, Nat.reduceAdd, Nat.reduceBEq, Bool.or_false]
  refine X_seq fun K hK => ?_
  simp only [X_reg, thenX_normal]
  repeat (first | (refine xo (by simp (disch := first | assumption | omega | (with_unfolding_all exact id rfl) | exact Nat.le_of_ble_eq_true rfl | fail) only [Bool.not_true, Bool.not_false, vR_ok, uR_ok, ev_tmp, ev_const, ev_func, Env.put_some, Env.put_none, Env.set_app, Nat.reduceEqDiff, ↓reduceIte, rG_move, rG_assign, opt1_some, ext_all, dec_t, dec_f, beq_t, beq_f, bne_t, bne_f, wrap_i64, wrap_u64, Int.toNat_natCast, Nat.mul_one, Nat.zero_add, Nat.add_zero, List.map_toArray, List.map_cons, List.map_nil, rG_indexAddr, ia172, rG_load, ld172, List.getElem?_toArray, List.getElem?_cons_zero, List.getElem?_cons_succ, ld1_some, rd1_cells, rG_store, st172, stN_1, stN_2, stN_3, stN_4, stN_5, stN_6, stN_7, stN_8, vcs_int, vcs_bool, vcs_ptr, vcs_slice, vcs_map, vcs_nil, vcs_iface, vcs_aggL, List.length_cons, List.length_nil, Nat.reduceAdd, rG_len, ln172, rG_fieldAddr, fa191_0, call155, ld4, resM_0, fa191_2, rG_nilCheck, nilR_ptr, rG_makeSlice, rG_binOp, binR_add, binR_mul, ld189, ldN_some, rdN_cells, rG_alloc_191, Value.cells, ld191, st191, binR_lss, fa174_0, h0, hp] <;> rfl) ?_; first | with_reducible refine kv ?_ | with_reducible refine ks ?_ | with_reducible refine ke ?_) | (refine xo_t ?_ ?_; focus (simp (disch := first | assumption | omega | (with_unfolding_all exact id rfl) | exact Nat.le_of_ble_eq_true rfl | fail) only [Env.put_some, Env.put_none, Env.set_app, Nat.reduceEqDiff, ↓reduceIte, Bool.not_true, Bool.not_false, h0, hp]; done)) | (refine xo_f ?_ ?_; focus (simp (disch := first | assumption | omega | (with_unfolding_all exact id rfl) | exact Nat.le_of_ble_eq_true rfl | fail) only [Env.put_some, Env.put_none, Env.set_app, Nat.reduceEqDiff, ↓reduceIte, Bool.not_true, Bool.not_false, h0, hp]; done)) | (refine xo_u ?_ ?_; focus (simp (disch := first | assumption | omega | (with_unfolding_all exact id rfl) | exact Nat.le_of_ble_eq_true rfl | fail) only [Env.put_some, Env.put_none, Env.set_app, Nat.reduceEqDiff, ↓reduceIte, Bool.not_true, Bool.not_false, h0, hp]; done)))
  refine xo_nil ?_
  refine hK _ _ ?_
  clear hK K
  have hpA : (w.alloc (.cells (tbL (List.replicate (2 * T.length) none)).toArray 191)).heap[p]? = some (.cells #[.slice (some ⟨g, 0, none⟩) T.length T.length, .int .i64 many] 174) := by rw [alloc_old (by omega)]; exact hp
  refine X_seq fun K hK => ?_
  simp only [X_reg, thenX_normal]
  repeat (first | (refine xo (by simp (disch := first | assumption | omega | (with_unfolding_all exact id rfl) | exact Nat.le_of_ble_eq_true rfl | fail) only [Bool.not_true, Bool.not_false, vR_ok, uR_ok, ev_tmp, ev_const, ev_func, Env.put_some, Env.put_none, Env.set_app, Nat.reduceEqDiff, ↓reduceIte, rG_move, rG_assign, opt1_some, ext_all, dec_t, dec_f, beq_t, beq_f, bne_t, bne_f, wrap_i64, wrap_u64, Int.toNat_natCast, Nat.mul_one, Nat.zero_add, Nat.add_zero, List.map_toArray, List.map_cons, List.map_nil, rG_indexAddr, ia172, rG_load, ld172, List.getElem?_toArray, List.getElem?_cons_zero, List.getElem?_cons_succ, ld1_some, rd1_cells, rG_store, st172, stN_1, stN_2, stN_3, stN_4, stN_5, stN_6, stN_7, stN_8, vcs_int, vcs_bool, vcs_ptr, vcs_slice, vcs_map, vcs_nil, vcs_iface, vcs_aggL, List.length_cons, List.length_nil, Nat.reduceAdd, rG_len, ln172, rG_fieldAddr, fa191_0, call155, ld4, resM_0, fa191_2, rG_nilCheck, nilR_ptr, rG_makeSlice, rG_binOp, binR_add, binR_mul, ld189, ldN_some, rdN_cells, rG_alloc_191, Value.cells, ld191, st191, binR_lss, fa174_0, h0, hms, hpA, List.setIfInBounds_toArray, List.set_cons_zero, List.set_cons_succ] <;> rfl) ?_; first | with_reducible refine kv ?_ | with_reducible refine ks ?_ | with_reducible refine ke ?_) | (refine xo_t ?_ ?_; focus (simp (disch := first | assumption | omega | (with_unfolding_all exact id rfl) | exact Nat.le_of_ble_eq_true rfl | fail) only [Env.put_some, Env.put_none, Env.set_app, Nat.reduceEqDiff, ↓reduceIte, Bool.not_true, Bool.not_false, h0, hms, hpA, List.setIfInBounds_toArray, List.set_cons_zero, List.set_cons_succ]; done)) | (refine xo_f ?_ ?_; focus (simp (disch := first | assumption | omega | (with_unfolding_all exact id rfl) | exact Nat.le_of_ble_eq_true rfl | fail) only [Env.put_some, Env.put_none, Env.set_app, Nat.reduceEqDiff, ↓reduceIte, Bool.not_true, Bool.not_false, h0, hms, hpA, List.setIfInBounds_toArray, List.set_cons_zero, List.set_cons_succ]; done)) | (refine xo_u ?_ ?_; focus (simp (disch := first | assumption | omega | (with_unfolding_all exact id rfl) | exact Nat.le_of_ble_eq_true rfl | fail) only [Env.put_some, Env.put_none, Env.set_app, Nat.reduceEqDiff, ↓reduceIte, Bool.not_true, Bool.not_false, h0, hms, hpA, List.setIfInBounds_toArray, List.set_cons_zero, List.set_cons_succ]; done)))
  refine xo_nil ?_
  refine hK _ _ ?_
  clear hK K
  obtain ⟨g', hg'⟩ : ∃ g', w.heap.size = g' := ⟨_, rfl⟩
  have hgp : g' ≠ p := by omega
  have hgg : g' ≠ g := by omega
  have hU1 : UqI (upd (w.alloc (.cells (tbL (List.replicate (2 * T.length) none)).toArray 191)) p (.cells #[.slice (some ⟨g', 0, none⟩) (2 * T.length) (2 * T.length), .int .i64 many] 174)) p g' many (List.replicate (2 * T.length) none) := by
    refine ⟨?_, ?_, ?_, ?_, ?_⟩
    · rw [List.length_replicate]; exact upd_same (by rw [alloc_size]; omega)
    · rw [upd_other hgp.symm, ← hg']; exact alloc_new
    · obtain ⟨m, h1, h2⟩ := h.pw
      exact ⟨m + 1, by rw [List.length_replicate, h1, Nat.pow_succ, Nat.mul_comm], by omega⟩
    · rw [List.length_replicate]; omega
    · rw [List.length_replicate]; omega
  have hS1 : (upd (w.alloc (.cells (tbL (List.replicate (2 * T.length) none)).toArray 191)) p (.cells #[.slice (some ⟨g', 0, none⟩) (2 * T.length) (2 * T.length), .int .i64 many] 174)).heap[g]? = some (.cells (tbL T).toArray 191) := by
    rw [upd_other h.ne, alloc_old (by omega)]; exact h.sl
  have hC1 : Chg (fun x => x = p) w (upd (w.alloc (.cells (tbL (List.replicate (2 * T.length) none)).toArray 191)) p (.cells #[.slice (some ⟨g', 0, none⟩) (2 * T.length) (2 * T.length), .int .i64 many] 174)) := ((Chg.refl (fun x => x = p) w).alloc _).upd (fun _ => rfl) _
  have hd2 : ((2 * (T.length : Int))).toNat = 2 * T.length := by omega
  try rw [hg']
  generalize upd (w.alloc (.cells (tbL (List.replicate (2 * T.length) none)).toArray 191)) p (.cells #[.slice (some ⟨g', 0, none⟩) (2 * T.length) (2 * T.length), .int .i64 many] 174) = w1 at hU1 hS1 hC1 ⊢
  refine X_seq fun K hK => ?_
  simp only [X_reg, thenX_normal]
  repeat (first | (refine xo (by simp (disch := first | assumption | omega | (with_unfolding_all exact id rfl) | exact Nat.le_of_ble_eq_true rfl | fail) only [Bool.not_true, Bool.not_false, vR_ok, uR_ok, ev_tmp, ev_const, ev_func, Env.put_some, Env.put_none, Env.set_app, Nat.reduceEqDiff, ↓reduceIte, rG_move, rG_assign, opt1_some, ext_all, dec_t, dec_f, beq_t, beq_f, bne_t, bne_f, wrap_i64, wrap_u64, Int.toNat_natCast, Nat.mul_one, Nat.zero_add, Nat.add_zero, List.map_toArray, List.map_cons, List.map_nil, rG_indexAddr, ia172, rG_load, ld172, List.getElem?_toArray, List.getElem?_cons_zero, List.getElem?_cons_succ, ld1_some, rd1_cells, rG_store, st172, stN_1, stN_2, stN_3, stN_4, stN_5, stN_6, stN_7, stN_8, vcs_int, vcs_bool, vcs_ptr, vcs_slice, vcs_map, vcs_nil, vcs_iface, vcs_aggL, List.length_cons, List.length_nil, Nat.reduceAdd, rG_len, ln172, rG_fieldAddr, fa191_0, call155, ld4, resM_0, fa191_2, rG_nilCheck, nilR_ptr, rG_makeSlice, rG_binOp, binR_add, binR_mul, ld189, ldN_some, rdN_cells, rG_alloc_191, Value.cells, ld191, st191, binR_lss, fa174_0] <;> rfl) ?_; first | with_reducible refine kv ?_ | with_reducible refine ks ?_ | with_reducible refine ke ?_) | (refine xo_t ?_ ?_; focus (simp (disch := first | assumption | omega | (with_unfolding_all exact id rfl) | exact Nat.le_of_ble_eq_true rfl | fail) only [Env.put_some, Env.put_none, Env.set_app, Nat.reduceEqDiff, ↓reduceIte, Bool.not_true, Bool.not_false]; done)) | (refine xo_f ?_ ?_; focus (simp (disch := first | assumption | omega | (with_unfolding_all exact id rfl) | exact Nat.le_of_ble_eq_true rfl | fail) only [Env.put_some, Env.put_none, Env.set_app, Nat.reduceEqDiff, ↓reduceIte, Bool.not_true, Bool.not_false]; done)) | (refine xo_u ?_ ?_; focus (simp (disch := first | assumption | omega | (with_unfolding_all exact id rfl) | exact Nat.le_of_ble_eq_true rfl | fail) only [Env.put_some, Env.put_none, Env.set_app, Nat.reduceEqDiff, ↓reduceIte, Bool.not_true, Bool.not_false]; done)))
  refine xo_nil ?_
  refine hK _ _ ?_
  clear hK K
  simp only [X_skip, X_exit, X_ret, X_block, thenX_normal, thenX_ret, thenX_exit, inX_normal, inX_ret, inX_exit, ↓reduceIte, Nat.reduceEqDiff]
  refine X_loop (fun e w' => ∃ j : Nat, ∃ Tn : Tb, j ≤ T.length ∧ e 18 = .int .i64 j ∧ e 17 = .int .i64 (T.length : Nat) ∧ e 16 = .slice (some ⟨g, 0, none⟩) T.length T.length ∧ e 0 = .pointer (some ⟨p, 0, none⟩) ∧ UqI w' p g' many Tn ∧ Tn.length = 2 * T.length ∧ TbInv homeN Tn ∧ (∀ k v, MemT Tn k v ↔ ∃ q, q < j ∧ occ T q = some (k, v)) ∧ cntT Tn = cntT (T.take j) ∧ w'.heap[g]? = some (.cells (tbL T).toArray 191) ∧ Chg (fun x => x = p) w w') (fun e _ => T.length - nat (e 18)) ?_ ?_
  · refine ⟨0, _, by omega, ?_, ?_, ?_, ?_, hU1, by simp, inv_rep (by omega), fun k v => ?_, ?_, hS1, hC1⟩
    · (try simp (disch := first | assumption | omega | (with_unfolding_all exact id rfl) | exact Nat.le_of_ble_eq_true rfl | fail) only [Env.put_some, Env.put_none, Env.set_app, Nat.reduceEqDiff, ↓reduceIte, nat_int, Int.toNat_natCast, wrap_i64])
      rfl
    · (try simp (disch := first | assumption | omega | (with_unfolding_all exact id rfl) | exact Nat.le_of_ble_eq_true rfl | fail) only [Env.put_some, Env.put_none, Env.set_app, Nat.reduceEqDiff, ↓reduceIte, nat_int, Int.toNat_natCast, wrap_i64])
    · (try simp (disch := first | assumption | omega | (with_unfolding_all exact id rfl) | exact Nat.le_of_ble_eq_true rfl | fail) only [Env.put_some, Env.put_none, Env.set_app, Nat.reduceEqDiff, ↓reduceIte, nat_int, Int.toNat_natCast, wrap_i64])
    · (try simp (disch := first | assumption | omega | (with_unfolding_all exact id rfl) | exact Nat.le_of_ble_eq_true rfl | fail) only [Env.put_some, Env.put_none, Env.set_app, Nat.reduceEqDiff, ↓reduceIte, nat_int, Int.toNat_natCast, wrap_i64, h0])
    · constructor
      · rintro ⟨q, hq⟩
        unfold occ at hq; rw [List.getElem?_replicate] at hq; split at hq <;> cases hq
      · rintro ⟨q, hq, _⟩; omega
    · rw [cnt_rep]; rfl
  · clear h0 hp hpA hms hU1 hS1 hC1 hpl hsz2
    clear w1
    rintro e w1 ⟨j, Tn, hj, h18, h17, h16, h0, hU, hTl, hI, hM, hcn, hS, hC⟩
    by_cases hlt : j < T.length
    · have hn18 : nat (e 18) = j := by rw [h18, nat_int]; omega
      have hlt' : (j : Int) < T.length := by omega
      have htl : (tbL T).toArray.size = T.length * 4 := by simp [tbL_len]; omega
      have hszr : j * 4 + 4 ≤ (tbL T).toArray.size := by omega
      have hrow := tbL_row hlt
      have hoj := occ_get hlt
      obtain ⟨o, ho⟩ : ∃ o, occ T j = o := ⟨_, rfl⟩
      rw [ho] at hrow hoj
      have hcn1 : cntT (T.take (j + 1)) = cntT (T.take j) + b2 o.isSome := sumF_next hoj
      obtain ⟨a, b, c, d, hce, hd⟩ : ∃ a b c d, ceO o = [a, b, c, d] ∧ d = .bool o.isSome := by
        rcases o with _ | ⟨⟨x, y⟩, z⟩ <;> exact ⟨_, _, _, _, rfl, rfl⟩
      have hcell : (vcs (.agg #[a, b, c, d])).all isCell = true := by
        show ([a, b, c, d] : List Value).all isCell = true
        rw [← hce]; rcases o with _ | ⟨⟨x, y⟩, z⟩ <;> rfl
      rw [hce] at hrow
      refine X_seq fun K hK => ?_
      simp only [X_reg, thenX_normal]
      repeat (first | (refine xo (by simp (disch := first | assumption | omega | (with_unfolding_all exact id rfl) | exact Nat.le_of_ble_eq_true rfl | fail) only [Bool.not_true, Bool.not_false, vR_ok, uR_ok, ev_tmp, ev_const, ev_func, Env.put_some, Env.put_none, Env.set_app, Nat.reduceEqDiff, ↓reduceIte, rG_move, rG_assign, opt1_some, ext_all, dec_t, dec_f, beq_t, beq_f, bne_t, bne_f, wrap_i64, wrap_u64, Int.toNat_natCast, Nat.mul_one, Nat.zero_add, Nat.add_zero, List.map_toArray, List.map_cons, List.map_nil, rG_indexAddr, ia172, rG_load, ld172, List.getElem?_toArray, List.getElem?_cons_zero, List.getElem?_cons_succ, ld1_some, rd1_cells, rG_store, st172, stN_1, stN_2, stN_3, stN_4, stN_5, stN_6, stN_7, stN_8, vcs_int, vcs_bool, vcs_ptr, vcs_slice, vcs_map, vcs_nil, vcs_iface, vcs_aggL, List.length_cons, List.length_nil, Nat.reduceAdd, rG_len, ln172, rG_fieldAddr, fa191_0, call155, ld4, resM_0, fa191_2, rG_nilCheck, nilR_ptr, rG_makeSlice, rG_binOp, binR_add, binR_mul, ld189, ldN_some, rdN_cells, rG_alloc_191, Value.cells, ld191, st191, binR_lss, fa174_0, h18, h17] <;> rfl) ?_; first | with_reducible refine kv ?_ | with_reducible refine ks ?_ | with_reducible refine ke ?_) | (refine xo_t ?_ ?_; focus (simp (disch := first | assumption | omega | (with_unfolding_all exact id rfl) | exact Nat.le_of_ble_eq_true rfl | fail) only [Env.put_some, Env.put_none, Env.set_app, Nat.reduceEqDiff, ↓reduceIte, Bool.not_true, Bool.not_false, h18, h17]; done)) | (refine xo_f ?_ ?_; focus (simp (disch := first | assumption | omega | (with_unfolding_all exact id rfl) | exact Nat.le_of_ble_eq_true rfl | fail) only [Env.put_some, Env.put_none, Env.set_app, Nat.reduceEqDiff, ↓reduceIte, Bool.not_true, Bool.not_false, h18, h17]; done)) | (refine xo_u ?_ ?_; focus (simp (disch := first | assumption | omega | (with_unfolding_all exact id rfl) | exact Nat.le_of_ble_eq_true rfl | fail) only [Env.put_some, Env.put_none, Env.set_app, Nat.reduceEqDiff, ↓reduceIte, Bool.not_true, Bool.not_false, h18, h17]; done)))
      refine xo_nil ?_
      refine hK _ _ ?_
      clear hK K
      refine X_seq fun K hK => ?_
      refine X_if_t (by simp (disch := first | assumption | omega) only [ev_tmp, Env.put_some, Env.put_none, Env.set_app, Nat.reduceEqDiff, ↓reduceIte, beq_t, dec_t, beq_self_eq_true]) ?_
      simp only [X_skip, X_exit, X_ret, X_block, thenX_normal, thenX_ret, thenX_exit, inX_normal, inX_ret, inX_exit, ↓reduceIte, Nat.reduceEqDiff]
      (try refine xo_nil ?_)
      refine hK _ _ ?_
      clear hK K
      refine X_seq fun K hK => ?_
      simp only [X_skip, X_exit, X_ret, X_block, thenX_normal, thenX_ret, thenX_exit, inX_normal, inX_ret, inX_exit, ↓reduceIte, Nat.reduceEqDiff]
      refine X_seq fun K hK => ?_
      (try simp only [X_reg, thenX_normal])
      repeat (first | (refine xo (by simp (disch := first | assumption | omega | (with_unfolding_all exact id rfl) | exact Nat.le_of_ble_eq_true rfl | fail) only [Bool.not_true, Bool.not_false, vR_ok, uR_ok, ev_tmp, ev_const, ev_func, Env.put_some, Env.put_none, Env.set_app, Nat.reduceEqDiff, ↓reduceIte, rG_move, rG_assign, opt1_some, ext_all, dec_t, dec_f, beq_t, beq_f, bne_t, bne_f, wrap_i64, wrap_u64, Int.toNat_natCast, Nat.mul_one, Nat.zero_add, Nat.add_zero, List.map_toArray, List.map_cons, List.map_nil, rG_indexAddr, ia172, rG_load, ld172, List.getElem?_toArray, List.getElem?_cons_zero, List.getElem?_cons_succ, ld1_some, rd1_cells, rG_store, st172, stN_1, stN_2, stN_3, stN_4, stN_5, stN_6, stN_7, stN_8, vcs_int, vcs_bool, vcs_ptr, vcs_slice, vcs_map, vcs_nil, vcs_iface, vcs_aggL, List.length_cons, List.length_nil, Nat.reduceAdd, rG_len, ln172, rG_fieldAddr, fa191_0, call155, ld4, resM_0, fa191_2, rG_nilCheck, nilR_ptr, rG_makeSlice, rG_binOp, binR_add, binR_mul, ld189, ldN_some, rdN_cells, rG_alloc_191, Value.cells, ld191, st191, binR_lss, fa174_0, h16, h18, hS, hrow] <;> rfl) ?_; first | with_reducible refine kv ?_ | with_reducible refine ks ?_ | with_reducible refine ke ?_) | (refine xo_t ?_ ?_; focus (simp (disch := first | assumption | omega | (with_unfolding_all exact id rfl) | exact Nat.le_of_ble_eq_true rfl | fail) only [Env.put_some, Env.put_none, Env.set_app, Nat.reduceEqDiff, ↓reduceIte, Bool.not_true, Bool.not_false, h16, h18, hS, hrow]; done)) | (refine xo_f ?_ ?_; focus (simp (disch := first | assumption | omega | (with_unfolding_all exact id rfl) | exact Nat.le_of_ble_eq_true rfl | fail) only [Env.put_some, Env.put_none, Env.set_app, Nat.reduceEqDiff, ↓reduceIte, Bool.not_true, Bool.not_false, h16, h18, hS, hrow]; done)) | (refine xo_u ?_ ?_; focus (simp (disch := first | assumption | omega | (with_unfolding_all exact id rfl) | exact Nat.le_of_ble_eq_true rfl | fail) only [Env.put_some, Env.put_none, Env.set_app, Nat.reduceEqDiff, ↓reduceIte, Bool.not_true, Bool.not_false, h16, h18, hS, hrow]; done)))
      refine xo (rG_store_new (w := w1) (cs := #[.int .i64 0, .int .i64 0, .int .i64 0, .bool false]) (E := 191) (v := .agg #[a, b, c, d]) (TI.mk' (sz := 4) (by_ := 32) (z := Value.agg #[Value.int IntKind.i64 0, Value.int IntKind.i64 0, Value.int IntKind.i64 0, Value.bool false]) Try.underlying191 (by kernel_rfl)) (by simp (disch := first | assumption | omega) only [ev_tmp, ev_const, Env.put_some, Env.put_none, Env.set_app, Nat.reduceEqDiff, ↓reduceIte]) (by simp (disch := first | assumption | omega) only [ev_tmp, ev_const, Env.put_some, Env.put_none, Env.set_app, Nat.reduceEqDiff, ↓reduceIte]) rfl hcell rfl) ?_
      refine ks ?_
      (try refine xo_nil ?_)
      refine hK _ _ ?_
      clear hK K
      have hE2 := (Ext.refl w1).alloc (.cells ((Value.agg #[a, b, c, d]).cells) 191)
      have hb2 : (w1.alloc (.cells ((Value.agg #[a, b, c, d]).cells) 191)).heap[w1.heap.size]? = some (.cells #[a, b, c, d] 191) := alloc_new
      generalize hw2 : w1.alloc (.cells ((Value.agg #[a, b, c, d]).cells) 191) = w2 at hE2 hb2 ⊢
      clear hw2
      have hU2 := hU.ext hE2
      have hS2 := hE2.at hS
      have hC2 := hC.trans (hE2.chg (fun _ => False)) (fun _ _ h => h.elim)
      have hgl1 : g < w1.heap.size := lt_of_heap hS
      have hgl1' : g' < w1.heap.size := lt_of_heap hU.sl
      have hpl1 : p < w1.heap.size := lt_of_heap hU.at_
      obtain ⟨nb, hnb⟩ : ∃ nb, w1.heap.size = nb := ⟨_, rfl⟩
      rw [hnb] at hb2 hgl1 hgl1' hpl1 ⊢
      rcases o with _ | ⟨⟨x, y⟩, z⟩
      · have hd' : d = .bool false := hd
        subst hd'
        refine X_seq fun K hK => ?_
        simp only [X_reg, thenX_normal]
        repeat (first | (refine xo (by simp (disch := first | assumption | omega | (with_unfolding_all exact id rfl) | exact Nat.le_of_ble_eq_true rfl | fail) only [Bool.not_true, Bool.not_false, vR_ok, uR_ok, ev_tmp, ev_const, ev_func, Env.put_some, Env.put_none, Env.set_app, Nat.reduceEqDiff, ↓reduceIte, rG_move, rG_assign, opt1_some, ext_all, dec_t, dec_f, beq_t, beq_f, bne_t, bne_f, wrap_i64, wrap_u64, Int.toNat_natCast, Nat.mul_one, Nat.zero_add, Nat.add_zero, List.map_toArray, List.map_cons, List.map_nil, rG_indexAddr, ia172, rG_load, ld172, List.getElem?_toArray, List.getElem?_cons_zero, List.getElem?_cons_succ, ld1_some, rd1_cells, rG_store, st172, stN_1, stN_2, stN_3, stN_4, stN_5, stN_6, stN_7, stN_8, vcs_int, vcs_bool, vcs_ptr, vcs_slice, vcs_map, vcs_nil, vcs_iface, vcs_aggL, List.length_cons, List.length_nil, Nat.reduceAdd, rG_len, ln172, rG_fieldAddr, fa191_0, call155, ld4, resM_0, fa191_2, rG_nilCheck, nilR_ptr, rG_makeSlice, rG_binOp, binR_add, binR_mul, ld189, ldN_some, rdN_cells, rG_alloc_191, Value.cells, ld191, st191, binR_lss, fa174_0, hb2] <;> rfl) ?_; first | with_reducible refine kv ?_ | with_reducible refine ks ?_ | with_reducible refine ke ?_) | (refine xo_t ?_ ?_; focus (simp (disch := first | assumption | omega | (with_unfolding_all exact id rfl) | exact Nat.le_of_ble_eq_true rfl | fail) only [Env.put_some, Env.put_none, Env.set_app, Nat.reduceEqDiff, ↓reduceIte, Bool.not_true, Bool.not_false, hb2]; done)) | (refine xo_f ?_ ?_; focus (simp (disch := first | assumption | omega | (with_unfolding_all exact id rfl) | exact Nat.le_of_ble_eq_true rfl | fail) only [Env.put_some, Env.put_none, Env.set_app, Nat.reduceEqDiff, ↓reduceIte, Bool.not_true, Bool.not_false, hb2]; done)) | (refine xo_u ?_ ?_; focus (simp (disch := first | assumption | omega | (with_unfolding_all exact id rfl) | exact Nat.le_of_ble_eq_true rfl | fail) only [Env.put_some, Env.put_none, Env.set_app, Nat.reduceEqDiff, ↓reduceIte, Bool.not_true, Bool.not_false, hb2]; done)))
        refine xo_nil ?_
        refine hK _ _ ?_
        clear hK K
        refine X_if_f (by simp (disch := first | assumption | omega) only [ev_tmp, Env.put_some, Env.put_none, Env.set_app, Nat.reduceEqDiff, ↓reduceIte, beq_f, dec_f]) ?_
        simp only [X_skip, X_exit, X_ret, X_block, thenX_normal, thenX_ret, thenX_exit, inX_normal, inX_ret, inX_exit, ↓reduceIte, Nat.reduceEqDiff]
        (try refine xo_nil ?_)
        refine hK _ _ ?_
        clear hK K
        (try simp only [X_reg, thenX_normal])
        repeat (first | (refine xo (by simp (disch := first | assumption | omega | (with_unfolding_all exact id rfl) | exact Nat.le_of_ble_eq_true rfl | fail) only [Bool.not_true, Bool.not_false, vR_ok, uR_ok, ev_tmp, ev_const, ev_func, Env.put_some, Env.put_none, Env.set_app, Nat.reduceEqDiff, ↓reduceIte, rG_move, rG_assign, opt1_some, ext_all, dec_t, dec_f, beq_t, beq_f, bne_t, bne_f, wrap_i64, wrap_u64, Int.toNat_natCast, Nat.mul_one, Nat.zero_add, Nat.add_zero, List.map_toArray, List.map_cons, List.map_nil, rG_indexAddr, ia172, rG_load, ld172, List.getElem?_toArray, List.getElem?_cons_zero, List.getElem?_cons_succ, ld1_some, rd1_cells, rG_store, st172, stN_1, stN_2, stN_3, stN_4, stN_5, stN_6, stN_7, stN_8, vcs_int, vcs_bool, vcs_ptr, vcs_slice, vcs_map, vcs_nil, vcs_iface, vcs_aggL, List.length_cons, List.length_nil, Nat.reduceAdd, rG_len, ln172, rG_fieldAddr, fa191_0, call155, ld4, resM_0, fa191_2, rG_nilCheck, nilR_ptr, rG_makeSlice, rG_binOp, binR_add, binR_mul, ld189, ldN_some, rdN_cells, rG_alloc_191, Value.cells, ld191, st191, binR_lss, fa174_0, h18] <;> rfl) ?_; first | with_reducible refine kv ?_ | with_reducible refine ks ?_ | with_reducible refine ke ?_) | (refine xo_t ?_ ?_; focus (simp (disch := first | assumption | omega | (with_unfolding_all exact id rfl) | exact Nat.le_of_ble_eq_true rfl | fail) only [Env.put_some, Env.put_none, Env.set_app, Nat.reduceEqDiff, ↓reduceIte, Bool.not_true, Bool.not_false, h18]; done)) | (refine xo_f ?_ ?_; focus (simp (disch := first | assumption | omega | (with_unfolding_all exact id rfl) | exact Nat.le_of_ble_eq_true rfl | fail) only [Env.put_some, Env.put_none, Env.set_app, Nat.reduceEqDiff, ↓reduceIte, Bool.not_true, Bool.not_false, h18]; done)) | (refine xo_u ?_ ?_; focus (simp (disch := first | assumption | omega | (with_unfolding_all exact id rfl) | exact Nat.le_of_ble_eq_true rfl | fail) only [Env.put_some, Env.put_none, Env.set_app, Nat.reduceEqDiff, ↓reduceIte, Bool.not_true, Bool.not_false, h18]; done)))
        refine xo_nil ⟨⟨j + 1, Tn, by omega, ?_, ?_, ?_, ?_, hU2, hTl, hI, fun k v => ?_, ?_, hS2, hC2⟩, ?_⟩
        · (try simp (disch := first | assumption | omega | (with_unfolding_all exact id rfl) | exact Nat.le_of_ble_eq_true rfl | fail) only [Env.put_some, Env.put_none, Env.set_app, Nat.reduceEqDiff, ↓reduceIte, nat_int, Int.toNat_natCast, wrap_i64, h18])
          rfl
        · (try simp (disch := first | assumption | omega | (with_unfolding_all exact id rfl) | exact Nat.le_of_ble_eq_true rfl | fail) only [Env.put_some, Env.put_none, Env.set_app, Nat.reduceEqDiff, ↓reduceIte, nat_int, Int.toNat_natCast, wrap_i64, h17])
        · (try simp (disch := first | assumption | omega | (with_unfolding_all exact id rfl) | exact Nat.le_of_ble_eq_true rfl | fail) only [Env.put_some, Env.put_none, Env.set_app, Nat.reduceEqDiff, ↓reduceIte, nat_int, Int.toNat_natCast, wrap_i64, h16])
        · (try simp (disch := first | assumption | omega | (with_unfolding_all exact id rfl) | exact Nat.le_of_ble_eq_true rfl | fail) only [Env.put_some, Env.put_none, Env.set_app, Nat.reduceEqDiff, ↓reduceIte, nat_int, Int.toNat_natCast, wrap_i64, h0])
        · rw [hM]
          constructor
          · rintro ⟨q, h1, h2⟩; exact ⟨q, by omega, h2⟩
          · rintro ⟨q, h1, h2⟩
            refine ⟨q, ?_, h2⟩
            have : q ≠ j := by rintro rfl; rw [ho] at h2; cases h2
            omega
        · rw [hcn, hcn1]; simp [b2]
        · (try simp (disch := first | assumption | omega | (with_unfolding_all exact id rfl) | exact Nat.le_of_ble_eq_true rfl | fail) only [Env.put_some, Env.put_none, Env.set_app, Nat.reduceEqDiff, ↓reduceIte, nat_int, Int.toNat_natCast, wrap_i64, h18])
          omega
      · have hce' : a = .int .i64 x ∧ b = .int .i64 y ∧ c = .int .i64 z ∧ d = .bool true := by
          have : [.int .i64 x, .int .i64 y, .int .i64 z, .bool true] = [a, b, c, d] := hce
          simp only [List.cons.injEq, and_true] at this
          exact ⟨this.1.symm, this.2.1.symm, this.2.2.1.symm, this.2.2.2.symm⟩
        obtain ⟨rfl, rfl, rfl, rfl⟩ := hce'
        have hroom : ∃ z, z < Tn.length ∧ occ Tn z = none := by
          refine cnt_room ?_
          have h1 := cnt_le (T.take j)
          have h2 : (T.take j).length = j := by rw [List.length_take]; omega
          omega
        obtain ⟨zz, hz1, hz2⟩ := hroom
        obtain ⟨i, hf⟩ := Finds.ex homeN_lt (x, y) hz1 hz2
        have hil := finds_lt hf
        have hil' : (i : Int) < Tn.length := by omega
        have hnone : occ Tn i = none := by
          obtain ⟨dd, _, _, _, hor⟩ := id hf
          rcases hor with h1 | ⟨v', h1⟩
          · exact h1
          · exfalso
            obtain ⟨q, hq, hq2⟩ := (hM (x, y) v').1 ⟨i, h1⟩
            have := I.nodup _ _ _ _ _ hq2 ho
            omega
        obtain ⟨hI', hM'⟩ := hI.put homeN_lt z hf hnone
        have hp2 : ∀ u, Ext w2 u → u.heap[p]? = some (.cells #[.slice (some ⟨g', 0, none⟩) Tn.length Tn.length, .int .i64 many] 174) := fun u hu => hu.at hU2.at_
        have hb3 : ∀ u, Ext w2 u → u.heap[nb]? = some (.cells #[.int .i64 x, .int .i64 y, .int .i64 z, .bool true] 191) := fun u hu => hu.at hb2
        have hk2 : (#[.int .i64 x, .int .i64 y, .int .i64 z, .bool true] : Array Value).extract 0 (0 + 2) = #[.int .i64 x, .int .i64 y] := rfl
        have hk4 : (#[.int .i64 x, .int .i64 y, .int .i64 z, .bool true] : Array Value).extract 0 (0 + 4) = #[.int .i64 x, .int .i64 y, .int .i64 z, .bool true] := rfl
        have hs4 : 0 + 4 ≤ (#[.int .i64 x, .int .i64 y, .int .i64 z, .bool true] : Array Value).size := Nat.le_refl 4
        have hs2 : 0 + 2 ≤ (#[.int .i64 x, .int .i64 y, .int .i64 z, .bool true] : Array Value).size := show 2 ≤ 4 by omega
        have hset := tbA_some (T := Tn) (i := i) (lo := x) (hi := y) (n := z) hil
        have htn : (tbL Tn).toArray.size = Tn.length * 4 := by simp [tbL_len]; omega
        refine X_seq fun K hK => ?_
        simp only [X_reg, thenX_normal]
        repeat (first | (refine xo (by simp (disch := first | assumption | omega | (with_unfolding_all exact id rfl) | exact Nat.le_of_ble_eq_true rfl | fail) only [Bool.not_true, Bool.not_false, vR_ok, uR_ok, ev_tmp, ev_const, ev_func, Env.put_some, Env.put_none, Env.set_app, Nat.reduceEqDiff, ↓reduceIte, rG_move, rG_assign, opt1_some, ext_all, dec_t, dec_f, beq_t, beq_f, bne_t, bne_f, wrap_i64, wrap_u64, Int.toNat_natCast, Nat.mul_one, Nat.zero_add, Nat.add_zero, List.map_toArray, List.map_cons, List.map_nil, rG_indexAddr, ia172, rG_load, ld172, List.getElem?_toArray, List.getElem?_cons_zero, List.getElem?_cons_succ, ld1_some, rd1_cells, rG_store, st172, stN_1, stN_2, stN_3, stN_4, stN_5, stN_6, stN_7, stN_8, vcs_int, vcs_bool, vcs_ptr, vcs_slice, vcs_map, vcs_nil, vcs_iface, vcs_aggL, List.length_cons, List.length_nil, Nat.reduceAdd, rG_len, ln172, rG_fieldAddr, fa191_0, call155, ld4, resM_0, fa191_2, rG_nilCheck, nilR_ptr, rG_makeSlice, rG_binOp, binR_add, binR_mul, ld189, ldN_some, rdN_cells, rG_alloc_191, Value.cells, ld191, st191, binR_lss, fa174_0, hb2] <;> rfl) ?_; first | with_reducible refine kv ?_ | with_reducible refine ks ?_ | with_reducible refine ke ?_) | (refine xo_t ?_ ?_; focus (simp (disch := first | assumption | omega | (with_unfolding_all exact id rfl) | exact Nat.le_of_ble_eq_true rfl | fail) only [Env.put_some, Env.put_none, Env.set_app, Nat.reduceEqDiff, ↓reduceIte, Bool.not_true, Bool.not_false, hb2]; done)) | (refine xo_f ?_ ?_; focus (simp (disch := first | assumption | omega | (with_unfolding_all exact id rfl) | exact Nat.le_of_ble_eq_true rfl | fail) only [Env.put_some, Env.put_none, Env.set_app, Nat.reduceEqDiff, ↓reduceIte, Bool.not_true, Bool.not_false, hb2]; done)) | (refine xo_u ?_ ?_; focus (simp (disch := first | assumption | omega | (with_unfolding_all exact id rfl) | exact Nat.le_of_ble_eq_true rfl | fail) only [Env.put_some, Env.put_none, Env.set_app, Nat.reduceEqDiff, ↓reduceIte, Bool.not_true, Bool.not_false, hb2]; done)))
        refine xo_nil ?_
        refine hK _ _ ?_
        clear hK K
        refine X_if_t (by simp (disch := first | assumption | omega) only [ev_tmp, Env.put_some, Env.put_none, Env.set_app, Nat.reduceEqDiff, ↓reduceIte, beq_t, dec_t, beq_self_eq_true]) ?_
        simp only [X_draw, thenX_normal]
        refine XD_ext ?_
        repeat (first | (refine xe0 (fun w => (by simp (disch := first | assumption | omega | (with_unfolding_all exact id rfl) | exact Nat.le_of_ble_eq_true rfl | fail) only [Bool.not_true, Bool.not_false, vR_ok, uR_ok, ev_tmp, ev_const, ev_func, Env.put_some, Env.put_none, Env.set_app, Nat.reduceEqDiff, ↓reduceIte, rG_move, rG_assign, opt1_some, ext_all, dec_t, dec_f, beq_t, beq_f, bne_t, bne_f, wrap_i64, wrap_u64, Int.toNat_natCast, Nat.mul_one, Nat.zero_add, Nat.add_zero, List.map_toArray, List.map_cons, List.map_nil, rG_indexAddr, ia172, rG_load, ld172, List.getElem?_toArray, List.getElem?_cons_zero, List.getElem?_cons_succ, ld1_some, rd1_cells, rG_store, st172, stN_1, stN_2, stN_3, stN_4, stN_5, stN_6, stN_7, stN_8, vcs_int, vcs_bool, vcs_ptr, vcs_slice, vcs_map, vcs_nil, vcs_iface, vcs_aggL, List.length_cons, List.length_nil, Nat.reduceAdd, rG_len, ln172, rG_fieldAddr, fa191_0, call155, ld4, resM_0, fa191_2, rG_nilCheck, nilR_ptr, rG_makeSlice, rG_binOp, binR_add, binR_mul, ld189, ldN_some, rdN_cells, rG_alloc_191, Value.cells, ld191, st191, binR_lss, fa174_0, h0, hp2, hb3, hk2] <;> rfl)) ?_) | (refine xe1e (fun w' hw => (by simp (disch := first | assumption | omega | (with_unfolding_all exact id rfl) | exact Nat.le_of_ble_eq_true rfl | fail) only [Bool.not_true, Bool.not_false, vR_ok, uR_ok, ev_tmp, ev_const, ev_func, Env.put_some, Env.put_none, Env.set_app, Nat.reduceEqDiff, ↓reduceIte, rG_move, rG_assign, opt1_some, ext_all, dec_t, dec_f, beq_t, beq_f, bne_t, bne_f, wrap_i64, wrap_u64, Int.toNat_natCast, Nat.mul_one, Nat.zero_add, Nat.add_zero, List.map_toArray, List.map_cons, List.map_nil, rG_indexAddr, ia172, rG_load, ld172, List.getElem?_toArray, List.getElem?_cons_zero, List.getElem?_cons_succ, ld1_some, rd1_cells, rG_store, st172, stN_1, stN_2, stN_3, stN_4, stN_5, stN_6, stN_7, stN_8, vcs_int, vcs_bool, vcs_ptr, vcs_slice, vcs_map, vcs_nil, vcs_iface, vcs_aggL, List.length_cons, List.length_nil, Nat.reduceAdd, rG_len, ln172, rG_fieldAddr, fa191_0, call155, ld4, resM_0, fa191_2, rG_nilCheck, nilR_ptr, rG_makeSlice, rG_binOp, binR_add, binR_mul, ld189, ldN_some, rdN_cells, rG_alloc_191, Value.cells, ld191, st191, binR_lss, fa174_0, h0, hp2, hb3, hk2] <;> rfl)) ?_) | (refine xe2x (by simp (disch := first | assumption | omega | (with_unfolding_all exact id rfl) | exact Nat.le_of_ble_eq_true rfl | fail) only [Bool.not_true, Bool.not_false, vR_ok, uR_ok, ev_tmp, ev_const, ev_func, Env.put_some, Env.put_none, Env.set_app, Nat.reduceEqDiff, ↓reduceIte, rG_move, rG_assign, opt1_some, ext_all, dec_t, dec_f, beq_t, beq_f, bne_t, bne_f, wrap_i64, wrap_u64, Int.toNat_natCast, Nat.mul_one, Nat.zero_add, Nat.add_zero, List.map_toArray, List.map_cons, List.map_nil, rG_indexAddr, ia172, rG_load, ld172, List.getElem?_toArray, List.getElem?_cons_zero, List.getElem?_cons_succ, ld1_some, rd1_cells, rG_store, st172, stN_1, stN_2, stN_3, stN_4, stN_5, stN_6, stN_7, stN_8, vcs_int, vcs_bool, vcs_ptr, vcs_slice, vcs_map, vcs_nil, vcs_iface, vcs_aggL, List.length_cons, List.length_nil, Nat.reduceAdd, rG_len, ln172, rG_fieldAddr, fa191_0, call155, ld4, resM_0, fa191_2, rG_nilCheck, nilR_ptr, rG_makeSlice, rG_binOp, binR_add, binR_mul, ld189, ldN_some, rdN_cells, rG_alloc_191, Value.cells, ld191, st191, binR_lss, fa174_0, h0, hp2, hb3, hk2] <;> rfl) ?_; (first | with_reducible refine kv ?_ | with_reducible refine ks ?_ | with_reducible refine ke ?_)) | (refine xe0_t ?_ ?_; focus (simp (disch := first | assumption | omega | (with_unfolding_all exact id rfl) | exact Nat.le_of_ble_eq_true rfl | fail) only [Env.put_some, Env.put_none, Env.set_app, Nat.reduceEqDiff, ↓reduceIte, Bool.not_true, Bool.not_false, h0, hp2, hb3, hk2]; done)) | (refine xe1_t ?_ ?_; focus (simp (disch := first | assumption | omega | (with_unfolding_all exact id rfl) | exact Nat.le_of_ble_eq_true rfl | fail) only [Env.put_some, Env.put_none, Env.set_app, Nat.reduceEqDiff, ↓reduceIte, Bool.not_true, Bool.not_false, h0, hp2, hb3, hk2]; done)) | (refine xe0_f ?_ ?_; focus (simp (disch := first | assumption | omega | (with_unfolding_all exact id rfl) | exact Nat.le_of_ble_eq_true rfl | fail) only [Env.put_some, Env.put_none, Env.set_app, Nat.reduceEqDiff, ↓reduceIte, Bool.not_true, Bool.not_false, h0, hp2, hb3, hk2]; done)) | (refine xe1_f ?_ ?_; focus (simp (disch := first | assumption | omega | (with_unfolding_all exact id rfl) | exact Nat.le_of_ble_eq_true rfl | fail) only [Env.put_some, Env.put_none, Env.set_app, Nat.reduceEqDiff, ↓reduceIte, Bool.not_true, Bool.not_false, h0, hp2, hb3, hk2]; done)) | (refine xe0_u ?_ ?_; focus (simp (disch := first | assumption | omega | (with_unfolding_all exact id rfl) | exact Nat.le_of_ble_eq_true rfl | fail) only [Env.put_some, Env.put_none, Env.set_app, Nat.reduceEqDiff, ↓reduceIte, Bool.not_true, Bool.not_false, h0, hp2, hb3, hk2]; done)) | (refine xe1_u ?_ ?_; focus (simp (disch := first | assumption | omega | (with_unfolding_all exact id rfl) | exact Nat.le_of_ble_eq_true rfl | fail) only [Env.put_some, Env.put_none, Env.set_app, Nat.reduceEqDiff, ↓reduceIte, Bool.not_true, Bool.not_false, h0, hp2, hb3, hk2]; done)))
        refine xe1c (fun w' hw => (by simp (disch := first | assumption | omega | (with_unfolding_all exact id rfl) | exact Nat.le_of_ble_eq_true rfl | fail) only [Bool.not_true, Bool.not_false, vR_ok, uR_ok, ev_tmp, ev_const, ev_func, Env.put_some, Env.put_none, Env.set_app, Nat.reduceEqDiff, ↓reduceIte, rG_move, rG_assign, opt1_some, ext_all, dec_t, dec_f, beq_t, beq_f, bne_t, bne_f, wrap_i64, wrap_u64, Int.toNat_natCast, Nat.mul_one, Nat.zero_add, Nat.add_zero, List.map_toArray, List.map_cons, List.map_nil, rG_indexAddr, ia172, rG_load, ld172, List.getElem?_toArray, List.getElem?_cons_zero, List.getElem?_cons_succ, ld1_some, rd1_cells, rG_store, st172, stN_1, stN_2, stN_3, stN_4, stN_5, stN_6, stN_7, stN_8, vcs_int, vcs_bool, vcs_ptr, vcs_slice, vcs_map, vcs_nil, vcs_iface, vcs_aggL, List.length_cons, List.length_nil, Nat.reduceAdd, rG_len, ln172, rG_fieldAddr, fa191_0, call155, ld4, resM_0, fa191_2, rG_nilCheck, nilR_ptr, rG_makeSlice, rG_binOp, binR_add, binR_mul, ld189, ldN_some, rdN_cells, rG_alloc_191, Value.cells, ld191, st191, binR_lss, fa174_0, h0] <;> rfl)) (fun w' hw => ufind_calls (hU2.ext hw) hf) ?_
        repeat (first | (refine xe0 (fun w => (by simp (disch := first | assumption | omega | (with_unfolding_all exact id rfl) | exact Nat.le_of_ble_eq_true rfl | fail) only [Bool.not_true, Bool.not_false, vR_ok, uR_ok, ev_tmp, ev_const, ev_func, Env.put_some, Env.put_none, Env.set_app, Nat.reduceEqDiff, ↓reduceIte, rG_move, rG_assign, opt1_some, ext_all, dec_t, dec_f, beq_t, beq_f, bne_t, bne_f, wrap_i64, wrap_u64, Int.toNat_natCast, Nat.mul_one, Nat.zero_add, Nat.add_zero, List.map_toArray, List.map_cons, List.map_nil, rG_indexAddr, ia172, rG_load, ld172, List.getElem?_toArray, List.getElem?_cons_zero, List.getElem?_cons_succ, ld1_some, rd1_cells, rG_store, st172, stN_1, stN_2, stN_3, stN_4, stN_5, stN_6, stN_7, stN_8, vcs_int, vcs_bool, vcs_ptr, vcs_slice, vcs_map, vcs_nil, vcs_iface, vcs_aggL, List.length_cons, List.length_nil, Nat.reduceAdd, rG_len, ln172, rG_fieldAddr, fa191_0, call155, ld4, resM_0, fa191_2, rG_nilCheck, nilR_ptr, rG_makeSlice, rG_binOp, binR_add, binR_mul, ld189, ldN_some, rdN_cells, rG_alloc_191, Value.cells, ld191, st191, binR_lss, fa174_0, h0, hb3, hk4] <;> rfl)) ?_) | (refine xe1e (fun w' hw => (by simp (disch := first | assumption | omega | (with_unfolding_all exact id rfl) | exact Nat.le_of_ble_eq_true rfl | fail) only [Bool.not_true, Bool.not_false, vR_ok, uR_ok, ev_tmp, ev_const, ev_func, Env.put_some, Env.put_none, Env.set_app, Nat.reduceEqDiff, ↓reduceIte, rG_move, rG_assign, opt1_some, ext_all, dec_t, dec_f, beq_t, beq_f, bne_t, bne_f, wrap_i64, wrap_u64, Int.toNat_natCast, Nat.mul_one, Nat.zero_add, Nat.add_zero, List.map_toArray, List.map_cons, List.map_nil, rG_indexAddr, ia172, rG_load, ld172, List.getElem?_toArray, List.getElem?_cons_zero, List.getElem?_cons_succ, ld1_some, rd1_cells, rG_store, st172, stN_1, stN_2, stN_3, stN_4, stN_5, stN_6, stN_7, stN_8, vcs_int, vcs_bool, vcs_ptr, vcs_slice, vcs_map, vcs_nil, vcs_iface, vcs_aggL, List.length_cons, List.length_nil, Nat.reduceAdd, rG_len, ln172, rG_fieldAddr, fa191_0, call155, ld4, resM_0, fa191_2, rG_nilCheck, nilR_ptr, rG_makeSlice, rG_binOp, binR_add, binR_mul, ld189, ldN_some, rdN_cells, rG_alloc_191, Value.cells, ld191, st191, binR_lss, fa174_0, h0, hb3, hk4] <;> rfl)) ?_) | (refine xe2x (by simp (disch := first | assumption | omega | (with_unfolding_all exact id rfl) | exact Nat.le_of_ble_eq_true rfl | fail) only [Bool.not_true, Bool.not_false, vR_ok, uR_ok, ev_tmp, ev_const, ev_func, Env.put_some, Env.put_none, Env.set_app, Nat.reduceEqDiff, ↓reduceIte, rG_move, rG_assign, opt1_some, ext_all, dec_t, dec_f, beq_t, beq_f, bne_t, bne_f, wrap_i64, wrap_u64, Int.toNat_natCast, Nat.mul_one, Nat.zero_add, Nat.add_zero, List.map_toArray, List.map_cons, List.map_nil, rG_indexAddr, ia172, rG_load, ld172, List.getElem?_toArray, List.getElem?_cons_zero, List.getElem?_cons_succ, ld1_some, rd1_cells, rG_store, st172, stN_1, stN_2, stN_3, stN_4, stN_5, stN_6, stN_7, stN_8, vcs_int, vcs_bool, vcs_ptr, vcs_slice, vcs_map, vcs_nil, vcs_iface, vcs_aggL, List.length_cons, List.length_nil, Nat.reduceAdd, rG_len, ln172, rG_fieldAddr, fa191_0, call155, ld4, resM_0, fa191_2, rG_nilCheck, nilR_ptr, rG_makeSlice, rG_binOp, binR_add, binR_mul, ld189, ldN_some, rdN_cells, rG_alloc_191, Value.cells, ld191, st191, binR_lss, fa174_0, h0, hb3, hk4] <;> rfl) ?_; (first | with_reducible refine kv ?_ | with_reducible refine ks ?_ | with_reducible refine ke ?_)) | (refine xe0_t ?_ ?_; focus (simp (disch := first | assumption | omega | (with_unfolding_all exact id rfl) | exact Nat.le_of_ble_eq_true rfl | fail) only [Env.put_some, Env.put_none, Env.set_app, Nat.reduceEqDiff, ↓reduceIte, Bool.not_true, Bool.not_false, h0, hb3, hk4]; done)) | (refine xe1_t ?_ ?_; focus (simp (disch := first | assumption | omega | (with_unfolding_all exact id rfl) | exact Nat.le_of_ble_eq_true rfl | fail) only [Env.put_some, Env.put_none, Env.set_app, Nat.reduceEqDiff, ↓reduceIte, Bool.not_true, Bool.not_false, h0, hb3, hk4]; done)) | (refine xe0_f ?_ ?_; focus (simp (disch := first | assumption | omega | (with_unfolding_all exact id rfl) | exact Nat.le_of_ble_eq_true rfl | fail) only [Env.put_some, Env.put_none, Env.set_app, Nat.reduceEqDiff, ↓reduceIte, Bool.not_true, Bool.not_false, h0, hb3, hk4]; done)) | (refine xe1_f ?_ ?_; focus (simp (disch := first | assumption | omega | (with_unfolding_all exact id rfl) | exact Nat.le_of_ble_eq_true rfl | fail) only [Env.put_some, Env.put_none, Env.set_app, Nat.reduceEqDiff, ↓reduceIte, Bool.not_true, Bool.not_false, h0, hb3, hk4]; done)) | (refine xe0_u ?_ ?_; focus (simp (disch := first | assumption | omega | (with_unfolding_all exact id rfl) | exact Nat.le_of_ble_eq_true rfl | fail) only [Env.put_some, Env.put_none, Env.set_app, Nat.reduceEqDiff, ↓reduceIte, Bool.not_true, Bool.not_false, h0, hb3, hk4]; done)) | (refine xe1_u ?_ ?_; focus (simp (disch := first | assumption | omega | (with_unfolding_all exact id rfl) | exact Nat.le_of_ble_eq_true rfl | fail) only [Env.put_some, Env.put_none, Env.set_app, Nat.reduceEqDiff, ↓reduceIte, Bool.not_true, Bool.not_false, h0, hb3, hk4]; done)))
        refine xe2 fun w3 hE3 => ?_
        have hU3 := hU2.ext hE3
        have hsl3 := hU3.sl
        have hszt : i * 4 + 4 ≤ (tbL Tn).toArray.size := by omega
        refine kr (by simp (disch := first | assumption | omega | (with_unfolding_all exact id rfl) | exact Nat.le_of_ble_eq_true rfl | fail) only [Bool.not_true, Bool.not_false, vR_ok, uR_ok, ev_tmp, ev_const, ev_func, Env.put_some, Env.put_none, Env.set_app, Nat.reduceEqDiff, ↓reduceIte, rG_move, rG_assign, opt1_some, ext_all, dec_t, dec_f, beq_t, beq_f, bne_t, bne_f, wrap_i64, wrap_u64, Int.toNat_natCast, Nat.mul_one, Nat.zero_add, Nat.add_zero, List.map_toArray, List.map_cons, List.map_nil, rG_indexAddr, ia172, rG_load, ld172, List.getElem?_toArray, List.getElem?_cons_zero, List.getElem?_cons_succ, ld1_some, rd1_cells, rG_store, st172, stN_1, stN_2, stN_3, stN_4, stN_5, stN_6, stN_7, stN_8, vcs_int, vcs_bool, vcs_ptr, vcs_slice, vcs_map, vcs_nil, vcs_iface, vcs_aggL, List.length_cons, List.length_nil, Nat.reduceAdd, rG_len, ln172, rG_fieldAddr, fa191_0, call155, ld4, resM_0, fa191_2, rG_nilCheck, nilR_ptr, rG_makeSlice, rG_binOp, binR_add, binR_mul, ld189, ldN_some, rdN_cells, rG_alloc_191, Value.cells, ld191, st191, binR_lss, fa174_0, hsl3, hset] <;> rfl) ?_
        first | with_reducible refine kv ?_ | with_reducible refine ks ?_ | with_reducible refine ke ?_
        refine xe_nil ?_
        rintro _ rfl
        simp only [X_skip, X_exit, X_ret, X_block, thenX_normal, thenX_ret, thenX_exit, inX_normal, inX_ret, inX_exit, ↓reduceIte, Nat.reduceEqDiff]
        (try refine xo_nil ?_)
        refine hK _ _ ?_
        clear hK K
        have hU4 := hU3.row hil (some ((x, y), z))
        (try simp only [X_reg, thenX_normal])
        repeat (first | (refine xo (by simp (disch := first | assumption | omega | (with_unfolding_all exact id rfl) | exact Nat.le_of_ble_eq_true rfl | fail) only [Bool.not_true, Bool.not_false, vR_ok, uR_ok, ev_tmp, ev_const, ev_func, Env.put_some, Env.put_none, Env.set_app, Nat.reduceEqDiff, ↓reduceIte, rG_move, rG_assign, opt1_some, ext_all, dec_t, dec_f, beq_t, beq_f, bne_t, bne_f, wrap_i64, wrap_u64, Int.toNat_natCast, Nat.mul_one, Nat.zero_add, Nat.add_zero, List.map_toArray, List.map_cons, List.map_nil, rG_indexAddr, ia172, rG_load, ld172, List.getElem?_toArray, List.getElem?_cons_zero, List.getElem?_cons_succ, ld1_some, rd1_cells, rG_store, st172, stN_1, stN_2, stN_3, stN_4, stN_5, stN_6, stN_7, stN_8, vcs_int, vcs_bool, vcs_ptr, vcs_slice, vcs_map, vcs_nil, vcs_iface, vcs_aggL, List.length_cons, List.length_nil, Nat.reduceAdd, rG_len, ln172, rG_fieldAddr, fa191_0, call155, ld4, resM_0, fa191_2, rG_nilCheck, nilR_ptr, rG_makeSlice, rG_binOp, binR_add, binR_mul, ld189, ldN_some, rdN_cells, rG_alloc_191, Value.cells, ld191, st191, binR_lss, fa174_0, h18] <;> rfl) ?_; first | with_reducible refine kv ?_ | with_reducible refine ks ?_ | with_reducible refine ke ?_) | (refine xo_t ?_ ?_; focus (simp (disch := first | assumption | omega | (with_unfolding_all exact id rfl) | exact Nat.le_of_ble_eq_true rfl | fail) only [Env.put_some, Env.put_none, Env.set_app, Nat.reduceEqDiff, ↓reduceIte, Bool.not_true, Bool.not_false, h18]; done)) | (refine xo_f ?_ ?_; focus (simp (disch := first | assumption | omega | (with_unfolding_all exact id rfl) | exact Nat.le_of_ble_eq_true rfl | fail) only [Env.put_some, Env.put_none, Env.set_app, Nat.reduceEqDiff, ↓reduceIte, Bool.not_true, Bool.not_false, h18]; done)) | (refine xo_u ?_ ?_; focus (simp (disch := first | assumption | omega | (with_unfolding_all exact id rfl) | exact Nat.le_of_ble_eq_true rfl | fail) only [Env.put_some, Env.put_none, Env.set_app, Nat.reduceEqDiff, ↓reduceIte, Bool.not_true, Bool.not_false, h18]; done)))
        have hC3 := hC2.trans (hE3.chg (fun _ => False)) (fun _ _ h => h.elim)
        refine xo_nil ⟨⟨j + 1, _, by omega, ?_, ?_, ?_, ?_, hU4, by rw [List.length_set]; exact hTl, hI', fun k v => ?_, ?_, ?_, hC3.upd (fun hlt => by omega) _⟩, ?_⟩
        · (try simp (disch := first | assumption | omega | (with_unfolding_all exact id rfl) | exact Nat.le_of_ble_eq_true rfl | fail) only [Env.put_some, Env.put_none, Env.set_app, Nat.reduceEqDiff, ↓reduceIte, nat_int, Int.toNat_natCast, wrap_i64, h18])
          rfl
        · (try simp (disch := first | assumption | omega | (with_unfolding_all exact id rfl) | exact Nat.le_of_ble_eq_true rfl | fail) only [Env.put_some, Env.put_none, Env.set_app, Nat.reduceEqDiff, ↓reduceIte, nat_int, Int.toNat_natCast, wrap_i64, h17])
        · (try simp (disch := first | assumption | omega | (with_unfolding_all exact id rfl) | exact Nat.le_of_ble_eq_true rfl | fail) only [Env.put_some, Env.put_none, Env.set_app, Nat.reduceEqDiff, ↓reduceIte, nat_int, Int.toNat_natCast, wrap_i64, h16])
        · (try simp (disch := first | assumption | omega | (with_unfolding_all exact id rfl) | exact Nat.le_of_ble_eq_true rfl | fail) only [Env.put_some, Env.put_none, Env.set_app, Nat.reduceEqDiff, ↓reduceIte, nat_int, Int.toNat_natCast, wrap_i64, h0])
        · rw [hM', hM]
          constructor
          · rintro (⟨q, h1, h2⟩ | ⟨rfl, rfl⟩)
            · exact ⟨q, by omega, h2⟩
            · exact ⟨j, by omega, ho⟩
          · rintro ⟨q, h1, h2⟩
            by_cases hqj : q = j
            · subst hqj; rw [ho] at h2; cases h2; exact .inr ⟨rfl, rfl⟩
            · exact .inl ⟨q, by omega, h2⟩
        · rw [cnt_set hil, hnone, hcn, hcn1]; simp [b2]
        · rw [upd_other (by omega)]; exact hE3.at hS2
        · (try simp (disch := first | assumption | omega | (with_unfolding_all exact id rfl) | exact Nat.le_of_ble_eq_true rfl | fail) only [Env.put_some, Env.put_none, Env.set_app, Nat.reduceEqDiff, ↓reduceIte, nat_int, Int.toNat_natCast, wrap_i64, h18])
          omega
    · obtain rfl : j = T.length := by omega
      refine X_seq fun K hK => ?_
      simp only [X_reg, thenX_normal]
      repeat (first | (refine xo (by simp (disch := first | assumption | omega | (with_unfolding_all exact id rfl) | exact Nat.le_of_ble_eq_true rfl | fail) only [Bool.not_true, Bool.not_false, vR_ok, uR_ok, ev_tmp, ev_const, ev_func, Env.put_some, Env.put_none, Env.set_app, Nat.reduceEqDiff, ↓reduceIte, rG_move, rG_assign, opt1_some, ext_all, dec_t, dec_f, beq_t, beq_f, bne_t, bne_f, wrap_i64, wrap_u64, Int.toNat_natCast, Nat.mul_one, Nat.zero_add, Nat.add_zero, List.map_toArray, List.map_cons, List.map_nil, rG_indexAddr, ia172, rG_load, ld172, List.getElem?_toArray, List.getElem?_cons_zero, List.getElem?_cons_succ, ld1_some, rd1_cells, rG_store, st172, stN_1, stN_2, stN_3, stN_4, stN_5, stN_6, stN_7, stN_8, vcs_int, vcs_bool, vcs_ptr, vcs_slice, vcs_map, vcs_nil, vcs_iface, vcs_aggL, List.length_cons, List.length_nil, Nat.reduceAdd, rG_len, ln172, rG_fieldAddr, fa191_0, call155, ld4, resM_0, fa191_2, rG_nilCheck, nilR_ptr, rG_makeSlice, rG_binOp, binR_add, binR_mul, ld189, ldN_some, rdN_cells, rG_alloc_191, Value.cells, ld191, st191, binR_lss, fa174_0, h18, h17] <;> rfl) ?_; first | with_reducible refine kv ?_ | with_reducible refine ks ?_ | with_reducible refine ke ?_) | (refine xo_t ?_ ?_; focus (simp (disch := first | assumption | omega | (with_unfolding_all exact id rfl) | exact Nat.le_of_ble_eq_true rfl | fail) only [Env.put_some, Env.put_none, Env.set_app, Nat.reduceEqDiff, ↓reduceIte, Bool.not_true, Bool.not_false, h18, h17]; done)) | (refine xo_f ?_ ?_; focus (simp (disch := first | assumption | omega | (with_unfolding_all exact id rfl) | exact Nat.le_of_ble_eq_true rfl | fail) only [Env.put_some, Env.put_none, Env.set_app, Nat.reduceEqDiff, ↓reduceIte, Bool.not_true, Bool.not_false, h18, h17]; done)) | (refine xo_u ?_ ?_; focus (simp (disch := first | assumption | omega | (with_unfolding_all exact id rfl) | exact Nat.le_of_ble_eq_true rfl | fail) only [Env.put_some, Env.put_none, Env.set_app, Nat.reduceEqDiff, ↓reduceIte, Bool.not_true, Bool.not_false, h18, h17]; done)))
      refine xo_nil ?_
      refine hK _ _ ?_
      clear hK K
      refine X_seq fun K hK => ?_
      refine X_if_f (by simp (disch := first | assumption | omega) only [ev_tmp, Env.put_some, Env.put_none, Env.set_app, Nat.reduceEqDiff, ↓reduceIte, beq_f, dec_f]) ?_
      simp only [X_skip, X_exit, X_ret, X_block, thenX_normal, thenX_ret, thenX_exit, inX_normal, inX_ret, inX_exit, ↓reduceIte, Nat.reduceEqDiff]
      simp (disch := first | assumption | omega | (with_unfolding_all exact id rfl) | exact Nat.le_of_ble_eq_true rfl | fail) only [X_ret, thenX_ret, inX_ret, retX_ret, retX_normal, Try.results159, resM_0, resM_1, resM_2, resM_3, resM_4, Env.put_some, Env.put_none, Env.set_app, Nat.reduceEqDiff, ↓reduceIte]
      refine ⟨_, rfl, g', Tn, hU, hTl, hI, fun k v => ?_, by rw [hcn, List.take_length], hC, by omega⟩
      rw [hM]
      constructor
      · rintro ⟨q, _, h2⟩; exact ⟨q, h2⟩
      · rintro ⟨q, h2⟩; exact ⟨q, occ_lt h2, h2⟩
end Go.Proofs.Ytpeindhocndmnaa

namespace Go.Proofs.Ytpeindhocndmnaa
open Go Go.Bx
set_option linter.unusedSimpArgs false
set_option linter.unusedVariables false
set_option maxRecDepth 100000
set_option maxHeartbeats 4000000
theorem finds_mem' {T : Tb} (I : TbInv homeN T) {k : Ky} {i : Nat} (hf : Finds homeN T k i) : (occ T i = none ∧ ∀ v, ¬ MemT T k v) ∨ ∃ v, occ T i = some (k, v) := by
  obtain ⟨d, _, _, _, hor⟩ := id hf
  rcases hor with h | h
  · exact .inl ⟨h, fun v ⟨p, hp⟩ => I.finds_none homeN_lt hf h p v hp⟩
  · exact .inr h
theorem bd_pair {lo hi : Int} {w : World} : bdR Try.prog 189 #[(0, .int .i64 lo), (1, .int .i64 hi)] w = .ok (.agg #[.int .i64 lo, .int .i64 hi]) w := by kernel_rfl
theorem bd_slot {lo hi n : Int} {w : World} : bdR Try.prog 191 #[(0, .agg #[.int .i64 lo, .int .i64 hi]), (1, .int .i64 n), (2, .bool true)] w = .ok (.agg #[.int .i64 lo, .int .i64 hi, .int .i64 n, .bool true]) w := by kernel_rfl
theorem uput_calls {w : World} {p g : Nat} {many : Int} {T : Tb} (h : UqI w p g many T) (I : TabI T many) (hm : many ≤ 100000000) (lo hi n : Int) :
    CallsR Try.prog 138 #[.pointer (some ⟨p, 0, none⟩), .int .i64 lo, .int .i64 hi, .int .i64 n] w fun r w' => ∃ g' m' T', UqI w' p g' m' T' ∧ TabI T' m' ∧ Chg (fun x => x = p ∨ x = g) w w' ∧ (g' = g ∨ w.heap.size ≤ g') ∧
      ((r = .bool false ∧ m' = many ∧ T' = T ∧ ∃ v, MemT T (lo, hi) v) ∨ (r = .bool true ∧ m' = many + 1 ∧ (∀ v, ¬ MemT T (lo, hi) v) ∧ (∀ k v, MemT T' k v ↔ MemT T k v ∨ (k = (lo, hi) ∧ v = n)) ∧ T'.length = if 2 * (many + 1) > T.length then 2 * T.length else T.length)) := by
  have hlim := h.lim
  have hpos := h.pos
  have hm0 := I.many0
  have hhalf := I.half
  have hpl := lt_of_heap h.at_
  have hgl := lt_of_heap h.sl
  obtain ⟨i, hil, hf⟩ := I.find (lo, hi)
  have hil' : (i : Int) < T.length := by omega
  have hin := tbA_in hil
  have htl : (tbL T).toArray.size = T.length * 4 := by simp [tbL_len]; omega
  refine calls4 (bs := []) Try.func138 rfl mixed (by kernel_rfl) ?_
  intro e0 h0 h1 h2 h3
  simp only [comp, gop, gslot, dops, bigOf, setK, drawOf, drawOf2, dopsW, setW, dopsR, setR, kindOf, List.lookup, List.map_cons, List.map_nil, Option.bind_some, List.getElem?_toArray, List.getElem?_cons_zero, List.getElem?_cons_succ, Option.getD_some, Option.getD_none, List.contains_nil, List.contains_cons, Bool.false_eq_true, ↓reduceIte, Nat.reduceAdd, Nat.reduceBEq, Bool.or_false]
  refine X_seq fun K hK => ?_
  simp only [X_reg, thenX_normal]
  repeat (first | (refine xo (by simp (disch := first | assumption | omega | (with_unfolding_all exact id rfl) | exact Nat.le_of_ble_eq_true rfl | fail) only [Bool.not_true, Bool.not_false, vR_ok, uR_ok, ev_tmp, ev_const, ev_func, Env.put_some, Env.put_none, Env.set_app, Nat.reduceEqDiff, ↓reduceIte, rG_move, rG_assign, opt1_some, ext_all, dec_t, dec_f, beq_t, beq_f, bne_t, bne_f, wrap_i64, wrap_u64, Int.toNat_natCast, Nat.mul_one, Nat.zero_add, Nat.add_zero, List.map_toArray, List.map_cons, List.map_nil, resM_1, call155, rG_fieldAddr, fa174_0, rG_load, ld3, List.getElem?_toArray, List.getElem?_cons_zero, List.getElem?_cons_succ, ld1_some, rd1_cells, ld189, ldN_some, rdN_cells, rG_binOp, binR_add, rG_len, ln172, binR_gtr, rG_build, rG_store, st191, stN_1, stN_2, stN_3, stN_4, stN_5, stN_6, stN_7, stN_8, vcs_int, vcs_bool, vcs_ptr, vcs_slice, vcs_map, vcs_nil, vcs_iface, vcs_aggL, List.length_cons, List.length_nil, Nat.reduceAdd, rG_indexAddr, ia172, rG_nilCheck, nilR_ptr, rG_alloc_189, Value.cells, ld172, fa174_1, ld4, call159, fa191_2, binR_mul, st3, st189] <;> rfl) ?_; first | with_reducible refine kv ?_ | with_reducible refine ks ?_ | with_reducible refine ke ?_) | (refine xo_t ?_ ?_; focus (simp (disch := first | assumption | omega | (with_unfolding_all exact id rfl) | exact Nat.le_of_ble_eq_true rfl | fail) only [Env.put_some, Env.put_none, Env.set_app, Nat.reduceEqDiff, ↓reduceIte, Bool.not_true, Bool.not_false]; done)) | (refine xo_f ?_ ?_; focus (simp (disch := first | assumption | omega | (with_unfolding_all exact id rfl) | exact Nat.le_of_ble_eq_true rfl | fail) only [Env.put_some, Env.put_none, Env.set_app, Nat.reduceEqDiff, ↓reduceIte, Bool.not_true, Bool.not_false]; done)) | (refine xo_u ?_ ?_; focus (simp (disch := first | assumption | omega | (with_unfolding_all exact id rfl) | exact Nat.le_of_ble_eq_true rfl | fail) only [Env.put_some, Env.put_none, Env.set_app, Nat.reduceEqDiff, ↓reduceIte, Bool.not_true, Bool.not_false]; done)))
  refine xo_nil ?_
  refine hK _ _ ?_
  clear hK K
  refine X_seq fun K hK => ?_
  (try simp only [X_reg, thenX_normal])
  repeat (first | (refine xo (by simp (disch := first | assumption | omega | (with_unfolding_all exact id rfl) | exact Nat.le_of_ble_eq_true rfl | fail) only [Bool.not_true, Bool.not_false, vR_ok, uR_ok, ev_tmp, ev_const, ev_func, Env.put_some, Env.put_none, Env.set_app, Nat.reduceEqDiff, ↓reduceIte, rG_move, rG_assign, opt1_some, ext_all, dec_t, dec_f, beq_t, beq_f, bne_t, bne_f, wrap_i64, wrap_u64, Int.toNat_natCast, Nat.mul_one, Nat.zero_add, Nat.add_zero, List.map_toArray, List.map_cons, List.map_nil, resM_1, call155, rG_fieldAddr, fa174_0, rG_load, ld3, List.getElem?_toArray, List.getElem?_cons_zero, List.getElem?_cons_succ, ld1_some, rd1_cells, ld189, ldN_some, rdN_cells, rG_binOp, binR_add, rG_len, ln172, binR_gtr, rG_build, rG_store, st191, stN_1, stN_2, stN_3, stN_4, stN_5, stN_6, stN_7, stN_8, vcs_int, vcs_bool, vcs_ptr, vcs_slice, vcs_map, vcs_nil, vcs_iface, vcs_aggL, List.length_cons, List.length_nil, Nat.reduceAdd, rG_indexAddr, ia172, rG_nilCheck, nilR_ptr, rG_alloc_189, Value.cells, ld172, fa174_1, ld4, call159, fa191_2, binR_mul, st3, st189, h1, h2, bd_pair] <;> rfl) ?_; first | with_reducible refine kv ?_ | with_reducible refine ks ?_ | with_reducible refine ke ?_) | (refine xo_t ?_ ?_; focus (simp (disch := first | assumption | omega | (with_unfolding_all exact id rfl) | exact Nat.le_of_ble_eq_true rfl | fail) only [Env.put_some, Env.put_none, Env.set_app, Nat.reduceEqDiff, ↓reduceIte, Bool.not_true, Bool.not_false, h1, h2, bd_pair]; done)) | (refine xo_f ?_ ?_; focus (simp (disch := first | assumption | omega | (with_unfolding_all exact id rfl) | exact Nat.le_of_ble_eq_true rfl | fail) only [Env.put_some, Env.put_none, Env.set_app, Nat.reduceEqDiff, ↓reduceIte, Bool.not_true, Bool.not_false, h1, h2, bd_pair]; done)) | (refine xo_u ?_ ?_; focus (simp (disch := first | assumption | omega | (with_unfolding_all exact id rfl) | exact Nat.le_of_ble_eq_true rfl | fail) only [Env.put_some, Env.put_none, Env.set_app, Nat.reduceEqDiff, ↓reduceIte, Bool.not_true, Bool.not_false, h1, h2, bd_pair]; done)))
  refine xo (rG_store_new (w := w) (cs := #[.int .i64 0, .int .i64 0]) (E := 189) (v := .agg #[.int .i64 lo, .int .i64 hi]) (TI.mk' (sz := 2) (by_ := 16) (z := Value.agg #[Value.int IntKind.i64 0, Value.int IntKind.i64 0]) Try.underlying189 (by kernel_rfl)) (by simp (disch := first | assumption | omega) only [ev_tmp, ev_const, Env.put_some, Env.put_none, Env.set_app, Nat.reduceEqDiff, ↓reduceIte]) (by simp (disch := first | assumption | omega) only [ev_tmp, ev_const, Env.put_some, Env.put_none, Env.set_app, Nat.reduceEqDiff, ↓reduceIte]) rfl rfl rfl) ?_
  refine ks ?_
  (try refine xo_nil ?_)
  refine hK _ _ ?_
  clear hK K
  have hE1 := (Ext.refl w).alloc (.cells ((Value.agg #[.int .i64 lo, .int .i64 hi]).cells) 189)
  have hk1 : (w.alloc (.cells ((Value.agg #[.int .i64 lo, .int .i64 hi]).cells) 189)).heap[w.heap.size]? = some (.cells #[.int .i64 lo, .int .i64 hi] 189) := alloc_new
  obtain ⟨nb, hnb⟩ : ∃ nb, w.heap.size = nb := ⟨_, rfl⟩
  rw [hnb] at hk1 ⊢
  generalize w.alloc (.cells ((Value.agg #[.int .i64 lo, .int .i64 hi]).cells) 189) = w1 at hE1 hk1 ⊢
  have hU1 := h.ext hE1
  have hks : (#[.int .i64 lo, .int .i64 hi] : Array Value).extract 0 (0 + 2) = #[.int .i64 lo, .int .i64 hi] := rfl
  have hk2 : 0 + 2 ≤ (#[.int .i64 lo, .int .i64 hi] : Array Value).size := Nat.le_refl 2
  have hp1 : ∀ u, Ext w1 u → u.heap[p]? = some (.cells #[.slice (some ⟨g, 0, none⟩) T.length T.length, .int .i64 many] 174) := fun u hu => hu.at hU1.at_
  have hs1 : ∀ u, Ext w1 u → u.heap[g]? = some (.cells (tbL T).toArray 191) := fun u hu => hu.at hU1.sl
  have hkk : ∀ u, Ext w1 u → u.heap[nb]? = some (.cells #[.int .i64 lo, .int .i64 hi] 189) := fun u hu => hu.at hk1
  refine X_seq fun K hK => ?_
  refine X_seq fun K hK => ?_
  simp only [X_draw, thenX_normal]
  refine XD_ext ?_
  repeat (first | (refine xe0 (fun w => (by simp (disch := first | assumption | omega | (with_unfolding_all exact id rfl) | exact Nat.le_of_ble_eq_true rfl | fail) only [Bool.not_true, Bool.not_false, vR_ok, uR_ok, ev_tmp, ev_const, ev_func, Env.put_some, Env.put_none, Env.set_app, Nat.reduceEqDiff, ↓reduceIte, rG_move, rG_assign, opt1_some, ext_all, dec_t, dec_f, beq_t, beq_f, bne_t, bne_f, wrap_i64, wrap_u64, Int.toNat_natCast, Nat.mul_one, Nat.zero_add, Nat.add_zero, List.map_toArray, List.map_cons, List.map_nil, resM_1, call155, rG_fieldAddr, fa174_0, rG_load, ld3, List.getElem?_toArray, List.getElem?_cons_zero, List.getElem?_cons_succ, ld1_some, rd1_cells, ld189, ldN_some, rdN_cells, rG_binOp, binR_add, rG_len, ln172, binR_gtr, rG_build, rG_store, st191, stN_1, stN_2, stN_3, stN_4, stN_5, stN_6, stN_7, stN_8, vcs_int, vcs_bool, vcs_ptr, vcs_slice, vcs_map, vcs_nil, vcs_iface, vcs_aggL, List.length_cons, List.length_nil, Nat.reduceAdd, rG_indexAddr, ia172, rG_nilCheck, nilR_ptr, rG_alloc_189, Value.cells, ld172, fa174_1, ld4, call159, fa191_2, binR_mul, st3, st189, h0, hp1, hkk, hks] <;> rfl)) ?_) | (refine xe1e (fun w' hw => (by simp (disch := first | assumption | omega | (with_unfolding_all exact id rfl) | exact Nat.le_of_ble_eq_true rfl | fail) only [Bool.not_true, Bool.not_false, vR_ok, uR_ok, ev_tmp, ev_const, ev_func, Env.put_some, Env.put_none, Env.set_app, Nat.reduceEqDiff, ↓reduceIte, rG_move, rG_assign, opt1_some, ext_all, dec_t, dec_f, beq_t, beq_f, bne_t, bne_f, wrap_i64, wrap_u64, Int.toNat_natCast, Nat.mul_one, Nat.zero_add, Nat.add_zero, List.map_toArray, List.map_cons, List.map_nil, resM_1, call155, rG_fieldAddr, fa174_0, rG_load, ld3, List.getElem?_toArray, List.getElem?_cons_zero, List.getElem?_cons_succ, ld1_some, rd1_cells, ld189, ldN_some, rdN_cells, rG_binOp, binR_add, rG_len, ln172, binR_gtr, rG_build, rG_store, st191, stN_1, stN_2, stN_3, stN_4, stN_5, stN_6, stN_7, stN_8, vcs_int, vcs_bool, vcs_ptr, vcs_slice, vcs_map, vcs_nil, vcs_iface, vcs_aggL, List.length_cons, List.length_nil, Nat.reduceAdd, rG_indexAddr, ia172, rG_nilCheck, nilR_ptr, rG_alloc_189, Value.cells, ld172, fa174_1, ld4, call159, fa191_2, binR_mul, st3, st189, h0, hp1, hkk, hks] <;> rfl)) ?_) | (refine xe2x (by simp (disch := first | assumption | omega | (with_unfolding_all exact id rfl) | exact Nat.le_of_ble_eq_true rfl | fail) only [Bool.not_true, Bool.not_false, vR_ok, uR_ok, ev_tmp, ev_const, ev_func, Env.put_some, Env.put_none, Env.set_app, Nat.reduceEqDiff, ↓reduceIte, rG_move, rG_assign, opt1_some, ext_all, dec_t, dec_f, beq_t, beq_f, bne_t, bne_f, wrap_i64, wrap_u64, Int.toNat_natCast, Nat.mul_one, Nat.zero_add, Nat.add_zero, List.map_toArray, List.map_cons, List.map_nil, resM_1, call155, rG_fieldAddr, fa174_0, rG_load, ld3, List.getElem?_toArray, List.getElem?_cons_zero, List.getElem?_cons_succ, ld1_some, rd1_cells, ld189, ldN_some, rdN_cells, rG_binOp, binR_add, rG_len, ln172, binR_gtr, rG_build, rG_store, st191, stN_1, stN_2, stN_3, stN_4, stN_5, stN_6, stN_7, stN_8, vcs_int, vcs_bool, vcs_ptr, vcs_slice, vcs_map, vcs_nil, vcs_iface, vcs_aggL, List.length_cons, List.length_nil, Nat.reduceAdd, rG_indexAddr, ia172, rG_nilCheck, nilR_ptr, rG_alloc_189, Value.cells, ld172, fa174_1, ld4, call159, fa191_2, binR_mul, st3, st189, h0, hp1, hkk, hks] <;> rfl) ?_; (first | with_reducible refine kv ?_ | with_reducible refine ks ?_ | with_reducible refine ke ?_)) | (refine xe0_t ?_ ?_; focus (simp (disch := first | assumption | omega | (with_unfolding_all exact id rfl) | exact Nat.le_of_ble_eq_true rfl | fail) only [Env.put_some, Env.put_none, Env.set_app, Nat.reduceEqDiff, ↓reduceIte, Bool.not_true, Bool.not_false, h0, hp1, hkk, hks]; done)) | (refine xe1_t ?_ ?_; focus (simp (disch := first | assumption | omega | (with_unfolding_all exact id rfl) | exact Nat.le_of_ble_eq_true rfl | fail) only [Env.put_some, Env.put_none, Env.set_app, Nat.reduceEqDiff, ↓reduceIte, Bool.not_true, Bool.not_false, h0, hp1, hkk, hks]; done)) | (refine xe0_f ?_ ?_; focus (simp (disch := first | assumption | omega | (with_unfolding_all exact id rfl) | exact Nat.le_of_ble_eq_true rfl | fail) only [Env.put_some, Env.put_none, Env.set_app, Nat.reduceEqDiff, ↓reduceIte, Bool.not_true, Bool.not_false, h0, hp1, hkk, hks]; done)) | (refine xe1_f ?_ ?_; focus (simp (disch := first | assumption | omega | (with_unfolding_all exact id rfl) | exact Nat.le_of_ble_eq_true rfl | fail) only [Env.put_some, Env.put_none, Env.set_app, Nat.reduceEqDiff, ↓reduceIte, Bool.not_true, Bool.not_false, h0, hp1, hkk, hks]; done)) | (refine xe0_u ?_ ?_; focus (simp (disch := first | assumption | omega | (with_unfolding_all exact id rfl) | exact Nat.le_of_ble_eq_true rfl | fail) only [Env.put_some, Env.put_none, Env.set_app, Nat.reduceEqDiff, ↓reduceIte, Bool.not_true, Bool.not_false, h0, hp1, hkk, hks]; done)) | (refine xe1_u ?_ ?_; focus (simp (disch := first | assumption | omega | (with_unfolding_all exact id rfl) | exact Nat.le_of_ble_eq_true rfl | fail) only [Env.put_some, Env.put_none, Env.set_app, Nat.reduceEqDiff, ↓reduceIte, Bool.not_true, Bool.not_false, h0, hp1, hkk, hks]; done)))
  refine xe1c (fun w' hw => (by simp (disch := first | assumption | omega | (with_unfolding_all exact id rfl) | exact Nat.le_of_ble_eq_true rfl | fail) only [Bool.not_true, Bool.not_false, vR_ok, uR_ok, ev_tmp, ev_const, ev_func, Env.put_some, Env.put_none, Env.set_app, Nat.reduceEqDiff, ↓reduceIte, rG_move, rG_assign, opt1_some, ext_all, dec_t, dec_f, beq_t, beq_f, bne_t, bne_f, wrap_i64, wrap_u64, Int.toNat_natCast, Nat.mul_one, Nat.zero_add, Nat.add_zero, List.map_toArray, List.map_cons, List.map_nil, resM_1, call155, rG_fieldAddr, fa174_0, rG_load, ld3, List.getElem?_toArray, List.getElem?_cons_zero, List.getElem?_cons_succ, ld1_some, rd1_cells, ld189, ldN_some, rdN_cells, rG_binOp, binR_add, rG_len, ln172, binR_gtr, rG_build, rG_store, st191, stN_1, stN_2, stN_3, stN_4, stN_5, stN_6, stN_7, stN_8, vcs_int, vcs_bool, vcs_ptr, vcs_slice, vcs_map, vcs_nil, vcs_iface, vcs_aggL, List.length_cons, List.length_nil, Nat.reduceAdd, rG_indexAddr, ia172, rG_nilCheck, nilR_ptr, rG_alloc_189, Value.cells, ld172, fa174_1, ld4, call159, fa191_2, binR_mul, st3, st189, h0] <;> rfl)) (fun w' hw => ufind_calls (hU1.ext hw) hf) ?_
  repeat (first | (refine xe0 (fun w => (by simp (disch := first | assumption | omega | (with_unfolding_all exact id rfl) | exact Nat.le_of_ble_eq_true rfl | fail) only [Bool.not_true, Bool.not_false, vR_ok, uR_ok, ev_tmp, ev_const, ev_func, Env.put_some, Env.put_none, Env.set_app, Nat.reduceEqDiff, ↓reduceIte, rG_move, rG_assign, opt1_some, ext_all, dec_t, dec_f, beq_t, beq_f, bne_t, bne_f, wrap_i64, wrap_u64, Int.toNat_natCast, Nat.mul_one, Nat.zero_add, Nat.add_zero, List.map_toArray, List.map_cons, List.map_nil, resM_1, call155, rG_fieldAddr, fa174_0, rG_load, ld3, List.getElem?_toArray, List.getElem?_cons_zero, List.getElem?_cons_succ, ld1_some, rd1_cells, ld189, ldN_some, rdN_cells, rG_binOp, binR_add, rG_len, ln172, binR_gtr, rG_build, rG_store, st191, stN_1, stN_2, stN_3, stN_4, stN_5, stN_6, stN_7, stN_8, vcs_int, vcs_bool, vcs_ptr, vcs_slice, vcs_map, vcs_nil, vcs_iface, vcs_aggL, List.length_cons, List.length_nil, Nat.reduceAdd, rG_indexAddr, ia172, rG_nilCheck, nilR_ptr, rG_alloc_189, Value.cells, ld172, fa174_1, ld4, call159, fa191_2, binR_mul, st3, st189, h0, hs1, hin] <;> rfl)) ?_) | (refine xe1e (fun w' hw => (by simp (disch := first | assumption | omega | (with_unfolding_all exact id rfl) | exact Nat.le_of_ble_eq_true rfl | fail) only [Bool.not_true, Bool.not_false, vR_ok, uR_ok, ev_tmp, ev_const, ev_func, Env.put_some, Env.put_none, Env.set_app, Nat.reduceEqDiff, ↓reduceIte, rG_move, rG_assign, opt1_some, ext_all, dec_t, dec_f, beq_t, beq_f, bne_t, bne_f, wrap_i64, wrap_u64, Int.toNat_natCast, Nat.mul_one, Nat.zero_add, Nat.add_zero, List.map_toArray, List.map_cons, List.map_nil, resM_1, call155, rG_fieldAddr, fa174_0, rG_load, ld3, List.getElem?_toArray, List.getElem?_cons_zero, List.getElem?_cons_succ, ld1_some, rd1_cells, ld189, ldN_some, rdN_cells, rG_binOp, binR_add, rG_len, ln172, binR_gtr, rG_build, rG_store, st191, stN_1, stN_2, stN_3, stN_4, stN_5, stN_6, stN_7, stN_8, vcs_int, vcs_bool, vcs_ptr, vcs_slice, vcs_map, vcs_nil, vcs_iface, vcs_aggL, List.length_cons, List.length_nil, Nat.reduceAdd, rG_indexAddr, ia172, rG_nilCheck, nilR_ptr, rG_alloc_189, Value.cells, ld172, fa174_1, ld4, call159, fa191_2, binR_mul, st3, st189, h0, hs1, hin] <;> rfl)) ?_) | (refine xe2x (by simp (disch := first | assumption | omega | (with_unfolding_all exact id rfl) | exact Nat.le_of_ble_eq_true rfl | fail) only [Bool.not_true, Bool.not_false, vR_ok, uR_ok, ev_tmp, ev_const, ev_func, Env.put_some, Env.put_none, Env.set_app, Nat.reduceEqDiff, ↓reduceIte, rG_move, rG_assign, opt1_some, ext_all, dec_t, dec_f, beq_t, beq_f, bne_t, bne_f, wrap_i64, wrap_u64, Int.toNat_natCast, Nat.mul_one, Nat.zero_add, Nat.add_zero, List.map_toArray, List.map_cons, List.map_nil, resM_1, call155, rG_fieldAddr, fa174_0, rG_load, ld3, List.getElem?_toArray, List.getElem?_cons_zero, List.getElem?_cons_succ, ld1_some, rd1_cells, ld189, ldN_some, rdN_cells, rG_binOp, binR_add, rG_len, ln172, binR_gtr, rG_build, rG_store, st191, stN_1, stN_2, stN_3, stN_4, stN_5, stN_6, stN_7, stN_8, vcs_int, vcs_bool, vcs_ptr, vcs_slice, vcs_map, vcs_nil, vcs_iface, vcs_aggL, List.length_cons, List.length_nil, Nat.reduceAdd, rG_indexAddr, ia172, rG_nilCheck, nilR_ptr, rG_alloc_189, Value.cells, ld172, fa174_1, ld4, call159, fa191_2, binR_mul, st3, st189, h0, hs1, hin] <;> rfl) ?_; (first | with_reducible refine kv ?_ | with_reducible refine ks ?_ | with_reducible refine ke ?_)) | (refine xe0_t ?_ ?_; focus (simp (disch := first | assumption | omega | (with_unfolding_all exact id rfl) | exact Nat.le_of_ble_eq_true rfl | fail) only [Env.put_some, Env.put_none, Env.set_app, Nat.reduceEqDiff, ↓reduceIte, Bool.not_true, Bool.not_false, h0, hs1, hin]; done)) | (refine xe1_t ?_ ?_; focus (simp (disch := first | assumption | omega | (with_unfolding_all exact id rfl) | exact Nat.le_of_ble_eq_true rfl | fail) only [Env.put_some, Env.put_none, Env.set_app, Nat.reduceEqDiff, ↓reduceIte, Bool.not_true, Bool.not_false, h0, hs1, hin]; done)) | (refine xe0_f ?_ ?_; focus (simp (disch := first | assumption | omega | (with_unfolding_all exact id rfl) | exact Nat.le_of_ble_eq_true rfl | fail) only [Env.put_some, Env.put_none, Env.set_app, Nat.reduceEqDiff, ↓reduceIte, Bool.not_true, Bool.not_false, h0, hs1, hin]; done)) | (refine xe1_f ?_ ?_; focus (simp (disch := first | assumption | omega | (with_unfolding_all exact id rfl) | exact Nat.le_of_ble_eq_true rfl | fail) only [Env.put_some, Env.put_none, Env.set_app, Nat.reduceEqDiff, ↓reduceIte, Bool.not_true, Bool.not_false, h0, hs1, hin]; done)) | (refine xe0_u ?_ ?_; focus (simp (disch := first | assumption | omega | (with_unfolding_all exact id rfl) | exact Nat.le_of_ble_eq_true rfl | fail) only [Env.put_some, Env.put_none, Env.set_app, Nat.reduceEqDiff, ↓reduceIte, Bool.not_true, Bool.not_false, h0, hs1, hin]; done)) | (refine xe1_u ?_ ?_; focus (simp (disch := first | assumption | omega | (with_unfolding_all exact id rfl) | exact Nat.le_of_ble_eq_true rfl | fail) only [Env.put_some, Env.put_none, Env.set_app, Nat.reduceEqDiff, ↓reduceIte, Bool.not_true, Bool.not_false, h0, hs1, hin]; done)))
  refine xe_nil fun w2 hE2 => ?_
  (try refine xo_nil ?_)
  refine hK _ _ ?_
  clear hK K
  have hU2 := hU1.ext hE2
  have hk2' := hE2.at hk1
  have hEE := hE1.trans hE2
  clear hp1 hs1 hkk
  rcases finds_mem' I.inv hf with ⟨hnone, hno⟩ | ⟨v, hv⟩
  · rw [hnone] at hin ⊢
    have hb2 := hU2.at_
    refine X_if_f (by simp (disch := first | assumption | omega) only [ev_tmp, Env.put_some, Env.put_none, Env.set_app, Nat.reduceEqDiff, ↓reduceIte, beq_f, dec_f, Option.isSome_none]) ?_
    simp only [X_skip, X_exit, X_ret, X_block, thenX_normal, thenX_ret, thenX_exit, inX_normal, inX_ret, inX_exit, ↓reduceIte, Nat.reduceEqDiff]
    (try refine xo_nil ?_)
    refine hK _ _ ?_
    clear hK K
    have hsz2 : (#[.slice (some ⟨g, 0, none⟩) T.length T.length, .int .i64 many] : Array Value).size = 2 := rfl
    refine X_seq fun K hK => ?_
    simp only [X_reg, thenX_normal]
    repeat (first | (refine xo (by simp (disch := first | assumption | omega | (with_unfolding_all exact id rfl) | exact Nat.le_of_ble_eq_true rfl | fail) only [Bool.not_true, Bool.not_false, vR_ok, uR_ok, ev_tmp, ev_const, ev_func, Env.put_some, Env.put_none, Env.set_app, Nat.reduceEqDiff, ↓reduceIte, rG_move, rG_assign, opt1_some, ext_all, dec_t, dec_f, beq_t, beq_f, bne_t, bne_f, wrap_i64, wrap_u64, Int.toNat_natCast, Nat.mul_one, Nat.zero_add, Nat.add_zero, List.map_toArray, List.map_cons, List.map_nil, resM_1, call155, rG_fieldAddr, fa174_0, rG_load, ld3, List.getElem?_toArray, List.getElem?_cons_zero, List.getElem?_cons_succ, ld1_some, rd1_cells, ld189, ldN_some, rdN_cells, rG_binOp, binR_add, rG_len, ln172, binR_gtr, rG_build, rG_store, st191, stN_1, stN_2, stN_3, stN_4, stN_5, stN_6, stN_7, stN_8, vcs_int, vcs_bool, vcs_ptr, vcs_slice, vcs_map, vcs_nil, vcs_iface, vcs_aggL, List.length_cons, List.length_nil, Nat.reduceAdd, rG_indexAddr, ia172, rG_nilCheck, nilR_ptr, rG_alloc_189, Value.cells, ld172, fa174_1, ld4, call159, fa191_2, binR_mul, st3, st189, h0, hb2, List.setIfInBounds_toArray, List.set_cons_zero, List.set_cons_succ] <;> rfl) ?_; first | with_reducible refine kv ?_ | with_reducible refine ks ?_ | with_reducible refine ke ?_) | (refine xo_t ?_ ?_; focus (simp (disch := first | assumption | omega | (with_unfolding_all exact id rfl) | exact Nat.le_of_ble_eq_true rfl | fail) only [Env.put_some, Env.put_none, Env.set_app, Nat.reduceEqDiff, ↓reduceIte, Bool.not_true, Bool.not_false, h0, hb2, List.setIfInBounds_toArray, List.set_cons_zero, List.set_cons_succ]; done)) | (refine xo_f ?_ ?_; focus (simp (disch := first | assumption | omega | (with_unfolding_all exact id rfl) | exact Nat.le_of_ble_eq_true rfl | fail) only [Env.put_some, Env.put_none, Env.set_app, Nat.reduceEqDiff, ↓reduceIte, Bool.not_true, Bool.not_false, h0, hb2, List.setIfInBounds_toArray, List.set_cons_zero, List.set_cons_succ]; done)) | (refine xo_u ?_ ?_; focus (simp (disch := first | assumption | omega | (with_unfolding_all exact id rfl) | exact Nat.le_of_ble_eq_true rfl | fail) only [Env.put_some, Env.put_none, Env.set_app, Nat.reduceEqDiff, ↓reduceIte, Bool.not_true, Bool.not_false, h0, hb2, List.setIfInBounds_toArray, List.set_cons_zero, List.set_cons_succ]; done)))
    refine xo_nil ?_
    refine hK _ _ ?_
    clear hK K
    have hU3 := hU2.setm (m := many + 1)
    have hk3 : (upd w2 p (.cells #[.slice (some ⟨g, 0, none⟩) T.length T.length, .int .i64 (many + 1)] 174)).heap[nb]? = some (.cells #[.int .i64 lo, .int .i64 hi] 189) := by rw [upd_other (by omega)]; exact hk2'
    have hC3 : Chg (fun x => x = p) w (upd w2 p (.cells #[.slice (some ⟨g, 0, none⟩) T.length T.length, .int .i64 (many + 1)] 174)) := (hEE.chg (fun x => x = p)).upd (fun _ => rfl) _
    generalize upd w2 p (.cells #[.slice (some ⟨g, 0, none⟩) T.length T.length, .int .i64 (many + 1)] 174) = w3 at hU3 hk3 hC3 ⊢
    have hb3 := hU3.at_
    refine X_cut (fun e w' => e 0 = .pointer (some ⟨p, 0, none⟩) ∧ e 3 = .int .i64 n ∧ e 9 = .pointer (some ⟨nb, 0, none⟩) ∧ ∃ g' T', UqI w' p g' (many + 1) T' ∧ TbInv homeN T' ∧ (∀ k v, MemT T' k v ↔ MemT T k v) ∧ cntT T' = many ∧ Chg (fun x => x = p) w w' ∧ (g' = g ∨ w.heap.size ≤ g') ∧ T'.length = (if 2 * (many + 1) > T.length then 2 * T.length else T.length) ∧ w'.heap[nb]? = some (.cells #[.int .i64 lo, .int .i64 hi] 189)) ?_ ?_
    · by_cases hg : (T.length : Int) < 2 * (many + 1)
      · refine X_seq fun K hK => ?_
        simp only [X_draw, thenX_normal]
        refine XD_dr ?_
        repeat (first | (refine xe0 (fun w => (by simp (disch := first | assumption | omega | (with_unfolding_all exact id rfl) | exact Nat.le_of_ble_eq_true rfl | fail) only [Bool.not_true, Bool.not_false, vR_ok, uR_ok, ev_tmp, ev_const, ev_func, Env.put_some, Env.put_none, Env.set_app, Nat.reduceEqDiff, ↓reduceIte, rG_move, rG_assign, opt1_some, ext_all, dec_t, dec_f, beq_t, beq_f, bne_t, bne_f, wrap_i64, wrap_u64, Int.toNat_natCast, Nat.mul_one, Nat.zero_add, Nat.add_zero, List.map_toArray, List.map_cons, List.map_nil, resM_1, call155, rG_fieldAddr, fa174_0, rG_load, ld3, List.getElem?_toArray, List.getElem?_cons_zero, List.getElem?_cons_succ, ld1_some, rd1_cells, ld189, ldN_some, rdN_cells, rG_binOp, binR_add, rG_len, ln172, binR_gtr, rG_build, rG_store, st191, stN_1, stN_2, stN_3, stN_4, stN_5, stN_6, stN_7, stN_8, vcs_int, vcs_bool, vcs_ptr, vcs_slice, vcs_map, vcs_nil, vcs_iface, vcs_aggL, List.length_cons, List.length_nil, Nat.reduceAdd, rG_indexAddr, ia172, rG_nilCheck, nilR_ptr, rG_alloc_189, Value.cells, ld172, fa174_1, ld4, call159, fa191_2, binR_mul, st3, st189, h0, hb3] <;> rfl)) ?_) | (refine xe1 (fun i => (by simp (disch := first | assumption | omega | (with_unfolding_all exact id rfl) | exact Nat.le_of_ble_eq_true rfl | fail) only [Bool.not_true, Bool.not_false, vR_ok, uR_ok, ev_tmp, ev_const, ev_func, Env.put_some, Env.put_none, Env.set_app, Nat.reduceEqDiff, ↓reduceIte, rG_move, rG_assign, opt1_some, ext_all, dec_t, dec_f, beq_t, beq_f, bne_t, bne_f, wrap_i64, wrap_u64, Int.toNat_natCast, Nat.mul_one, Nat.zero_add, Nat.add_zero, List.map_toArray, List.map_cons, List.map_nil, resM_1, call155, rG_fieldAddr, fa174_0, rG_load, ld3, List.getElem?_toArray, List.getElem?_cons_zero, List.getElem?_cons_succ, ld1_some, rd1_cells, ld189, ldN_some, rdN_cells, rG_binOp, binR_add, rG_len, ln172, binR_gtr, rG_build, rG_store, st191, stN_1, stN_2, stN_3, stN_4, stN_5, stN_6, stN_7, stN_8, vcs_int, vcs_bool, vcs_ptr, vcs_slice, vcs_map, vcs_nil, vcs_iface, vcs_aggL, List.length_cons, List.length_nil, Nat.reduceAdd, rG_indexAddr, ia172, rG_nilCheck, nilR_ptr, rG_alloc_189, Value.cells, ld172, fa174_1, ld4, call159, fa191_2, binR_mul, st3, st189, dr_heap, h0, hb3] <;> rfl)) ?_) | (refine xe2x (by simp (disch := first | assumption | omega | (with_unfolding_all exact id rfl) | exact Nat.le_of_ble_eq_true rfl | fail) only [Bool.not_true, Bool.not_false, vR_ok, uR_ok, ev_tmp, ev_const, ev_func, Env.put_some, Env.put_none, Env.set_app, Nat.reduceEqDiff, ↓reduceIte, rG_move, rG_assign, opt1_some, ext_all, dec_t, dec_f, beq_t, beq_f, bne_t, bne_f, wrap_i64, wrap_u64, Int.toNat_natCast, Nat.mul_one, Nat.zero_add, Nat.add_zero, List.map_toArray, List.map_cons, List.map_nil, resM_1, call155, rG_fieldAddr, fa174_0, rG_load, ld3, List.getElem?_toArray, List.getElem?_cons_zero, List.getElem?_cons_succ, ld1_some, rd1_cells, ld189, ldN_some, rdN_cells, rG_binOp, binR_add, rG_len, ln172, binR_gtr, rG_build, rG_store, st191, stN_1, stN_2, stN_3, stN_4, stN_5, stN_6, stN_7, stN_8, vcs_int, vcs_bool, vcs_ptr, vcs_slice, vcs_map, vcs_nil, vcs_iface, vcs_aggL, List.length_cons, List.length_nil, Nat.reduceAdd, rG_indexAddr, ia172, rG_nilCheck, nilR_ptr, rG_alloc_189, Value.cells, ld172, fa174_1, ld4, call159, fa191_2, binR_mul, st3, st189, h0, hb3] <;> rfl) ?_; (first | with_reducible refine kv ?_ | with_reducible refine ks ?_ | with_reducible refine ke ?_)) | (refine xe0_t ?_ ?_; focus (simp (disch := first | assumption | omega | (with_unfolding_all exact id rfl) | exact Nat.le_of_ble_eq_true rfl | fail) only [Env.put_some, Env.put_none, Env.set_app, Nat.reduceEqDiff, ↓reduceIte, Bool.not_true, Bool.not_false, h0, hb3]; done)) | (refine xe1_t ?_ ?_; focus (simp (disch := first | assumption | omega | (with_unfolding_all exact id rfl) | exact Nat.le_of_ble_eq_true rfl | fail) only [Env.put_some, Env.put_none, Env.set_app, Nat.reduceEqDiff, ↓reduceIte, Bool.not_true, Bool.not_false, h0, hb3]; done)) | (refine xe0_f ?_ ?_; focus (simp (disch := first | assumption | omega | (with_unfolding_all exact id rfl) | exact Nat.le_of_ble_eq_true rfl | fail) only [Env.put_some, Env.put_none, Env.set_app, Nat.reduceEqDiff, ↓reduceIte, Bool.not_true, Bool.not_false, h0, hb3]; done)) | (refine xe1_f ?_ ?_; focus (simp (disch := first | assumption | omega | (with_unfolding_all exact id rfl) | exact Nat.le_of_ble_eq_true rfl | fail) only [Env.put_some, Env.put_none, Env.set_app, Nat.reduceEqDiff, ↓reduceIte, Bool.not_true, Bool.not_false, h0, hb3]; done)) | (refine xe0_u ?_ ?_; focus (simp (disch := first | assumption | omega | (with_unfolding_all exact id rfl) | exact Nat.le_of_ble_eq_true rfl | fail) only [Env.put_some, Env.put_none, Env.set_app, Nat.reduceEqDiff, ↓reduceIte, Bool.not_true, Bool.not_false, h0, hb3]; done)) | (refine xe1_u ?_ ?_; focus (simp (disch := first | assumption | omega | (with_unfolding_all exact id rfl) | exact Nat.le_of_ble_eq_true rfl | fail) only [Env.put_some, Env.put_none, Env.set_app, Nat.reduceEqDiff, ↓reduceIte, Bool.not_true, Bool.not_false, h0, hb3]; done)))
        refine xe_nil ?_
        rintro w4 ⟨dd, rfl⟩
        (try refine xo_nil ?_)
        refine hK _ _ ?_
        clear hK K
        refine X_if_t (by simp (disch := first | assumption | omega) only [ev_tmp, Env.put_some, Env.put_none, Env.set_app, Nat.reduceEqDiff, ↓reduceIte, beq_t, dec_t, beq_self_eq_true]) ?_
        have hU4 := hU3.ext ((Ext.refl w3).dr dd)
        (try simp only [X_reg, thenX_normal])
        repeat (first | (refine xo (by simp (disch := first | assumption | omega | (with_unfolding_all exact id rfl) | exact Nat.le_of_ble_eq_true rfl | fail) only [Bool.not_true, Bool.not_false, vR_ok, uR_ok, ev_tmp, ev_const, ev_func, Env.put_some, Env.put_none, Env.set_app, Nat.reduceEqDiff, ↓reduceIte, rG_move, rG_assign, opt1_some, ext_all, dec_t, dec_f, beq_t, beq_f, bne_t, bne_f, wrap_i64, wrap_u64, Int.toNat_natCast, Nat.mul_one, Nat.zero_add, Nat.add_zero, List.map_toArray, List.map_cons, List.map_nil, resM_1, call155, rG_fieldAddr, fa174_0, rG_load, ld3, List.getElem?_toArray, List.getElem?_cons_zero, List.getElem?_cons_succ, ld1_some, rd1_cells, ld189, ldN_some, rdN_cells, rG_binOp, binR_add, rG_len, ln172, binR_gtr, rG_build, rG_store, st191, stN_1, stN_2, stN_3, stN_4, stN_5, stN_6, stN_7, stN_8, vcs_int, vcs_bool, vcs_ptr, vcs_slice, vcs_map, vcs_nil, vcs_iface, vcs_aggL, List.length_cons, List.length_nil, Nat.reduceAdd, rG_indexAddr, ia172, rG_nilCheck, nilR_ptr, rG_alloc_189, Value.cells, ld172, fa174_1, ld4, call159, fa191_2, binR_mul, st3, st189, h0] <;> rfl) ?_; first | with_reducible refine kv ?_ | with_reducible refine ks ?_ | with_reducible refine ke ?_) | (refine xo_t ?_ ?_; focus (simp (disch := first | assumption | omega | (with_unfolding_all exact id rfl) | exact Nat.le_of_ble_eq_true rfl | fail) only [Env.put_some, Env.put_none, Env.set_app, Nat.reduceEqDiff, ↓reduceIte, Bool.not_true, Bool.not_false, h0]; done)) | (refine xo_f ?_ ?_; focus (simp (disch := first | assumption | omega | (with_unfolding_all exact id rfl) | exact Nat.le_of_ble_eq_true rfl | fail) only [Env.put_some, Env.put_none, Env.set_app, Nat.reduceEqDiff, ↓reduceIte, Bool.not_true, Bool.not_false, h0]; done)) | (refine xo_u ?_ ?_; focus (simp (disch := first | assumption | omega | (with_unfolding_all exact id rfl) | exact Nat.le_of_ble_eq_true rfl | fail) only [Env.put_some, Env.put_none, Env.set_app, Nat.reduceEqDiff, ↓reduceIte, Bool.not_true, Bool.not_false, h0]; done)))
        refine (ugrow_calls hU4 I.inv (by omega)).mono ?_
        rintro r w5 ⟨g', T', q1, q2, q3, q4, q5, q6, q7⟩
        refine xo_nil ?_
        have hk5 : w5.heap[nb]? = some (.cells #[.int .i64 lo, .int .i64 hi] 189) := at_chg (w := dr w3 dd) hk3 q6 (by omega)
        have hsz3 := hC3.size
        refine ⟨?_, ?_, ?_, g', T', q1, q3, q4, by rw [q5, I.cnt], (hC3.dr dd).trans q6 (fun _ _ h => h), .inr (Nat.le_trans hsz3 q7), by rw [if_pos hg, q2], hk5⟩
        · (try simp (disch := first | assumption | omega | (with_unfolding_all exact id rfl) | exact Nat.le_of_ble_eq_true rfl | fail) only [Env.put_some, Env.put_none, Env.set_app, Nat.reduceEqDiff, ↓reduceIte, nat_int, Int.toNat_natCast, wrap_i64, h0])
        · (try simp (disch := first | assumption | omega | (with_unfolding_all exact id rfl) | exact Nat.le_of_ble_eq_true rfl | fail) only [Env.put_some, Env.put_none, Env.set_app, Nat.reduceEqDiff, ↓reduceIte, nat_int, Int.toNat_natCast, wrap_i64, h3])
        · (try simp (disch := first | assumption | omega | (with_unfolding_all exact id rfl) | exact Nat.le_of_ble_eq_true rfl | fail) only [Env.put_some, Env.put_none, Env.set_app, Nat.reduceEqDiff, ↓reduceIte, nat_int, Int.toNat_natCast, wrap_i64])
      · refine X_seq fun K hK => ?_
        simp only [X_draw, thenX_normal]
        refine XD_dr ?_
        repeat (first | (refine xe0 (fun w => (by simp (disch := first | assumption | omega | (with_unfolding_all exact id rfl) | exact Nat.le_of_ble_eq_true rfl | fail) only [Bool.not_true, Bool.not_false, vR_ok, uR_ok, ev_tmp, ev_const, ev_func, Env.put_some, Env.put_none, Env.set_app, Nat.reduceEqDiff, ↓reduceIte, rG_move, rG_assign, opt1_some, ext_all, dec_t, dec_f, beq_t, beq_f, bne_t, bne_f, wrap_i64, wrap_u64, Int.toNat_natCast, Nat.mul_one, Nat.zero_add, Nat.add_zero, List.map_toArray, List.map_cons, List.map_nil, resM_1, call155, rG_fieldAddr, fa174_0, rG_load, ld3, List.getElem?_toArray, List.getElem?_cons_zero, List.getElem?_cons_succ, ld1_some, rd1_cells, ld189, ldN_some, rdN_cells, rG_binOp, binR_add, rG_len, ln172, binR_gtr, rG_build, rG_store, st191, stN_1, stN_2, stN_3, stN_4, stN_5, stN_6, stN_7, stN_8, vcs_int, vcs_bool, vcs_ptr, vcs_slice, vcs_map, vcs_nil, vcs_iface, vcs_aggL, List.length_cons, List.length_nil, Nat.reduceAdd, rG_indexAddr, ia172, rG_nilCheck, nilR_ptr, rG_alloc_189, Value.cells, ld172, fa174_1, ld4, call159, fa191_2, binR_mul, st3, st189, h0, hb3] <;> rfl)) ?_) | (refine xe1 (fun i => (by simp (disch := first | assumption | omega | (with_unfolding_all exact id rfl) | exact Nat.le_of_ble_eq_true rfl | fail) only [Bool.not_true, Bool.not_false, vR_ok, uR_ok, ev_tmp, ev_const, ev_func, Env.put_some, Env.put_none, Env.set_app, Nat.reduceEqDiff, ↓reduceIte, rG_move, rG_assign, opt1_some, ext_all, dec_t, dec_f, beq_t, beq_f, bne_t, bne_f, wrap_i64, wrap_u64, Int.toNat_natCast, Nat.mul_one, Nat.zero_add, Nat.add_zero, List.map_toArray, List.map_cons, List.map_nil, resM_1, call155, rG_fieldAddr, fa174_0, rG_load, ld3, List.getElem?_toArray, List.getElem?_cons_zero, List.getElem?_cons_succ, ld1_some, rd1_cells, ld189, ldN_some, rdN_cells, rG_binOp, binR_add, rG_len, ln172, binR_gtr, rG_build, rG_store, st191, stN_1, stN_2, stN_3, stN_4, stN_5, stN_6, stN_7, stN_8, vcs_int, vcs_bool, vcs_ptr, vcs_slice, vcs_map, vcs_nil, vcs_iface, vcs_aggL, List.length_cons, List.length_nil, Nat.reduceAdd, rG_indexAddr, ia172, rG_nilCheck, nilR_ptr, rG_alloc_189, Value.cells, ld172, fa174_1, ld4, call159, fa191_2, binR_mul, st3, st189, dr_heap, h0, hb3] <;> rfl)) ?_) | (refine xe2x (by simp (disch := first | assumption | omega | (with_unfolding_all exact id rfl) | exact Nat.le_of_ble_eq_true rfl | fail) only [Bool.not_true, Bool.not_false, vR_ok, uR_ok, ev_tmp, ev_const, ev_func, Env.put_some, Env.put_none, Env.set_app, Nat.reduceEqDiff, ↓reduceIte, rG_move, rG_assign, opt1_some, ext_all, dec_t, dec_f, beq_t, beq_f, bne_t, bne_f, wrap_i64, wrap_u64, Int.toNat_natCast, Nat.mul_one, Nat.zero_add, Nat.add_zero, List.map_toArray, List.map_cons, List.map_nil, resM_1, call155, rG_fieldAddr, fa174_0, rG_load, ld3, List.getElem?_toArray, List.getElem?_cons_zero, List.getElem?_cons_succ, ld1_some, rd1_cells, ld189, ldN_some, rdN_cells, rG_binOp, binR_add, rG_len, ln172, binR_gtr, rG_build, rG_store, st191, stN_1, stN_2, stN_3, stN_4, stN_5, stN_6, stN_7, stN_8, vcs_int, vcs_bool, vcs_ptr, vcs_slice, vcs_map, vcs_nil, vcs_iface, vcs_aggL, List.length_cons, List.length_nil, Nat.reduceAdd, rG_indexAddr, ia172, rG_nilCheck, nilR_ptr, rG_alloc_189, Value.cells, ld172, fa174_1, ld4, call159, fa191_2, binR_mul, st3, st189, h0, hb3] <;> rfl) ?_; (first | with_reducible refine kv ?_ | with_reducible refine ks ?_ | with_reducible refine ke ?_)) | (refine xe0_t ?_ ?_; focus (simp (disch := first | assumption | omega | (with_unfolding_all exact id rfl) | exact Nat.le_of_ble_eq_true rfl | fail) only [Env.put_some, Env.put_none, Env.set_app, Nat.reduceEqDiff, ↓reduceIte, Bool.not_true, Bool.not_false, h0, hb3]; done)) | (refine xe1_t ?_ ?_; focus (simp (disch := first | assumption | omega | (with_unfolding_all exact id rfl) | exact Nat.le_of_ble_eq_true rfl | fail) only [Env.put_some, Env.put_none, Env.set_app, Nat.reduceEqDiff, ↓reduceIte, Bool.not_true, Bool.not_false, h0, hb3]; done)) | (refine xe0_f ?_ ?_; focus (simp (disch := first | assumption | omega | (with_unfolding_all exact id rfl) | exact Nat.le_of_ble_eq_true rfl | fail) only [Env.put_some, Env.put_none, Env.set_app, Nat.reduceEqDiff, ↓reduceIte, Bool.not_true, Bool.not_false, h0, hb3]; done)) | (refine xe1_f ?_ ?_; focus (simp (disch := first | assumption | omega | (with_unfolding_all exact id rfl) | exact Nat.le_of_ble_eq_true rfl | fail) only [Env.put_some, Env.put_none, Env.set_app, Nat.reduceEqDiff, ↓reduceIte, Bool.not_true, Bool.not_false, h0, hb3]; done)) | (refine xe0_u ?_ ?_; focus (simp (disch := first | assumption | omega | (with_unfolding_all exact id rfl) | exact Nat.le_of_ble_eq_true rfl | fail) only [Env.put_some, Env.put_none, Env.set_app, Nat.reduceEqDiff, ↓reduceIte, Bool.not_true, Bool.not_false, h0, hb3]; done)) | (refine xe1_u ?_ ?_; focus (simp (disch := first | assumption | omega | (with_unfolding_all exact id rfl) | exact Nat.le_of_ble_eq_true rfl | fail) only [Env.put_some, Env.put_none, Env.set_app, Nat.reduceEqDiff, ↓reduceIte, Bool.not_true, Bool.not_false, h0, hb3]; done)))
        refine xe_nil ?_
        rintro w4 ⟨dd, rfl⟩
        (try refine xo_nil ?_)
        refine hK _ _ ?_
        clear hK K
        refine X_if_f (by simp (disch := first | assumption | omega) only [ev_tmp, Env.put_some, Env.put_none, Env.set_app, Nat.reduceEqDiff, ↓reduceIte, beq_f, dec_f]) ?_
        simp only [X_skip, X_exit, X_ret, X_block, thenX_normal, thenX_ret, thenX_exit, inX_normal, inX_ret, inX_exit, ↓reduceIte, Nat.reduceEqDiff]
        refine ⟨?_, ?_, ?_, g, T, hU3.ext ((Ext.refl w3).dr dd), I.inv, fun k v => Iff.rfl, I.cnt, hC3.dr dd, .inl rfl, by rw [if_neg hg], hk3⟩
        · (try simp (disch := first | assumption | omega | (with_unfolding_all exact id rfl) | exact Nat.le_of_ble_eq_true rfl | fail) only [Env.put_some, Env.put_none, Env.set_app, Nat.reduceEqDiff, ↓reduceIte, nat_int, Int.toNat_natCast, wrap_i64, h0])
        · (try simp (disch := first | assumption | omega | (with_unfolding_all exact id rfl) | exact Nat.le_of_ble_eq_true rfl | fail) only [Env.put_some, Env.put_none, Env.set_app, Nat.reduceEqDiff, ↓reduceIte, nat_int, Int.toNat_natCast, wrap_i64, h3])
        · (try simp (disch := first | assumption | omega | (with_unfolding_all exact id rfl) | exact Nat.le_of_ble_eq_true rfl | fail) only [Env.put_some, Env.put_none, Env.set_app, Nat.reduceEqDiff, ↓reduceIte, nat_int, Int.toNat_natCast, wrap_i64])
    · clear h0 h1 h2 h3 hU2 hk2' hEE hb2 hU3 hk3 hC3 hb3
      rintro e w4 ⟨h0, h3, h9, g', T', hU4, hI4, hM4, hcn4, hC4, hg4, hl4, hk4⟩
      have hroom : ∃ z, z < T'.length ∧ occ T' z = none := by
        refine cnt_room ?_
        rw [hcn4, hl4]
        split <;> omega
      obtain ⟨zz, hz1, hz2⟩ := hroom
      obtain ⟨i4, hf4⟩ := Finds.ex homeN_lt (lo, hi) hz1 hz2
      have hil4 := finds_lt hf4
      have hil4' : (i4 : Int) < T'.length := by omega
      have hnone4 : occ T' i4 = none := by
        rcases finds_mem' hI4 hf4 with ⟨h1, _⟩ | ⟨v, hv⟩
        · exact h1
        · exact absurd ((hM4 _ _).1 ⟨_, hv⟩) (hno v)
      obtain ⟨hI5, hM5⟩ := hI4.put homeN_lt n hf4 hnone4
      have hp4 : ∀ u, Ext w4 u → u.heap[p]? = some (.cells #[.slice (some ⟨g', 0, none⟩) T'.length T'.length, .int .i64 (many + 1)] 174) := fun u hu => hu.at hU4.at_
      have hkk : ∀ u, Ext w4 u → u.heap[nb]? = some (.cells #[.int .i64 lo, .int .i64 hi] 189) := fun u hu => hu.at hk4
      have hset := tbA_some (T := T') (i := i4) (lo := lo) (hi := hi) (n := n) hil4
      have htn : (tbL T').toArray.size = T'.length * 4 := by simp [tbL_len]; omega
      have hszt : i4 * 4 + 4 ≤ (tbL T').toArray.size := by omega
      refine X_seq fun K hK => ?_
      simp only [X_draw, thenX_normal]
      refine XD_ext ?_
      repeat (first | (refine xe0 (fun w => (by simp (disch := first | assumption | omega | (with_unfolding_all exact id rfl) | exact Nat.le_of_ble_eq_true rfl | fail) only [Bool.not_true, Bool.not_false, vR_ok, uR_ok, ev_tmp, ev_const, ev_func, Env.put_some, Env.put_none, Env.set_app, Nat.reduceEqDiff, ↓reduceIte, rG_move, rG_assign, opt1_some, ext_all, dec_t, dec_f, beq_t, beq_f, bne_t, bne_f, wrap_i64, wrap_u64, Int.toNat_natCast, Nat.mul_one, Nat.zero_add, Nat.add_zero, List.map_toArray, List.map_cons, List.map_nil, resM_1, call155, rG_fieldAddr, fa174_0, rG_load, ld3, List.getElem?_toArray, List.getElem?_cons_zero, List.getElem?_cons_succ, ld1_some, rd1_cells, ld189, ldN_some, rdN_cells, rG_binOp, binR_add, rG_len, ln172, binR_gtr, rG_build, rG_store, st191, stN_1, stN_2, stN_3, stN_4, stN_5, stN_6, stN_7, stN_8, vcs_int, vcs_bool, vcs_ptr, vcs_slice, vcs_map, vcs_nil, vcs_iface, vcs_aggL, List.length_cons, List.length_nil, Nat.reduceAdd, rG_indexAddr, ia172, rG_nilCheck, nilR_ptr, rG_alloc_189, Value.cells, ld172, fa174_1, ld4, call159, fa191_2, binR_mul, st3, st189, h0, h3, h9, hp4, hkk, hks, bd_slot] <;> rfl)) ?_) | (refine xe1e (fun w' hw => (by simp (disch := first | assumption | omega | (with_unfolding_all exact id rfl) | exact Nat.le_of_ble_eq_true rfl | fail) only [Bool.not_true, Bool.not_false, vR_ok, uR_ok, ev_tmp, ev_const, ev_func, Env.put_some, Env.put_none, Env.set_app, Nat.reduceEqDiff, ↓reduceIte, rG_move, rG_assign, opt1_some, ext_all, dec_t, dec_f, beq_t, beq_f, bne_t, bne_f, wrap_i64, wrap_u64, Int.toNat_natCast, Nat.mul_one, Nat.zero_add, Nat.add_zero, List.map_toArray, List.map_cons, List.map_nil, resM_1, call155, rG_fieldAddr, fa174_0, rG_load, ld3, List.getElem?_toArray, List.getElem?_cons_zero, List.getElem?_cons_succ, ld1_some, rd1_cells, ld189, ldN_some, rdN_cells, rG_binOp, binR_add, rG_len, ln172, binR_gtr, rG_build, rG_store, st191, stN_1, stN_2, stN_3, stN_4, stN_5, stN_6, stN_7, stN_8, vcs_int, vcs_bool, vcs_ptr, vcs_slice, vcs_map, vcs_nil, vcs_iface, vcs_aggL, List.length_cons, List.length_nil, Nat.reduceAdd, rG_indexAddr, ia172, rG_nilCheck, nilR_ptr, rG_alloc_189, Value.cells, ld172, fa174_1, ld4, call159, fa191_2, binR_mul, st3, st189, h0, h3, h9, hp4, hkk, hks, bd_slot] <;> rfl)) ?_) | (refine xe2x (by simp (disch := first | assumption | omega | (with_unfolding_all exact id rfl) | exact Nat.le_of_ble_eq_true rfl | fail) only [Bool.not_true, Bool.not_false, vR_ok, uR_ok, ev_tmp, ev_const, ev_func, Env.put_some, Env.put_none, Env.set_app, Nat.reduceEqDiff, ↓reduceIte, rG_move, rG_assign, opt1_some, ext_all, dec_t, dec_f, beq_t, beq_f, bne_t, bne_f, wrap_i64, wrap_u64, Int.toNat_natCast, Nat.mul_one, Nat.zero_add, Nat.add_zero, List.map_toArray, List.map_cons, List.map_nil, resM_1, call155, rG_fieldAddr, fa174_0, rG_load, ld3, List.getElem?_toArray, List.getElem?_cons_zero, List.getElem?_cons_succ, ld1_some, rd1_cells, ld189, ldN_some, rdN_cells, rG_binOp, binR_add, rG_len, ln172, binR_gtr, rG_build, rG_store, st191, stN_1, stN_2, stN_3, stN_4, stN_5, stN_6, stN_7, stN_8, vcs_int, vcs_bool, vcs_ptr, vcs_slice, vcs_map, vcs_nil, vcs_iface, vcs_aggL, List.length_cons, List.length_nil, Nat.reduceAdd, rG_indexAddr, ia172, rG_nilCheck, nilR_ptr, rG_alloc_189, Value.cells, ld172, fa174_1, ld4, call159, fa191_2, binR_mul, st3, st189, h0, h3, h9, hp4, hkk, hks, bd_slot] <;> rfl) ?_; (first | with_reducible refine kv ?_ | with_reducible refine ks ?_ | with_reducible refine ke ?_)) | (refine xe0_t ?_ ?_; focus (simp (disch := first | assumption | omega | (with_unfolding_all exact id rfl) | exact Nat.le_of_ble_eq_true rfl | fail) only [Env.put_some, Env.put_none, Env.set_app, Nat.reduceEqDiff, ↓reduceIte, Bool.not_true, Bool.not_false, h0, h3, h9, hp4, hkk, hks, bd_slot]; done)) | (refine xe1_t ?_ ?_; focus (simp (disch := first | assumption | omega | (with_unfolding_all exact id rfl) | exact Nat.le_of_ble_eq_true rfl | fail) only [Env.put_some, Env.put_none, Env.set_app, Nat.reduceEqDiff, ↓reduceIte, Bool.not_true, Bool.not_false, h0, h3, h9, hp4, hkk, hks, bd_slot]; done)) | (refine xe0_f ?_ ?_; focus (simp (disch := first | assumption | omega | (with_unfolding_all exact id rfl) | exact Nat.le_of_ble_eq_true rfl | fail) only [Env.put_some, Env.put_none, Env.set_app, Nat.reduceEqDiff, ↓reduceIte, Bool.not_true, Bool.not_false, h0, h3, h9, hp4, hkk, hks, bd_slot]; done)) | (refine xe1_f ?_ ?_; focus (simp (disch := first | assumption | omega | (with_unfolding_all exact id rfl) | exact Nat.le_of_ble_eq_true rfl | fail) only [Env.put_some, Env.put_none, Env.set_app, Nat.reduceEqDiff, ↓reduceIte, Bool.not_true, Bool.not_false, h0, h3, h9, hp4, hkk, hks, bd_slot]; done)) | (refine xe0_u ?_ ?_; focus (simp (disch := first | assumption | omega | (with_unfolding_all exact id rfl) | exact Nat.le_of_ble_eq_true rfl | fail) only [Env.put_some, Env.put_none, Env.set_app, Nat.reduceEqDiff, ↓reduceIte, Bool.not_true, Bool.not_false, h0, h3, h9, hp4, hkk, hks, bd_slot]; done)) | (refine xe1_u ?_ ?_; focus (simp (disch := first | assumption | omega | (with_unfolding_all exact id rfl) | exact Nat.le_of_ble_eq_true rfl | fail) only [Env.put_some, Env.put_none, Env.set_app, Nat.reduceEqDiff, ↓reduceIte, Bool.not_true, Bool.not_false, h0, h3, h9, hp4, hkk, hks, bd_slot]; done)))
      refine xe1c (fun w' hw => (by simp (disch := first | assumption | omega | (with_unfolding_all exact id rfl) | exact Nat.le_of_ble_eq_true rfl | fail) only [Bool.not_true, Bool.not_false, vR_ok, uR_ok, ev_tmp, ev_const, ev_func, Env.put_some, Env.put_none, Env.set_app, Nat.reduceEqDiff, ↓reduceIte, rG_move, rG_assign, opt1_some, ext_all, dec_t, dec_f, beq_t, beq_f, bne_t, bne_f, wrap_i64, wrap_u64, Int.toNat_natCast, Nat.mul_one, Nat.zero_add, Nat.add_zero, List.map_toArray, List.map_cons, List.map_nil, resM_1, call155, rG_fieldAddr, fa174_0, rG_load, ld3, List.getElem?_toArray, List.getElem?_cons_zero, List.getElem?_cons_succ, ld1_some, rd1_cells, ld189, ldN_some, rdN_cells, rG_binOp, binR_add, rG_len, ln172, binR_gtr, rG_build, rG_store, st191, stN_1, stN_2, stN_3, stN_4, stN_5, stN_6, stN_7, stN_8, vcs_int, vcs_bool, vcs_ptr, vcs_slice, vcs_map, vcs_nil, vcs_iface, vcs_aggL, List.length_cons, List.length_nil, Nat.reduceAdd, rG_indexAddr, ia172, rG_nilCheck, nilR_ptr, rG_alloc_189, Value.cells, ld172, fa174_1, ld4, call159, fa191_2, binR_mul, st3, st189, h0] <;> rfl)) (fun w' hw => ufind_calls (hU4.ext hw) hf4) ?_
      repeat (first | (refine xe0 (fun w => (by simp (disch := first | assumption | omega | (with_unfolding_all exact id rfl) | exact Nat.le_of_ble_eq_true rfl | fail) only [Bool.not_true, Bool.not_false, vR_ok, uR_ok, ev_tmp, ev_const, ev_func, Env.put_some, Env.put_none, Env.set_app, Nat.reduceEqDiff, ↓reduceIte, rG_move, rG_assign, opt1_some, ext_all, dec_t, dec_f, beq_t, beq_f, bne_t, bne_f, wrap_i64, wrap_u64, Int.toNat_natCast, Nat.mul_one, Nat.zero_add, Nat.add_zero, List.map_toArray, List.map_cons, List.map_nil, resM_1, call155, rG_fieldAddr, fa174_0, rG_load, ld3, List.getElem?_toArray, List.getElem?_cons_zero, List.getElem?_cons_succ, ld1_some, rd1_cells, ld189, ldN_some, rdN_cells, rG_binOp, binR_add, rG_len, ln172, binR_gtr, rG_build, rG_store, st191, stN_1, stN_2, stN_3, stN_4, stN_5, stN_6, stN_7, stN_8, vcs_int, vcs_bool, vcs_ptr, vcs_slice, vcs_map, vcs_nil, vcs_iface, vcs_aggL, List.length_cons, List.length_nil, Nat.reduceAdd, rG_indexAddr, ia172, rG_nilCheck, nilR_ptr, rG_alloc_189, Value.cells, ld172, fa174_1, ld4, call159, fa191_2, binR_mul, st3, st189, h0, h3, h9, hp4, hkk, hks, bd_slot] <;> rfl)) ?_) | (refine xe1e (fun w' hw => (by simp (disch := first | assumption | omega | (with_unfolding_all exact id rfl) | exact Nat.le_of_ble_eq_true rfl | fail) only [Bool.not_true, Bool.not_false, vR_ok, uR_ok, ev_tmp, ev_const, ev_func, Env.put_some, Env.put_none, Env.set_app, Nat.reduceEqDiff, ↓reduceIte, rG_move, rG_assign, opt1_some, ext_all, dec_t, dec_f, beq_t, beq_f, bne_t, bne_f, wrap_i64, wrap_u64, Int.toNat_natCast, Nat.mul_one, Nat.zero_add, Nat.add_zero, List.map_toArray, List.map_cons, List.map_nil, resM_1, call155, rG_fieldAddr, fa174_0, rG_load, ld3, List.getElem?_toArray, List.getElem?_cons_zero, List.getElem?_cons_succ, ld1_some, rd1_cells, ld189, ldN_some, rdN_cells, rG_binOp, binR_add, rG_len, ln172, binR_gtr, rG_build, rG_store, st191, stN_1, stN_2, stN_3, stN_4, stN_5, stN_6, stN_7, stN_8, vcs_int, vcs_bool, vcs_ptr, vcs_slice, vcs_map, vcs_nil, vcs_iface, vcs_aggL, List.length_cons, List.length_nil, Nat.reduceAdd, rG_indexAddr, ia172, rG_nilCheck, nilR_ptr, rG_alloc_189, Value.cells, ld172, fa174_1, ld4, call159, fa191_2, binR_mul, st3, st189, h0, h3, h9, hp4, hkk, hks, bd_slot] <;> rfl)) ?_) | (refine xe2x (by simp (disch := first | assumption | omega | (with_unfolding_all exact id rfl) | exact Nat.le_of_ble_eq_true rfl | fail) only [Bool.not_true, Bool.not_false, vR_ok, uR_ok, ev_tmp, ev_const, ev_func, Env.put_some, Env.put_none, Env.set_app, Nat.reduceEqDiff, ↓reduceIte, rG_move, rG_assign, opt1_some, ext_all, dec_t, dec_f, beq_t, beq_f, bne_t, bne_f, wrap_i64, wrap_u64, Int.toNat_natCast, Nat.mul_one, Nat.zero_add, Nat.add_zero, List.map_toArray, List.map_cons, List.map_nil, resM_1, call155, rG_fieldAddr, fa174_0, rG_load, ld3, List.getElem?_toArray, List.getElem?_cons_zero, List.getElem?_cons_succ, ld1_some, rd1_cells, ld189, ldN_some, rdN_cells, rG_binOp, binR_add, rG_len, ln172, binR_gtr, rG_build, rG_store, st191, stN_1, stN_2, stN_3, stN_4, stN_5, stN_6, stN_7, stN_8, vcs_int, vcs_bool, vcs_ptr, vcs_slice, vcs_map, vcs_nil, vcs_iface, vcs_aggL, List.length_cons, List.length_nil, Nat.reduceAdd, rG_indexAddr, ia172, rG_nilCheck, nilR_ptr, rG_alloc_189, Value.cells, ld172, fa174_1, ld4, call159, fa191_2, binR_mul, st3, st189, h0, h3, h9, hp4, hkk, hks, bd_slot] <;> rfl) ?_; (first | with_reducible refine kv ?_ | with_reducible refine ks ?_ | with_reducible refine ke ?_)) | (refine xe0_t ?_ ?_; focus (simp (disch := first | assumption | omega | (with_unfolding_all exact id rfl) | exact Nat.le_of_ble_eq_true rfl | fail) only [Env.put_some, Env.put_none, Env.set_app, Nat.reduceEqDiff, ↓reduceIte, Bool.not_true, Bool.not_false, h0, h3, h9, hp4, hkk, hks, bd_slot]; done)) | (refine xe1_t ?_ ?_; focus (simp (disch := first | assumption | omega | (with_unfolding_all exact id rfl) | exact Nat.le_of_ble_eq_true rfl | fail) only [Env.put_some, Env.put_none, Env.set_app, Nat.reduceEqDiff, ↓reduceIte, Bool.not_true, Bool.not_false, h0, h3, h9, hp4, hkk, hks, bd_slot]; done)) | (refine xe0_f ?_ ?_; focus (simp (disch := first | assumption | omega | (with_unfolding_all exact id rfl) | exact Nat.le_of_ble_eq_true rfl | fail) only [Env.put_some, Env.put_none, Env.set_app, Nat.reduceEqDiff, ↓reduceIte, Bool.not_true, Bool.not_false, h0, h3, h9, hp4, hkk, hks, bd_slot]; done)) | (refine xe1_f ?_ ?_; focus (simp (disch := first | assumption | omega | (with_unfolding_all exact id rfl) | exact Nat.le_of_ble_eq_true rfl | fail) only [Env.put_some, Env.put_none, Env.set_app, Nat.reduceEqDiff, ↓reduceIte, Bool.not_true, Bool.not_false, h0, h3, h9, hp4, hkk, hks, bd_slot]; done)) | (refine xe0_u ?_ ?_; focus (simp (disch := first | assumption | omega | (with_unfolding_all exact id rfl) | exact Nat.le_of_ble_eq_true rfl | fail) only [Env.put_some, Env.put_none, Env.set_app, Nat.reduceEqDiff, ↓reduceIte, Bool.not_true, Bool.not_false, h0, h3, h9, hp4, hkk, hks, bd_slot]; done)) | (refine xe1_u ?_ ?_; focus (simp (disch := first | assumption | omega | (with_unfolding_all exact id rfl) | exact Nat.le_of_ble_eq_true rfl | fail) only [Env.put_some, Env.put_none, Env.set_app, Nat.reduceEqDiff, ↓reduceIte, Bool.not_true, Bool.not_false, h0, h3, h9, hp4, hkk, hks, bd_slot]; done)))
      refine xe2 fun w5 hE5 => ?_
      have hU5 := hU4.ext hE5
      have hsl5 := hU5.sl
      refine kr (by simp (disch := first | assumption | omega | (with_unfolding_all exact id rfl) | exact Nat.le_of_ble_eq_true rfl | fail) only [Bool.not_true, Bool.not_false, vR_ok, uR_ok, ev_tmp, ev_const, ev_func, Env.put_some, Env.put_none, Env.set_app, Nat.reduceEqDiff, ↓reduceIte, rG_move, rG_assign, opt1_some, ext_all, dec_t, dec_f, beq_t, beq_f, bne_t, bne_f, wrap_i64, wrap_u64, Int.toNat_natCast, Nat.mul_one, Nat.zero_add, Nat.add_zero, List.map_toArray, List.map_cons, List.map_nil, resM_1, call155, rG_fieldAddr, fa174_0, rG_load, ld3, List.getElem?_toArray, List.getElem?_cons_zero, List.getElem?_cons_succ, ld1_some, rd1_cells, ld189, ldN_some, rdN_cells, rG_binOp, binR_add, rG_len, ln172, binR_gtr, rG_build, rG_store, st191, stN_1, stN_2, stN_3, stN_4, stN_5, stN_6, stN_7, stN_8, vcs_int, vcs_bool, vcs_ptr, vcs_slice, vcs_map, vcs_nil, vcs_iface, vcs_aggL, List.length_cons, List.length_nil, Nat.reduceAdd, rG_indexAddr, ia172, rG_nilCheck, nilR_ptr, rG_alloc_189, Value.cells, ld172, fa174_1, ld4, call159, fa191_2, binR_mul, st3, st189, hsl5, hset] <;> rfl) ?_
      first | with_reducible refine kv ?_ | with_reducible refine ks ?_ | with_reducible refine ke ?_
      refine xe_nil ?_
      rintro _ rfl
      (try refine xo_nil ?_)
      refine hK _ _ ?_
      clear hK K
      have hU6 := hU5.row hil4 (some ((lo, hi), n))
      have hC5 := hC4.trans (hE5.chg (fun _ => False)) (fun _ _ h => h.elim)
      refine X_seq fun K hK => ?_
      simp only [X_reg, thenX_normal]
      repeat (first | (refine xo (by simp (disch := first | assumption | omega | (with_unfolding_all exact id rfl) | exact Nat.le_of_ble_eq_true rfl | fail) only [Bool.not_true, Bool.not_false, vR_ok, uR_ok, ev_tmp, ev_const, ev_func, Env.put_some, Env.put_none, Env.set_app, Nat.reduceEqDiff, ↓reduceIte, rG_move, rG_assign, opt1_some, ext_all, dec_t, dec_f, beq_t, beq_f, bne_t, bne_f, wrap_i64, wrap_u64, Int.toNat_natCast, Nat.mul_one, Nat.zero_add, Nat.add_zero, List.map_toArray, List.map_cons, List.map_nil, resM_1, call155, rG_fieldAddr, fa174_0, rG_load, ld3, List.getElem?_toArray, List.getElem?_cons_zero, List.getElem?_cons_succ, ld1_some, rd1_cells, ld189, ldN_some, rdN_cells, rG_binOp, binR_add, rG_len, ln172, binR_gtr, rG_build, rG_store, st191, stN_1, stN_2, stN_3, stN_4, stN_5, stN_6, stN_7, stN_8, vcs_int, vcs_bool, vcs_ptr, vcs_slice, vcs_map, vcs_nil, vcs_iface, vcs_aggL, List.length_cons, List.length_nil, Nat.reduceAdd, rG_indexAddr, ia172, rG_nilCheck, nilR_ptr, rG_alloc_189, Value.cells, ld172, fa174_1, ld4, call159, fa191_2, binR_mul, st3, st189] <;> rfl) ?_; first | with_reducible refine kv ?_ | with_reducible refine ks ?_ | with_reducible refine ke ?_) | (refine xo_t ?_ ?_; focus (simp (disch := first | assumption | omega | (with_unfolding_all exact id rfl) | exact Nat.le_of_ble_eq_true rfl | fail) only [Env.put_some, Env.put_none, Env.set_app, Nat.reduceEqDiff, ↓reduceIte, Bool.not_true, Bool.not_false]; done)) | (refine xo_f ?_ ?_; focus (simp (disch := first | assumption | omega | (with_unfolding_all exact id rfl) | exact Nat.le_of_ble_eq_true rfl | fail) only [Env.put_some, Env.put_none, Env.set_app, Nat.reduceEqDiff, ↓reduceIte, Bool.not_true, Bool.not_false]; done)) | (refine xo_u ?_ ?_; focus (simp (disch := first | assumption | omega | (with_unfolding_all exact id rfl) | exact Nat.le_of_ble_eq_true rfl | fail) only [Env.put_some, Env.put_none, Env.set_app, Nat.reduceEqDiff, ↓reduceIte, Bool.not_true, Bool.not_false]; done)))
      refine xo_nil ?_
      refine hK _ _ ?_
      clear hK K
      simp (disch := first | assumption | omega | (with_unfolding_all exact id rfl) | exact Nat.le_of_ble_eq_true rfl | fail) only [X_ret, thenX_ret, inX_ret, retX_ret, retX_normal, Try.results138, resM_0, resM_1, resM_2, resM_3, resM_4, Env.put_some, Env.put_none, Env.set_app, Nat.reduceEqDiff, ↓reduceIte]
      refine ⟨_, rfl, g', many + 1, _, hU6, ⟨hI5, ?_, ?_, by omega⟩, ?_, (by rw [← hnb]; exact hg4), .inr ⟨rfl, rfl, hno, fun k v => ?_, by rw [List.length_set]; exact hl4⟩⟩
      · rw [cnt_set hil4, hnone4, hcn4]; simp [b2]
      · rw [List.length_set, hl4]; split <;> omega
      · refine (hC5.mono (fun k _ h => .inl h)).upd (fun hlt => ?_) _
        rcases hg4 with h1 | h1
        · exact .inr h1
        · omega
      · rw [hM5, hM4]
  · rw [hv] at hin ⊢
    refine X_if_t (by simp (disch := first | assumption | omega) only [ev_tmp, Env.put_some, Env.put_none, Env.set_app, Nat.reduceEqDiff, ↓reduceIte, beq_t, dec_t, beq_self_eq_true, Option.isSome_some]) ?_
    refine X_seq fun K hK => ?_
    simp only [X_reg, thenX_normal]
    repeat (first | (refine xo (by simp (disch := first | assumption | omega | (with_unfolding_all exact id rfl) | exact Nat.le_of_ble_eq_true rfl | fail) only [Bool.not_true, Bool.not_false, vR_ok, uR_ok, ev_tmp, ev_const, ev_func, Env.put_some, Env.put_none, Env.set_app, Nat.reduceEqDiff, ↓reduceIte, rG_move, rG_assign, opt1_some, ext_all, dec_t, dec_f, beq_t, beq_f, bne_t, bne_f, wrap_i64, wrap_u64, Int.toNat_natCast, Nat.mul_one, Nat.zero_add, Nat.add_zero, List.map_toArray, List.map_cons, List.map_nil, resM_1, call155, rG_fieldAddr, fa174_0, rG_load, ld3, List.getElem?_toArray, List.getElem?_cons_zero, List.getElem?_cons_succ, ld1_some, rd1_cells, ld189, ldN_some, rdN_cells, rG_binOp, binR_add, rG_len, ln172, binR_gtr, rG_build, rG_store, st191, stN_1, stN_2, stN_3, stN_4, stN_5, stN_6, stN_7, stN_8, vcs_int, vcs_bool, vcs_ptr, vcs_slice, vcs_map, vcs_nil, vcs_iface, vcs_aggL, List.length_cons, List.length_nil, Nat.reduceAdd, rG_indexAddr, ia172, rG_nilCheck, nilR_ptr, rG_alloc_189, Value.cells, ld172, fa174_1, ld4, call159, fa191_2, binR_mul, st3, st189] <;> rfl) ?_; first | with_reducible refine kv ?_ | with_reducible refine ks ?_ | with_reducible refine ke ?_) | (refine xo_t ?_ ?_; focus (simp (disch := first | assumption | omega | (with_unfolding_all exact id rfl) | exact Nat.le_of_ble_eq_true rfl | fail) only [Env.put_some, Env.put_none, Env.set_app, Nat.reduceEqDiff, ↓reduceIte, Bool.not_true, Bool.not_false]; done)) | (refine xo_f ?_ ?_; focus (simp (disch := first | assumption | omega | (with_unfolding_all exact id rfl) | exact Nat.le_of_ble_eq_true rfl | fail) only [Env.put_some, Env.put_none, Env.set_app, Nat.reduceEqDiff, ↓reduceIte, Bool.not_true, Bool.not_false]; done)) | (refine xo_u ?_ ?_; focus (simp (disch := first | assumption | omega | (with_unfolding_all exact id rfl) | exact Nat.le_of_ble_eq_true rfl | fail) only [Env.put_some, Env.put_none, Env.set_app, Nat.reduceEqDiff, ↓reduceIte, Bool.not_true, Bool.not_false]; done)))
    refine xo_nil ?_
    refine hK _ _ ?_
    clear hK K
    simp (disch := first | assumption | omega | (with_unfolding_all exact id rfl) | exact Nat.le_of_ble_eq_true rfl | fail) only [X_ret, thenX_ret, inX_ret, retX_ret, retX_normal, Try.results138, resM_0, resM_1, resM_2, resM_3, resM_4, Env.put_some, Env.put_none, Env.set_app, Nat.reduceEqDiff, ↓reduceIte]
    exact ⟨_, rfl, g, many, T, hU2, I, hEE.chg _, .inl rfl, .inl ⟨rfl, rfl, rfl, v, i, hv⟩⟩
end Go.Proofs.Ytpeindhocndmnaa

namespace Go.Proofs.Ytpeindhocndmnaa
open Go Go.Bx
set_option linter.unusedSimpArgs false
set_option linter.unusedVariables false
set_option maxRecDepth 100000
set_option maxHeartbeats 4000000
end Go.Proofs.Ytpeindhocndmnaa

