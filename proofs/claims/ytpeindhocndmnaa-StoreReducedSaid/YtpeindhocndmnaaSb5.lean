/- Un3, Un4, BxMap2, BxSl, BxCl, Fv, TabP: texts of this work, one behind the other. -/
import Derived.Test.YtpeindhocndmnaaSb4
/- Walks of layer 5: Put. -/
namespace Go.Proofs.Ytpeindhocndmnaa
open Go Go.Bx
set_option linter.unusedSimpArgs false
set_option linter.unusedVariables false
set_option maxRecDepth 100000
set_option maxHeartbeats 4000000

theorem finds_mem' {T : Tb} (I : TbInv homeN T) {k : Ky} {i : Nat} (hf : Finds homeN T k i) : (occ T i = none ∧ ∀ v, ¬ MemT T k v) ∨ ∃ v, occ T i = some (k, v) := by
  obtain ⟨d, _, _, _, hor⟩ := id hf
  rcases hor with h | h
  · exact .inl ⟨h, fun v ⟨p, hp⟩ => I.finds_none homeN_lt hf h p v hp⟩
  · exact .inr h
theorem bd_pair {lo hi : Int} {w : World} : bdR Try.prog 189 #[(0, .int .i64 lo), (1, .int .i64 hi)] w = .ok (.agg #[.int .i64 lo, .int .i64 hi]) w := by kernel_rfl
theorem bd_slot {lo hi n : Int} {w : World} : bdR Try.prog 191 #[(0, .agg #[.int .i64 lo, .int .i64 hi]), (1, .int .i64 n), (2, .bool true)] w = .ok (.agg #[.int .i64 lo, .int .i64 hi, .int .i64 n, .bool true]) w := by kernel_rfl
theorem bd_slot0 {w : World} : bdR Try.prog 191 #[] w = .ok (.agg #[.int .i64 0, .int .i64 0, .int .i64 0, .bool false]) w := by kernel_rfl

theorem uput_calls {w : World} {p g : Nat} {many : Int} {T : Tb} (h : UqI w p g many T) (I : TabI T many) (hm : many ≤ 100000000) (lo hi n : Int) :
    CallsR Try.prog 138 #[.pointer (some ⟨p, 0, none⟩), .int .i64 lo, .int .i64 hi, .int .i64 n] w fun r w' => ∃ g' m' T', UqI w' p g' m' T' ∧ TabI T' m' ∧ Chg (fun x => x = p ∨ x = g) w w' ∧ (g' = g ∨ w.heap.size ≤ g') ∧
      ((r = .bool false ∧ m' = many ∧ T' = T ∧ ∃ v, MemT T (lo, hi) v) ∨ (r = .bool true ∧ m' = many + 1 ∧ (∀ v, ¬ MemT T (lo, hi) v) ∧ (∀ k v, MemT T' k v ↔ MemT T k v ∨ (k = (lo, hi) ∧ v = n)) ∧ T'.length = if 2 * (many + 1) > T.length then 2 * T.length else T.length)) := by
  have hlim := h.lim
  have hpos := h.pos
  have hm0 := I.many0
  have hhalf := I.half
  have hpl := lt_of_heap h.at_
  have hgl := lt_of_heap h.sl
  obtain ⟨i, hil, hf⟩ := I.find (lo, hi)
  have hil' : (i : Int) < T.length := by omega
  have hin := tbA_in hil
  have htl : (tbL T).toArray.size = T.length * 4 := by simp [tbL_len]; omega
  refine calls4 (bs := []) Try.func138 rfl mixed (by kernel_rfl) ?_
  intro e0 h0 h1 h2 h3
  simp only [comp, gop, gslot, dops, bigOf, setK, drawOf, drawOf2, dopsW, setW, dopsR, setR, kindOf, List.lookup, List.map_cons, List.map_nil, Option.bind_some, List.getElem?_toArray, List.getElem?_cons_zero, List.getElem?_cons_succ, Option.getD_some, Option.getD_none, List.contains_nil, List.contains_cons, Bool.false_eq_true, ↓reduceIte, Nat.reduceAdd, Nat.reduceBEq, Bool.or_false]
  refine X_seq fun K hK => ?_
  simp only [X_reg, thenX_normal]
  repeat (first | (refine xo (by simp (disch := first | assumption | omega | (with_unfolding_all exact id rfl) | exact Nat.le_of_ble_eq_true rfl | fail) only [Bool.not_true, Bool.not_false, vR_ok, uR_ok, ev_tmp, ev_const, ev_func, Env.put_some, Env.put_none, Env.set_app, Nat.reduceEqDiff, ↓reduceIte, rG_move, rG_assign, opt1_some, ext_all, dec_t, dec_f, beq_t, beq_f, bne_t, bne_f, wrap_i64, wrap_u64, Int.toNat_natCast, Nat.mul_one, Nat.zero_add, Nat.add_zero, List.map_toArray, List.map_cons, List.map_nil, rG_fieldAddr, fa174_0, rG_binOp, binR_add, rG_build, resM_1, call159, rG_store, st3, stN_1, stN_2, stN_3, stN_4, stN_5, stN_6, stN_7, stN_8, vcs_int, vcs_bool, vcs_ptr, vcs_slice, vcs_map, vcs_nil, vcs_iface, vcs_aggL, List.length_cons, List.length_nil, Nat.reduceAdd, rG_nilCheck, nilR_ptr, st189, rG_indexAddr, ia172, rG_load, ld172, List.getElem?_toArray, List.getElem?_cons_zero, List.getElem?_cons_succ, ld1_some, rd1_cells, rG_alloc_189, Value.cells, call155, ld4, binR_mul, binR_gtr, st191, fa174_1, rG_len, ln172, fa191_2, ld3, ld189, ldN_some, rdN_cells] <;> rfl) ?_; first | with_reducible refine kv ?_ | with_reducible refine ks ?_ | with_reducible refine ke ?_) | (refine xo_t ?_ ?_; focus (simp (disch := first | assumption | omega | (with_unfolding_all exact id rfl) | exact Nat.le_of_ble_eq_true rfl | fail) only [Env.put_some, Env.put_none, Env.set_app, Nat.reduceEqDiff, ↓reduceIte, Bool.not_true, Bool.not_false]; done)) | (refine xo_f ?_ ?_; focus (simp (disch := first | assumption | omega | (with_unfolding_all exact id rfl) | exact Nat.le_of_ble_eq_true rfl | fail) only [Env.put_some, Env.put_none, Env.set_app, Nat.reduceEqDiff, ↓reduceIte, Bool.not_true, Bool.not_false]; done)) | (refine xo_u ?_ ?_; focus (simp (disch := first | assumption | omega | (with_unfolding_all exact id rfl) | exact Nat.le_of_ble_eq_true rfl | fail) only [Env.put_some, Env.put_none, Env.set_app, Nat.reduceEqDiff, ↓reduceIte, Bool.not_true, Bool.not_false]; done)))
  refine xo_nil ?_
  refine hK _ _ ?_
  clear hK K
  refine X_seq fun K hK => ?_
  (try simp only [X_reg, thenX_normal])
  repeat (first | (refine xo (by simp (disch := first | assumption | omega | (with_unfolding_all exact id rfl) | exact Nat.le_of_ble_eq_true rfl | fail) only [Bool.not_true, Bool.not_false, vR_ok, uR_ok, ev_tmp, ev_const, ev_func, Env.put_some, Env.put_none, Env.set_app, Nat.reduceEqDiff, ↓reduceIte, rG_move, rG_assign, opt1_some, ext_all, dec_t, dec_f, beq_t, beq_f, bne_t, bne_f, wrap_i64, wrap_u64, Int.toNat_natCast, Nat.mul_one, Nat.zero_add, Nat.add_zero, List.map_toArray, List.map_cons, List.map_nil, rG_fieldAddr, fa174_0, rG_binOp, binR_add, rG_build, resM_1, call159, rG_store, st3, stN_1, stN_2, stN_3, stN_4, stN_5, stN_6, stN_7, stN_8, vcs_int, vcs_bool, vcs_ptr, vcs_slice, vcs_map, vcs_nil, vcs_iface, vcs_aggL, List.length_cons, List.length_nil, Nat.reduceAdd, rG_nilCheck, nilR_ptr, st189, rG_indexAddr, ia172, rG_load, ld172, List.getElem?_toArray, List.getElem?_cons_zero, List.getElem?_cons_succ, ld1_some, rd1_cells, rG_alloc_189, Value.cells, call155, ld4, binR_mul, binR_gtr, st191, fa174_1, rG_len, ln172, fa191_2, ld3, ld189, ldN_some, rdN_cells, h1, h2, bd_pair] <;> rfl) ?_; first | with_reducible refine kv ?_ | with_reducible refine ks ?_ | with_reducible refine ke ?_) | (refine xo_t ?_ ?_; focus (simp (disch := first | assumption | omega | (with_unfolding_all exact id rfl) | exact Nat.le_of_ble_eq_true rfl | fail) only [Env.put_some, Env.put_none, Env.set_app, Nat.reduceEqDiff, ↓reduceIte, Bool.not_true, Bool.not_false, h1, h2, bd_pair]; done)) | (refine xo_f ?_ ?_; focus (simp (disch := first | assumption | omega | (with_unfolding_all exact id rfl) | exact Nat.le_of_ble_eq_true rfl | fail) only [Env.put_some, Env.put_none, Env.set_app, Nat.reduceEqDiff, ↓reduceIte, Bool.not_true, Bool.not_false, h1, h2, bd_pair]; done)) | (refine xo_u ?_ ?_; focus (simp (disch := first | assumption | omega | (with_unfolding_all exact id rfl) | exact Nat.le_of_ble_eq_true rfl | fail) only [Env.put_some, Env.put_none, Env.set_app, Nat.reduceEqDiff, ↓reduceIte, Bool.not_true, Bool.not_false, h1, h2, bd_pair]; done)))
  refine xo (rG_store_new (w := w) (cs := #[.int .i64 0, .int .i64 0]) (E := 189) (v := .agg #[.int .i64 lo, .int .i64 hi]) (TI.mk' (sz := 2) (by_ := 16) (z := Value.agg #[Value.int IntKind.i64 0, Value.int IntKind.i64 0]) Try.underlying189 (by kernel_rfl)) (by simp (disch := first | assumption | omega) only [ev_tmp, ev_const, Env.put_some, Env.put_none, Env.set_app, Nat.reduceEqDiff, ↓reduceIte]) (by simp (disch := first | assumption | omega) only [ev_tmp, ev_const, Env.put_some, Env.put_none, Env.set_app, Nat.reduceEqDiff, ↓reduceIte]) rfl rfl rfl) ?_
  refine ks ?_
  (try refine xo_nil ?_)
  refine hK _ _ ?_
  clear hK K
  have hE1 := (Ext.refl w).alloc (.cells ((Value.agg #[.int .i64 lo, .int .i64 hi]).cells) 189)
  have hk1 : (w.alloc (.cells ((Value.agg #[.int .i64 lo, .int .i64 hi]).cells) 189)).heap[w.heap.size]? = some (.cells #[.int .i64 lo, .int .i64 hi] 189) := alloc_new
  obtain ⟨nb, hnb⟩ : ∃ nb, w.heap.size = nb := ⟨_, rfl⟩
  rw [hnb] at hk1 ⊢
  generalize w.alloc (.cells ((Value.agg #[.int .i64 lo, .int .i64 hi]).cells) 189) = w1 at hE1 hk1 ⊢
  have hU1 := h.ext hE1
  have hks : (#[.int .i64 lo, .int .i64 hi] : Array Value).extract 0 (0 + 2) = #[.int .i64 lo, .int .i64 hi] := rfl
  have hk2 : 0 + 2 ≤ (#[.int .i64 lo, .int .i64 hi] : Array Value).size := Nat.le_refl 2
  have hp1 : ∀ u, Ext w1 u → u.heap[p]? = some (.cells #[.slice (some ⟨g, 0, none⟩) T.length T.length, .int .i64 many] 174) := fun u hu => hu.at hU1.at_
  have hs1 : ∀ u, Ext w1 u → u.heap[g]? = some (.cells (tbL T).toArray 191) := fun u hu => hu.at hU1.sl
  have hkk : ∀ u, Ext w1 u → u.heap[nb]? = some (.cells #[.int .i64 lo, .int .i64 hi] 189) := fun u hu => hu.at hk1
  refine X_seq fun K hK => ?_
  refine X_seq fun K hK => ?_
  simp only [X_draw, thenX_normal]
  refine XD_ext ?_
  repeat (first | (refine xe0 (fun w => (by simp (disch := first | assumption | omega | (with_unfolding_all exact id rfl) | exact Nat.le_of_ble_eq_true rfl | fail) only [Bool.not_true, Bool.not_false, vR_ok, uR_ok, ev_tmp, ev_const, ev_func, Env.put_some, Env.put_none, Env.set_app, Nat.reduceEqDiff, ↓reduceIte, rG_move, rG_assign, opt1_some, ext_all, dec_t, dec_f, beq_t, beq_f, bne_t, bne_f, wrap_i64, wrap_u64, Int.toNat_natCast, Nat.mul_one, Nat.zero_add, Nat.add_zero, List.map_toArray, List.map_cons, List.map_nil, rG_fieldAddr, fa174_0, rG_binOp, binR_add, rG_build, resM_1, call159, rG_store, st3, stN_1, stN_2, stN_3, stN_4, stN_5, stN_6, stN_7, stN_8, vcs_int, vcs_bool, vcs_ptr, vcs_slice, vcs_map, vcs_nil, vcs_iface, vcs_aggL, List.length_cons, List.length_nil, Nat.reduceAdd, rG_nilCheck, nilR_ptr, st189, rG_indexAddr, ia172, rG_load, ld172, List.getElem?_toArray, List.getElem?_cons_zero, List.getElem?_cons_succ, ld1_some, rd1_cells, rG_alloc_189, Value.cells, call155, ld4, binR_mul, binR_gtr, st191, fa174_1, rG_len, ln172, fa191_2, ld3, ld189, ldN_some, rdN_cells, h0, hp1, hkk, hks] <;> rfl)) ?_) | (refine xe1e (fun w' hw => (by simp (disch := first | assumption | omega | (with_unfolding_all exact id rfl) | exact Nat.le_of_ble_eq_true rfl | fail) only [Bool.not_true, Bool.not_false, vR_ok, uR_ok, ev_tmp, ev_const, ev_func, Env.put_some, Env.put_none, Env.set_app, Nat.reduceEqDiff, ↓reduceIte, rG_move, rG_assign, opt1_some, ext_all, dec_t, dec_f, beq_t, beq_f, bne_t, bne_f, wrap_i64, wrap_u64, Int.toNat_natCast, Nat.mul_one, Nat.zero_add, Nat.add_zero, List.map_toArray, List.map_cons, List.map_nil, rG_fieldAddr, fa174_0, rG_binOp, binR_add, rG_build, resM_1, call159, rG_store, st3, stN_1, stN_2, stN_3, stN_4, stN_5, stN_6, stN_7, stN_8, vcs_int, vcs_bool, vcs_ptr, vcs_slice, vcs_map, vcs_nil, vcs_iface, vcs_aggL, List.length_cons, List.length_nil, Nat.reduceAdd, rG_nilCheck, nilR_ptr, st189, rG_indexAddr, ia172, rG_load, ld172, List.getElem?_toArray, List.getElem?_cons_zero, List.getElem?_cons_succ, ld1_some, rd1_cells, rG_alloc_189, Value.cells, call155, ld4, binR_mul, binR_gtr, st191, fa174_1, rG_len, ln172, fa191_2, ld3, ld189, ldN_some, rdN_cells, h0, hp1, hkk, hks] <;> rfl)) ?_) | (refine xe2x (by simp (disch := first | assumption | omega | (with_unfolding_all exact id rfl) | exact Nat.le_of_ble_eq_true rfl | fail) only [Bool.not_true, Bool.not_false, vR_ok, uR_ok, ev_tmp, ev_const, ev_func, Env.put_some, Env.put_none, Env.set_app, Nat.reduceEqDiff, ↓reduceIte, rG_move, rG_assign, opt1_some, ext_all, dec_t, dec_f, beq_t, beq_f, bne_t, bne_f, wrap_i64, wrap_u64, Int.toNat_natCast, Nat.mul_one, Nat.zero_add, Nat.add_zero, List.map_toArray, List.map_cons, List.map_nil, rG_fieldAddr, fa174_0, rG_binOp, binR_add, rG_build, resM_1, call159, rG_store, st3, stN_1, stN_2, stN_3, stN_4, stN_5, stN_6, stN_7, stN_8, vcs_int, vcs_bool, vcs_ptr, vcs_slice, vcs_map, vcs_nil, vcs_iface, vcs_aggL, List.length_cons, List.length_nil, Nat.reduceAdd, rG_nilCheck, nilR_ptr, st189, rG_indexAddr, ia172, rG_load, ld172, List.getElem?_toArray, List.getElem?_cons_zero, List.getElem?_cons_succ, ld1_some, rd1_cells, rG_alloc_189, Value.cells, call155, ld4, binR_mul, binR_gtr, st191, fa174_1, rG_len, ln172, fa191_2, ld3, ld189, ldN_some, rdN_cells, h0, hp1, hkk, hks] <;> rfl) ?_; (first | with_reducible refine kv ?_ | with_reducible refine ks ?_ | with_reducible refine ke ?_)) | (refine xe0_t ?_ ?_; focus (simp (disch := first | assumption | omega | (with_unfolding_all exact id rfl) | exact Nat.le_of_ble_eq_true rfl | fail) only [Env.put_some, Env.put_none, Env.set_app, Nat.reduceEqDiff, ↓reduceIte, Bool.not_true, Bool.not_false, h0, hp1, hkk, hks]; done)) | (refine xe1_t ?_ ?_; focus (simp (disch := first | assumption | omega | (with_unfolding_all exact id rfl) | exact Nat.le_of_ble_eq_true rfl | fail) only [Env.put_some, Env.put_none, Env.set_app, Nat.reduceEqDiff, ↓reduceIte, Bool.not_true, Bool.not_false, h0, hp1, hkk, hks]; done)) | (refine xe0_f ?_ ?_; focus (simp (disch := first | assumption | omega | (with_unfolding_all exact id rfl) | exact Nat.le_of_ble_eq_true rfl | fail) only [Env.put_some, Env.put_none, Env.set_app, Nat.reduceEqDiff, ↓reduceIte, Bool.not_true, Bool.not_false, h0, hp1, hkk, hks]; done)) | (refine xe1_f ?_ ?_; focus (simp (disch := first | assumption | omega | (with_unfolding_all exact id rfl) | exact Nat.le_of_ble_eq_true rfl | fail) only [Env.put_some, Env.put_none, Env.set_app, Nat.reduceEqDiff, ↓reduceIte, Bool.not_true, Bool.not_false, h0, hp1, hkk, hks]; done)) | (refine xe0_u ?_ ?_; focus (simp (disch := first | assumption | omega | (with_unfolding_all exact id rfl) | exact Nat.le_of_ble_eq_true rfl | fail) only [Env.put_some, Env.put_none, Env.set_app, Nat.reduceEqDiff, ↓reduceIte, Bool.not_true, Bool.not_false, h0, hp1, hkk, hks]; done)) | (refine xe1_u ?_ ?_; focus (simp (disch := first | assumption | omega | (with_unfolding_all exact id rfl) | exact Nat.le_of_ble_eq_true rfl | fail) only [Env.put_some, Env.put_none, Env.set_app, Nat.reduceEqDiff, ↓reduceIte, Bool.not_true, Bool.not_false, h0, hp1, hkk, hks]; done)))
  refine xe1c (fun w' hw => (by simp (disch := first | assumption | omega | (with_unfolding_all exact id rfl) | exact Nat.le_of_ble_eq_true rfl | fail) only [Bool.not_true, Bool.not_false, vR_ok, uR_ok, ev_tmp, ev_const, ev_func, Env.put_some, Env.put_none, Env.set_app, Nat.reduceEqDiff, ↓reduceIte, rG_move, rG_assign, opt1_some, ext_all, dec_t, dec_f, beq_t, beq_f, bne_t, bne_f, wrap_i64, wrap_u64, Int.toNat_natCast, Nat.mul_one, Nat.zero_add, Nat.add_zero, List.map_toArray, List.map_cons, List.map_nil, rG_fieldAddr, fa174_0, rG_binOp, binR_add, rG_build, resM_1, call159, rG_store, st3, stN_1, stN_2, stN_3, stN_4, stN_5, stN_6, stN_7, stN_8, vcs_int, vcs_bool, vcs_ptr, vcs_slice, vcs_map, vcs_nil, vcs_iface, vcs_aggL, List.length_cons, List.length_nil, Nat.reduceAdd, rG_nilCheck, nilR_ptr, st189, rG_indexAddr, ia172, rG_load, ld172, List.getElem?_toArray, List.getElem?_cons_zero, List.getElem?_cons_succ, ld1_some, rd1_cells, rG_alloc_189, Value.cells, call155, ld4, binR_mul, binR_gtr, st191, fa174_1, rG_len, ln172, fa191_2, ld3, ld189, ldN_some, rdN_cells, h0] <;> rfl)) (fun w' hw => ufind_calls (hU1.ext hw) hf) ?_
  repeat (first | (refine xe0 (fun w => (by simp (disch := first | assumption | omega | (with_unfolding_all exact id rfl) | exact Nat.le_of_ble_eq_true rfl | fail) only [Bool.not_true, Bool.not_false, vR_ok, uR_ok, ev_tmp, ev_const, ev_func, Env.put_some, Env.put_none, Env.set_app, Nat.reduceEqDiff, ↓reduceIte, rG_move, rG_assign, opt1_some, ext_all, dec_t, dec_f, beq_t, beq_f, bne_t, bne_f, wrap_i64, wrap_u64, Int.toNat_natCast, Nat.mul_one, Nat.zero_add, Nat.add_zero, List.map_toArray, List.map_cons, List.map_nil, rG_fieldAddr, fa174_0, rG_binOp, binR_add, rG_build, resM_1, call159, rG_store, st3, stN_1, stN_2, stN_3, stN_4, stN_5, stN_6, stN_7, stN_8, vcs_int, vcs_bool, vcs_ptr, vcs_slice, vcs_map, vcs_nil, vcs_iface, vcs_aggL, List.length_cons, List.length_nil, Nat.reduceAdd, rG_nilCheck, nilR_ptr, st189, rG_indexAddr, ia172, rG_load, ld172, List.getElem?_toArray, List.getElem?_cons_zero, List.getElem?_cons_succ, ld1_some, rd1_cells, rG_alloc_189, Value.cells, call155, ld4, binR_mul, binR_gtr, st191, fa174_1, rG_len, ln172, fa191_2, ld3, ld189, ldN_some, rdN_cells, h0, hs1, hin] <;> rfl)) ?_) | (refine xe1e (fun w' hw => (by simp (disch := first | assumption | omega | (with_unfolding_all exact id rfl) | exact Nat.le_of_ble_eq_true rfl | fail) only [Bool.not_true, Bool.not_false, vR_ok, uR_ok, ev_tmp, ev_const, ev_func, Env.put_some, Env.put_none, Env.set_app, Nat.reduceEqDiff, ↓reduceIte, rG_move, rG_assign, opt1_some, ext_all, dec_t, dec_f, beq_t, beq_f, bne_t, bne_f, wrap_i64, wrap_u64, Int.toNat_natCast, Nat.mul_one, Nat.zero_add, Nat.add_zero, List.map_toArray, List.map_cons, List.map_nil, rG_fieldAddr, fa174_0, rG_binOp, binR_add, rG_build, resM_1, call159, rG_store, st3, stN_1, stN_2, stN_3, stN_4, stN_5, stN_6, stN_7, stN_8, vcs_int, vcs_bool, vcs_ptr, vcs_slice, vcs_map, vcs_nil, vcs_iface, vcs_aggL, List.length_cons, List.length_nil, Nat.reduceAdd, rG_nilCheck, nilR_ptr, st189, rG_indexAddr, ia172, rG_load, ld172, List.getElem?_toArray, List.getElem?_cons_zero, List.getElem?_cons_succ, ld1_some, rd1_cells, rG_alloc_189, Value.cells, call155, ld4, binR_mul, binR_gtr, st191, fa174_1, rG_len, ln172, fa191_2, ld3, ld189, ldN_some, rdN_cells, h0, hs1, hin] <;> rfl)) ?_) | (refine xe2x (by simp (disch := first | assumption | omega | (with_unfolding_all exact id rfl) | exact Nat.le_of_ble_eq_true rfl | fail) only [Bool.not_true, Bool.not_false, vR_ok, uR_ok, ev_tmp, ev_const, ev_func, Env.put_some, Env.put_none, Env.set_app, Nat.reduceEqDiff, ↓reduceIte, rG_move, rG_assign, opt1_some, ext_all, dec_t, dec_f, beq_t, beq_f, bne_t, bne_f, wrap_i64, wrap_u64, Int.toNat_natCast, Nat.mul_one, Nat.zero_add, Nat.add_zero, List.map_toArray, List.map_cons, List.map_nil, rG_fieldAddr, fa174_0, rG_binOp, binR_add, rG_build, resM_1, call159, rG_store, st3, stN_1, stN_2, stN_3, stN_4, stN_5, stN_6, stN_7, stN_8, vcs_int, vcs_bool, vcs_ptr, vcs_slice, vcs_map, vcs_nil, vcs_iface, vcs_aggL, List.length_cons, List.length_nil, Nat.reduceAdd, rG_nilCheck, nilR_ptr, st189, rG_indexAddr, ia172, rG_load, ld172, List.getElem?_toArray, List.getElem?_cons_zero, List.getElem?_cons_succ, ld1_some, rd1_cells, rG_alloc_189, Value.cells, call155, ld4, binR_mul, binR_gtr, st191, fa174_1, rG_len, ln172, fa191_2, ld3, ld189, ldN_some, rdN_cells, h0, hs1, hin] <;> rfl) ?_; (first | with_reducible refine kv ?_ | with_reducible refine ks ?_ | with_reducible refine ke ?_)) | (refine xe0_t ?_ ?_; focus (simp (disch := first | assumption | omega | (with_unfolding_all exact id rfl) | exact Nat.le_of_ble_eq_true rfl | fail) only [Env.put_some, Env.put_none, Env.set_app, Nat.reduceEqDiff, ↓reduceIte, Bool.not_true, Bool.not_false, h0, hs1, hin]; done)) | (refine xe1_t ?_ ?_; focus (simp (disch := first | assumption | omega | (with_unfolding_all exact id rfl) | exact Nat.le_of_ble_eq_true rfl | fail) only [Env.put_some, Env.put_none, Env.set_app, Nat.reduceEqDiff, ↓reduceIte, Bool.not_true, Bool.not_false, h0, hs1, hin]; done)) | (refine xe0_f ?_ ?_; focus (simp (disch := first | assumption | omega | (with_unfolding_all exact id rfl) | exact Nat.le_of_ble_eq_true rfl | fail) only [Env.put_some, Env.put_none, Env.set_app, Nat.reduceEqDiff, ↓reduceIte, Bool.not_true, Bool.not_false, h0, hs1, hin]; done)) | (refine xe1_f ?_ ?_; focus (simp (disch := first | assumption | omega | (with_unfolding_all exact id rfl) | exact Nat.le_of_ble_eq_true rfl | fail) only [Env.put_some, Env.put_none, Env.set_app, Nat.reduceEqDiff, ↓reduceIte, Bool.not_true, Bool.not_false, h0, hs1, hin]; done)) | (refine xe0_u ?_ ?_; focus (simp (disch := first | assumption | omega | (with_unfolding_all exact id rfl) | exact Nat.le_of_ble_eq_true rfl | fail) only [Env.put_some, Env.put_none, Env.set_app, Nat.reduceEqDiff, ↓reduceIte, Bool.not_true, Bool.not_false, h0, hs1, hin]; done)) | (refine xe1_u ?_ ?_; focus (simp (disch := first | assumption | omega | (with_unfolding_all exact id rfl) | exact Nat.le_of_ble_eq_true rfl | fail) only [Env.put_some, Env.put_none, Env.set_app, Nat.reduceEqDiff, ↓reduceIte, Bool.not_true, Bool.not_false, h0, hs1, hin]; done)))
  refine xe_nil fun w2 hE2 => ?_
  (try refine xo_nil ?_)
  refine hK _ _ ?_
  clear hK K
  have hU2 := hU1.ext hE2
  have hk2' := hE2.at hk1
  have hEE := hE1.trans hE2
  clear hp1 hs1 hkk
  rcases finds_mem' I.inv hf with ⟨hnone, hno⟩ | ⟨v, hv⟩
  · rw [hnone] at hin ⊢
    have hb2 := hU2.at_
    refine X_if_f (by simp (disch := first | assumption | omega) only [ev_tmp, Env.put_some, Env.put_none, Env.set_app, Nat.reduceEqDiff, ↓reduceIte, beq_f, dec_f, Option.isSome_none]) ?_
    simp only [X_skip, X_exit, X_ret, X_block, thenX_normal, thenX_ret, thenX_exit, inX_normal, inX_ret, inX_exit, ↓reduceIte, Nat.reduceEqDiff]
    (try refine xo_nil ?_)
    refine hK _ _ ?_
    clear hK K
    have hsz2 : (#[.slice (some ⟨g, 0, none⟩) T.length T.length, .int .i64 many] : Array Value).size = 2 := rfl
    refine X_seq fun K hK => ?_
    simp only [X_reg, thenX_normal]
    repeat (first | (refine xo (by simp (disch := first | assumption | omega | (with_unfolding_all exact id rfl) | exact Nat.le_of_ble_eq_true rfl | fail) only [Bool.not_true, Bool.not_false, vR_ok, uR_ok, ev_tmp, ev_const, ev_func, Env.put_some, Env.put_none, Env.set_app, Nat.reduceEqDiff, ↓reduceIte, rG_move, rG_assign, opt1_some, ext_all, dec_t, dec_f, beq_t, beq_f, bne_t, bne_f, wrap_i64, wrap_u64, Int.toNat_natCast, Nat.mul_one, Nat.zero_add, Nat.add_zero, List.map_toArray, List.map_cons, List.map_nil, rG_fieldAddr, fa174_0, rG_binOp, binR_add, rG_build, resM_1, call159, rG_store, st3, stN_1, stN_2, stN_3, stN_4, stN_5, stN_6, stN_7, stN_8, vcs_int, vcs_bool, vcs_ptr, vcs_slice, vcs_map, vcs_nil, vcs_iface, vcs_aggL, List.length_cons, List.length_nil, Nat.reduceAdd, rG_nilCheck, nilR_ptr, st189, rG_indexAddr, ia172, rG_load, ld172, List.getElem?_toArray, List.getElem?_cons_zero, List.getElem?_cons_succ, ld1_some, rd1_cells, rG_alloc_189, Value.cells, call155, ld4, binR_mul, binR_gtr, st191, fa174_1, rG_len, ln172, fa191_2, ld3, ld189, ldN_some, rdN_cells, h0, hb2, List.setIfInBounds_toArray, List.set_cons_zero, List.set_cons_succ] <;> rfl) ?_; first | with_reducible refine kv ?_ | with_reducible refine ks ?_ | with_reducible refine ke ?_) | (refine xo_t ?_ ?_; focus (simp (disch := first | assumption | omega | (with_unfolding_all exact id rfl) | exact Nat.le_of_ble_eq_true rfl | fail) only [Env.put_some, Env.put_none, Env.set_app, Nat.reduceEqDiff, ↓reduceIte, Bool.not_true, Bool.not_false, h0, hb2, List.setIfInBounds_toArray, List.set_cons_zero, List.set_cons_succ]; done)) | (refine xo_f ?_ ?_; focus (simp (disch := first | assumption | omega | (with_unfolding_all exact id rfl) | exact Nat.le_of_ble_eq_true rfl | fail) only [Env.put_some, Env.put_none, Env.set_app, Nat.reduceEqDiff, ↓reduceIte, Bool.not_true, Bool.not_false, h0, hb2, List.setIfInBounds_toArray, List.set_cons_zero, List.set_cons_succ]; done)) | (refine xo_u ?_ ?_; focus (simp (disch := first | assumption | omega | (with_unfolding_all exact id rfl) | exact Nat.le_of_ble_eq_true rfl | fail) only [Env.put_some, Env.put_none, Env.set_app, Nat.reduceEqDiff, ↓reduceIte, Bool.not_true, Bool.not_false, h0, hb2, List.setIfInBounds_toArray, List.set_cons_zero, List.set_cons_succ]; done)))
    refine xo_nil ?_
    refine hK _ _ ?_
    clear hK K
    have hU3 := hU2.setm (m := many + 1)
    have hk3 : (upd w2 p (.cells #[.slice (some ⟨g, 0, none⟩) T.length T.length, .int .i64 (many + 1)] 174)).heap[nb]? = some (.cells #[.int .i64 lo, .int .i64 hi] 189) := by rw [upd_other (by omega)]; exact hk2'
    have hC3 : Chg (fun x => x = p) w (upd w2 p (.cells #[.slice (some ⟨g, 0, none⟩) T.length T.length, .int .i64 (many + 1)] 174)) := (hEE.chg (fun x => x = p)).upd (fun _ => rfl) _
    generalize upd w2 p (.cells #[.slice (some ⟨g, 0, none⟩) T.length T.length, .int .i64 (many + 1)] 174) = w3 at hU3 hk3 hC3 ⊢
    have hb3 := hU3.at_
    refine X_cut (fun e w' => e 0 = .pointer (some ⟨p, 0, none⟩) ∧ e 3 = .int .i64 n ∧ e 9 = .pointer (some ⟨nb, 0, none⟩) ∧ ∃ g' T', UqI w' p g' (many + 1) T' ∧ TbInv homeN T' ∧ (∀ k v, MemT T' k v ↔ MemT T k v) ∧ cntT T' = many ∧ Chg (fun x => x = p) w w' ∧ (g' = g ∨ w.heap.size ≤ g') ∧ T'.length = (if 2 * (many + 1) > T.length then 2 * T.length else T.length) ∧ w'.heap[nb]? = some (.cells #[.int .i64 lo, .int .i64 hi] 189)) ?_ ?_
    · by_cases hg : (T.length : Int) < 2 * (many + 1)
      · refine X_seq fun K hK => ?_
        simp only [X_draw, thenX_normal]
        refine XD_dr ?_
        repeat (first | (refine xe0 (fun w => (by simp (disch := first | assumption | omega | (with_unfolding_all exact id rfl) | exact Nat.le_of_ble_eq_true rfl | fail) only [Bool.not_true, Bool.not_false, vR_ok, uR_ok, ev_tmp, ev_const, ev_func, Env.put_some, Env.put_none, Env.set_app, Nat.reduceEqDiff, ↓reduceIte, rG_move, rG_assign, opt1_some, ext_all, dec_t, dec_f, beq_t, beq_f, bne_t, bne_f, wrap_i64, wrap_u64, Int.toNat_natCast, Nat.mul_one, Nat.zero_add, Nat.add_zero, List.map_toArray, List.map_cons, List.map_nil, rG_fieldAddr, fa174_0, rG_binOp, binR_add, rG_build, resM_1, call159, rG_store, st3, stN_1, stN_2, stN_3, stN_4, stN_5, stN_6, stN_7, stN_8, vcs_int, vcs_bool, vcs_ptr, vcs_slice, vcs_map, vcs_nil, vcs_iface, vcs_aggL, List.length_cons, List.length_nil, Nat.reduceAdd, rG_nilCheck, nilR_ptr, st189, rG_indexAddr, ia172, rG_load, ld172, List.getElem?_toArray, List.getElem?_cons_zero, List.getElem?_cons_succ, ld1_some, rd1_cells, rG_alloc_189, Value.cells, call155, ld4, binR_mul, binR_gtr, st191, fa174_1, rG_len, ln172, fa191_2, ld3, ld189, ldN_some, rdN_cells, h0, hb3] <;> rfl)) ?_) | (refine xe1 (fun i => (by simp (disch := first | assumption | omega | (with_unfolding_all exact id rfl) | exact Nat.le_of_ble_eq_true rfl | fail) only [Bool.not_true, Bool.not_false, vR_ok, uR_ok, ev_tmp, ev_const, ev_func, Env.put_some, Env.put_none, Env.set_app, Nat.reduceEqDiff, ↓reduceIte, rG_move, rG_assign, opt1_some, ext_all, dec_t, dec_f, beq_t, beq_f, bne_t, bne_f, wrap_i64, wrap_u64, Int.toNat_natCast, Nat.mul_one, Nat.zero_add, Nat.add_zero, List.map_toArray, List.map_cons, List.map_nil, rG_fieldAddr, fa174_0, rG_binOp, binR_add, rG_build, resM_1, call159, rG_store, st3, stN_1, stN_2, stN_3, stN_4, stN_5, stN_6, stN_7, stN_8, vcs_int, vcs_bool, vcs_ptr, vcs_slice, vcs_map, vcs_nil, vcs_iface, vcs_aggL, List.length_cons, List.length_nil, Nat.reduceAdd, rG_nilCheck, nilR_ptr, st189, rG_indexAddr, ia172, rG_load, ld172, List.getElem?_toArray, List.getElem?_cons_zero, List.getElem?_cons_succ, ld1_some, rd1_cells, rG_alloc_189, Value.cells, call155, ld4, binR_mul, binR_gtr, st191, fa174_1, rG_len, ln172, fa191_2, ld3, ld189, ldN_some, rdN_cells, dr_heap, h0, hb3] <;> rfl)) ?_) | (refine xe2x (by simp (disch := first | assumption | omega | (with_unfolding_all exact id rfl) | exact Nat.le_of_ble_eq_true rfl | fail) only [Bool.not_true, Bool.not_false, vR_ok, uR_ok, ev_tmp, ev_const, ev_func, Env.put_some, Env.put_none, Env.set_app, Nat.reduceEqDiff, ↓reduceIte, rG_move, rG_assign, opt1_some, ext_all, dec_t, dec_f, beq_t, beq_f, bne_t, bne_f, wrap_i64, wrap_u64, Int.toNat_natCast, Nat.mul_one, Nat.zero_add, Nat.add_zero, List.map_toArray, List.map_cons, List.map_nil, rG_fieldAddr, fa174_0, rG_binOp, binR_add, rG_build, resM_1, call159, rG_store, st3, stN_1, stN_2, stN_3, stN_4, stN_5, stN_6, stN_7, stN_8, vcs_int, vcs_bool, vcs_ptr, vcs_slice, vcs_map, vcs_nil, vcs_iface, vcs_aggL, List.length_cons, List.length_nil, Nat.reduceAdd, rG_nilCheck, nilR_ptr, st189, rG_indexAddr, ia172, rG_load, ld172, List.getElem?_toArray, List.getElem?_cons_zero, List.getElem?_cons_succ, ld1_some, rd1_cells, rG_alloc_189, Value.cells, call155, ld4, binR_mul, binR_gtr, st191, fa174_1, rG_len, ln172, fa191_2, ld3, ld189, ldN_some, rdN_cells, h0, hb3] <;> rfl) ?_; (first | with_reducible refine kv ?_ | with_reducible refine ks ?_ | with_reducible refine ke ?_)) | (refine xe0_t ?_ ?_; focus (simp (disch := first | assumption | omega | (with_unfolding_all exact id rfl) | exact Nat.le_of_ble_eq_true rfl | fail) only [Env.put_some, Env.put_none, Env.set_app, Nat.reduceEqDiff, ↓reduceIte, Bool.not_true, Bool.not_false, h0, hb3]; done)) | (refine xe1_t ?_ ?_; focus (simp (disch := first | assumption | omega | (with_unfolding_all exact id rfl) | exact Nat.le_of_ble_eq_true rfl | fail) only [Env.put_some, Env.put_none, Env.set_app, Nat.reduceEqDiff, ↓reduceIte, Bool.not_true, Bool.not_false, h0, hb3]; done)) | (refine xe0_f ?_ ?_; focus (simp (disch := first | assumption | omega | (with_unfolding_all exact id rfl) | exact Nat.le_of_ble_eq_true rfl | fail) only [Env.put_some, Env.put_none, Env.set_app, Nat.reduceEqDiff, ↓reduceIte, Bool.not_true, Bool.not_false, h0, hb3]; done)) | (refine xe1_f ?_ ?_; focus (simp (disch := first | assumption | omega | (with_unfolding_all exact id rfl) | exact Nat.le_of_ble_eq_true rfl | fail) only [Env.put_some, Env.put_none, Env.set_app, Nat.reduceEqDiff, ↓reduceIte, Bool.not_true, Bool.not_false, h0, hb3]; done)) | (refine xe0_u ?_ ?_; focus (simp (disch := first | assumption | omega | (with_unfolding_all exact id rfl) | exact Nat.le_of_ble_eq_true rfl | fail) only [Env.put_some, Env.put_none, Env.set_app, Nat.reduceEqDiff, ↓reduceIte, Bool.not_true, Bool.not_false, h0, hb3]; done)) | (refine xe1_u ?_ ?_; focus (simp (disch := first | assumption | omega | (with_unfolding_all exact id rfl) | exact Nat.le_of_ble_eq_true rfl | fail) only [Env.put_some, Env.put_none, Env.set_app, Nat.reduceEqDiff, ↓reduceIte, Bool.not_true, Bool.not_false, h0, hb3]; done)))
        refine xe_nil ?_
        rintro w4 ⟨dd, rfl⟩
        (try refine xo_nil ?_)
        refine hK _ _ ?_
        clear hK K
        refine X_if_t (by simp (disch := first | assumption | omega) only [ev_tmp, Env.put_some, Env.put_none, Env.set_app, Nat.reduceEqDiff, ↓reduceIte, beq_t, dec_t, beq_self_eq_true]) ?_
        have hU4 := hU3.ext ((Ext.refl w3).dr dd)
        (try simp only [X_reg, thenX_normal])
        repeat (first | (refine xo (by simp (disch := first | assumption | omega | (with_unfolding_all exact id rfl) | exact Nat.le_of_ble_eq_true rfl | fail) only [Bool.not_true, Bool.not_false, vR_ok, uR_ok, ev_tmp, ev_const, ev_func, Env.put_some, Env.put_none, Env.set_app, Nat.reduceEqDiff, ↓reduceIte, rG_move, rG_assign, opt1_some, ext_all, dec_t, dec_f, beq_t, beq_f, bne_t, bne_f, wrap_i64, wrap_u64, Int.toNat_natCast, Nat.mul_one, Nat.zero_add, Nat.add_zero, List.map_toArray, List.map_cons, List.map_nil, rG_fieldAddr, fa174_0, rG_binOp, binR_add, rG_build, resM_1, call159, rG_store, st3, stN_1, stN_2, stN_3, stN_4, stN_5, stN_6, stN_7, stN_8, vcs_int, vcs_bool, vcs_ptr, vcs_slice, vcs_map, vcs_nil, vcs_iface, vcs_aggL, List.length_cons, List.length_nil, Nat.reduceAdd, rG_nilCheck, nilR_ptr, st189, rG_indexAddr, ia172, rG_load, ld172, List.getElem?_toArray, List.getElem?_cons_zero, List.getElem?_cons_succ, ld1_some, rd1_cells, rG_alloc_189, Value.cells, call155, ld4, binR_mul, binR_gtr, st191, fa174_1, rG_len, ln172, fa191_2, ld3, ld189, ldN_some, rdN_cells, h0] <;> rfl) ?_; first | with_reducible refine kv ?_ | with_reducible refine ks ?_ | with_reducible refine ke ?_) | (refine xo_t ?_ ?_; focus (simp (disch := first | assumption | omega | (with_unfolding_all exact id rfl) | exact Nat.le_of_ble_eq_true rfl | fail) only [Env.put_some, Env.put_none, Env.set_app, Nat.reduceEqDiff, ↓reduceIte, Bool.not_true, Bool.not_false, h0]; done)) | (refine xo_f ?_ ?_; focus (simp (disch := first | assumption | omega | (with_unfolding_all exact id rfl) | exact Nat.le_of_ble_eq_true rfl | fail) only [Env.put_some, Env.put_none, Env.set_app, Nat.reduceEqDiff, ↓reduceIte, Bool.not_true, Bool.not_false, h0]; done)) | (refine xo_u ?_ ?_; focus (simp (disch := first | assumption | omega | (with_unfolding_all exact id rfl) | exact Nat.le_of_ble_eq_true rfl | fail) only [Env.put_some, Env.put_none, Env.set_app, Nat.reduceEqDiff, ↓reduceIte, Bool.not_true, Bool.not_false, h0]; done)))
        refine (ugrow_calls hU4 I.inv (by omega)).mono ?_
        rintro r w5 ⟨g', T', q1, q2, q3, q4, q5, q6, q7⟩
        refine xo_nil ?_
        have hk5 : w5.heap[nb]? = some (.cells #[.int .i64 lo, .int .i64 hi] 189) := at_chg (w := dr w3 dd) hk3 q6 (by omega)
        have hsz3 := hC3.size
        refine ⟨?_, ?_, ?_, g', T', q1, q3, q4, by rw [q5, I.cnt], (hC3.dr dd).trans q6 (fun _ _ h => h), .inr (Nat.le_trans hsz3 q7), by rw [if_pos hg, q2], hk5⟩
        · (try simp (disch := first | assumption | omega | (with_unfolding_all exact id rfl) | exact Nat.le_of_ble_eq_true rfl | fail) only [Env.put_some, Env.put_none, Env.set_app, Nat.reduceEqDiff, ↓reduceIte, nat_int, Int.toNat_natCast, wrap_i64, h0])
        · (try simp (disch := first | assumption | omega | (with_unfolding_all exact id rfl) | exact Nat.le_of_ble_eq_true rfl | fail) only [Env.put_some, Env.put_none, Env.set_app, Nat.reduceEqDiff, ↓reduceIte, nat_int, Int.toNat_natCast, wrap_i64, h3])
        · (try simp (disch := first | assumption | omega | (with_unfolding_all exact id rfl) | exact Nat.le_of_ble_eq_true rfl | fail) only [Env.put_some, Env.put_none, Env.set_app, Nat.reduceEqDiff, ↓reduceIte, nat_int, Int.toNat_natCast, wrap_i64])
      · refine X_seq fun K hK => ?_
        simp only [X_draw, thenX_normal]
        refine XD_dr ?_
        repeat (first | (refine xe0 (fun w => (by simp (disch := first | assumption | omega | (with_unfolding_all exact id rfl) | exact Nat.le_of_ble_eq_true rfl | fail) only [Bool.not_true, Bool.not_false, vR_ok, uR_ok, ev_tmp, ev_const, ev_func, Env.put_some, Env.put_none, Env.set_app, Nat.reduceEqDiff, ↓reduceIte, rG_move, rG_assign, opt1_some, ext_all, dec_t, dec_f, beq_t, beq_f, bne_t, bne_f, wrap_i64, wrap_u64, Int.toNat_natCast, Nat.mul_one, Nat.zero_add, Nat.add_zero, List.map_toArray, List.map_cons, List.map_nil, rG_fieldAddr, fa174_0, rG_binOp, binR_add, rG_build, resM_1, call159, rG_store, st3, stN_1, stN_2, stN_3, stN_4, stN_5, stN_6, stN_7, stN_8, vcs_int, vcs_bool, vcs_ptr, vcs_slice, vcs_map, vcs_nil, vcs_iface, vcs_aggL, List.length_cons, List.length_nil, Nat.reduceAdd, rG_nilCheck, nilR_ptr, st189, rG_indexAddr, ia172, rG_load, ld172, List.getElem?_toArray, List.getElem?_cons_zero, List.getElem?_cons_succ, ld1_some, rd1_cells, rG_alloc_189, Value.cells, call155, ld4, binR_mul, binR_gtr, st191, fa174_1, rG_len, ln172, fa191_2, ld3, ld189, ldN_some, rdN_cells, h0, hb3] <;> rfl)) ?_) | (refine xe1 (fun i => (by simp (disch := first | assumption | omega | (with_unfolding_all exact id rfl) | exact Nat.le_of_ble_eq_true rfl | fail) only [Bool.not_true, Bool.not_false, vR_ok, uR_ok, ev_tmp, ev_const, ev_func, Env.put_some, Env.put_none, Env.set_app, Nat.reduceEqDiff, ↓reduceIte, rG_move, rG_assign, opt1_some, ext_all, dec_t, dec_f, beq_t, beq_f, bne_t, bne_f, wrap_i64, wrap_u64, Int.toNat_natCast, Nat.mul_one, Nat.zero_add, Nat.add_zero, List.map_toArray, List.map_cons, List.map_nil, rG_fieldAddr, fa174_0, rG_binOp, binR_add, rG_build, resM_1, call159, rG_store, st3, stN_1, stN_2, stN_3, stN_4, stN_5, stN_6, stN_7, stN_8, vcs_int, vcs_bool, vcs_ptr, vcs_slice, vcs_map, vcs_nil, vcs_iface, vcs_aggL, List.length_cons, List.length_nil, Nat.reduceAdd, rG_nilCheck, nilR_ptr, st189, rG_indexAddr, ia172, rG_load, ld172, List.getElem?_toArray, List.getElem?_cons_zero, List.getElem?_cons_succ, ld1_some, rd1_cells, rG_alloc_189, Value.cells, call155, ld4, binR_mul, binR_gtr, st191, fa174_1, rG_len, ln172, fa191_2, ld3, ld189, ldN_some, rdN_cells, dr_heap, h0, hb3] <;> rfl)) ?_) | (refine xe2x (by simp (disch := first | assumption | omega | (with_unfolding_all exact id rfl) | exact Nat.le_of_ble_eq_true rfl | fail) only [Bool.not_true, Bool.not_false, vR_ok, uR_ok, ev_tmp, ev_const, ev_func, Env.put_some, Env.put_none, Env.set_app, Nat.reduceEqDiff, ↓reduceIte, rG_move, rG_assign, opt1_some, ext_all, dec_t, dec_f, beq_t, beq_f, bne_t, bne_f, wrap_i64, wrap_u64, Int.toNat_natCast, Nat.mul_one, Nat.zero_add, Nat.add_zero, List.map_toArray, List.map_cons, List.map_nil, rG_fieldAddr, fa174_0, rG_binOp, binR_add, rG_build, resM_1, call159, rG_store, st3, stN_1, stN_2, stN_3, stN_4, stN_5, stN_6, stN_7, stN_8, vcs_int, vcs_bool, vcs_ptr, vcs_slice, vcs_map, vcs_nil, vcs_iface, vcs_aggL, List.length_cons, List.length_nil, Nat.reduceAdd, rG_nilCheck, nilR_ptr, st189, rG_indexAddr, ia172, rG_load, ld172, List.getElem?_toArray, List.getElem?_cons_zero, List.getElem?_cons_succ, ld1_some, rd1_cells, rG_alloc_189, Value.cells, call155, ld4, binR_mul, binR_gtr, st191, fa174_1, rG_len, ln172, fa191_2, ld3, ld189, ldN_some, rdN_cells, h0, hb3] <;> rfl) ?_; (first | with_reducible refine kv ?_ | with_reducible refine ks ?_ | with_reducible refine ke ?_)) | (refine xe0_t ?_ ?_; focus (simp (disch := first | assumption | omega | (with_unfolding_all exact id rfl) | exact Nat.le_of_ble_eq_true rfl | fail) only [Env.put_some, Env.put_none, Env.set_app, Nat.reduceEqDiff, ↓reduceIte, Bool.not_true, Bool.not_false, h0, hb3]; done)) | (refine xe1_t ?_ ?_; focus (simp (disch := first | assumption | omega | (with_unfolding_all exact id rfl) | exact Nat.le_of_ble_eq_true rfl | fail) only [Env.put_some, Env.put_none, Env.set_app, Nat.reduceEqDiff, ↓reduceIte, Bool.not_true, Bool.not_false, h0, hb3]; done)) | (refine xe0_f ?_ ?_; focus (simp (disch := first | assumption | omega | (with_unfolding_all exact id rfl) | exact Nat.le_of_ble_eq_true rfl | fail) only [Env.put_some, Env.put_none, Env.set_app, Nat.reduceEqDiff, ↓reduceIte, Bool.not_true, Bool.not_false, h0, hb3]; done)) | (refine xe1_f ?_ ?_; focus (simp (disch := first | assumption | omega | (with_unfolding_all exact id rfl) | exact Nat.le_of_ble_eq_true rfl | fail) only [Env.put_some, Env.put_none, Env.set_app, Nat.reduceEqDiff, ↓reduceIte, Bool.not_true, Bool.not_false, h0, hb3]; done)) | (refine xe0_u ?_ ?_; focus (simp (disch := first | assumption | omega | (with_unfolding_all exact id rfl) | exact Nat.le_of_ble_eq_true rfl | fail) only [Env.put_some, Env.put_none, Env.set_app, Nat.reduceEqDiff, ↓reduceIte, Bool.not_true, Bool.not_false, h0, hb3]; done)) | (refine xe1_u ?_ ?_; focus (simp (disch := first | assumption | omega | (with_unfolding_all exact id rfl) | exact Nat.le_of_ble_eq_true rfl | fail) only [Env.put_some, Env.put_none, Env.set_app, Nat.reduceEqDiff, ↓reduceIte, Bool.not_true, Bool.not_false, h0, hb3]; done)))
        refine xe_nil ?_
        rintro w4 ⟨dd, rfl⟩
        (try refine xo_nil ?_)
        refine hK _ _ ?_
        clear hK K
        refine X_if_f (by simp (disch := first | assumption | omega) only [ev_tmp, Env.put_some, Env.put_none, Env.set_app, Nat.reduceEqDiff, ↓reduceIte, beq_f, dec_f]) ?_
        simp only [X_skip, X_exit, X_ret, X_block, thenX_normal, thenX_ret, thenX_exit, inX_normal, inX_ret, inX_exit, ↓reduceIte, Nat.reduceEqDiff]
        refine ⟨?_, ?_, ?_, g, T, hU3.ext ((Ext.refl w3).dr dd), I.inv, fun k v => Iff.rfl, I.cnt, hC3.dr dd, .inl rfl, by rw [if_neg hg], hk3⟩
        · (try simp (disch := first | assumption | omega | (with_unfolding_all exact id rfl) | exact Nat.le_of_ble_eq_true rfl | fail) only [Env.put_some, Env.put_none, Env.set_app, Nat.reduceEqDiff, ↓reduceIte, nat_int, Int.toNat_natCast, wrap_i64, h0])
        · (try simp (disch := first | assumption | omega | (with_unfolding_all exact id rfl) | exact Nat.le_of_ble_eq_true rfl | fail) only [Env.put_some, Env.put_none, Env.set_app, Nat.reduceEqDiff, ↓reduceIte, nat_int, Int.toNat_natCast, wrap_i64, h3])
        · (try simp (disch := first | assumption | omega | (with_unfolding_all exact id rfl) | exact Nat.le_of_ble_eq_true rfl | fail) only [Env.put_some, Env.put_none, Env.set_app, Nat.reduceEqDiff, ↓reduceIte, nat_int, Int.toNat_natCast, wrap_i64])
    · clear h0 h1 h2 h3 hU2 hk2' hEE hb2 hU3 hk3 hC3 hb3
      rintro e w4 ⟨h0, h3, h9, g', T', hU4, hI4, hM4, hcn4, hC4, hg4, hl4, hk4⟩
      have hroom : ∃ z, z < T'.length ∧ occ T' z = none := by
        refine cnt_room ?_
        rw [hcn4, hl4]
        split <;> omega
      obtain ⟨zz, hz1, hz2⟩ := hroom
      obtain ⟨i4, hf4⟩ := Finds.ex homeN_lt (lo, hi) hz1 hz2
      have hil4 := finds_lt hf4
      have hil4' : (i4 : Int) < T'.length := by omega
      have hnone4 : occ T' i4 = none := by
        rcases finds_mem' hI4 hf4 with ⟨h1, _⟩ | ⟨v, hv⟩
        · exact h1
        · exact absurd ((hM4 _ _).1 ⟨_, hv⟩) (hno v)
      obtain ⟨hI5, hM5⟩ := hI4.put homeN_lt n hf4 hnone4
      have hp4 : ∀ u, Ext w4 u → u.heap[p]? = some (.cells #[.slice (some ⟨g', 0, none⟩) T'.length T'.length, .int .i64 (many + 1)] 174) := fun u hu => hu.at hU4.at_
      have hkk : ∀ u, Ext w4 u → u.heap[nb]? = some (.cells #[.int .i64 lo, .int .i64 hi] 189) := fun u hu => hu.at hk4
      have hset := tbA_some (T := T') (i := i4) (lo := lo) (hi := hi) (n := n) hil4
      have htn : (tbL T').toArray.size = T'.length * 4 := by simp [tbL_len]; omega
      have hszt : i4 * 4 + 4 ≤ (tbL T').toArray.size := by omega
      refine X_seq fun K hK => ?_
      simp only [X_draw, thenX_normal]
      refine XD_ext ?_
      repeat (first | (refine xe0 (fun w => (by simp (disch := first | assumption | omega | (with_unfolding_all exact id rfl) | exact Nat.le_of_ble_eq_true rfl | fail) only [Bool.not_true, Bool.not_false, vR_ok, uR_ok, ev_tmp, ev_const, ev_func, Env.put_some, Env.put_none, Env.set_app, Nat.reduceEqDiff, ↓reduceIte, rG_move, rG_assign, opt1_some, ext_all, dec_t, dec_f, beq_t, beq_f, bne_t, bne_f, wrap_i64, wrap_u64, Int.toNat_natCast, Nat.mul_one, Nat.zero_add, Nat.add_zero, List.map_toArray, List.map_cons, List.map_nil, rG_fieldAddr, fa174_0, rG_binOp, binR_add, rG_build, resM_1, call159, rG_store, st3, stN_1, stN_2, stN_3, stN_4, stN_5, stN_6, stN_7, stN_8, vcs_int, vcs_bool, vcs_ptr, vcs_slice, vcs_map, vcs_nil, vcs_iface, vcs_aggL, List.length_cons, List.length_nil, Nat.reduceAdd, rG_nilCheck, nilR_ptr, st189, rG_indexAddr, ia172, rG_load, ld172, List.getElem?_toArray, List.getElem?_cons_zero, List.getElem?_cons_succ, ld1_some, rd1_cells, rG_alloc_189, Value.cells, call155, ld4, binR_mul, binR_gtr, st191, fa174_1, rG_len, ln172, fa191_2, ld3, ld189, ldN_some, rdN_cells, h0, h3, h9, hp4, hkk, hks, bd_slot] <;> rfl)) ?_) | (refine xe1e (fun w' hw => (by simp (disch := first | assumption | omega | (with_unfolding_all exact id rfl) | exact Nat.le_of_ble_eq_true rfl | fail) only [Bool.not_true, Bool.not_false, vR_ok, uR_ok, ev_tmp, ev_const, ev_func, Env.put_some, Env.put_none, Env.set_app, Nat.reduceEqDiff, ↓reduceIte, rG_move, rG_assign, opt1_some, ext_all, dec_t, dec_f, beq_t, beq_f, bne_t, bne_f, wrap_i64, wrap_u64, Int.toNat_natCast, Nat.mul_one, Nat.zero_add, Nat.add_zero, List.map_toArray, List.map_cons, List.map_nil, rG_fieldAddr, fa174_0, rG_binOp, binR_add, rG_build, resM_1, call159, rG_store, st3, stN_1, stN_2, stN_3, stN_4, stN_5, stN_6, stN_7, stN_8, vcs_int, vcs_bool, vcs_ptr, vcs_slice, vcs_map, vcs_nil, vcs_iface, vcs_aggL, List.length_cons, List.length_nil, Nat.reduceAdd, rG_nilCheck, nilR_ptr, st189, rG_indexAddr, ia172, rG_load, ld172, List.getElem?_toArray, List.getElem?_cons_zero, List.getElem?_cons_succ, ld1_some, rd1_cells, rG_alloc_189, Value.cells, call155, ld4, binR_mul, binR_gtr, st191, fa174_1, rG_len, ln172, fa191_2, ld3, ld189, ldN_some, rdN_cells, h0, h3, h9, hp4, hkk, hks, bd_slot] <;> rfl)) ?_) | (refine xe2x (by simp (disch := first | assumption | omega | (with_unfolding_all exact id rfl) | exact Nat.le_of_ble_eq_true rfl | fail) only [Bool.not_true, Bool.not_false, vR_ok, uR_ok, ev_tmp, ev_const, ev_func, Env.put_some, Env.put_none, Env.set_app, Nat.reduceEqDiff, ↓reduceIte, rG_move, rG_assign, opt1_some, ext_all, dec_t, dec_f, beq_t, beq_f, bne_t, bne_f, wrap_i64, wrap_u64, Int.toNat_natCast, Nat.mul_one, Nat.zero_add, Nat.add_zero, List.map_toArray, List.map_cons, List.map_nil, rG_fieldAddr, fa174_0, rG_binOp, binR_add, rG_build, resM_1, call159, rG_store, st3, stN_1, stN_2, stN_3, stN_4, stN_5, stN_6, stN_7, stN_8, vcs_int, vcs_bool, vcs_ptr, vcs_slice, vcs_map, vcs_nil, vcs_iface, vcs_aggL, List.length_cons, List.length_nil, Nat.reduceAdd, rG_nilCheck, nilR_ptr, st189, rG_indexAddr, ia172, rG_load, ld172, List.getElem?_toArray, List.getElem?_cons_zero, List.getElem?_cons_succ, ld1_some, rd1_cells, rG_alloc_189, Value.cells, call155, ld4, binR_mul, binR_gtr, st191, fa174_1, rG_len, ln172, fa191_2, ld3, ld189, ldN_some, rdN_cells, h0, h3, h9, hp4, hkk, hks, bd_slot] <;> rfl) ?_; (first | with_reducible refine kv ?_ | with_reducible refine ks ?_ | with_reducible refine ke ?_)) | (refine xe0_t ?_ ?_; focus (simp (disch := first | assumption | omega | (with_unfolding_all exact id rfl) | exact Nat.le_of_ble_eq_true rfl | fail) only [Env.put_some, Env.put_none, Env.set_app, Nat.reduceEqDiff, ↓reduceIte, Bool.not_true, Bool.not_false, h0, h3, h9, hp4, hkk, hks, bd_slot]; done)) | (refine xe1_t ?_ ?_; focus (simp (disch := first | assumption | omega | (with_unfolding_all exact id rfl) | exact Nat.le_of_ble_eq_true rfl | fail) only [Env.put_some, Env.put_none, Env.set_app, Nat.reduceEqDiff, ↓reduceIte, Bool.not_true, Bool.not_false, h0, h3, h9, hp4, hkk, hks, bd_slot]; done)) | (refine xe0_f ?_ ?_; focus (simp (disch := first | assumption | omega | (with_unfolding_all exact id rfl) | exact Nat.le_of_ble_eq_true rfl | fail) only [Env.put_some, Env.put_none, Env.set_app, Nat.reduceEqDiff, ↓reduceIte, Bool.not_true, Bool.not_false, h0, h3, h9, hp4, hkk, hks, bd_slot]; done)) | (refine xe1_f ?_ ?_; focus (simp (disch := first | assumption | omega | (with_unfolding_all exact id rfl) | exact Nat.le_of_ble_eq_true rfl | fail) only [Env.put_some, Env.put_none, Env.set_app, Nat.reduceEqDiff, ↓reduceIte, Bool.not_true, Bool.not_false, h0, h3, h9, hp4, hkk, hks, bd_slot]; done)) | (refine xe0_u ?_ ?_; focus (simp (disch := first | assumption | omega | (with_unfolding_all exact id rfl) | exact Nat.le_of_ble_eq_true rfl | fail) only [Env.put_some, Env.put_none, Env.set_app, Nat.reduceEqDiff, ↓reduceIte, Bool.not_true, Bool.not_false, h0, h3, h9, hp4, hkk, hks, bd_slot]; done)) | (refine xe1_u ?_ ?_; focus (simp (disch := first | assumption | omega | (with_unfolding_all exact id rfl) | exact Nat.le_of_ble_eq_true rfl | fail) only [Env.put_some, Env.put_none, Env.set_app, Nat.reduceEqDiff, ↓reduceIte, Bool.not_true, Bool.not_false, h0, h3, h9, hp4, hkk, hks, bd_slot]; done)))
      refine xe1c (fun w' hw => (by simp (disch := first | assumption | omega | (with_unfolding_all exact id rfl) | exact Nat.le_of_ble_eq_true rfl | fail) only [Bool.not_true, Bool.not_false, vR_ok, uR_ok, ev_tmp, ev_const, ev_func, Env.put_some, Env.put_none, Env.set_app, Nat.reduceEqDiff, ↓reduceIte, rG_move, rG_assign, opt1_some, ext_all, dec_t, dec_f, beq_t, beq_f, bne_t, bne_f, wrap_i64, wrap_u64, Int.toNat_natCast, Nat.mul_one, Nat.zero_add, Nat.add_zero, List.map_toArray, List.map_cons, List.map_nil, rG_fieldAddr, fa174_0, rG_binOp, binR_add, rG_build, resM_1, call159, rG_store, st3, stN_1, stN_2, stN_3, stN_4, stN_5, stN_6, stN_7, stN_8, vcs_int, vcs_bool, vcs_ptr, vcs_slice, vcs_map, vcs_nil, vcs_iface, vcs_aggL, List.length_cons, List.length_nil, Nat.reduceAdd, rG_nilCheck, nilR_ptr, st189, rG_indexAddr, ia172, rG_load, ld172, List.getElem?_toArray, List.getElem?_cons_zero, List.getElem?_cons_succ, ld1_some, rd1_cells, rG_alloc_189, Value.cells, call155, ld4, binR_mul, binR_gtr, st191, fa174_1, rG_len, ln172, fa191_2, ld3, ld189, ldN_some, rdN_cells, h0] <;> rfl)) (fun w' hw => ufind_calls (hU4.ext hw) hf4) ?_
      repeat (first | (refine xe0 (fun w => (by simp (disch := first | assumption | omega | (with_unfolding_all exact id rfl) | exact Nat.le_of_ble_eq_true rfl | fail) only [Bool.not_true, Bool.not_false, vR_ok, uR_ok, ev_tmp, ev_const, ev_func, Env.put_some, Env.put_none, Env.set_app, Nat.reduceEqDiff, ↓reduceIte, rG_move, rG_assign, opt1_some, ext_all, dec_t, dec_f, beq_t, beq_f, bne_t, bne_f, wrap_i64, wrap_u64, Int.toNat_natCast, Nat.mul_one, Nat.zero_add, Nat.add_zero, List.map_toArray, List.map_cons, List.map_nil, rG_fieldAddr, fa174_0, rG_binOp, binR_add, rG_build, resM_1, call159, rG_store, st3, stN_1, stN_2, stN_3, stN_4, stN_5, stN_6, stN_7, stN_8, vcs_int, vcs_bool, vcs_ptr, vcs_slice, vcs_map, vcs_nil, vcs_iface, vcs_aggL, List.length_cons, List.length_nil, Nat.reduceAdd, rG_nilCheck, nilR_ptr, st189, rG_indexAddr, ia172, rG_load, ld172, List.getElem?_toArray, List.getElem?_cons_zero, List.getElem?_cons_succ, ld1_some, rd1_cells, rG_alloc_189, Value.cells, call155, ld4, binR_mul, binR_gtr, st191, fa174_1, rG_len, ln172, fa191_2, ld3, ld189, ldN_some, rdN_cells, h0, h3, h9, hp4, hkk, hks, bd_slot] <;> rfl)) ?_) | (refine xe1e (fun w' hw => (by simp (disch := first | assumption | omega | (with_unfolding_all exact id rfl) | exact Nat.le_of_ble_eq_true rfl | fail) only [Bool.not_true, Bool.not_false, vR_ok, uR_ok, ev_tmp, ev_const, ev_func, Env.put_some, Env.put_none, Env.set_app, Nat.reduceEqDiff, ↓reduceIte, rG_move, rG_assign, opt1_some, ext_all, dec_t, dec_f, beq_t, beq_f, bne_t, bne_f, wrap_i64, wrap_u64, Int.toNat_natCast, Nat.mul_one, Nat.zero_add, Nat.add_zero, List.map_toArray, List.map_cons, List.map_nil, rG_fieldAddr, fa174_0, rG_binOp, binR_add, rG_build, resM_1, call159, rG_store, st3, stN_1, stN_2, stN_3, stN_4, stN_5, stN_6, stN_7, stN_8, vcs_int, vcs_bool, vcs_ptr, vcs_slice, vcs_map, vcs_nil, vcs_iface, vcs_aggL, List.length_cons, List.length_nil, Nat.reduceAdd, rG_nilCheck, nilR_ptr, st189, rG_indexAddr, ia172, rG_load, ld172, List.getElem?_toArray, List.getElem?_cons_zero, List.getElem?_cons_succ, ld1_some, rd1_cells, rG_alloc_189, Value.cells, call155, ld4, binR_mul, binR_gtr, st191, fa174_1, rG_len, ln172, fa191_2, ld3, ld189, ldN_some, rdN_cells, h0, h3, h9, hp4, hkk, hks, bd_slot] <;> rfl)) ?_) | (refine xe2x (by simp (disch := first | assumption | omega | (with_unfolding_all exact id rfl) | exact Nat.le_of_ble_eq_true rfl | fail) only [Bool.not_true, Bool.not_false, vR_ok, uR_ok, ev_tmp, ev_const, ev_func, Env.put_some, Env.put_none, Env.set_app, Nat.reduceEqDiff, ↓reduceIte, rG_move, rG_assign, opt1_some, ext_all, dec_t, dec_f, beq_t, beq_f, bne_t, bne_f, wrap_i64, wrap_u64, Int.toNat_natCast, Nat.mul_one, Nat.zero_add, Nat.add_zero, List.map_toArray, List.map_cons, List.map_nil, rG_fieldAddr, fa174_0, rG_binOp, binR_add, rG_build, resM_1, call159, rG_store, st3, stN_1, stN_2, stN_3, stN_4, stN_5, stN_6, stN_7, stN_8, vcs_int, vcs_bool, vcs_ptr, vcs_slice, vcs_map, vcs_nil, vcs_iface, vcs_aggL, List.length_cons, List.length_nil, Nat.reduceAdd, rG_nilCheck, nilR_ptr, st189, rG_indexAddr, ia172, rG_load, ld172, List.getElem?_toArray, List.getElem?_cons_zero, List.getElem?_cons_succ, ld1_some, rd1_cells, rG_alloc_189, Value.cells, call155, ld4, binR_mul, binR_gtr, st191, fa174_1, rG_len, ln172, fa191_2, ld3, ld189, ldN_some, rdN_cells, h0, h3, h9, hp4, hkk, hks, bd_slot] <;> rfl) ?_; (first | with_reducible refine kv ?_ | with_reducible refine ks ?_ | with_reducible refine ke ?_)) | (refine xe0_t ?_ ?_; focus (simp (disch := first | assumption | omega | (with_unfolding_all exact id rfl) | exact Nat.le_of_ble_eq_true rfl | fail) only [Env.put_some, Env.put_none, Env.set_app, Nat.reduceEqDiff, ↓reduceIte, Bool.not_true, Bool.not_false, h0, h3, h9, hp4, hkk, hks, bd_slot]; done)) | (refine xe1_t ?_ ?_; focus (simp (disch := first | assumption | omega | (with_unfolding_all exact id rfl) | exact Nat.le_of_ble_eq_true rfl | fail) only [Env.put_some, Env.put_none, Env.set_app, Nat.reduceEqDiff, ↓reduceIte, Bool.not_true, Bool.not_false, h0, h3, h9, hp4, hkk, hks, bd_slot]; done)) | (refine xe0_f ?_ ?_; focus (simp (disch := first | assumption | omega | (with_unfolding_all exact id rfl) | exact Nat.le_of_ble_eq_true rfl | fail) only [Env.put_some, Env.put_none, Env.set_app, Nat.reduceEqDiff, ↓reduceIte, Bool.not_true, Bool.not_false, h0, h3, h9, hp4, hkk, hks, bd_slot]; done)) | (refine xe1_f ?_ ?_; focus (simp (disch := first | assumption | omega | (with_unfolding_all exact id rfl) | exact Nat.le_of_ble_eq_true rfl | fail) only [Env.put_some, Env.put_none, Env.set_app, Nat.reduceEqDiff, ↓reduceIte, Bool.not_true, Bool.not_false, h0, h3, h9, hp4, hkk, hks, bd_slot]; done)) | (refine xe0_u ?_ ?_; focus (simp (disch := first | assumption | omega | (with_unfolding_all exact id rfl) | exact Nat.le_of_ble_eq_true rfl | fail) only [Env.put_some, Env.put_none, Env.set_app, Nat.reduceEqDiff, ↓reduceIte, Bool.not_true, Bool.not_false, h0, h3, h9, hp4, hkk, hks, bd_slot]; done)) | (refine xe1_u ?_ ?_; focus (simp (disch := first | assumption | omega | (with_unfolding_all exact id rfl) | exact Nat.le_of_ble_eq_true rfl | fail) only [Env.put_some, Env.put_none, Env.set_app, Nat.reduceEqDiff, ↓reduceIte, Bool.not_true, Bool.not_false, h0, h3, h9, hp4, hkk, hks, bd_slot]; done)))
      refine xe2 fun w5 hE5 => ?_
      have hU5 := hU4.ext hE5
      have hsl5 := hU5.sl
      refine kr (by simp (disch := first | assumption | omega | (with_unfolding_all exact id rfl) | exact Nat.le_of_ble_eq_true rfl | fail) only [Bool.not_true, Bool.not_false, vR_ok, uR_ok, ev_tmp, ev_const, ev_func, Env.put_some, Env.put_none, Env.set_app, Nat.reduceEqDiff, ↓reduceIte, rG_move, rG_assign, opt1_some, ext_all, dec_t, dec_f, beq_t, beq_f, bne_t, bne_f, wrap_i64, wrap_u64, Int.toNat_natCast, Nat.mul_one, Nat.zero_add, Nat.add_zero, List.map_toArray, List.map_cons, List.map_nil, rG_fieldAddr, fa174_0, rG_binOp, binR_add, rG_build, resM_1, call159, rG_store, st3, stN_1, stN_2, stN_3, stN_4, stN_5, stN_6, stN_7, stN_8, vcs_int, vcs_bool, vcs_ptr, vcs_slice, vcs_map, vcs_nil, vcs_iface, vcs_aggL, List.length_cons, List.length_nil, Nat.reduceAdd, rG_nilCheck, nilR_ptr, st189, rG_indexAddr, ia172, rG_load, ld172, List.getElem?_toArray, List.getElem?_cons_zero, List.getElem?_cons_succ, ld1_some, rd1_cells, rG_alloc_189, Value.cells, call155, ld4, binR_mul, binR_gtr, st191, fa174_1, rG_len, ln172, fa191_2, ld3, ld189, ldN_some, rdN_cells, hsl5, hset] <;> rfl) ?_
      first | with_reducible refine kv ?_ | with_reducible refine ks ?_ | with_reducible refine ke ?_
      refine xe_nil ?_
      rintro _ rfl
      (try refine xo_nil ?_)
      refine hK _ _ ?_
      clear hK K
      have hU6 := hU5.row hil4 (some ((lo, hi), n))
      have hC5 := hC4.trans (hE5.chg (fun _ => False)) (fun _ _ h => h.elim)
      refine X_seq fun K hK => ?_
      simp only [X_reg, thenX_normal]
      repeat (first | (refine xo (by simp (disch := first | assumption | omega | (with_unfolding_all exact id rfl) | exact Nat.le_of_ble_eq_true rfl | fail) only [Bool.not_true, Bool.not_false, vR_ok, uR_ok, ev_tmp, ev_const, ev_func, Env.put_some, Env.put_none, Env.set_app, Nat.reduceEqDiff, ↓reduceIte, rG_move, rG_assign, opt1_some, ext_all, dec_t, dec_f, beq_t, beq_f, bne_t, bne_f, wrap_i64, wrap_u64, Int.toNat_natCast, Nat.mul_one, Nat.zero_add, Nat.add_zero, List.map_toArray, List.map_cons, List.map_nil, rG_fieldAddr, fa174_0, rG_binOp, binR_add, rG_build, resM_1, call159, rG_store, st3, stN_1, stN_2, stN_3, stN_4, stN_5, stN_6, stN_7, stN_8, vcs_int, vcs_bool, vcs_ptr, vcs_slice, vcs_map, vcs_nil, vcs_iface, vcs_aggL, List.length_cons, List.length_nil, Nat.reduceAdd, rG_nilCheck, nilR_ptr, st189, rG_indexAddr, ia172, rG_load, ld172, List.getElem?_toArray, List.getElem?_cons_zero, List.getElem?_cons_succ, ld1_some, rd1_cells, rG_alloc_189, Value.cells, call155, ld4, binR_mul, binR_gtr, st191, fa174_1, rG_len, ln172, fa191_2, ld3, ld189, ldN_some, rdN_cells] <;> rfl) ?_; first | with_reducible refine kv ?_ | with_reducible refine ks ?_ | with_reducible refine ke ?_) | (refine xo_t ?_ ?_; focus (simp (disch := first | assumption | omega | (with_unfolding_all exact id rfl) | exact Nat.le_of_ble_eq_true rfl | fail) only [Env.put_some, Env.put_none, Env.set_app, Nat.reduceEqDiff, ↓reduceIte, Bool.not_true, Bool.not_false]; done)) | (refine xo_f ?_ ?_; focus (simp (disch := first | assumption | omega | (with_unfolding_all exact id rfl) | exact Nat.le_of_ble_eq_true rfl | fail) only [Env.put_some, Env.put_none, Env.set_app, Nat.reduceEqDiff, ↓reduceIte, Bool.not_true, Bool.not_false]; done)) | (refine xo_u ?_ ?_; focus (simp (disch := first | assumption | omega | (with_unfolding_all exact id rfl) | exact Nat.le_of_ble_eq_true rfl | fail) only [Env.put_some, Env.put_none, Env.set_app, Nat.reduceEqDiff, ↓reduceIte, Bool.not_true, Bool.not_false]; done)))
      refine xo_nil ?_
      refine hK _ _ ?_
      clear hK K
      simp (disch := first | assumption | omega | (with_unfolding_all exact id rfl) | exact Nat.le_of_ble_eq_true rfl | fail) only [X_ret, thenX_ret, inX_ret, retX_ret, retX_normal, Try.results138, resM_0, resM_1, resM_2, resM_3, resM_4, Env.put_some, Env.put_none, Env.set_app, Nat.reduceEqDiff, ↓reduceIte]
      refine ⟨_, rfl, g', many + 1, _, hU6, ⟨hI5, ?_, ?_, by omega⟩, ?_, (by rw [← hnb]; exact hg4), .inr ⟨rfl, rfl, hno, fun k v => ?_, by rw [List.length_set]; exact hl4⟩⟩
      · rw [cnt_set hil4, hnone4, hcn4]; simp [b2]
      · rw [List.length_set, hl4]; split <;> omega
      · refine (hC5.mono (fun k _ h => .inl h)).upd (fun hlt => ?_) _
        rcases hg4 with h1 | h1
        · exact .inr h1
        · omega
      · rw [hM5, hM4]
  · rw [hv] at hin ⊢
    refine X_if_t (by simp (disch := first | assumption | omega) only [ev_tmp, Env.put_some, Env.put_none, Env.set_app, Nat.reduceEqDiff, ↓reduceIte, beq_t, dec_t, beq_self_eq_true, Option.isSome_some]) ?_
    refine X_seq fun K hK => ?_
    simp only [X_reg, thenX_normal]
    repeat (first | (refine xo (by simp (disch := first | assumption | omega | (with_unfolding_all exact id rfl) | exact Nat.le_of_ble_eq_true rfl | fail) only [Bool.not_true, Bool.not_false, vR_ok, uR_ok, ev_tmp, ev_const, ev_func, Env.put_some, Env.put_none, Env.set_app, Nat.reduceEqDiff, ↓reduceIte, rG_move, rG_assign, opt1_some, ext_all, dec_t, dec_f, beq_t, beq_f, bne_t, bne_f, wrap_i64, wrap_u64, Int.toNat_natCast, Nat.mul_one, Nat.zero_add, Nat.add_zero, List.map_toArray, List.map_cons, List.map_nil, rG_fieldAddr, fa174_0, rG_binOp, binR_add, rG_build, resM_1, call159, rG_store, st3, stN_1, stN_2, stN_3, stN_4, stN_5, stN_6, stN_7, stN_8, vcs_int, vcs_bool, vcs_ptr, vcs_slice, vcs_map, vcs_nil, vcs_iface, vcs_aggL, List.length_cons, List.length_nil, Nat.reduceAdd, rG_nilCheck, nilR_ptr, st189, rG_indexAddr, ia172, rG_load, ld172, List.getElem?_toArray, List.getElem?_cons_zero, List.getElem?_cons_succ, ld1_some, rd1_cells, rG_alloc_189, Value.cells, call155, ld4, binR_mul, binR_gtr, st191, fa174_1, rG_len, ln172, fa191_2, ld3, ld189, ldN_some, rdN_cells] <;> rfl) ?_; first | with_reducible refine kv ?_ | with_reducible refine ks ?_ | with_reducible refine ke ?_) | (refine xo_t ?_ ?_; focus (simp (disch := first | assumption | omega | (with_unfolding_all exact id rfl) | exact Nat.le_of_ble_eq_true rfl | fail) only [Env.put_some, Env.put_none, Env.set_app, Nat.reduceEqDiff, ↓reduceIte, Bool.not_true, Bool.not_false]; done)) | (refine xo_f ?_ ?_; focus (simp (disch := first | assumption | omega | (with_unfolding_all exact id rfl) | exact Nat.le_of_ble_eq_true rfl | fail) only [Env.put_some, Env.put_none, Env.set_app, Nat.reduceEqDiff, ↓reduceIte, Bool.not_true, Bool.not_false]; done)) | (refine xo_u ?_ ?_; focus (simp (disch := first | assumption | omega | (with_unfolding_all exact id rfl) | exact Nat.le_of_ble_eq_true rfl | fail) only [Env.put_some, Env.put_none, Env.set_app, Nat.reduceEqDiff, ↓reduceIte, Bool.not_true, Bool.not_false]; done)))
    refine xo_nil ?_
    refine hK _ _ ?_
    clear hK K
    simp (disch := first | assumption | omega | (with_unfolding_all exact id rfl) | exact Nat.le_of_ble_eq_true rfl | fail) only [X_ret, thenX_ret, inX_ret, retX_ret, retX_normal, Try.results138, resM_0, resM_1, resM_2, resM_3, resM_4, Env.put_some, Env.put_none, Env.set_app, Nat.reduceEqDiff, ↓reduceIte]
    exact ⟨_, rfl, g, many, T, hU2, I, hEE.chg _, .inl rfl, .inl ⟨rfl, rfl, rfl, v, i, hv⟩⟩
end Go.Proofs.Ytpeindhocndmnaa

/- Walks of layer 5: Drop. -/
namespace Go.Proofs.Ytpeindhocndmnaa
open Go Go.Bx
set_option linter.unusedSimpArgs false
set_option linter.unusedVariables false
set_option maxRecDepth 100000
set_option maxHeartbeats 4000000

theorem crd_cyc {n b c : Nat} (hb : b < n) (hc : c < n) : crd n b (cyc n b c) = c := by unfold cyc crd; split <;> split <;> omega

theorem udrop_calls {w : World} {p g : Nat} {many : Int} {T : Tb} (h : UqI w p g many T) (I : TabI T many) (lo hi : Int) :
    CallsR Try.prog 136 #[.pointer (some ⟨p, 0, none⟩), .int .i64 lo, .int .i64 hi] w fun r w' => ∃ m' T', UqI w' p g m' T' ∧ TabI T' m' ∧ T'.length = T.length ∧ Chg (fun x => x = p ∨ x = g) w w' ∧
      ((r = .bool false ∧ m' = many ∧ T' = T ∧ ∀ v, ¬ MemT T (lo, hi) v) ∨ (r = .bool true ∧ m' = many - 1 ∧ (∃ v, MemT T (lo, hi) v) ∧ ∀ k v, MemT T' k v ↔ MemT T k v ∧ k ≠ (lo, hi))) := by
  have hlim := h.lim
  have hpos := h.pos
  have hm0 := I.many0
  have hhalf := I.half
  have hpl := lt_of_heap h.at_
  have hgl := lt_of_heap h.sl
  obtain ⟨i, hil, hf⟩ := I.find (lo, hi)
  have hil' : (i : Int) < T.length := by omega
  have hin := tbA_in hil
  have htl : (tbL T).toArray.size = T.length * 4 := by simp [tbL_len]; omega
  refine calls3 (bs := []) Try.func136 rfl mixed (by kernel_rfl) ?_
  intro e0 h0 h1 h2
  simp only [comp, gop, gslot, dops, bigOf, setK, drawOf, drawOf2, dopsW, setW, dopsR, setR, kindOf, List.lookup, List.map_cons, List.map_nil, Option.bind_some, List.getElem?_toArray, List.getElem?_cons_zero, List.getElem?_cons_succ, Option.getD_some, Option.getD_none, List.contains_nil, List.contains_cons, Bool.false_eq_true, ↓reduceIte, Nat.reduceAdd, Nat.reduceBEq, Bool.or_false]
  refine X_seq fun K hK => ?_
  simp only [X_reg, thenX_normal]
  repeat (first | (refine xo (by simp (disch := first | assumption | omega | (with_unfolding_all exact id rfl) | exact Nat.le_of_ble_eq_true rfl | fail) only [Bool.not_true, Bool.not_false, vR_ok, uR_ok, ev_tmp, ev_const, ev_func, Env.put_some, Env.put_none, Env.set_app, Nat.reduceEqDiff, ↓reduceIte, rG_move, rG_assign, opt1_some, ext_all, dec_t, dec_f, beq_t, beq_f, bne_t, bne_f, wrap_i64, wrap_u64, Int.toNat_natCast, Nat.mul_one, Nat.zero_add, Nat.add_zero, List.map_toArray, List.map_cons, List.map_nil, resM_1, rG_unOp, unR_not, rG_fieldAddr, fa191_2, rG_store, st3, stN_1, stN_2, stN_3, stN_4, stN_5, stN_6, stN_7, stN_8, vcs_int, vcs_bool, vcs_ptr, vcs_slice, vcs_map, vcs_nil, vcs_iface, vcs_aggL, List.length_cons, List.length_nil, Nat.reduceAdd, rG_nilCheck, nilR_ptr, fa174_1, rG_build, rG_load, ld3, List.getElem?_toArray, List.getElem?_cons_zero, List.getElem?_cons_succ, ld1_some, rd1_cells, ld189, ldN_some, rdN_cells, rG_binOp, binR_sub, call155, binR_and, rG_alloc_191, Value.cells, st191, fa174_0, ld191, rG_indexAddr, ia172, binR_add, fa191_0, ld172, rG_len, ln172, ld4] <;> rfl) ?_; first | with_reducible refine kv ?_ | with_reducible refine ks ?_ | with_reducible refine ke ?_) | (refine xo_t ?_ ?_; focus (simp (disch := first | assumption | omega | (with_unfolding_all exact id rfl) | exact Nat.le_of_ble_eq_true rfl | fail) only [Env.put_some, Env.put_none, Env.set_app, Nat.reduceEqDiff, ↓reduceIte, Bool.not_true, Bool.not_false]; done)) | (refine xo_f ?_ ?_; focus (simp (disch := first | assumption | omega | (with_unfolding_all exact id rfl) | exact Nat.le_of_ble_eq_true rfl | fail) only [Env.put_some, Env.put_none, Env.set_app, Nat.reduceEqDiff, ↓reduceIte, Bool.not_true, Bool.not_false]; done)) | (refine xo_u ?_ ?_; focus (simp (disch := first | assumption | omega | (with_unfolding_all exact id rfl) | exact Nat.le_of_ble_eq_true rfl | fail) only [Env.put_some, Env.put_none, Env.set_app, Nat.reduceEqDiff, ↓reduceIte, Bool.not_true, Bool.not_false]; done)))
  refine xo_nil ?_
  refine hK _ _ ?_
  clear hK K
  refine X_seq fun K hK => ?_
  (try simp only [X_reg, thenX_normal])
  repeat (first | (refine xo (by simp (disch := first | assumption | omega | (with_unfolding_all exact id rfl) | exact Nat.le_of_ble_eq_true rfl | fail) only [Bool.not_true, Bool.not_false, vR_ok, uR_ok, ev_tmp, ev_const, ev_func, Env.put_some, Env.put_none, Env.set_app, Nat.reduceEqDiff, ↓reduceIte, rG_move, rG_assign, opt1_some, ext_all, dec_t, dec_f, beq_t, beq_f, bne_t, bne_f, wrap_i64, wrap_u64, Int.toNat_natCast, Nat.mul_one, Nat.zero_add, Nat.add_zero, List.map_toArray, List.map_cons, List.map_nil, resM_1, rG_unOp, unR_not, rG_fieldAddr, fa191_2, rG_store, st3, stN_1, stN_2, stN_3, stN_4, stN_5, stN_6, stN_7, stN_8, vcs_int, vcs_bool, vcs_ptr, vcs_slice, vcs_map, vcs_nil, vcs_iface, vcs_aggL, List.length_cons, List.length_nil, Nat.reduceAdd, rG_nilCheck, nilR_ptr, fa174_1, rG_build, rG_load, ld3, List.getElem?_toArray, List.getElem?_cons_zero, List.getElem?_cons_succ, ld1_some, rd1_cells, ld189, ldN_some, rdN_cells, rG_binOp, binR_sub, call155, binR_and, rG_alloc_191, Value.cells, st191, fa174_0, ld191, rG_indexAddr, ia172, binR_add, fa191_0, ld172, rG_len, ln172, ld4, h0, h1, h2, bd_pair] <;> rfl) ?_; first | with_reducible refine kv ?_ | with_reducible refine ks ?_ | with_reducible refine ke ?_) | (refine xo_t ?_ ?_; focus (simp (disch := first | assumption | omega | (with_unfolding_all exact id rfl) | exact Nat.le_of_ble_eq_true rfl | fail) only [Env.put_some, Env.put_none, Env.set_app, Nat.reduceEqDiff, ↓reduceIte, Bool.not_true, Bool.not_false, h0, h1, h2, bd_pair]; done)) | (refine xo_f ?_ ?_; focus (simp (disch := first | assumption | omega | (with_unfolding_all exact id rfl) | exact Nat.le_of_ble_eq_true rfl | fail) only [Env.put_some, Env.put_none, Env.set_app, Nat.reduceEqDiff, ↓reduceIte, Bool.not_true, Bool.not_false, h0, h1, h2, bd_pair]; done)) | (refine xo_u ?_ ?_; focus (simp (disch := first | assumption | omega | (with_unfolding_all exact id rfl) | exact Nat.le_of_ble_eq_true rfl | fail) only [Env.put_some, Env.put_none, Env.set_app, Nat.reduceEqDiff, ↓reduceIte, Bool.not_true, Bool.not_false, h0, h1, h2, bd_pair]; done)))
  refine (ufind_calls h hf).mono ?_
  rintro _ w1 ⟨rfl, hE1⟩
  (try simp only [X_reg, thenX_normal])
  repeat (first | (refine xo (by simp (disch := first | assumption | omega | (with_unfolding_all exact id rfl) | exact Nat.le_of_ble_eq_true rfl | fail) only [Bool.not_true, Bool.not_false, vR_ok, uR_ok, ev_tmp, ev_const, ev_func, Env.put_some, Env.put_none, Env.set_app, Nat.reduceEqDiff, ↓reduceIte, rG_move, rG_assign, opt1_some, ext_all, dec_t, dec_f, beq_t, beq_f, bne_t, bne_f, wrap_i64, wrap_u64, Int.toNat_natCast, Nat.mul_one, Nat.zero_add, Nat.add_zero, List.map_toArray, List.map_cons, List.map_nil, resM_1, rG_unOp, unR_not, rG_fieldAddr, fa191_2, rG_store, st3, stN_1, stN_2, stN_3, stN_4, stN_5, stN_6, stN_7, stN_8, vcs_int, vcs_bool, vcs_ptr, vcs_slice, vcs_map, vcs_nil, vcs_iface, vcs_aggL, List.length_cons, List.length_nil, Nat.reduceAdd, rG_nilCheck, nilR_ptr, fa174_1, rG_build, rG_load, ld3, List.getElem?_toArray, List.getElem?_cons_zero, List.getElem?_cons_succ, ld1_some, rd1_cells, ld189, ldN_some, rdN_cells, rG_binOp, binR_sub, call155, binR_and, rG_alloc_191, Value.cells, st191, fa174_0, ld191, rG_indexAddr, ia172, binR_add, fa191_0, ld172, rG_len, ln172, ld4] <;> rfl) ?_; first | with_reducible refine kv ?_ | with_reducible refine ks ?_ | with_reducible refine ke ?_) | (refine xo_t ?_ ?_; focus (simp (disch := first | assumption | omega | (with_unfolding_all exact id rfl) | exact Nat.le_of_ble_eq_true rfl | fail) only [Env.put_some, Env.put_none, Env.set_app, Nat.reduceEqDiff, ↓reduceIte, Bool.not_true, Bool.not_false]; done)) | (refine xo_f ?_ ?_; focus (simp (disch := first | assumption | omega | (with_unfolding_all exact id rfl) | exact Nat.le_of_ble_eq_true rfl | fail) only [Env.put_some, Env.put_none, Env.set_app, Nat.reduceEqDiff, ↓reduceIte, Bool.not_true, Bool.not_false]; done)) | (refine xo_u ?_ ?_; focus (simp (disch := first | assumption | omega | (with_unfolding_all exact id rfl) | exact Nat.le_of_ble_eq_true rfl | fail) only [Env.put_some, Env.put_none, Env.set_app, Nat.reduceEqDiff, ↓reduceIte, Bool.not_true, Bool.not_false]; done)))
  (try refine xo_nil ?_)
  refine hK _ _ ?_
  clear hK K
  have hU1 := h.ext hE1
  have hb1 := hU1.at_
  have hs1 := hU1.sl
  rcases finds_mem' I.inv hf with ⟨hnone, hno⟩ | ⟨v, hv⟩
  · rw [hnone] at hin
    refine X_seq fun K hK => ?_
    refine X_seq fun K hK => ?_
    simp only [X_reg, thenX_normal]
    repeat (first | (refine xo (by simp (disch := first | assumption | omega | (with_unfolding_all exact id rfl) | exact Nat.le_of_ble_eq_true rfl | fail) only [Bool.not_true, Bool.not_false, vR_ok, uR_ok, ev_tmp, ev_const, ev_func, Env.put_some, Env.put_none, Env.set_app, Nat.reduceEqDiff, ↓reduceIte, rG_move, rG_assign, opt1_some, ext_all, dec_t, dec_f, beq_t, beq_f, bne_t, bne_f, wrap_i64, wrap_u64, Int.toNat_natCast, Nat.mul_one, Nat.zero_add, Nat.add_zero, List.map_toArray, List.map_cons, List.map_nil, resM_1, rG_unOp, unR_not, rG_fieldAddr, fa191_2, rG_store, st3, stN_1, stN_2, stN_3, stN_4, stN_5, stN_6, stN_7, stN_8, vcs_int, vcs_bool, vcs_ptr, vcs_slice, vcs_map, vcs_nil, vcs_iface, vcs_aggL, List.length_cons, List.length_nil, Nat.reduceAdd, rG_nilCheck, nilR_ptr, fa174_1, rG_build, rG_load, ld3, List.getElem?_toArray, List.getElem?_cons_zero, List.getElem?_cons_succ, ld1_some, rd1_cells, ld189, ldN_some, rdN_cells, rG_binOp, binR_sub, call155, binR_and, rG_alloc_191, Value.cells, st191, fa174_0, ld191, rG_indexAddr, ia172, binR_add, fa191_0, ld172, rG_len, ln172, ld4, h0, hb1, hs1, hin, Option.isSome_none] <;> rfl) ?_; first | with_reducible refine kv ?_ | with_reducible refine ks ?_ | with_reducible refine ke ?_) | (refine xo_t ?_ ?_; focus (simp (disch := first | assumption | omega | (with_unfolding_all exact id rfl) | exact Nat.le_of_ble_eq_true rfl | fail) only [Env.put_some, Env.put_none, Env.set_app, Nat.reduceEqDiff, ↓reduceIte, Bool.not_true, Bool.not_false, h0, hb1, hs1, hin, Option.isSome_none]; done)) | (refine xo_f ?_ ?_; focus (simp (disch := first | assumption | omega | (with_unfolding_all exact id rfl) | exact Nat.le_of_ble_eq_true rfl | fail) only [Env.put_some, Env.put_none, Env.set_app, Nat.reduceEqDiff, ↓reduceIte, Bool.not_true, Bool.not_false, h0, hb1, hs1, hin, Option.isSome_none]; done)) | (refine xo_u ?_ ?_; focus (simp (disch := first | assumption | omega | (with_unfolding_all exact id rfl) | exact Nat.le_of_ble_eq_true rfl | fail) only [Env.put_some, Env.put_none, Env.set_app, Nat.reduceEqDiff, ↓reduceIte, Bool.not_true, Bool.not_false, h0, hb1, hs1, hin, Option.isSome_none]; done)))
    refine xo_nil ?_
    refine hK _ _ ?_
    clear hK K
    refine X_if_t (by simp (disch := first | assumption | omega) only [ev_tmp, Env.put_some, Env.put_none, Env.set_app, Nat.reduceEqDiff, ↓reduceIte, beq_t, dec_t, beq_self_eq_true]) ?_
    refine X_seq fun K hK => ?_
    simp only [X_reg, thenX_normal]
    repeat (first | (refine xo (by simp (disch := first | assumption | omega | (with_unfolding_all exact id rfl) | exact Nat.le_of_ble_eq_true rfl | fail) only [Bool.not_true, Bool.not_false, vR_ok, uR_ok, ev_tmp, ev_const, ev_func, Env.put_some, Env.put_none, Env.set_app, Nat.reduceEqDiff, ↓reduceIte, rG_move, rG_assign, opt1_some, ext_all, dec_t, dec_f, beq_t, beq_f, bne_t, bne_f, wrap_i64, wrap_u64, Int.toNat_natCast, Nat.mul_one, Nat.zero_add, Nat.add_zero, List.map_toArray, List.map_cons, List.map_nil, resM_1, rG_unOp, unR_not, rG_fieldAddr, fa191_2, rG_store, st3, stN_1, stN_2, stN_3, stN_4, stN_5, stN_6, stN_7, stN_8, vcs_int, vcs_bool, vcs_ptr, vcs_slice, vcs_map, vcs_nil, vcs_iface, vcs_aggL, List.length_cons, List.length_nil, Nat.reduceAdd, rG_nilCheck, nilR_ptr, fa174_1, rG_build, rG_load, ld3, List.getElem?_toArray, List.getElem?_cons_zero, List.getElem?_cons_succ, ld1_some, rd1_cells, ld189, ldN_some, rdN_cells, rG_binOp, binR_sub, call155, binR_and, rG_alloc_191, Value.cells, st191, fa174_0, ld191, rG_indexAddr, ia172, binR_add, fa191_0, ld172, rG_len, ln172, ld4] <;> rfl) ?_; first | with_reducible refine kv ?_ | with_reducible refine ks ?_ | with_reducible refine ke ?_) | (refine xo_t ?_ ?_; focus (simp (disch := first | assumption | omega | (with_unfolding_all exact id rfl) | exact Nat.le_of_ble_eq_true rfl | fail) only [Env.put_some, Env.put_none, Env.set_app, Nat.reduceEqDiff, ↓reduceIte, Bool.not_true, Bool.not_false]; done)) | (refine xo_f ?_ ?_; focus (simp (disch := first | assumption | omega | (with_unfolding_all exact id rfl) | exact Nat.le_of_ble_eq_true rfl | fail) only [Env.put_some, Env.put_none, Env.set_app, Nat.reduceEqDiff, ↓reduceIte, Bool.not_true, Bool.not_false]; done)) | (refine xo_u ?_ ?_; focus (simp (disch := first | assumption | omega | (with_unfolding_all exact id rfl) | exact Nat.le_of_ble_eq_true rfl | fail) only [Env.put_some, Env.put_none, Env.set_app, Nat.reduceEqDiff, ↓reduceIte, Bool.not_true, Bool.not_false]; done)))
    refine xo_nil ?_
    refine hK _ _ ?_
    clear hK K
    simp (disch := first | assumption | omega | (with_unfolding_all exact id rfl) | exact Nat.le_of_ble_eq_true rfl | fail) only [X_ret, thenX_ret, inX_ret, retX_ret, retX_normal, Try.results136, resM_0, resM_1, resM_2, resM_3, resM_4, Env.put_some, Env.put_none, Env.set_app, Nat.reduceEqDiff, ↓reduceIte]
    exact ⟨_, rfl, many, T, hU1, I, rfl, hE1.chg _, .inl ⟨rfl, rfl, rfl, hno⟩⟩
  · rw [hv] at hin
    obtain ⟨z, hzl, hze⟩ := I.room
    obtain ⟨b, c0, hJ0, hcyc0, hM0⟩ := DropInv.start homeN_lt I.inv hv hzl hze
    have hset0 := tbA_none (T := T) (i := i) hil
    have hsz4 : i * 4 + 4 ≤ (tbL T).toArray.size := by omega
    have hsz2 : (#[.slice (some ⟨g, 0, none⟩) T.length T.length, .int .i64 many] : Array Value).size = 2 := rfl
    refine X_seq fun K hK => ?_
    refine X_seq fun K hK => ?_
    simp only [X_reg, thenX_normal]
    repeat (first | (refine xo (by simp (disch := first | assumption | omega | (with_unfolding_all exact id rfl) | exact Nat.le_of_ble_eq_true rfl | fail) only [Bool.not_true, Bool.not_false, vR_ok, uR_ok, ev_tmp, ev_const, ev_func, Env.put_some, Env.put_none, Env.set_app, Nat.reduceEqDiff, ↓reduceIte, rG_move, rG_assign, opt1_some, ext_all, dec_t, dec_f, beq_t, beq_f, bne_t, bne_f, wrap_i64, wrap_u64, Int.toNat_natCast, Nat.mul_one, Nat.zero_add, Nat.add_zero, List.map_toArray, List.map_cons, List.map_nil, resM_1, rG_unOp, unR_not, rG_fieldAddr, fa191_2, rG_store, st3, stN_1, stN_2, stN_3, stN_4, stN_5, stN_6, stN_7, stN_8, vcs_int, vcs_bool, vcs_ptr, vcs_slice, vcs_map, vcs_nil, vcs_iface, vcs_aggL, List.length_cons, List.length_nil, Nat.reduceAdd, rG_nilCheck, nilR_ptr, fa174_1, rG_build, rG_load, ld3, List.getElem?_toArray, List.getElem?_cons_zero, List.getElem?_cons_succ, ld1_some, rd1_cells, ld189, ldN_some, rdN_cells, rG_binOp, binR_sub, call155, binR_and, rG_alloc_191, Value.cells, st191, fa174_0, ld191, rG_indexAddr, ia172, binR_add, fa191_0, ld172, rG_len, ln172, ld4, h0, hb1, hs1, hin, Option.isSome_some] <;> rfl) ?_; first | with_reducible refine kv ?_ | with_reducible refine ks ?_ | with_reducible refine ke ?_) | (refine xo_t ?_ ?_; focus (simp (disch := first | assumption | omega | (with_unfolding_all exact id rfl) | exact Nat.le_of_ble_eq_true rfl | fail) only [Env.put_some, Env.put_none, Env.set_app, Nat.reduceEqDiff, ↓reduceIte, Bool.not_true, Bool.not_false, h0, hb1, hs1, hin, Option.isSome_some]; done)) | (refine xo_f ?_ ?_; focus (simp (disch := first | assumption | omega | (with_unfolding_all exact id rfl) | exact Nat.le_of_ble_eq_true rfl | fail) only [Env.put_some, Env.put_none, Env.set_app, Nat.reduceEqDiff, ↓reduceIte, Bool.not_true, Bool.not_false, h0, hb1, hs1, hin, Option.isSome_some]; done)) | (refine xo_u ?_ ?_; focus (simp (disch := first | assumption | omega | (with_unfolding_all exact id rfl) | exact Nat.le_of_ble_eq_true rfl | fail) only [Env.put_some, Env.put_none, Env.set_app, Nat.reduceEqDiff, ↓reduceIte, Bool.not_true, Bool.not_false, h0, hb1, hs1, hin, Option.isSome_some]; done)))
    refine xo_nil ?_
    refine hK _ _ ?_
    clear hK K
    refine X_if_f (by simp (disch := first | assumption | omega) only [ev_tmp, Env.put_some, Env.put_none, Env.set_app, Nat.reduceEqDiff, ↓reduceIte, beq_f, dec_f]) ?_
    simp only [X_skip, X_exit, X_ret, X_block, thenX_normal, thenX_ret, thenX_exit, inX_normal, inX_ret, inX_exit, ↓reduceIte, Nat.reduceEqDiff]
    (try refine xo_nil ?_)
    refine hK _ _ ?_
    clear hK K
    refine X_seq fun K hK => ?_
    simp only [X_reg, thenX_normal]
    repeat (first | (refine xo (by simp (disch := first | assumption | omega | (with_unfolding_all exact id rfl) | exact Nat.le_of_ble_eq_true rfl | fail) only [Bool.not_true, Bool.not_false, vR_ok, uR_ok, ev_tmp, ev_const, ev_func, Env.put_some, Env.put_none, Env.set_app, Nat.reduceEqDiff, ↓reduceIte, rG_move, rG_assign, opt1_some, ext_all, dec_t, dec_f, beq_t, beq_f, bne_t, bne_f, wrap_i64, wrap_u64, Int.toNat_natCast, Nat.mul_one, Nat.zero_add, Nat.add_zero, List.map_toArray, List.map_cons, List.map_nil, resM_1, rG_unOp, unR_not, rG_fieldAddr, fa191_2, rG_store, st3, stN_1, stN_2, stN_3, stN_4, stN_5, stN_6, stN_7, stN_8, vcs_int, vcs_bool, vcs_ptr, vcs_slice, vcs_map, vcs_nil, vcs_iface, vcs_aggL, List.length_cons, List.length_nil, Nat.reduceAdd, rG_nilCheck, nilR_ptr, fa174_1, rG_build, rG_load, ld3, List.getElem?_toArray, List.getElem?_cons_zero, List.getElem?_cons_succ, ld1_some, rd1_cells, ld189, ldN_some, rdN_cells, rG_binOp, binR_sub, call155, binR_and, rG_alloc_191, Value.cells, st191, fa174_0, ld191, rG_indexAddr, ia172, binR_add, fa191_0, ld172, rG_len, ln172, ld4, h0, hb1, hs1, bd_slot0, hset0] <;> rfl) ?_; first | with_reducible refine kv ?_ | with_reducible refine ks ?_ | with_reducible refine ke ?_) | (refine xo_t ?_ ?_; focus (simp (disch := first | assumption | omega | (with_unfolding_all exact id rfl) | exact Nat.le_of_ble_eq_true rfl | fail) only [Env.put_some, Env.put_none, Env.set_app, Nat.reduceEqDiff, ↓reduceIte, Bool.not_true, Bool.not_false, h0, hb1, hs1, bd_slot0, hset0]; done)) | (refine xo_f ?_ ?_; focus (simp (disch := first | assumption | omega | (with_unfolding_all exact id rfl) | exact Nat.le_of_ble_eq_true rfl | fail) only [Env.put_some, Env.put_none, Env.set_app, Nat.reduceEqDiff, ↓reduceIte, Bool.not_true, Bool.not_false, h0, hb1, hs1, bd_slot0, hset0]; done)) | (refine xo_u ?_ ?_; focus (simp (disch := first | assumption | omega | (with_unfolding_all exact id rfl) | exact Nat.le_of_ble_eq_true rfl | fail) only [Env.put_some, Env.put_none, Env.set_app, Nat.reduceEqDiff, ↓reduceIte, Bool.not_true, Bool.not_false, h0, hb1, hs1, bd_slot0, hset0]; done)))
    refine xo_nil ?_
    refine hK _ _ ?_
    clear hK K
    have hU2 := hU1.row hil none
    have hC2 : Chg (fun x => x = p ∨ x = g) w (upd w1 g (.cells (tbL (T.set i none)).toArray 191)) := (hE1.chg (fun x => x = p ∨ x = g)).upd (fun _ => .inr rfl) _
    have hcn2 : cntT (T.set i none) = many - 1 := by rw [cnt_set hil, hv, I.cnt]; simp [b2]
    generalize upd w1 g (.cells (tbL (T.set i none)).toArray 191) = w2 at hU2 hC2 ⊢
    have hl2 : (T.set i none).length = T.length := List.length_set ..
    have hmany1 : 1 ≤ many := by
      have := cnt_le (T.set i none)
      omega
    generalize T.set i none = T0 at *
    have hb2 := hU2.at_
    rw [hl2] at hb2
    refine X_seq fun K hK => ?_
    simp only [X_reg, thenX_normal]
    repeat (first | (refine xo (by simp (disch := first | assumption | omega | (with_unfolding_all exact id rfl) | exact Nat.le_of_ble_eq_true rfl | fail) only [Bool.not_true, Bool.not_false, vR_ok, uR_ok, ev_tmp, ev_const, ev_func, Env.put_some, Env.put_none, Env.set_app, Nat.reduceEqDiff, ↓reduceIte, rG_move, rG_assign, opt1_some, ext_all, dec_t, dec_f, beq_t, beq_f, bne_t, bne_f, wrap_i64, wrap_u64, Int.toNat_natCast, Nat.mul_one, Nat.zero_add, Nat.add_zero, List.map_toArray, List.map_cons, List.map_nil, resM_1, rG_unOp, unR_not, rG_fieldAddr, fa191_2, rG_store, st3, stN_1, stN_2, stN_3, stN_4, stN_5, stN_6, stN_7, stN_8, vcs_int, vcs_bool, vcs_ptr, vcs_slice, vcs_map, vcs_nil, vcs_iface, vcs_aggL, List.length_cons, List.length_nil, Nat.reduceAdd, rG_nilCheck, nilR_ptr, fa174_1, rG_build, rG_load, ld3, List.getElem?_toArray, List.getElem?_cons_zero, List.getElem?_cons_succ, ld1_some, rd1_cells, ld189, ldN_some, rdN_cells, rG_binOp, binR_sub, call155, binR_and, rG_alloc_191, Value.cells, st191, fa174_0, ld191, rG_indexAddr, ia172, binR_add, fa191_0, ld172, rG_len, ln172, ld4, h0, hb2, List.setIfInBounds_toArray, List.set_cons_zero, List.set_cons_succ] <;> rfl) ?_; first | with_reducible refine kv ?_ | with_reducible refine ks ?_ | with_reducible refine ke ?_) | (refine xo_t ?_ ?_; focus (simp (disch := first | assumption | omega | (with_unfolding_all exact id rfl) | exact Nat.le_of_ble_eq_true rfl | fail) only [Env.put_some, Env.put_none, Env.set_app, Nat.reduceEqDiff, ↓reduceIte, Bool.not_true, Bool.not_false, h0, hb2, List.setIfInBounds_toArray, List.set_cons_zero, List.set_cons_succ]; done)) | (refine xo_f ?_ ?_; focus (simp (disch := first | assumption | omega | (with_unfolding_all exact id rfl) | exact Nat.le_of_ble_eq_true rfl | fail) only [Env.put_some, Env.put_none, Env.set_app, Nat.reduceEqDiff, ↓reduceIte, Bool.not_true, Bool.not_false, h0, hb2, List.setIfInBounds_toArray, List.set_cons_zero, List.set_cons_succ]; done)) | (refine xo_u ?_ ?_; focus (simp (disch := first | assumption | omega | (with_unfolding_all exact id rfl) | exact Nat.le_of_ble_eq_true rfl | fail) only [Env.put_some, Env.put_none, Env.set_app, Nat.reduceEqDiff, ↓reduceIte, Bool.not_true, Bool.not_false, h0, hb2, List.setIfInBounds_toArray, List.set_cons_zero, List.set_cons_succ]; done)))
    refine xo_nil ?_
    refine hK _ _ ?_
    clear hK K
    have hU3 := hU2.setm (m := many - 1)
    rw [hl2] at hU3
    have hC3 := hC2.upd (b := p) (fun _ => .inl rfl) (.cells #[.slice (some ⟨g, 0, none⟩) T.length T.length, .int .i64 (many - 1)] 174)
    generalize upd w2 p (.cells #[.slice (some ⟨g, 0, none⟩) T.length T.length, .int .i64 (many - 1)] 174) = w3 at hU3 hC3 ⊢
    have hb3 := hU3.at_
    rw [hl2] at hb3
    refine X_seq fun K hK => ?_
    simp only [X_reg, thenX_normal]
    repeat (first | (refine xo (by simp (disch := first | assumption | omega | (with_unfolding_all exact id rfl) | exact Nat.le_of_ble_eq_true rfl | fail) only [Bool.not_true, Bool.not_false, vR_ok, uR_ok, ev_tmp, ev_const, ev_func, Env.put_some, Env.put_none, Env.set_app, Nat.reduceEqDiff, ↓reduceIte, rG_move, rG_assign, opt1_some, ext_all, dec_t, dec_f, beq_t, beq_f, bne_t, bne_f, wrap_i64, wrap_u64, Int.toNat_natCast, Nat.mul_one, Nat.zero_add, Nat.add_zero, List.map_toArray, List.map_cons, List.map_nil, resM_1, rG_unOp, unR_not, rG_fieldAddr, fa191_2, rG_store, st3, stN_1, stN_2, stN_3, stN_4, stN_5, stN_6, stN_7, stN_8, vcs_int, vcs_bool, vcs_ptr, vcs_slice, vcs_map, vcs_nil, vcs_iface, vcs_aggL, List.length_cons, List.length_nil, Nat.reduceAdd, rG_nilCheck, nilR_ptr, fa174_1, rG_build, rG_load, ld3, List.getElem?_toArray, List.getElem?_cons_zero, List.getElem?_cons_succ, ld1_some, rd1_cells, ld189, ldN_some, rdN_cells, rG_binOp, binR_sub, call155, binR_and, rG_alloc_191, Value.cells, st191, fa174_0, ld191, rG_indexAddr, ia172, binR_add, fa191_0, ld172, rG_len, ln172, ld4, h0, hb3] <;> rfl) ?_; first | with_reducible refine kv ?_ | with_reducible refine ks ?_ | with_reducible refine ke ?_) | (refine xo_t ?_ ?_; focus (simp (disch := first | assumption | omega | (with_unfolding_all exact id rfl) | exact Nat.le_of_ble_eq_true rfl | fail) only [Env.put_some, Env.put_none, Env.set_app, Nat.reduceEqDiff, ↓reduceIte, Bool.not_true, Bool.not_false, h0, hb3]; done)) | (refine xo_f ?_ ?_; focus (simp (disch := first | assumption | omega | (with_unfolding_all exact id rfl) | exact Nat.le_of_ble_eq_true rfl | fail) only [Env.put_some, Env.put_none, Env.set_app, Nat.reduceEqDiff, ↓reduceIte, Bool.not_true, Bool.not_false, h0, hb3]; done)) | (refine xo_u ?_ ?_; focus (simp (disch := first | assumption | omega | (with_unfolding_all exact id rfl) | exact Nat.le_of_ble_eq_true rfl | fail) only [Env.put_some, Env.put_none, Env.set_app, Nat.reduceEqDiff, ↓reduceIte, Bool.not_true, Bool.not_false, h0, hb3]; done)))
    refine xo_nil ?_
    refine hK _ _ ?_
    clear hK K
    have hnx := h.next hil
    have hb' : b < T.length := by have := hJ0.hb; omega
    refine X_cut (fun e w' => ∃ T', UqI w' p g (many - 1) T' ∧ TbInv homeN T' ∧ T'.length = T.length ∧ cntT T' = many - 1 ∧ (∀ k v, MemT T' k v ↔ MemT T k v ∧ k ≠ (lo, hi)) ∧ Chg (fun x => x = p ∨ x = g) w w') ?_ ?_
    · refine X_seq fun K hK => ?_
      simp only [X_reg, thenX_normal]
      repeat (first | (refine xo (by simp (disch := first | assumption | omega | (with_unfolding_all exact id rfl) | exact Nat.le_of_ble_eq_true rfl | fail) only [Bool.not_true, Bool.not_false, vR_ok, uR_ok, ev_tmp, ev_const, ev_func, Env.put_some, Env.put_none, Env.set_app, Nat.reduceEqDiff, ↓reduceIte, rG_move, rG_assign, opt1_some, ext_all, dec_t, dec_f, beq_t, beq_f, bne_t, bne_f, wrap_i64, wrap_u64, Int.toNat_natCast, Nat.mul_one, Nat.zero_add, Nat.add_zero, List.map_toArray, List.map_cons, List.map_nil, resM_1, rG_unOp, unR_not, rG_fieldAddr, fa191_2, rG_store, st3, stN_1, stN_2, stN_3, stN_4, stN_5, stN_6, stN_7, stN_8, vcs_int, vcs_bool, vcs_ptr, vcs_slice, vcs_map, vcs_nil, vcs_iface, vcs_aggL, List.length_cons, List.length_nil, Nat.reduceAdd, rG_nilCheck, nilR_ptr, fa174_1, rG_build, rG_load, ld3, List.getElem?_toArray, List.getElem?_cons_zero, List.getElem?_cons_succ, ld1_some, rd1_cells, ld189, ldN_some, rdN_cells, rG_binOp, binR_sub, call155, binR_and, rG_alloc_191, Value.cells, st191, fa174_0, ld191, rG_indexAddr, ia172, binR_add, fa191_0, ld172, rG_len, ln172, ld4, hnx] <;> rfl) ?_; first | with_reducible refine kv ?_ | with_reducible refine ks ?_ | with_reducible refine ke ?_) | (refine xo_t ?_ ?_; focus (simp (disch := first | assumption | omega | (with_unfolding_all exact id rfl) | exact Nat.le_of_ble_eq_true rfl | fail) only [Env.put_some, Env.put_none, Env.set_app, Nat.reduceEqDiff, ↓reduceIte, Bool.not_true, Bool.not_false, hnx]; done)) | (refine xo_f ?_ ?_; focus (simp (disch := first | assumption | omega | (with_unfolding_all exact id rfl) | exact Nat.le_of_ble_eq_true rfl | fail) only [Env.put_some, Env.put_none, Env.set_app, Nat.reduceEqDiff, ↓reduceIte, Bool.not_true, Bool.not_false, hnx]; done)) | (refine xo_u ?_ ?_; focus (simp (disch := first | assumption | omega | (with_unfolding_all exact id rfl) | exact Nat.le_of_ble_eq_true rfl | fail) only [Env.put_some, Env.put_none, Env.set_app, Nat.reduceEqDiff, ↓reduceIte, Bool.not_true, Bool.not_false, hnx]; done)))
      refine xo_nil ?_
      refine hK _ _ ?_
      clear hK K
      simp only [X_skip, X_exit, X_ret, X_block, thenX_normal, thenX_ret, thenX_exit, inX_normal, inX_ret, inX_exit, ↓reduceIte, Nat.reduceEqDiff]
      refine X_loop (fun e w' => ∃ c T', e 9 = .int .i64 (cyc T.length b c : Nat) ∧ e 8 = .int .i64 ((T.length : Int) - 1) ∧ e 0 = .pointer (some ⟨p, 0, none⟩) ∧ UqI w' p g (many - 1) T' ∧ DropInv homeN T' b c ∧ T'.length = T.length ∧ cntT T' = many - 1 ∧ (∀ k v, MemT T' k v ↔ MemT T k v ∧ k ≠ (lo, hi)) ∧ Chg (fun x => x = p ∨ x = g) w w') (fun e _ => T.length - crd T.length b (nat (e 9))) ?_ ?_
      · refine ⟨c0, T0, ?_, ?_, ?_, hU3, hJ0, hl2, hcn2, hM0, hC3⟩
        · (try simp (disch := first | assumption | omega | (with_unfolding_all exact id rfl) | exact Nat.le_of_ble_eq_true rfl | fail) only [Env.put_some, Env.put_none, Env.set_app, Nat.reduceEqDiff, ↓reduceIte, nat_int, Int.toNat_natCast, wrap_i64, h1, hcyc0])
        · (try simp (disch := first | assumption | omega | (with_unfolding_all exact id rfl) | exact Nat.le_of_ble_eq_true rfl | fail) only [Env.put_some, Env.put_none, Env.set_app, Nat.reduceEqDiff, ↓reduceIte, nat_int, Int.toNat_natCast, wrap_i64])
        · (try simp (disch := first | assumption | omega | (with_unfolding_all exact id rfl) | exact Nat.le_of_ble_eq_true rfl | fail) only [Env.put_some, Env.put_none, Env.set_app, Nat.reduceEqDiff, ↓reduceIte, nat_int, Int.toNat_natCast, wrap_i64, h0])
      · clear h0 h1 h2 hb3 hU3 hC3 hb2 hU2 hC2 hJ0 hM0 hb1 hs1 hU1 hcn2 hnx hcyc0 hE1 hin hset0
        clear w3 w2 w1
        rintro e w1 ⟨c, T1, h9, h8, h0, hU, hJ, hl, hcn, hM, hC⟩
        have hcl : c < T.length := by have := hJ.hc; omega
        obtain ⟨pc, hpc⟩ : ∃ pc, cyc T.length b c = pc := ⟨_, rfl⟩
        have hpcl : pc < T.length := by rw [← hpc]; exact cyc_lt hb' (by omega)
        have hcrd : crd T.length b pc = c := by rw [← hpc]; exact crd_cyc hb' hcl
        rw [hpc] at h9
        have hn9 : nat (e 9) = pc := by rw [h9, nat_int]; omega
        have hpcl' : (pc : Int) < T.length := by omega
        have hb1 := hU.at_
        have hs1 := hU.sl
        rw [hl] at hb1
        have hpl1 : pc < T1.length := by omega
        have hin := tbA_in hpl1
        have htn : (tbL T1).toArray.size = T.length * 4 := by simp [tbL_len]; omega
        have hrow := tbL_row hpl1
        cases ho : occ T1 pc with
        | none =>
          rw [ho] at hin
          refine X_seq fun K hK => ?_
          refine X_seq fun K hK => ?_
          (try simp only [X_reg, thenX_normal])
          repeat (first | (refine xo (by simp (disch := first | assumption | omega | (with_unfolding_all exact id rfl) | exact Nat.le_of_ble_eq_true rfl | fail) only [Bool.not_true, Bool.not_false, vR_ok, uR_ok, ev_tmp, ev_const, ev_func, Env.put_some, Env.put_none, Env.set_app, Nat.reduceEqDiff, ↓reduceIte, rG_move, rG_assign, opt1_some, ext_all, dec_t, dec_f, beq_t, beq_f, bne_t, bne_f, wrap_i64, wrap_u64, Int.toNat_natCast, Nat.mul_one, Nat.zero_add, Nat.add_zero, List.map_toArray, List.map_cons, List.map_nil, resM_1, rG_unOp, unR_not, rG_fieldAddr, fa191_2, rG_store, st3, stN_1, stN_2, stN_3, stN_4, stN_5, stN_6, stN_7, stN_8, vcs_int, vcs_bool, vcs_ptr, vcs_slice, vcs_map, vcs_nil, vcs_iface, vcs_aggL, List.length_cons, List.length_nil, Nat.reduceAdd, rG_nilCheck, nilR_ptr, fa174_1, rG_build, rG_load, ld3, List.getElem?_toArray, List.getElem?_cons_zero, List.getElem?_cons_succ, ld1_some, rd1_cells, ld189, ldN_some, rdN_cells, rG_binOp, binR_sub, call155, binR_and, rG_alloc_191, Value.cells, st191, fa174_0, ld191, rG_indexAddr, ia172, binR_add, fa191_0, ld172, rG_len, ln172, ld4, h0, h9, hb1, hs1, hin, Option.isSome_none] <;> rfl) ?_; first | with_reducible refine kv ?_ | with_reducible refine ks ?_ | with_reducible refine ke ?_) | (refine xo_t ?_ ?_; focus (simp (disch := first | assumption | omega | (with_unfolding_all exact id rfl) | exact Nat.le_of_ble_eq_true rfl | fail) only [Env.put_some, Env.put_none, Env.set_app, Nat.reduceEqDiff, ↓reduceIte, Bool.not_true, Bool.not_false, h0, h9, hb1, hs1, hin, Option.isSome_none]; done)) | (refine xo_f ?_ ?_; focus (simp (disch := first | assumption | omega | (with_unfolding_all exact id rfl) | exact Nat.le_of_ble_eq_true rfl | fail) only [Env.put_some, Env.put_none, Env.set_app, Nat.reduceEqDiff, ↓reduceIte, Bool.not_true, Bool.not_false, h0, h9, hb1, hs1, hin, Option.isSome_none]; done)) | (refine xo_u ?_ ?_; focus (simp (disch := first | assumption | omega | (with_unfolding_all exact id rfl) | exact Nat.le_of_ble_eq_true rfl | fail) only [Env.put_some, Env.put_none, Env.set_app, Nat.reduceEqDiff, ↓reduceIte, Bool.not_true, Bool.not_false, h0, h9, hb1, hs1, hin, Option.isSome_none]; done)))
          (try refine xo_nil ?_)
          refine hK _ _ ?_
          clear hK K
          refine X_if_f (by simp (disch := first | assumption | omega) only [ev_tmp, Env.put_some, Env.put_none, Env.set_app, Nat.reduceEqDiff, ↓reduceIte, beq_f, dec_f]) ?_
          simp only [X_skip, X_exit, X_ret, X_block, thenX_normal, thenX_ret, thenX_exit, inX_normal, inX_ret, inX_exit, ↓reduceIte, Nat.reduceEqDiff]
          exact ⟨T1, hU, hJ.stop homeN_lt (by rw [hl, hpc]; exact ho), hl, hcn, hM, hC⟩
        | some o =>
          obtain ⟨⟨x, y⟩, z⟩ := o
          rw [ho] at hin hrow
          have hrow' : (tbL T1).toArray.extract (pc * 4) (pc * 4 + 4) = #[.int .i64 x, .int .i64 y, .int .i64 z, .bool true] := hrow
          have hszp : pc * 4 + 4 ≤ (tbL T1).toArray.size := by omega
          have hset1 := tbA_none (T := T1) (i := pc) hpl1
          have hlp : (T1.set pc none).length = T.length := by rw [List.length_set, hl]
          have honone : occ (T1.set pc none) pc = none := by rw [occ_set hpl1, if_pos rfl]
          obtain ⟨i2, hf2⟩ := Finds.ex homeN_lt (T := T1.set pc none) (x, y) (z := pc) (by omega) honone
          have hst := hJ.step homeN_lt (k := (x, y)) (v := z) (i' := i2) (by rw [hl, hpc]; exact ho) (by rw [hl, hpc]; exact hf2)
          rw [hl, hpc] at hst
          obtain ⟨r1, r2, r3, r4, r5⟩ := hst
          have hi2' : (i2 : Int) < T.length := by omega
          have hcn1 : cntT ((T1.set pc none).set i2 (some ((x, y), z))) = many - 1 := by
            rw [cnt_set (by omega), r2, cnt_set hpl1, ho, hcn]; simp [b2]
          have hgl1 : g < w1.heap.size := lt_of_heap hs1
          have hpl1' : p < w1.heap.size := lt_of_heap hb1
          refine X_seq fun K hK => ?_
          refine X_seq fun K hK => ?_
          (try simp only [X_reg, thenX_normal])
          repeat (first | (refine xo (by simp (disch := first | assumption | omega | (with_unfolding_all exact id rfl) | exact Nat.le_of_ble_eq_true rfl | fail) only [Bool.not_true, Bool.not_false, vR_ok, uR_ok, ev_tmp, ev_const, ev_func, Env.put_some, Env.put_none, Env.set_app, Nat.reduceEqDiff, ↓reduceIte, rG_move, rG_assign, opt1_some, ext_all, dec_t, dec_f, beq_t, beq_f, bne_t, bne_f, wrap_i64, wrap_u64, Int.toNat_natCast, Nat.mul_one, Nat.zero_add, Nat.add_zero, List.map_toArray, List.map_cons, List.map_nil, resM_1, rG_unOp, unR_not, rG_fieldAddr, fa191_2, rG_store, st3, stN_1, stN_2, stN_3, stN_4, stN_5, stN_6, stN_7, stN_8, vcs_int, vcs_bool, vcs_ptr, vcs_slice, vcs_map, vcs_nil, vcs_iface, vcs_aggL, List.length_cons, List.length_nil, Nat.reduceAdd, rG_nilCheck, nilR_ptr, fa174_1, rG_build, rG_load, ld3, List.getElem?_toArray, List.getElem?_cons_zero, List.getElem?_cons_succ, ld1_some, rd1_cells, ld189, ldN_some, rdN_cells, rG_binOp, binR_sub, call155, binR_and, rG_alloc_191, Value.cells, st191, fa174_0, ld191, rG_indexAddr, ia172, binR_add, fa191_0, ld172, rG_len, ln172, ld4, h0, h9, hb1, hs1, hin, Option.isSome_some] <;> rfl) ?_; first | with_reducible refine kv ?_ | with_reducible refine ks ?_ | with_reducible refine ke ?_) | (refine xo_t ?_ ?_; focus (simp (disch := first | assumption | omega | (with_unfolding_all exact id rfl) | exact Nat.le_of_ble_eq_true rfl | fail) only [Env.put_some, Env.put_none, Env.set_app, Nat.reduceEqDiff, ↓reduceIte, Bool.not_true, Bool.not_false, h0, h9, hb1, hs1, hin, Option.isSome_some]; done)) | (refine xo_f ?_ ?_; focus (simp (disch := first | assumption | omega | (with_unfolding_all exact id rfl) | exact Nat.le_of_ble_eq_true rfl | fail) only [Env.put_some, Env.put_none, Env.set_app, Nat.reduceEqDiff, ↓reduceIte, Bool.not_true, Bool.not_false, h0, h9, hb1, hs1, hin, Option.isSome_some]; done)) | (refine xo_u ?_ ?_; focus (simp (disch := first | assumption | omega | (with_unfolding_all exact id rfl) | exact Nat.le_of_ble_eq_true rfl | fail) only [Env.put_some, Env.put_none, Env.set_app, Nat.reduceEqDiff, ↓reduceIte, Bool.not_true, Bool.not_false, h0, h9, hb1, hs1, hin, Option.isSome_some]; done)))
          (try refine xo_nil ?_)
          refine hK _ _ ?_
          clear hK K
          refine X_if_t (by simp (disch := first | assumption | omega) only [ev_tmp, Env.put_some, Env.put_none, Env.set_app, Nat.reduceEqDiff, ↓reduceIte, beq_t, dec_t, beq_self_eq_true]) ?_
          simp only [X_skip, X_exit, X_ret, X_block, thenX_normal, thenX_ret, thenX_exit, inX_normal, inX_ret, inX_exit, ↓reduceIte, Nat.reduceEqDiff]
          (try refine xo_nil ?_)
          refine hK _ _ ?_
          clear hK K
          refine X_seq fun K hK => ?_
          simp only [X_skip, X_exit, X_ret, X_block, thenX_normal, thenX_ret, thenX_exit, inX_normal, inX_ret, inX_exit, ↓reduceIte, Nat.reduceEqDiff]
          refine X_seq fun K hK => ?_
          (try simp only [X_reg, thenX_normal])
          repeat (first | (refine xo (by simp (disch := first | assumption | omega | (with_unfolding_all exact id rfl) | exact Nat.le_of_ble_eq_true rfl | fail) only [Bool.not_true, Bool.not_false, vR_ok, uR_ok, ev_tmp, ev_const, ev_func, Env.put_some, Env.put_none, Env.set_app, Nat.reduceEqDiff, ↓reduceIte, rG_move, rG_assign, opt1_some, ext_all, dec_t, dec_f, beq_t, beq_f, bne_t, bne_f, wrap_i64, wrap_u64, Int.toNat_natCast, Nat.mul_one, Nat.zero_add, Nat.add_zero, List.map_toArray, List.map_cons, List.map_nil, resM_1, rG_unOp, unR_not, rG_fieldAddr, fa191_2, rG_store, st3, stN_1, stN_2, stN_3, stN_4, stN_5, stN_6, stN_7, stN_8, vcs_int, vcs_bool, vcs_ptr, vcs_slice, vcs_map, vcs_nil, vcs_iface, vcs_aggL, List.length_cons, List.length_nil, Nat.reduceAdd, rG_nilCheck, nilR_ptr, fa174_1, rG_build, rG_load, ld3, List.getElem?_toArray, List.getElem?_cons_zero, List.getElem?_cons_succ, ld1_some, rd1_cells, ld189, ldN_some, rdN_cells, rG_binOp, binR_sub, call155, binR_and, rG_alloc_191, Value.cells, st191, fa174_0, ld191, rG_indexAddr, ia172, binR_add, fa191_0, ld172, rG_len, ln172, ld4, h0, h9, hb1, hs1, hrow'] <;> rfl) ?_; first | with_reducible refine kv ?_ | with_reducible refine ks ?_ | with_reducible refine ke ?_) | (refine xo_t ?_ ?_; focus (simp (disch := first | assumption | omega | (with_unfolding_all exact id rfl) | exact Nat.le_of_ble_eq_true rfl | fail) only [Env.put_some, Env.put_none, Env.set_app, Nat.reduceEqDiff, ↓reduceIte, Bool.not_true, Bool.not_false, h0, h9, hb1, hs1, hrow']; done)) | (refine xo_f ?_ ?_; focus (simp (disch := first | assumption | omega | (with_unfolding_all exact id rfl) | exact Nat.le_of_ble_eq_true rfl | fail) only [Env.put_some, Env.put_none, Env.set_app, Nat.reduceEqDiff, ↓reduceIte, Bool.not_true, Bool.not_false, h0, h9, hb1, hs1, hrow']; done)) | (refine xo_u ?_ ?_; focus (simp (disch := first | assumption | omega | (with_unfolding_all exact id rfl) | exact Nat.le_of_ble_eq_true rfl | fail) only [Env.put_some, Env.put_none, Env.set_app, Nat.reduceEqDiff, ↓reduceIte, Bool.not_true, Bool.not_false, h0, h9, hb1, hs1, hrow']; done)))
          refine xo (rG_store_new (w := w1) (cs := #[.int .i64 0, .int .i64 0, .int .i64 0, .bool false]) (E := 191) (v := .agg #[.int .i64 x, .int .i64 y, .int .i64 z, .bool true]) (TI.mk' (sz := 4) (by_ := 32) (z := Value.agg #[Value.int IntKind.i64 0, Value.int IntKind.i64 0, Value.int IntKind.i64 0, Value.bool false]) Try.underlying191 (by kernel_rfl)) (by simp (disch := first | assumption | omega) only [ev_tmp, ev_const, Env.put_some, Env.put_none, Env.set_app, Nat.reduceEqDiff, ↓reduceIte]) (by simp (disch := first | assumption | omega) only [ev_tmp, ev_const, Env.put_some, Env.put_none, Env.set_app, Nat.reduceEqDiff, ↓reduceIte]) rfl rfl rfl) ?_
          refine ks ?_
          (try refine xo_nil ?_)
          refine hK _ _ ?_
          clear hK K
          have hE2 := (Ext.refl w1).alloc (.cells ((Value.agg #[.int .i64 x, .int .i64 y, .int .i64 z, .bool true]).cells) 191)
          have hn2 : (w1.alloc (.cells ((Value.agg #[.int .i64 x, .int .i64 y, .int .i64 z, .bool true]).cells) 191)).heap[w1.heap.size]? = some (.cells #[.int .i64 x, .int .i64 y, .int .i64 z, .bool true] 191) := alloc_new
          obtain ⟨nb, hnb⟩ : ∃ nb, w1.heap.size = nb := ⟨_, rfl⟩
          rw [hnb] at hn2 hgl1 hpl1' ⊢
          generalize w1.alloc (.cells ((Value.agg #[.int .i64 x, .int .i64 y, .int .i64 z, .bool true]).cells) 191) = w2 at hE2 hn2 ⊢
          have hU2 := hU.ext hE2
          have hC2 := hC.trans (hE2.chg (fun _ => False)) (fun _ _ h => h.elim)
          have hb2 := hU2.at_
          have hs2 := hU2.sl
          rw [hl] at hb2
          refine X_seq fun K hK => ?_
          simp only [X_reg, thenX_normal]
          repeat (first | (refine xo (by simp (disch := first | assumption | omega | (with_unfolding_all exact id rfl) | exact Nat.le_of_ble_eq_true rfl | fail) only [Bool.not_true, Bool.not_false, vR_ok, uR_ok, ev_tmp, ev_const, ev_func, Env.put_some, Env.put_none, Env.set_app, Nat.reduceEqDiff, ↓reduceIte, rG_move, rG_assign, opt1_some, ext_all, dec_t, dec_f, beq_t, beq_f, bne_t, bne_f, wrap_i64, wrap_u64, Int.toNat_natCast, Nat.mul_one, Nat.zero_add, Nat.add_zero, List.map_toArray, List.map_cons, List.map_nil, resM_1, rG_unOp, unR_not, rG_fieldAddr, fa191_2, rG_store, st3, stN_1, stN_2, stN_3, stN_4, stN_5, stN_6, stN_7, stN_8, vcs_int, vcs_bool, vcs_ptr, vcs_slice, vcs_map, vcs_nil, vcs_iface, vcs_aggL, List.length_cons, List.length_nil, Nat.reduceAdd, rG_nilCheck, nilR_ptr, fa174_1, rG_build, rG_load, ld3, List.getElem?_toArray, List.getElem?_cons_zero, List.getElem?_cons_succ, ld1_some, rd1_cells, ld189, ldN_some, rdN_cells, rG_binOp, binR_sub, call155, binR_and, rG_alloc_191, Value.cells, st191, fa174_0, ld191, rG_indexAddr, ia172, binR_add, fa191_0, ld172, rG_len, ln172, ld4, h0, h9, hb2, hs2, bd_slot0, hset1] <;> rfl) ?_; first | with_reducible refine kv ?_ | with_reducible refine ks ?_ | with_reducible refine ke ?_) | (refine xo_t ?_ ?_; focus (simp (disch := first | assumption | omega | (with_unfolding_all exact id rfl) | exact Nat.le_of_ble_eq_true rfl | fail) only [Env.put_some, Env.put_none, Env.set_app, Nat.reduceEqDiff, ↓reduceIte, Bool.not_true, Bool.not_false, h0, h9, hb2, hs2, bd_slot0, hset1]; done)) | (refine xo_f ?_ ?_; focus (simp (disch := first | assumption | omega | (with_unfolding_all exact id rfl) | exact Nat.le_of_ble_eq_true rfl | fail) only [Env.put_some, Env.put_none, Env.set_app, Nat.reduceEqDiff, ↓reduceIte, Bool.not_true, Bool.not_false, h0, h9, hb2, hs2, bd_slot0, hset1]; done)) | (refine xo_u ?_ ?_; focus (simp (disch := first | assumption | omega | (with_unfolding_all exact id rfl) | exact Nat.le_of_ble_eq_true rfl | fail) only [Env.put_some, Env.put_none, Env.set_app, Nat.reduceEqDiff, ↓reduceIte, Bool.not_true, Bool.not_false, h0, h9, hb2, hs2, bd_slot0, hset1]; done)))
          refine xo_nil ?_
          refine hK _ _ ?_
          clear hK K
          have hU3 := hU2.row hpl1 none
          have hC3 := hC2.upd (b := g) (fun _ => .inr rfl) (.cells (tbL (T1.set pc none)).toArray 191)
          have hn3 : (upd w2 g (.cells (tbL (T1.set pc none)).toArray 191)).heap[nb]? = some (.cells #[.int .i64 x, .int .i64 y, .int .i64 z, .bool true] 191) := by rw [upd_other (by omega)]; exact hn2
          generalize upd w2 g (.cells (tbL (T1.set pc none)).toArray 191) = w3 at hU3 hC3 hn3 ⊢
          generalize hT2 : T1.set pc none = T2 at *
          have hp3 : ∀ u, Ext w3 u → u.heap[p]? = some (.cells #[.slice (some ⟨g, 0, none⟩) T.length T.length, .int .i64 (many - 1)] 174) := fun u hu => by have := hu.at hU3.at_; rwa [hlp] at this
          have hb3 : ∀ u, Ext w3 u → u.heap[nb]? = some (.cells #[.int .i64 x, .int .i64 y, .int .i64 z, .bool true] 191) := fun u hu => hu.at hn3
          have hk2 : (#[.int .i64 x, .int .i64 y, .int .i64 z, .bool true] : Array Value).extract 0 (0 + 2) = #[.int .i64 x, .int .i64 y] := rfl
          have hk4 : (#[.int .i64 x, .int .i64 y, .int .i64 z, .bool true] : Array Value).extract 0 (0 + 4) = #[.int .i64 x, .int .i64 y, .int .i64 z, .bool true] := rfl
          have hs4 : 0 + 4 ≤ (#[.int .i64 x, .int .i64 y, .int .i64 z, .bool true] : Array Value).size := Nat.le_refl 4
          have hs2' : 0 + 2 ≤ (#[.int .i64 x, .int .i64 y, .int .i64 z, .bool true] : Array Value).size := show 2 ≤ 4 by omega
          have hset2 := tbA_some (T := T2) (i := i2) (lo := x) (hi := y) (n := z) (by omega)
          have htn2 : (tbL T2).toArray.size = T.length * 4 := by simp [tbL_len]; omega
          have hszt : i2 * 4 + 4 ≤ (tbL T2).toArray.size := by omega
          simp only [X_draw, thenX_normal]
          refine XD_ext ?_
          repeat (first | (refine xe0 (fun w => (by simp (disch := first | assumption | omega | (with_unfolding_all exact id rfl) | exact Nat.le_of_ble_eq_true rfl | fail) only [Bool.not_true, Bool.not_false, vR_ok, uR_ok, ev_tmp, ev_const, ev_func, Env.put_some, Env.put_none, Env.set_app, Nat.reduceEqDiff, ↓reduceIte, rG_move, rG_assign, opt1_some, ext_all, dec_t, dec_f, beq_t, beq_f, bne_t, bne_f, wrap_i64, wrap_u64, Int.toNat_natCast, Nat.mul_one, Nat.zero_add, Nat.add_zero, List.map_toArray, List.map_cons, List.map_nil, resM_1, rG_unOp, unR_not, rG_fieldAddr, fa191_2, rG_store, st3, stN_1, stN_2, stN_3, stN_4, stN_5, stN_6, stN_7, stN_8, vcs_int, vcs_bool, vcs_ptr, vcs_slice, vcs_map, vcs_nil, vcs_iface, vcs_aggL, List.length_cons, List.length_nil, Nat.reduceAdd, rG_nilCheck, nilR_ptr, fa174_1, rG_build, rG_load, ld3, List.getElem?_toArray, List.getElem?_cons_zero, List.getElem?_cons_succ, ld1_some, rd1_cells, ld189, ldN_some, rdN_cells, rG_binOp, binR_sub, call155, binR_and, rG_alloc_191, Value.cells, st191, fa174_0, ld191, rG_indexAddr, ia172, binR_add, fa191_0, ld172, rG_len, ln172, ld4, h0, hp3, hb3, hk2] <;> rfl)) ?_) | (refine xe1e (fun w' hw => (by simp (disch := first | assumption | omega | (with_unfolding_all exact id rfl) | exact Nat.le_of_ble_eq_true rfl | fail) only [Bool.not_true, Bool.not_false, vR_ok, uR_ok, ev_tmp, ev_const, ev_func, Env.put_some, Env.put_none, Env.set_app, Nat.reduceEqDiff, ↓reduceIte, rG_move, rG_assign, opt1_some, ext_all, dec_t, dec_f, beq_t, beq_f, bne_t, bne_f, wrap_i64, wrap_u64, Int.toNat_natCast, Nat.mul_one, Nat.zero_add, Nat.add_zero, List.map_toArray, List.map_cons, List.map_nil, resM_1, rG_unOp, unR_not, rG_fieldAddr, fa191_2, rG_store, st3, stN_1, stN_2, stN_3, stN_4, stN_5, stN_6, stN_7, stN_8, vcs_int, vcs_bool, vcs_ptr, vcs_slice, vcs_map, vcs_nil, vcs_iface, vcs_aggL, List.length_cons, List.length_nil, Nat.reduceAdd, rG_nilCheck, nilR_ptr, fa174_1, rG_build, rG_load, ld3, List.getElem?_toArray, List.getElem?_cons_zero, List.getElem?_cons_succ, ld1_some, rd1_cells, ld189, ldN_some, rdN_cells, rG_binOp, binR_sub, call155, binR_and, rG_alloc_191, Value.cells, st191, fa174_0, ld191, rG_indexAddr, ia172, binR_add, fa191_0, ld172, rG_len, ln172, ld4, h0, hp3, hb3, hk2] <;> rfl)) ?_) | (refine xe2x (by simp (disch := first | assumption | omega | (with_unfolding_all exact id rfl) | exact Nat.le_of_ble_eq_true rfl | fail) only [Bool.not_true, Bool.not_false, vR_ok, uR_ok, ev_tmp, ev_const, ev_func, Env.put_some, Env.put_none, Env.set_app, Nat.reduceEqDiff, ↓reduceIte, rG_move, rG_assign, opt1_some, ext_all, dec_t, dec_f, beq_t, beq_f, bne_t, bne_f, wrap_i64, wrap_u64, Int.toNat_natCast, Nat.mul_one, Nat.zero_add, Nat.add_zero, List.map_toArray, List.map_cons, List.map_nil, resM_1, rG_unOp, unR_not, rG_fieldAddr, fa191_2, rG_store, st3, stN_1, stN_2, stN_3, stN_4, stN_5, stN_6, stN_7, stN_8, vcs_int, vcs_bool, vcs_ptr, vcs_slice, vcs_map, vcs_nil, vcs_iface, vcs_aggL, List.length_cons, List.length_nil, Nat.reduceAdd, rG_nilCheck, nilR_ptr, fa174_1, rG_build, rG_load, ld3, List.getElem?_toArray, List.getElem?_cons_zero, List.getElem?_cons_succ, ld1_some, rd1_cells, ld189, ldN_some, rdN_cells, rG_binOp, binR_sub, call155, binR_and, rG_alloc_191, Value.cells, st191, fa174_0, ld191, rG_indexAddr, ia172, binR_add, fa191_0, ld172, rG_len, ln172, ld4, h0, hp3, hb3, hk2] <;> rfl) ?_; (first | with_reducible refine kv ?_ | with_reducible refine ks ?_ | with_reducible refine ke ?_)) | (refine xe0_t ?_ ?_; focus (simp (disch := first | assumption | omega | (with_unfolding_all exact id rfl) | exact Nat.le_of_ble_eq_true rfl | fail) only [Env.put_some, Env.put_none, Env.set_app, Nat.reduceEqDiff, ↓reduceIte, Bool.not_true, Bool.not_false, h0, hp3, hb3, hk2]; done)) | (refine xe1_t ?_ ?_; focus (simp (disch := first | assumption | omega | (with_unfolding_all exact id rfl) | exact Nat.le_of_ble_eq_true rfl | fail) only [Env.put_some, Env.put_none, Env.set_app, Nat.reduceEqDiff, ↓reduceIte, Bool.not_true, Bool.not_false, h0, hp3, hb3, hk2]; done)) | (refine xe0_f ?_ ?_; focus (simp (disch := first | assumption | omega | (with_unfolding_all exact id rfl) | exact Nat.le_of_ble_eq_true rfl | fail) only [Env.put_some, Env.put_none, Env.set_app, Nat.reduceEqDiff, ↓reduceIte, Bool.not_true, Bool.not_false, h0, hp3, hb3, hk2]; done)) | (refine xe1_f ?_ ?_; focus (simp (disch := first | assumption | omega | (with_unfolding_all exact id rfl) | exact Nat.le_of_ble_eq_true rfl | fail) only [Env.put_some, Env.put_none, Env.set_app, Nat.reduceEqDiff, ↓reduceIte, Bool.not_true, Bool.not_false, h0, hp3, hb3, hk2]; done)) | (refine xe0_u ?_ ?_; focus (simp (disch := first | assumption | omega | (with_unfolding_all exact id rfl) | exact Nat.le_of_ble_eq_true rfl | fail) only [Env.put_some, Env.put_none, Env.set_app, Nat.reduceEqDiff, ↓reduceIte, Bool.not_true, Bool.not_false, h0, hp3, hb3, hk2]; done)) | (refine xe1_u ?_ ?_; focus (simp (disch := first | assumption | omega | (with_unfolding_all exact id rfl) | exact Nat.le_of_ble_eq_true rfl | fail) only [Env.put_some, Env.put_none, Env.set_app, Nat.reduceEqDiff, ↓reduceIte, Bool.not_true, Bool.not_false, h0, hp3, hb3, hk2]; done)))
          refine xe1c (fun w' hw => (by simp (disch := first | assumption | omega | (with_unfolding_all exact id rfl) | exact Nat.le_of_ble_eq_true rfl | fail) only [Bool.not_true, Bool.not_false, vR_ok, uR_ok, ev_tmp, ev_const, ev_func, Env.put_some, Env.put_none, Env.set_app, Nat.reduceEqDiff, ↓reduceIte, rG_move, rG_assign, opt1_some, ext_all, dec_t, dec_f, beq_t, beq_f, bne_t, bne_f, wrap_i64, wrap_u64, Int.toNat_natCast, Nat.mul_one, Nat.zero_add, Nat.add_zero, List.map_toArray, List.map_cons, List.map_nil, resM_1, rG_unOp, unR_not, rG_fieldAddr, fa191_2, rG_store, st3, stN_1, stN_2, stN_3, stN_4, stN_5, stN_6, stN_7, stN_8, vcs_int, vcs_bool, vcs_ptr, vcs_slice, vcs_map, vcs_nil, vcs_iface, vcs_aggL, List.length_cons, List.length_nil, Nat.reduceAdd, rG_nilCheck, nilR_ptr, fa174_1, rG_build, rG_load, ld3, List.getElem?_toArray, List.getElem?_cons_zero, List.getElem?_cons_succ, ld1_some, rd1_cells, ld189, ldN_some, rdN_cells, rG_binOp, binR_sub, call155, binR_and, rG_alloc_191, Value.cells, st191, fa174_0, ld191, rG_indexAddr, ia172, binR_add, fa191_0, ld172, rG_len, ln172, ld4, h0] <;> rfl)) (fun w' hw => ufind_calls (hU3.ext hw) hf2) ?_
          repeat (first | (refine xe0 (fun w => (by simp (disch := first | assumption | omega | (with_unfolding_all exact id rfl) | exact Nat.le_of_ble_eq_true rfl | fail) only [Bool.not_true, Bool.not_false, vR_ok, uR_ok, ev_tmp, ev_const, ev_func, Env.put_some, Env.put_none, Env.set_app, Nat.reduceEqDiff, ↓reduceIte, rG_move, rG_assign, opt1_some, ext_all, dec_t, dec_f, beq_t, beq_f, bne_t, bne_f, wrap_i64, wrap_u64, Int.toNat_natCast, Nat.mul_one, Nat.zero_add, Nat.add_zero, List.map_toArray, List.map_cons, List.map_nil, resM_1, rG_unOp, unR_not, rG_fieldAddr, fa191_2, rG_store, st3, stN_1, stN_2, stN_3, stN_4, stN_5, stN_6, stN_7, stN_8, vcs_int, vcs_bool, vcs_ptr, vcs_slice, vcs_map, vcs_nil, vcs_iface, vcs_aggL, List.length_cons, List.length_nil, Nat.reduceAdd, rG_nilCheck, nilR_ptr, fa174_1, rG_build, rG_load, ld3, List.getElem?_toArray, List.getElem?_cons_zero, List.getElem?_cons_succ, ld1_some, rd1_cells, ld189, ldN_some, rdN_cells, rG_binOp, binR_sub, call155, binR_and, rG_alloc_191, Value.cells, st191, fa174_0, ld191, rG_indexAddr, ia172, binR_add, fa191_0, ld172, rG_len, ln172, ld4, h0, hb3, hk4] <;> rfl)) ?_) | (refine xe1e (fun w' hw => (by simp (disch := first | assumption | omega | (with_unfolding_all exact id rfl) | exact Nat.le_of_ble_eq_true rfl | fail) only [Bool.not_true, Bool.not_false, vR_ok, uR_ok, ev_tmp, ev_const, ev_func, Env.put_some, Env.put_none, Env.set_app, Nat.reduceEqDiff, ↓reduceIte, rG_move, rG_assign, opt1_some, ext_all, dec_t, dec_f, beq_t, beq_f, bne_t, bne_f, wrap_i64, wrap_u64, Int.toNat_natCast, Nat.mul_one, Nat.zero_add, Nat.add_zero, List.map_toArray, List.map_cons, List.map_nil, resM_1, rG_unOp, unR_not, rG_fieldAddr, fa191_2, rG_store, st3, stN_1, stN_2, stN_3, stN_4, stN_5, stN_6, stN_7, stN_8, vcs_int, vcs_bool, vcs_ptr, vcs_slice, vcs_map, vcs_nil, vcs_iface, vcs_aggL, List.length_cons, List.length_nil, Nat.reduceAdd, rG_nilCheck, nilR_ptr, fa174_1, rG_build, rG_load, ld3, List.getElem?_toArray, List.getElem?_cons_zero, List.getElem?_cons_succ, ld1_some, rd1_cells, ld189, ldN_some, rdN_cells, rG_binOp, binR_sub, call155, binR_and, rG_alloc_191, Value.cells, st191, fa174_0, ld191, rG_indexAddr, ia172, binR_add, fa191_0, ld172, rG_len, ln172, ld4, h0, hb3, hk4] <;> rfl)) ?_) | (refine xe2x (by simp (disch := first | assumption | omega | (with_unfolding_all exact id rfl) | exact Nat.le_of_ble_eq_true rfl | fail) only [Bool.not_true, Bool.not_false, vR_ok, uR_ok, ev_tmp, ev_const, ev_func, Env.put_some, Env.put_none, Env.set_app, Nat.reduceEqDiff, ↓reduceIte, rG_move, rG_assign, opt1_some, ext_all, dec_t, dec_f, beq_t, beq_f, bne_t, bne_f, wrap_i64, wrap_u64, Int.toNat_natCast, Nat.mul_one, Nat.zero_add, Nat.add_zero, List.map_toArray, List.map_cons, List.map_nil, resM_1, rG_unOp, unR_not, rG_fieldAddr, fa191_2, rG_store, st3, stN_1, stN_2, stN_3, stN_4, stN_5, stN_6, stN_7, stN_8, vcs_int, vcs_bool, vcs_ptr, vcs_slice, vcs_map, vcs_nil, vcs_iface, vcs_aggL, List.length_cons, List.length_nil, Nat.reduceAdd, rG_nilCheck, nilR_ptr, fa174_1, rG_build, rG_load, ld3, List.getElem?_toArray, List.getElem?_cons_zero, List.getElem?_cons_succ, ld1_some, rd1_cells, ld189, ldN_some, rdN_cells, rG_binOp, binR_sub, call155, binR_and, rG_alloc_191, Value.cells, st191, fa174_0, ld191, rG_indexAddr, ia172, binR_add, fa191_0, ld172, rG_len, ln172, ld4, h0, hb3, hk4] <;> rfl) ?_; (first | with_reducible refine kv ?_ | with_reducible refine ks ?_ | with_reducible refine ke ?_)) | (refine xe0_t ?_ ?_; focus (simp (disch := first | assumption | omega | (with_unfolding_all exact id rfl) | exact Nat.le_of_ble_eq_true rfl | fail) only [Env.put_some, Env.put_none, Env.set_app, Nat.reduceEqDiff, ↓reduceIte, Bool.not_true, Bool.not_false, h0, hb3, hk4]; done)) | (refine xe1_t ?_ ?_; focus (simp (disch := first | assumption | omega | (with_unfolding_all exact id rfl) | exact Nat.le_of_ble_eq_true rfl | fail) only [Env.put_some, Env.put_none, Env.set_app, Nat.reduceEqDiff, ↓reduceIte, Bool.not_true, Bool.not_false, h0, hb3, hk4]; done)) | (refine xe0_f ?_ ?_; focus (simp (disch := first | assumption | omega | (with_unfolding_all exact id rfl) | exact Nat.le_of_ble_eq_true rfl | fail) only [Env.put_some, Env.put_none, Env.set_app, Nat.reduceEqDiff, ↓reduceIte, Bool.not_true, Bool.not_false, h0, hb3, hk4]; done)) | (refine xe1_f ?_ ?_; focus (simp (disch := first | assumption | omega | (with_unfolding_all exact id rfl) | exact Nat.le_of_ble_eq_true rfl | fail) only [Env.put_some, Env.put_none, Env.set_app, Nat.reduceEqDiff, ↓reduceIte, Bool.not_true, Bool.not_false, h0, hb3, hk4]; done)) | (refine xe0_u ?_ ?_; focus (simp (disch := first | assumption | omega | (with_unfolding_all exact id rfl) | exact Nat.le_of_ble_eq_true rfl | fail) only [Env.put_some, Env.put_none, Env.set_app, Nat.reduceEqDiff, ↓reduceIte, Bool.not_true, Bool.not_false, h0, hb3, hk4]; done)) | (refine xe1_u ?_ ?_; focus (simp (disch := first | assumption | omega | (with_unfolding_all exact id rfl) | exact Nat.le_of_ble_eq_true rfl | fail) only [Env.put_some, Env.put_none, Env.set_app, Nat.reduceEqDiff, ↓reduceIte, Bool.not_true, Bool.not_false, h0, hb3, hk4]; done)))
          refine xe2 fun w4 hE4 => ?_
          have hU4 := hU3.ext hE4
          have hsl4 := hU4.sl
          refine kr (by simp (disch := first | assumption | omega | (with_unfolding_all exact id rfl) | exact Nat.le_of_ble_eq_true rfl | fail) only [Bool.not_true, Bool.not_false, vR_ok, uR_ok, ev_tmp, ev_const, ev_func, Env.put_some, Env.put_none, Env.set_app, Nat.reduceEqDiff, ↓reduceIte, rG_move, rG_assign, opt1_some, ext_all, dec_t, dec_f, beq_t, beq_f, bne_t, bne_f, wrap_i64, wrap_u64, Int.toNat_natCast, Nat.mul_one, Nat.zero_add, Nat.add_zero, List.map_toArray, List.map_cons, List.map_nil, resM_1, rG_unOp, unR_not, rG_fieldAddr, fa191_2, rG_store, st3, stN_1, stN_2, stN_3, stN_4, stN_5, stN_6, stN_7, stN_8, vcs_int, vcs_bool, vcs_ptr, vcs_slice, vcs_map, vcs_nil, vcs_iface, vcs_aggL, List.length_cons, List.length_nil, Nat.reduceAdd, rG_nilCheck, nilR_ptr, fa174_1, rG_build, rG_load, ld3, List.getElem?_toArray, List.getElem?_cons_zero, List.getElem?_cons_succ, ld1_some, rd1_cells, ld189, ldN_some, rdN_cells, rG_binOp, binR_sub, call155, binR_and, rG_alloc_191, Value.cells, st191, fa174_0, ld191, rG_indexAddr, ia172, binR_add, fa191_0, ld172, rG_len, ln172, ld4, hsl4, hset2] <;> rfl) ?_
          first | with_reducible refine kv ?_ | with_reducible refine ks ?_ | with_reducible refine ke ?_
          refine xe_nil ?_
          rintro _ rfl
          simp only [X_skip, X_exit, X_ret, X_block, thenX_normal, thenX_ret, thenX_exit, inX_normal, inX_ret, inX_exit, ↓reduceIte, Nat.reduceEqDiff]
          (try refine xo_nil ?_)
          refine hK _ _ ?_
          clear hK K
          have hU5 := hU4.row (i := i2) (by omega) (some ((x, y), z))
          have hC4 := hC3.trans (hE4.chg (fun _ => False)) (fun _ _ h => h.elim)
          have hnx := h.next hpcl
          have hcs : cyc T.length pc 1 = cyc T.length b (c + 1) := by rw [← hpc]; exact cyc_succ hb' hcl
          (try simp only [X_reg, thenX_normal])
          repeat (first | (refine xo (by simp (disch := first | assumption | omega | (with_unfolding_all exact id rfl) | exact Nat.le_of_ble_eq_true rfl | fail) only [Bool.not_true, Bool.not_false, vR_ok, uR_ok, ev_tmp, ev_const, ev_func, Env.put_some, Env.put_none, Env.set_app, Nat.reduceEqDiff, ↓reduceIte, rG_move, rG_assign, opt1_some, ext_all, dec_t, dec_f, beq_t, beq_f, bne_t, bne_f, wrap_i64, wrap_u64, Int.toNat_natCast, Nat.mul_one, Nat.zero_add, Nat.add_zero, List.map_toArray, List.map_cons, List.map_nil, resM_1, rG_unOp, unR_not, rG_fieldAddr, fa191_2, rG_store, st3, stN_1, stN_2, stN_3, stN_4, stN_5, stN_6, stN_7, stN_8, vcs_int, vcs_bool, vcs_ptr, vcs_slice, vcs_map, vcs_nil, vcs_iface, vcs_aggL, List.length_cons, List.length_nil, Nat.reduceAdd, rG_nilCheck, nilR_ptr, fa174_1, rG_build, rG_load, ld3, List.getElem?_toArray, List.getElem?_cons_zero, List.getElem?_cons_succ, ld1_some, rd1_cells, ld189, ldN_some, rdN_cells, rG_binOp, binR_sub, call155, binR_and, rG_alloc_191, Value.cells, st191, fa174_0, ld191, rG_indexAddr, ia172, binR_add, fa191_0, ld172, rG_len, ln172, ld4, h9, h8, hnx] <;> rfl) ?_; first | with_reducible refine kv ?_ | with_reducible refine ks ?_ | with_reducible refine ke ?_) | (refine xo_t ?_ ?_; focus (simp (disch := first | assumption | omega | (with_unfolding_all exact id rfl) | exact Nat.le_of_ble_eq_true rfl | fail) only [Env.put_some, Env.put_none, Env.set_app, Nat.reduceEqDiff, ↓reduceIte, Bool.not_true, Bool.not_false, h9, h8, hnx]; done)) | (refine xo_f ?_ ?_; focus (simp (disch := first | assumption | omega | (with_unfolding_all exact id rfl) | exact Nat.le_of_ble_eq_true rfl | fail) only [Env.put_some, Env.put_none, Env.set_app, Nat.reduceEqDiff, ↓reduceIte, Bool.not_true, Bool.not_false, h9, h8, hnx]; done)) | (refine xo_u ?_ ?_; focus (simp (disch := first | assumption | omega | (with_unfolding_all exact id rfl) | exact Nat.le_of_ble_eq_true rfl | fail) only [Env.put_some, Env.put_none, Env.set_app, Nat.reduceEqDiff, ↓reduceIte, Bool.not_true, Bool.not_false, h9, h8, hnx]; done)))
          refine xo_nil ⟨⟨c + 1, _, ?_, ?_, ?_, hU5, r4, by rw [List.length_set]; exact hlp, hcn1, fun k v => by rw [r5, hM], hC4.upd (fun _ => .inr rfl) _⟩, ?_⟩
          · rw [← hcs]
            (try simp (disch := first | assumption | omega | (with_unfolding_all exact id rfl) | exact Nat.le_of_ble_eq_true rfl | fail) only [Env.put_some, Env.put_none, Env.set_app, Nat.reduceEqDiff, ↓reduceIte, nat_int, Int.toNat_natCast, wrap_i64])
          · (try simp (disch := first | assumption | omega | (with_unfolding_all exact id rfl) | exact Nat.le_of_ble_eq_true rfl | fail) only [Env.put_some, Env.put_none, Env.set_app, Nat.reduceEqDiff, ↓reduceIte, nat_int, Int.toNat_natCast, wrap_i64, h8])
          · (try simp (disch := first | assumption | omega | (with_unfolding_all exact id rfl) | exact Nat.le_of_ble_eq_true rfl | fail) only [Env.put_some, Env.put_none, Env.set_app, Nat.reduceEqDiff, ↓reduceIte, nat_int, Int.toNat_natCast, wrap_i64, h0])
          · rw [hn9, hcrd]
            (try simp (disch := first | assumption | omega | (with_unfolding_all exact id rfl) | exact Nat.le_of_ble_eq_true rfl | fail) only [Env.put_some, Env.put_none, Env.set_app, Nat.reduceEqDiff, ↓reduceIte, nat_int, Int.toNat_natCast, wrap_i64])
            rw [hcs, crd_cyc hb' (by omega)]
            omega
    · rintro e w4 ⟨T', hU', hI', hl', hcn', hM', hC'⟩
      refine X_seq fun K hK => ?_
      simp only [X_reg, thenX_normal]
      repeat (first | (refine xo (by simp (disch := first | assumption | omega | (with_unfolding_all exact id rfl) | exact Nat.le_of_ble_eq_true rfl | fail) only [Bool.not_true, Bool.not_false, vR_ok, uR_ok, ev_tmp, ev_const, ev_func, Env.put_some, Env.put_none, Env.set_app, Nat.reduceEqDiff, ↓reduceIte, rG_move, rG_assign, opt1_some, ext_all, dec_t, dec_f, beq_t, beq_f, bne_t, bne_f, wrap_i64, wrap_u64, Int.toNat_natCast, Nat.mul_one, Nat.zero_add, Nat.add_zero, List.map_toArray, List.map_cons, List.map_nil, resM_1, rG_unOp, unR_not, rG_fieldAddr, fa191_2, rG_store, st3, stN_1, stN_2, stN_3, stN_4, stN_5, stN_6, stN_7, stN_8, vcs_int, vcs_bool, vcs_ptr, vcs_slice, vcs_map, vcs_nil, vcs_iface, vcs_aggL, List.length_cons, List.length_nil, Nat.reduceAdd, rG_nilCheck, nilR_ptr, fa174_1, rG_build, rG_load, ld3, List.getElem?_toArray, List.getElem?_cons_zero, List.getElem?_cons_succ, ld1_some, rd1_cells, ld189, ldN_some, rdN_cells, rG_binOp, binR_sub, call155, binR_and, rG_alloc_191, Value.cells, st191, fa174_0, ld191, rG_indexAddr, ia172, binR_add, fa191_0, ld172, rG_len, ln172, ld4] <;> rfl) ?_; first | with_reducible refine kv ?_ | with_reducible refine ks ?_ | with_reducible refine ke ?_) | (refine xo_t ?_ ?_; focus (simp (disch := first | assumption | omega | (with_unfolding_all exact id rfl) | exact Nat.le_of_ble_eq_true rfl | fail) only [Env.put_some, Env.put_none, Env.set_app, Nat.reduceEqDiff, ↓reduceIte, Bool.not_true, Bool.not_false]; done)) | (refine xo_f ?_ ?_; focus (simp (disch := first | assumption | omega | (with_unfolding_all exact id rfl) | exact Nat.le_of_ble_eq_true rfl | fail) only [Env.put_some, Env.put_none, Env.set_app, Nat.reduceEqDiff, ↓reduceIte, Bool.not_true, Bool.not_false]; done)) | (refine xo_u ?_ ?_; focus (simp (disch := first | assumption | omega | (with_unfolding_all exact id rfl) | exact Nat.le_of_ble_eq_true rfl | fail) only [Env.put_some, Env.put_none, Env.set_app, Nat.reduceEqDiff, ↓reduceIte, Bool.not_true, Bool.not_false]; done)))
      refine xo_nil ?_
      refine hK _ _ ?_
      clear hK K
      simp (disch := first | assumption | omega | (with_unfolding_all exact id rfl) | exact Nat.le_of_ble_eq_true rfl | fail) only [X_ret, thenX_ret, inX_ret, retX_ret, retX_normal, Try.results136, resM_0, resM_1, resM_2, resM_3, resM_4, Env.put_some, Env.put_none, Env.set_app, Nat.reduceEqDiff, ↓reduceIte]
      exact ⟨_, rfl, many - 1, T', hU', ⟨hI', hcn', by rw [hl']; omega, by omega⟩, hl', hC', .inr ⟨rfl, rfl, ⟨v, i, hv⟩, hM'⟩⟩
end Go.Proofs.Ytpeindhocndmnaa

/- Maps by their blocks: what is looked up, laid, and counted, the block known. No program is in sight. -/
namespace Go.Bx
open Go
set_option linter.unusedSimpArgs false
set_option linter.unusedVariables false

def luO (P : Program) (t : TypeId) (b : Nat) (k : Value) (c : Bool) (w : World) (ob : Option Obj) (_ : w.heap[b]? = ob) : Result Value := luR P t (.map (some b)) k c w
def muO (P : Program) (t : TypeId) (b : Nat) (k v : Value) (w : World) (ob : Option Obj) (_ : w.heap[b]? = ob) : Result Unit := muR P t (.map (some b)) k v w
def meR (P : Program) (t : TypeId) (a k : Value) (w : World) : Result Value := (Instr.mapEntry t a k).run P w
def meO (P : Program) (t : TypeId) (b : Nat) (k : Value) (w : World) (ob : Option Obj) (_ : w.heap[b]? = ob) : Result Value := meR P t (.map (some b)) k w
def esR (P : Program) (t : TypeId) (a s v : Value) (w : World) : Result Unit := (Instr.entryStore t a s v).run P w
def esO (P : Program) (t : TypeId) (b : Nat) (s v : Value) (w : World) (ob : Option Obj) (_ : w.heap[b]? = ob) : Result Unit := esR P t (.map (some b)) s v w
def lnO (P : Program) (t : TypeId) (b : Nat) (w : World) (ob : Option Obj) (_ : w.heap[b]? = ob) : Result Value := lnR P t (.map (some b)) w
section
variable {P : Program} {t ty : TypeId} {e : Env} {w : World} {x y z : Operand} {b : Nat} {k v : Value} {c : Bool}
theorem rG_mapEntry : rG P (.mapEntry t x y) ty e w = vR (meR P t (ev e x) (ev e y) w) := run_v _
theorem rG_entryStore : rG P (.entryStore t x y z) ty e w = uR (esR P t (ev e x) (ev e y) (ev e z) w) := run_u _
theorem luR_map : luR P t (.map (some b)) k c w = luO P t b k c w (w.heap[b]?) rfl := rfl
theorem muR_map : muR P t (.map (some b)) k v w = muO P t b k v w (w.heap[b]?) rfl := rfl
theorem meR_map : meR P t (.map (some b)) k w = meO P t b k w (w.heap[b]?) rfl := rfl
theorem esR_map {s : Value} : esR P t (.map (some b)) s v w = esO P t b s v w (w.heap[b]?) rfl := rfl
theorem lnR_map : lnR P t (.map (some b)) w = lnO P t b w (w.heap[b]?) rfl := rfl
end
attribute [push_cast] rG_mapEntry rG_entryStore luR_map muR_map meR_map esR_map lnR_map

/-- What is so of a map's entries. -/
structure MInv {κ : Type} (es : List (Ent κ)) (clock : Nat) : Prop where
  keys : (es.map (·.1)).Nodup
  born : ∀ e ∈ es, e.2.2 < clock
  borns : (es.map (·.2.2)).Nodup
theorem MInv.nil {κ : Type} : MInv ([] : List (Ent κ)) 0 := ⟨List.nodup_nil, fun _ h => (by cases h), List.nodup_nil⟩

section
variable {κ : Type} [DecidableEq κ] {kf : κ → Value} {ok : κ → Prop} {P : Program} {w w' : World} {t kt et b clock sz by_ s2 b2 : Nat} {z zv : Value} {de : TypeDesc} {es : List (Ent κ)} {k : κ}
/-- The map's block. -/
abbrev mObj (kf : κ → Value) (es : List (Ent κ)) (clock : Nat) : Obj := .map (es.map (mEnt kf)).toArray clock
theorem MInv.put (h : MInv es clock) (k : κ) (v : Value) : MInv (mput es k v clock) (mclock es k clock) := by
  have hM : MapK (fun _ : κ => Value.bool true) (fun _ => True) ((default : World).alloc (mObj (fun _ : κ => Value.bool true) es clock)) (default : World).heap.size es clock := ⟨alloc_new, h.keys, fun _ _ => trivial, h.born, h.borns⟩
  have := hM.put (k := k) (v := v) trivial
  exact ⟨this.keys, this.born, this.borns⟩
/-- The stamp of a key's entry, as it is or would be. -/
def stampOf (es : List (Ent κ)) (k : κ) (clock : Nat) : Nat := match mfind es k with
  | some (i, _) => ((es[i]?).map (·.2.2)).getD 0
  | none => clock
theorem lookup_at (hb : w.heap[b]? = some (mObj kf es clock)) (ht : TI P t (.map kt et) sz by_ z) (he : TI P et de s2 b2 zv) (hk : KeyOK P kt kf ok) (hok : ok k) (hall : ∀ e ∈ es, ok e.1) (c : Bool) :
    luR P t (.map (some b)) (kf k) c w = .ok (if c then .tuple #[(mget es k).getD zv, .bool (mget es k).isSome] else (mget es k).getD zv) w := by
  simp only [luR, Instr.lookup, Sem.run_bind, ht.underlying, Result.andThen_ok, MapKept.run_getObj_map hb, List.toList_toArray]
  (try simp only [Sem.run_pure, Result.andThen_ok, List.toList_toArray])
  rw [hk.check _ _ _ hok]
  simp only [Result.andThen_ok, Sem.run_bind]
  rw [hk.find k es w hok hall]
  simp only [Result.andThen_ok]
  unfold mget
  cases hm : mfind es k with
  | none => cases c <;> simp [he.zeroValue, pure, Sem.run]
  | some r => cases c <;> simp [pure, Sem.run]
theorem update_at (hb : w.heap[b]? = some (mObj kf es clock)) (ht : TI P t (.map kt et) sz by_ z) (hk : KeyOK P kt kf ok) (hok : ok k) (hall : ∀ e ∈ es, ok e.1) (v : Value) :
    muR P t (.map (some b)) (kf k) v w = .ok () (upd w b (mObj kf (mput es k v clock) (mclock es k clock))) := by
  simp only [muR, Instr.mapUpdate, Sem.run_bind, ht.underlying, Result.andThen_ok, MapKept.run_getObj_map hb, List.toList_toArray]
  (try simp only [Sem.run_pure, Result.andThen_ok, List.toList_toArray])
  rw [hk.check _ _ _ hok]
  simp only [Result.andThen_ok, Sem.run_bind]
  rw [hk.find k es w hok hall]
  simp only [Result.andThen_ok]
  unfold mput mclock
  cases hm : mfind es k with
  | none =>
    simp only [Option.isSome_none, Bool.false_eq_true, if_false, MapKept.run_setObj_map _ hb]
    simp [set_upd, mEnt, mObj]
  | some r =>
    obtain ⟨i, u⟩ := r
    obtain ⟨_, bb, hi⟩ := mfindFrom_some hm
    rw [Nat.sub_zero] at hi
    have h1 : (((es.map (mEnt kf)).toArray[i]?).map (·.key)).getD (kf k) = kf k := by
      simp [hi, mEnt]
    simp only [Option.isSome_some, if_true, Sem.run_bind, h1, hk.stay k w hok, Result.andThen_ok, MapKept.run_setObj_map _ hb, set_upd]
    congr 3
    apply Array.ext_getElem?
    intro j
    simp only [Array.getElem?_modify, List.getElem?_toArray, List.getElem?_map, List.getElem?_modify]
    by_cases hj : i = j
    · subst hj; simp [hi, mEnt]
    · simp [hj]
theorem entry_at (hb : w.heap[b]? = some (mObj kf es clock)) (ht : TI P t (.map kt et) sz by_ z) (he : TI P et de s2 b2 zv) (hk : KeyOK P kt kf ok) (hok : ok k) (hall : ∀ e ∈ es, ok e.1) :
    meR P t (.map (some b)) (kf k) w = .ok (.tuple #[(mget es k).getD zv, .int .i64 (stampOf es k clock)]) (upd w b (mObj kf (mput es k ((mget es k).getD zv) clock) (mclock es k clock))) := by
  simp only [meR, Instr.mapEntry, Sem.run_bind, ht.underlying, Result.andThen_ok, MapKept.run_getObj_map hb, List.toList_toArray]
  (try simp only [Sem.run_pure, Result.andThen_ok, List.toList_toArray])
  rw [hk.check _ _ _ hok]
  simp only [Result.andThen_ok, Sem.run_bind]
  rw [hk.find k es w hok hall]
  simp only [Result.andThen_ok]
  unfold mput mclock mget stampOf
  cases hm : mfind es k with
  | none =>
    simp only [Option.isSome_none, Bool.false_eq_true, if_false, Sem.run_bind, he.zeroValue, Result.andThen_ok, MapKept.run_setObj_map _ hb, Option.map_none, Option.getD_none]
    simp [set_upd, mEnt, mObj, goInt, pure, Sem.run]
  | some r =>
    obtain ⟨i, u⟩ := r
    obtain ⟨_, bb, hi⟩ := mfindFrom_some hm
    rw [Nat.sub_zero] at hi
    have h1 : (((es.map (mEnt kf)).toArray[i]?).map (·.key)).getD (kf k) = kf k := by
      simp [hi, mEnt]
    simp only [Option.isSome_some, if_true, Sem.run_bind, h1, hk.stay k w hok, Result.andThen_ok, MapKept.run_setObj_map _ hb, set_upd, Option.map_some, Option.getD_some, pure, Sem.run]
    have e1 : (((es.map (mEnt kf)).toArray.modify i fun e => { e with key := kf k }) : Array MapEntry) = ((es.modify i fun e => (k, u, e.2.2)).map (mEnt kf)).toArray := by
      apply Array.ext_getElem?
      intro j
      simp only [Array.getElem?_modify, List.getElem?_toArray, List.getElem?_map, List.getElem?_modify]
      by_cases hj : i = j
      · subst hj; simp [hi, mEnt]
      · simp [hj]
    rw [e1]
    simp [hi, mEnt, goInt]
/-- An entry's value is laid by its stamp. -/
theorem store_at {u v : Value} (h : MInv es clock) (hb : w.heap[b]? = some (mObj kf (mput es k u clock) (mclock es k clock))) :
    esR P t (.map (some b)) (.int .i64 (stampOf es k clock)) v w = .ok () (upd w b (mObj kf (mput es k v clock) (mclock es k clock))) := by
  have run_asInt : ∀ n : Int, (asInt (.int .i64 n)).run P w = .ok n w := fun n => rfl
  simp only [esR, Instr.entryStore, Sem.run_bind, Result.andThen_ok, MapKept.run_getObj_map hb, run_asInt]
  have key : ∃ i, ((mput es k u clock).map (mEnt kf)).toArray.findIdx? (fun e => (e.born : Int) == ((stampOf es k clock : Nat) : Int)) = some i ∧
      (((mput es k u clock).map (mEnt kf)).toArray.modify i fun e => { e with val := v }) = ((mput es k v clock).map (mEnt kf)).toArray := by
    have hp : ∀ (a c : Nat), (((a : Int) == (c : Int)) = true) ↔ a = c := fun a c => by simp only [beq_iff_eq]; omega
    unfold mput stampOf
    cases hm : mfind es k with
    | none =>
      refine ⟨es.length, ?_, ?_⟩
      · rw [List.findIdx?_toArray, List.findIdx?_eq_some_iff_getElem]
        refine ⟨by simp, by simp [mEnt], fun j hj => ?_⟩
        have hj' : j < es.length := hj
        have := h.born (es[j]) (List.getElem_mem hj')
        simp only [List.getElem_map, mEnt]
        rw [List.getElem_append_left hj']
        intro hc
        have := (hp _ _).1 hc
        omega
      · apply Array.ext_getElem?
        intro j
        simp only [Array.getElem?_modify, List.getElem?_toArray, List.getElem?_map]
        by_cases hj : es.length = j
        · subst hj; simp [mEnt]
        · rw [if_neg hj]
          rcases Nat.lt_or_ge j es.length with hl | hl
          · rw [List.getElem?_append_left hl, List.getElem?_append_left hl]
          · rw [List.getElem?_eq_none (by simp; omega), List.getElem?_eq_none (by simp; omega)]
    | some r =>
      obtain ⟨i, x⟩ := r
      obtain ⟨_, bb, hi⟩ := mfindFrom_some hm
      rw [Nat.sub_zero] at hi
      have hil := (List.getElem?_eq_some_iff.1 hi).1
      have hib : es[i] = (k, x, bb) := (List.getElem?_eq_some_iff.1 hi).2
      have hst : ((es[i]?).map (·.2.2)).getD 0 = bb := by rw [hi]; rfl
      refine ⟨i, ?_, ?_⟩
      · rw [List.findIdx?_toArray, List.findIdx?_eq_some_iff_getElem]
        refine ⟨by simpa using hil, ?_, fun j hj => ?_⟩
        · simp [hst, mEnt, hib]
        · simp only [hst, List.getElem_map, mEnt]
          rw [List.getElem_modify]
          have hne : ¬ i = j := by omega
          rw [if_neg hne]
          intro hc
          have hjb := (hp _ _).1 hc
          have hnd := h.borns
          have hjl : j < es.length := by omega
          have e1 : (es.map (·.2.2))[j]'(by simpa using hjl) = (es.map (·.2.2))[i]'(by simpa using hil) := by
            simp only [List.getElem_map, hib]; exact hjb
          have := (List.getElem_inj hnd).1 e1
          omega
      · apply Array.ext_getElem?
        intro j
        simp only [Array.getElem?_modify, List.getElem?_toArray, List.getElem?_map, List.getElem?_modify]
        by_cases hj : i = j
        · subst hj; simp [hi, mEnt]
        · simp [hj]
  obtain ⟨i, h1, h2⟩ := key
  rw [h1]
  simp only [MapKept.run_setObj_map _ hb]
  rw [h2]; rfl
omit [DecidableEq κ] in
theorem len_at (hb : w.heap[b]? = some (mObj kf es clock)) (ht : TI P t (.map kt et) sz by_ z) : lnR P t (.map (some b)) w = .ok (.int .i64 (es.length : Nat)) w := by
  simp only [lnR, Builtin.len_, List.getElem?_toArray, List.getElem?_cons_zero, Sem.run_bind, ht.underlying, Result.andThen_ok, MapKept.run_getObj_map hb]
  simp [goInt, pure, Sem.run]
end
attribute [push_cast] Option.getD_some Option.getD_none
end Go.Bx

/- Lists of rows in memory, and rows that draw taken world by world. No program is in sight. -/
namespace Go.Bx
open Go
set_option linter.unusedSimpArgs false
set_option linter.unusedVariables false

/-- A list in a block of its own: rows of s cells each. -/
structure Sl (w : World) (E s : Nat) (a : Option Addr) (cap : Nat) (rows : List (List Value)) : Prop where
  l : Lst w E s a rows.length cap rows.flatten
  len : ∀ r ∈ rows, r.length = s
theorem flat_len {s : Nat} : ∀ {rows : List (List Value)}, (∀ r ∈ rows, r.length = s) → rows.flatten.length = rows.length * s
  | [], _ => by simp
  | r :: rs, h => by
    rw [List.flatten_cons, List.length_append, flat_len (fun x hx => h x (by simp [hx])), h r (by simp), List.length_cons, Nat.succ_mul, Nat.add_comm]
theorem flat_get {s : Nat} : ∀ {rows : List (List Value)}, (∀ r ∈ rows, r.length = s) → ∀ {i : Nat} {x : List Value}, rows[i]? = some x → ∀ j u, x[j]? = some u → rows.flatten[i * s + j]? = some u
  | [], _, i, x, hx, _, _, _ => by cases hx
  | r :: rs, h, 0, x, hx, j, u, hj => by
    cases hx
    rw [Nat.zero_mul, Nat.zero_add, List.flatten_cons, List.getElem?_append_left (List.getElem?_eq_some_iff.1 hj).1]; exact hj
  | r :: rs, h, i + 1, x, hx, j, u, hj => by
    have := flat_get (fun y hy => h y (by simp [hy])) (by simpa using hx : rs[i]? = some x) j u hj
    rw [List.flatten_cons, List.getElem?_append_right (by rw [h r (by simp), Nat.succ_mul]; omega), h r (by simp)]
    rw [← this]; congr 1; rw [Nat.succ_mul]; omega
theorem flat_take {s : Nat} : ∀ {rows : List (List Value)}, (∀ r ∈ rows, r.length = s) → ∀ k, k ≤ rows.length → (rows.take k).flatten = rows.flatten.take (k * s)
  | [], _, 0, _ => by simp
  | r :: rs, h, 0, _ => by simp
  | r :: rs, h, k + 1, hk => by
    have hr := h r (by simp)
    rw [List.take_succ_cons, List.flatten_cons, List.flatten_cons, flat_take (fun y hy => h y (by simp [hy])) k (by simpa using hk), List.take_append, hr, Nat.succ_mul]
    rw [show k * s + s - s = k * s by omega, List.take_of_length_le (by rw [hr]; omega : r.length ≤ k * s + s)]

theorem blk_g {b o g : Nat} {s : Option Nat} (h : blk (some ⟨b, o, s⟩) = some g) : b = g := Option.some.inj h
section
variable {w w' : World} {E s : Nat} {a : Option Addr} {cap : Nat} {rows news : List (List Value)} {P : Program} {t by_ : Nat} {d : TypeDesc} {z : Value} {sz1 by1 : Nat} {z1 : Value}
theorem Sl.nil (w : World) (E s : Nat) : Sl w E s none 0 [] := ⟨Lst.nil w E s, fun _ h => by cases h⟩
theorem Sl.made {g : Nat} (hg : w.heap[g]? = some (.cells rows.flatten.toArray E (0, 0))) (h : ∀ r ∈ rows, r.length = s) (hm : rows.length ≤ 1099511627776) : Sl w E s (some ⟨g, 0, none⟩) rows.length rows :=
  ⟨⟨flat_len h, .inr ⟨g, _, rfl, hg, Nat.le_refl _, by simp only [maxLen]; omega, by rw [List.size_toArray, flat_len h], by rw [← flat_len h, List.take_length]⟩⟩, h⟩
theorem Sl.keep (h : Sl w E s a cap rows) (hk : ∀ g, blk a = some g → w'.heap[g]? = w.heap[g]?) : Sl w' E s a cap rows := ⟨h.l.keep hk, h.len⟩
theorem Sl.lt (h : Sl w E s a cap rows) {g : Nat} (hg : blk a = some g) : g < w.heap.size := h.l.lt hg
theorem Sl.chg {F : Nat → Prop} (h : Sl w E s a cap rows) (hC : Chg F w w') (hne : ∀ g, blk a = some g → ¬ F g) : Sl w' E s a cap rows := ⟨h.l.chg hC hne, h.len⟩
theorem Sl.ext (h : Sl w E s a cap rows) (hC : Ext w w') : Sl w' E s a cap rows := ⟨h.l.ext hC, h.len⟩
theorem Sl.take (h : Sl w E s a cap rows) {k : Nat} (hk : k ≤ rows.length) : Sl w E s a cap (rows.take k) :=
  ⟨by have := h.l.take hk; rw [← flat_take h.len k hk] at this; rwa [List.length_take, Nat.min_eq_left hk], fun r hr => h.len r (List.mem_of_mem_take hr)⟩
theorem Sl.at (h : Sl w E s a cap rows) {i : Nat} {x : List Value} (hx : rows[i]? = some x) :
    ∃ g cur, a = some ⟨g, 0, none⟩ ∧ w.heap[g]? = some (.cells cur E (0, 0)) ∧ rows.length ≤ cap ∧ i < rows.length ∧ ∀ j u, x[j]? = some u → cur[i * s + j]? = some u := by
  have hi := (List.getElem?_eq_some_iff.1 hx).1
  obtain ⟨g, cur, h1, h2, h3, h4, h5⟩ := h.l.at (by omega)
  refine ⟨g, cur, h1, h2, h3, hi, fun j u hj => ?_⟩
  have hj' := (List.getElem?_eq_some_iff.1 hj).1
  have hxl := h.len x (List.mem_of_getElem? hx)
  have : i * s + j < rows.length * s := by
    have : (i + 1) * s ≤ rows.length * s := Nat.mul_le_mul_right _ hi
    rw [Nat.succ_mul] at this
    omega
  rw [h5 _ this]
  exact flat_get h.len hx j u hj
theorem Sl.inp (h : Sl w E s a cap rows) : Inp w s a rows := by
  rcases h.l.row with ⟨rfl, h0, _⟩ | ⟨g, cur, rfl, hg, h1, h2, h3, h4⟩
  · exact .inl (List.eq_nil_of_length_eq_zero h0)
  · refine .inr ⟨g, 0, cur, E, (0, 0), rfl, hg, fun i x hx j u hj => ?_⟩
    obtain ⟨g', cur', he, hg', _, _, h5⟩ := h.at hx
    cases he
    rw [hg] at hg'
    cases hg'
    rw [Nat.zero_add]
    exact h5 j u hj
theorem Inp.ext (h : Inp w s a rows) (hE : Ext w w') : Inp w' s a rows := by
  rcases h with rfl | ⟨b, o, c, E, fz, h1, h2, h3⟩
  · exact .inl rfl
  · exact .inr ⟨b, o, c, E, fz, h1, by rw [hE.heap b (lt_of_heap h2)]; exact h2, h3⟩
theorem Inp.chg {F : Nat → Prop} (h : Inp w s a rows) (hE : Chg F w w') (hne : ∀ g, blk a = some g → ¬ F g) : Inp w' s a rows := by
  rcases h with rfl | ⟨b, o, c, E, fz, h1, h2, h3⟩
  · exact .inl rfl
  · exact .inr ⟨b, o, c, E, fz, h1, by rw [hE.heap b (lt_of_heap h2) (hne b (by rw [h1]; rfl))]; exact h2, h3⟩
/-- Nothing is added. -/
theorem ap_none {n : Nat} (hn : n ≤ cap) (ht : TI P t (.slice E) sz1 by1 z1) (hE : TI P E d s by_ z) {b0 : Option Addr} {c : Nat} :
    apR P t (.slice a n cap) (.slice b0 0 c) w = .ok (.slice a n cap) w := by
  obtain ⟨i, hi, hi1, hi2, hi3⟩ := hE.inf
  cases b0 <;> cases a <;>
    simp [apR, Builtin.append_, run_underlying ht.und, sizeOf, typeInfo, hi, Builtin.lenOf, Builtin.firstCells, loadCells, loadCellsFrom, hn, storeCells, pure, Sem.run]
theorem Inp.cells (h : Inp w s a rows) (hr : ∀ r ∈ rows, r.length = s) (hne : rows ≠ []) : ∃ b o c E fz, a = some ⟨b, o, none⟩ ∧ w.heap[b]? = some (.cells c E fz) ∧ ∀ j u, rows.flatten[j]? = some u → c[o + j]? = some u := by
  rcases h with rfl | ⟨b, o, c, E, fz, h1, h2, h3⟩
  · exact absurd rfl hne
  · refine ⟨b, o, c, E, fz, h1, h2, fun j u hj => ?_⟩
    have hl := flat_len hr
    have hjl := (List.getElem?_eq_some_iff.1 hj).1
    rw [hl] at hjl
    have hs : 0 < s := by rcases Nat.eq_zero_or_pos s with rfl | h; · omega
                          · exact h
    have hi : j / s < rows.length := (Nat.div_lt_iff_lt_mul hs).2 hjl
    obtain ⟨x, hx⟩ : ∃ x, rows[j / s]? = some x := ⟨rows[j / s], List.getElem?_eq_getElem hi⟩
    have hxl := hr x (List.mem_of_getElem? hx)
    obtain ⟨v, hv⟩ : ∃ v, x[j % s]? = some v := ⟨x[j % s]'(by rw [hxl]; exact Nat.mod_lt _ hs), List.getElem?_eq_getElem _⟩
    have h4 := flat_get hr hx _ v hv
    have h5 := h3 _ _ hx _ v hv
    rw [Nat.div_add_mod' j s] at h4
    rw [Nat.add_assoc, Nat.div_add_mod' j s] at h5
    rw [hj] at h4
    cases h4
    exact h5
/-- Appending what stands anywhere. -/
theorem Sl.append (h : Sl w E s a cap rows) (ht : TI P t (.slice E) sz1 by1 z1) (hE : TI P E d s by_ z) (hz : z.cells.size = s) (hs : 0 < s) {b0 : Option Addr} {c : Nat} (hI : Inp w s b0 news) (hr : ∀ r ∈ news, r.length = s) (h1 : news.flatten.all isCell = true)
    (hmax : rows.length + news.length ≤ 1099511627776) (hby : by_ ≤ 64) :
    ∃ a' cap' w', apR P t (.slice a rows.length cap) (.slice b0 news.length c) w = .ok (.slice a' (rows ++ news).length cap') w' ∧ Sl w' E s a' cap' (rows ++ news) ∧ Chg (fun k => blk a = some k) w w' ∧ (∀ g, blk a' = some g → blk a = some g ∨ (w.heap.size ≤ g ∧ g < w'.heap.size)) := by
  have hlen : ∀ r ∈ rows ++ news, r.length = s := fun r hm => (List.mem_append.1 hm).elim (h.len r) (hr r)
  by_cases hne : news = []
  · subst hne
    have hn : rows.length ≤ cap := by rcases h.l.row with ⟨_, h0, h2⟩ | ⟨_, _, _, _, h2, _⟩ <;> omega
    refine ⟨a, cap, w, ?_, ?_, Chg.refl _ _, fun g hg => .inl hg⟩
    · rw [List.append_nil]; exact ap_none hn ht hE
    · rw [List.append_nil]; exact h
  · obtain ⟨b, o, cs, T, fz, rfl, hb, hc⟩ := hI.cells hr hne
    have hm : rows.length + news.length ≤ maxLen := by simp only [maxLen]; omega
    have hb2 : (rows.length + news.length) * by_ ≤ 140737488355328 := Nat.le_trans (Nat.mul_le_mul hmax hby) (by decide)
    obtain ⟨a', cap', w', g1, g2, g3, g4⟩ := h.l.append (c := c) ht hE hz hs hb (flat_len hr) hc h1 hm hb2
    refine ⟨a', cap', w', by rw [List.length_append]; exact g1, ⟨?_, hlen⟩, g3, g4⟩
    rw [List.length_append, List.flatten_append]; exact g2
/-- Appending rows that have just been laid for it. -/
theorem Sl.push (h : Sl w E s a cap rows) (ht : TI P t (.slice E) sz1 by1 z1) (hE : TI P E d s by_ z) (hz : z.cells.size = s) (hs : 0 < s) {us : Array Value} {m c b0 : Nat} (hu : us = news.flatten.toArray) (hb : b0 = w.heap.size) (hm : m = news.length) (hr : ∀ r ∈ news, r.length = s) (h1 : news.flatten.all isCell = true)
    (hmax : rows.length + news.length ≤ 1099511627776) (hby : by_ ≤ 64) :
    ∃ a' cap' w', apR P t (.slice a rows.length cap) (.slice (some ⟨b0, 0, none⟩) m c) (w.alloc (.cells us E)) = .ok (.slice a' (rows ++ news).length cap') w' ∧ Sl w' E s a' cap' (rows ++ news) ∧ Chg (fun k => blk a = some k) w w' ∧ w.heap.size < w'.heap.size ∧ (∀ g, blk a' = some g → blk a = some g ∨ (w.heap.size ≤ g ∧ g < w'.heap.size)) := by
  subst hu hb hm
  have h' : Sl (w.alloc (.cells news.flatten.toArray E)) E s a cap rows := h.ext ((Ext.refl w).alloc _)
  obtain ⟨a', c', w', g1, g2, g3, g4⟩ := h'.append (P := P) (c := c) ht hE hz hs (b0 := some ⟨w.heap.size, 0, none⟩) (news := news) (.inr ⟨w.heap.size, 0, _, E, (0, 0), rfl, alloc_new, fun i x hx j u hj => by
    rw [Nat.zero_add]
    have := flat_get hr hx j u hj
    simpa using this⟩) hr h1 hmax hby
  have hsz := g3.size
  rw [alloc_size] at hsz
  refine ⟨a', c', w', g1, g2, ((Chg.refl (fun k => blk a = some k) w).alloc _).trans g3 (fun b _ hb => hb), by omega, fun g hg => ?_⟩
  rcases g4 g hg with h | ⟨h, h'⟩
  · exact .inl h
  · rw [alloc_size] at h; exact .inr ⟨by omega, h'⟩
/-- Rows are laid anew at one place. -/
theorem Sl.set {g : Nat} {cur : Array Value} (h : Sl w E s (some ⟨g, 0, none⟩) cap rows) (hg : w.heap[g]? = some (.cells cur E (0, 0))) {i j : Nat} {x : List Value} (hx : rows[i]? = some x) (hj : j < s) (v : Value) :
    Sl (upd w g (.cells (cur.setIfInBounds (i * s + j) v) E (0, 0))) E s (some ⟨g, 0, none⟩) cap (rows.set i (x.set j v)) := by
  have hi := (List.getElem?_eq_some_iff.1 hx).1
  have hlen : ∀ r ∈ rows.set i (x.set j v), r.length = s := fun r hr => by
    rcases List.mem_or_eq_of_mem_set hr with h1 | rfl
    · exact h.len r h1
    · rw [List.length_set]; exact h.len x (List.mem_of_getElem? hx)
  refine ⟨?_, hlen⟩
  have h1 := h.l.set hg (i * s + j) v
  have e : (rows.set i (x.set j v)).flatten = rows.flatten.set (i * s + j) v := by
    apply List.ext_getElem?
    intro p
    have hs : 0 < s := by omega
    rcases Nat.lt_or_ge p (rows.length * s) with hp | hp
    · have hq : p / s < rows.length := (Nat.div_lt_iff_lt_mul hs).2 hp
      obtain ⟨y, hy⟩ : ∃ y, rows[p / s]? = some y := ⟨rows[p / s], List.getElem?_eq_getElem hq⟩
      have hyl := h.len y (List.mem_of_getElem? hy)
      obtain ⟨u, hu⟩ : ∃ u, y[p % s]? = some u := ⟨y[p % s]'(by rw [hyl]; exact Nat.mod_lt _ hs), List.getElem?_eq_getElem _⟩
      have h4 := flat_get h.len hy _ u hu
      rw [Nat.div_add_mod' p s] at h4
      have hpe : p / s * s + p % s = p := Nat.div_add_mod' p s
      by_cases hpi : p / s = i
      · subst hpi
        have : y = x := by rw [hx] at hy; cases hy; rfl
        subst this
        have h5 : (rows.set (p / s) (y.set j v))[p / s]? = some (y.set j v) := by rw [List.getElem?_set_self hq]
        by_cases hpj : p % s = j
        · subst hpj
          have h6 := flat_get hlen h5 (p % s) v (by rw [List.getElem?_set_self (by rw [hyl]; exact Nat.mod_lt _ hs)])
          rw [hpe] at h6 ⊢
          rw [h6, List.getElem?_set_self (by rw [flat_len h.len]; exact hp)]
        · have h6 := flat_get hlen h5 (p % s) u (by rw [List.getElem?_set_ne (Ne.symm hpj)]; exact hu)
          rw [hpe] at h6
          rw [h6, List.getElem?_set_ne (by omega), h4]
      · have h5 : (rows.set i (x.set j v))[p / s]? = some y := by rw [List.getElem?_set_ne (Ne.symm hpi)]; exact hy
        have h6 := flat_get hlen h5 (p % s) u hu
        rw [hpe] at h6
        rw [h6, List.getElem?_set_ne ?_, h4]
        intro hc
        apply hpi
        rw [← hc, Nat.mul_comm, Nat.mul_add_div hs, Nat.div_eq_of_lt hj, Nat.add_zero]
    · rw [List.getElem?_eq_none (by rw [flat_len hlen, List.length_set]; exact hp), List.getElem?_eq_none (by rw [List.length_set, flat_len h.len]; exact hp)]
  rw [e, List.length_set]
  exact h1
end


/-! ### Rows that draw, world by world -/
section
variable {P : Program} {K : Env → World → Prop} {C : World → Prop} {d : Option Tmp} {op : Op} {ty : TypeId} {e : Env} {w w1 : World} {l : List (GOp × Nat)} {v : Value} {f : FuncId} {args : Array Value}
/-- From here on the world is a given one. -/
theorem xe_at (h : ∀ w', C w' → XE P K ((⟨d, op, ty, none⟩, 2) :: l) (fun u => u = w') e) : XE P K ((⟨d, op, ty, none⟩, 2) :: l) C e := by
  rw [XE_cons2]
  intro w hw
  have := h w hw
  rw [XE_cons2] at this
  exact this w rfl
theorem xx2v (hk : XE P K l (fun u => u = w1) (e.put d v)) (h : rG P op ty e w = .ok (.value v) w1 := by (simp (disch := first | assumption | ((try simp only [upd_size, alloc_size, dr_heap, List.size_toArray, List.length_cons, List.length_nil, Nat.reduceAdd]) <;> omega) | (with_unfolding_all (refine Eq.trans rfl ?_; exact rfl)) | exact Nat.le_of_ble_eq_true rfl | fail) only [push_cast, *, Nat.reduceEqDiff, Nat.reduceAdd, Nat.reduceMul, Nat.reduceSub, Int.reduceToNat, Int.reduceAdd, Int.reduceSub, Int.reduceMul, Int.reduceNeg, ↓reduceIte] <;> rfl)) : XE P K ((⟨d, op, ty, none⟩, 2) :: l) (fun u => u = w) e := by
  rw [XE_cons2]
  rintro _ rfl
  rw [h]
  exact ⟨fun u => u = _, rfl, hk⟩
theorem xx2s (hk : XE P K l (fun u => u = w1) (e.put d undef)) (h : rG P op ty e w = .ok .skip w1 := by (simp (disch := first | assumption | ((try simp only [upd_size, alloc_size, dr_heap, List.size_toArray, List.length_cons, List.length_nil, Nat.reduceAdd]) <;> omega) | (with_unfolding_all (refine Eq.trans rfl ?_; exact rfl)) | exact Nat.le_of_ble_eq_true rfl | fail) only [push_cast, *, Nat.reduceEqDiff, Nat.reduceAdd, Nat.reduceMul, Nat.reduceSub, Int.reduceToNat, Int.reduceAdd, Int.reduceSub, Int.reduceMul, Int.reduceNeg, ↓reduceIte] <;> rfl)) : XE P K ((⟨d, op, ty, none⟩, 2) :: l) (fun u => u = w) e := by
  rw [XE_cons2]
  rintro _ rfl
  rw [h]
  exact ⟨fun u => u = _, rfl, hk⟩
theorem xx1v (hk : XE P K l (fun u => u = w) (e.put d v)) (h : rG P op ty e w = .ok (.value v) w := by (simp (disch := first | assumption | ((try simp only [upd_size, alloc_size, dr_heap, List.size_toArray, List.length_cons, List.length_nil, Nat.reduceAdd]) <;> omega) | (with_unfolding_all (refine Eq.trans rfl ?_; exact rfl)) | exact Nat.le_of_ble_eq_true rfl | fail) only [push_cast, *, Nat.reduceEqDiff, Nat.reduceAdd, Nat.reduceMul, Nat.reduceSub, Int.reduceToNat, Int.reduceAdd, Int.reduceSub, Int.reduceMul, Int.reduceNeg, ↓reduceIte] <;> rfl)) : XE P K ((⟨d, op, ty, none⟩, 1) :: l) (fun u => u = w) e := by
  rw [XE_cons1]
  refine ⟨v, fun w' hw => ?_, hk⟩
  subst hw
  rw [h]; exact ⟨rfl, rfl⟩
theorem xx2e {R : Value → World → Prop} (hc : CallsR P f args w R) (hk : ∀ v w', R v w' → XE P K l (fun u => u = w') (e.put d v)) (h : rG P op ty e w = .ok (.enter f args) w := by (simp (disch := first | assumption | ((try simp only [upd_size, alloc_size, dr_heap, List.size_toArray, List.length_cons, List.length_nil, Nat.reduceAdd]) <;> omega) | (with_unfolding_all (refine Eq.trans rfl ?_; exact rfl)) | exact Nat.le_of_ble_eq_true rfl | fail) only [push_cast, *, Nat.reduceEqDiff, Nat.reduceAdd, Nat.reduceMul, Nat.reduceSub, Int.reduceToNat, Int.reduceAdd, Int.reduceSub, Int.reduceMul, Int.reduceNeg, ↓reduceIte] <;> rfl)) : XE P K ((⟨d, op, ty, none⟩, 2) :: l) (fun u => u = w) e := by
  rw [XE_cons2]
  rintro _ rfl
  rw [h]
  exact hc.mono fun v w' hv => ⟨fun u => u = w', rfl, hk v w' hv⟩
theorem xx_nil (h : K e w) : XE P K [] (fun u => u = w) e := by
  unfold XE
  rintro _ rfl
  exact h
/-- A row that draws, from the first world that is changed: world by world. -/
theorem dx_ {A B : Prop} (q : A) (h : Box A → B := by (intro q; (repeat (first | refine xe0A ?_ | refine xx1v ?_ | refine xx2v ?_ | refine xx2s ?_ | refine g0t ?_ | refine g1t ?_ | refine g2t ?_ | refine g0f ?_ | refine g1f ?_ | refine g2f ?_ | refine g0u ?_ | refine g1u ?_ | refine g2u ?_ | refine xx_nil ?_)); exact q.out)) : B := h ⟨q⟩
theorem rgA {x : Result Next} (h : rG P op ty e w = x := by (simp (disch := first | assumption | ((try simp only [upd_size, alloc_size, dr_heap, List.size_toArray, List.length_cons, List.length_nil, Nat.reduceAdd]) <;> omega) | (with_unfolding_all (refine Eq.trans rfl ?_; exact rfl)) | exact Nat.le_of_ble_eq_true rfl | fail) only [push_cast, *, Nat.reduceEqDiff, Nat.reduceAdd, Nat.reduceMul, Nat.reduceSub, Int.reduceToNat, Int.reduceAdd, Int.reduceSub, Int.reduceMul, Int.reduceNeg, ↓reduceIte] <;> rfl)) : rG P op ty e w = x := h
theorem xf1A {D : World → Prop} (hk : XF P K l (Ext w) D (e.put d v)) (h : ∀ u, Ext w u → rG P op ty e u = .ok (.value v) u := by (intro w' hw'; (simp (disch := first | assumption | ((try simp only [upd_size, alloc_size, dr_heap, List.size_toArray, List.length_cons, List.length_nil, Nat.reduceAdd]) <;> omega) | (with_unfolding_all (refine Eq.trans rfl ?_; exact rfl)) | exact Nat.le_of_ble_eq_true rfl | fail) only [push_cast, *, Nat.reduceEqDiff, Nat.reduceAdd, Nat.reduceMul, Nat.reduceSub, Int.reduceToNat, Int.reduceAdd, Int.reduceSub, Int.reduceMul, Int.reduceNeg, ↓reduceIte] <;> rfl))) : XF P K ((⟨d, op, ty, none⟩, 1) :: l) (Ext w) D e := xf1 h hk
end
section
variable {P : Program} {K : Env → World → Prop} {C : World → Prop} {d : Option Tmp} {op : Op} {ty : TypeId} {e : Env} {w : World} {l : List (GOp × Nat)}
/-- An effect; behind it that world, and what is built on it. -/
theorem xe2w (h : ∀ w', C w' → kN P (fun v w'' => XE P K l (Ext w'') (e.put d v)) (rG P op ty e w')) : XE P K ((⟨d, op, ty, none⟩, 2) :: l) C e := by
  rw [XE_cons2]
  intro w hw
  have := h w hw
  generalize rG P op ty e w = x at *
  have mk : ∀ v w'', XE P K l (Ext w'') (e.put d v) → ∃ C' : World → Prop, C' w'' ∧ XE P K l C' (e.put d v) := fun v w'' hx => ⟨Ext w'', Ext.refl w'', hx⟩
  cases x with
  | ok n w'' =>
    cases n <;> simp only [kN] at this ⊢
    case value => exact mk _ _ this
    case skip => exact mk _ _ this
    case enter => exact this.mono fun v w'' hv => mk _ _ hv
    all_goals exact this
  | halt y w' => exact this
end
/-! ### Rows taken wide, with guards -/
section
variable {P : Program} {K : Env → World → Prop} {C D : World → Prop} {d : Option Tmp} {op : Op} {ty : TypeId} {e : Env} {w w1 : World} {l : List (GOp × Nat)} {v : Value} {t : Tmp} {b : Bool} {k : Nat}
theorem xf_gt {g : Tmp × Bool} (hg : e g.1 = .bool g.2) (h : XF P K ((⟨d, op, ty, none⟩, k) :: l) C D e) : XF P K ((⟨d, op, ty, some g⟩, k) :: l) C D e := by
  obtain ⟨t, b⟩ := g
  have hw : wantG e (some (t, b)) := hg
  match k, h with
  | 0, h => exact .inl ⟨hw, (h.resolve_right fun hh => by obtain ⟨⟨_, _, h0, _⟩, _⟩ := hh; cases h0).2⟩
  | 1, h => exact .inl ⟨hw, (h.resolve_right fun hh => by obtain ⟨⟨_, _, h0, _⟩, _⟩ := hh; cases h0).2⟩
  | 2, h => exact .inl ⟨hw, (h.resolve_right fun hh => by obtain ⟨⟨_, _, h0, _⟩, _⟩ := hh; cases h0).2⟩
  | 3, h => exact .inl ⟨hw, (h.resolve_right fun hh => by obtain ⟨⟨_, _, h0, _⟩, _⟩ := hh; cases h0).2⟩
  | _ + 4, h => exact .inl ⟨hw, (h.resolve_right fun hh => by obtain ⟨⟨_, _, h0, _⟩, _⟩ := hh; cases h0).2⟩
theorem xf_gf {g : Tmp × Bool} (hg : e g.1 ≠ .bool g.2) (h : XF P K l C D (e.put d undef)) : XF P K ((⟨d, op, ty, some g⟩, k) :: l) C D e := by
  obtain ⟨t, b⟩ := g
  have hw : badG e (some (t, b)) := ⟨t, b, rfl, hg⟩
  match k with
  | 0 => exact .inr ⟨hw, h⟩
  | 1 => exact .inr ⟨hw, h⟩
  | 2 => exact .inr ⟨hw, h⟩
  | 3 => exact .inr ⟨hw, h⟩
  | _ + 4 => exact .inr ⟨hw, h⟩
theorem gft (h : XF P K ((⟨d, op, ty, none⟩, k) :: l) C D e) (hg : e t = .bool b := by (simp (disch := first | assumption | ((try simp only [upd_size, alloc_size, dr_heap, List.size_toArray, List.length_cons, List.length_nil, Nat.reduceAdd]) <;> omega) | (with_unfolding_all (refine Eq.trans rfl ?_; exact rfl)) | fail) only [push_cast, *, Nat.reduceEqDiff, ↓reduceIte] <;> fail)) : XF P K ((⟨d, op, ty, some (t, b)⟩, k) :: l) C D e := xf_gt hg h
theorem gff (h : XF P K l C D (e.put d undef)) (hg : e t = .bool (!b) := by (simp (disch := first | assumption | ((try simp only [upd_size, alloc_size, dr_heap, List.size_toArray, List.length_cons, List.length_nil, Nat.reduceAdd]) <;> omega) | (with_unfolding_all (refine Eq.trans rfl ?_; exact rfl)) | fail) only [push_cast, *, Nat.reduceEqDiff, ↓reduceIte] <;> fail)) : XF P K ((⟨d, op, ty, some (t, b)⟩, k) :: l) C D e := xf_gf (by rw [hg]; cases b <;> simp) h
theorem gfu (h : XF P K l C D (e.put d undef)) (hg : e t = undef := by (simp (disch := first | assumption | ((try simp only [upd_size, alloc_size, dr_heap, List.size_toArray, List.length_cons, List.length_nil, Nat.reduceAdd]) <;> omega) | (with_unfolding_all (refine Eq.trans rfl ?_; exact rfl)) | fail) only [push_cast, *, Nat.reduceEqDiff, ↓reduceIte] <;> fail)) : XF P K ((⟨d, op, ty, some (t, b)⟩, k) :: l) C D e := xf_gf (by rw [hg]; cases b <;> simp [undef]) h
theorem xf1qA {f : FuncId} {args : Array Value} (hk : XF P K l (Ext w) D (e.put d v))
    (h : ∀ w', Ext w w' → rG P op ty e w' = .ok (.enter f args) w' := by (intro w' hw'; (simp (disch := first | assumption | ((try simp only [upd_size, alloc_size, dr_heap, List.size_toArray, List.length_cons, List.length_nil, Nat.reduceAdd]) <;> omega) | (with_unfolding_all (refine Eq.trans rfl ?_; exact rfl)) | exact Nat.le_of_ble_eq_true rfl | fail) only [push_cast, *, Nat.reduceEqDiff, Nat.reduceAdd, Nat.reduceMul, Nat.reduceSub, Int.reduceToNat, Int.reduceAdd, Int.reduceSub, Int.reduceMul, Int.reduceNeg, ↓reduceIte] <;> rfl))) (hc : Quiet P f args w v := by (first | with_reducible assumption | exact Sure.quiet (by with_reducible assumption))) : XF P K ((⟨d, op, ty, none⟩, 1) :: l) (Ext w) D e := xf1c h hc hk
/-- Within a row taken wide: readings and quiet calls. -/
theorem dw_ {A B : Prop} (q : A) (h : Box A → B := by (intro q; (repeat (first | refine xf0A ?_ | refine xf3A ?_ | refine xf3qA ?_ | refine xf1A ?_ | refine xf1qA ?_ | refine gft ?_ | refine gff ?_ | refine gfu ?_)); exact q.out)) : B := h ⟨q⟩
end
/-! ### Rows with operations that yield some value with a property that lasts -/
section
variable {P : Program} {F : Nat → Value → World → Prop} {K : Env → World → Prop} {C D : World → Prop} {d : Option Tmp} {op : Op} {ty : TypeId} {e : Env} {w w1 : World} {l : List (GOp × Nat)} {v : Value} {n : Nat}
theorem xy_ (F : Nat → Value → World → Prop) (hF : ∀ k v u u', F k v u → Ext u u' → F k v u') (h : XR P F K l (Ext w) (Ext w) e) : XY P l K e w := ⟨F, Ext w, Ext w, hF, fun d => (Ext.refl w).drawn d, fun _ h => h, Cl_ext, h⟩
theorem xr0A (hk : XR P F K l C D (e.put d v)) (h : ∀ w, rG P op ty e w = .ok (.value v) w := by (intro w'; (simp (disch := first | assumption | ((try simp only [upd_size, alloc_size, dr_heap, List.size_toArray, List.length_cons, List.length_nil, Nat.reduceAdd]) <;> omega) | (with_unfolding_all (refine Eq.trans rfl ?_; exact rfl)) | exact Nat.le_of_ble_eq_true rfl | fail) only [push_cast, *, Nat.reduceEqDiff, Nat.reduceAdd, Nat.reduceMul, Nat.reduceSub, Int.reduceToNat, Int.reduceAdd, Int.reduceSub, Int.reduceMul, Int.reduceNeg, ↓reduceIte] <;> rfl))) : XR P F K ((⟨d, op, ty, none⟩, 0) :: l) C D e := .inl ⟨trivial, v, h, hk⟩
theorem xr4A (hk : XR P F K l C (Ext w) (e.put d v)) (h : ∀ u, Ext w u → rG P op ty e u = .ok (.value v) u := by (intro w' hw'; (simp (disch := first | assumption | ((try simp only [upd_size, alloc_size, dr_heap, List.size_toArray, List.length_cons, List.length_nil, Nat.reduceAdd]) <;> omega) | (with_unfolding_all (refine Eq.trans rfl ?_; exact rfl)) | exact Nat.le_of_ble_eq_true rfl | fail) only [push_cast, *, Nat.reduceEqDiff, Nat.reduceAdd, Nat.reduceMul, Nat.reduceSub, Int.reduceToNat, Int.reduceAdd, Int.reduceSub, Int.reduceMul, Int.reduceNeg, ↓reduceIte] <;> rfl))) : XR P F K ((⟨d, op, ty, none⟩, 4) :: l) C (Ext w) e :=
  .inl ⟨trivial, v, fun u hu => by
    have := h u hu
    unfold rG at this
    unfold WV
    rw [this]
    exact ⟨rfl, rfl⟩, hk⟩
theorem xr4qA {f : FuncId} {args : Array Value} (hk : XR P F K l C (Ext w) (e.put d v)) (h : ∀ u, Ext w u → rG P op ty e u = .ok (.enter f args) u := by (intro w' hw'; (simp (disch := first | assumption | ((try simp only [upd_size, alloc_size, dr_heap, List.size_toArray, List.length_cons, List.length_nil, Nat.reduceAdd]) <;> omega) | (with_unfolding_all (refine Eq.trans rfl ?_; exact rfl)) | exact Nat.le_of_ble_eq_true rfl | fail) only [push_cast, *, Nat.reduceEqDiff, Nat.reduceAdd, Nat.reduceMul, Nat.reduceSub, Int.reduceToNat, Int.reduceAdd, Int.reduceSub, Int.reduceMul, Int.reduceNeg, ↓reduceIte] <;> rfl)))
    (hc : Quiet P f args w v := by (first | with_reducible assumption | exact Sure.quiet (by with_reducible assumption))) (hi : P.inits.idxOf? f = none := by kernel_rfl) : XR P F K ((⟨d, op, ty, none⟩, 4) :: l) C (Ext w) e :=
  .inl ⟨trivial, v, fun u hu => by
    have := h u hu
    unfold rG at this
    unfold WV
    rw [this]
    exact ⟨rfl, hi, Calls.mono (hc u hu) fun en w'' ⟨v', he, hv, hx⟩ => ⟨by rw [he, hv], hx⟩⟩, hk⟩
/-- An effect that only lays new blocks. -/
theorem xr2 (hF : ∀ k v u u', F k v u → Ext u u' → F k v u') (h : ∀ w', C w' → kN P (fun v w'' => Ext w' w'' ∧ (∀ u, Ext w'' u → D u) ∧ XR P F K l (Ext w'') D (e.put d v)) (rG P op ty e w')) : XR P F K ((⟨d, op, ty, none⟩, 2) :: l) C D e := by
  refine .inl ⟨trivial, fun w' hw => ?_⟩
  have := h w' hw
  rw [XV_rG]
  generalize rG P op ty e w' = x at *
  have mk : ∀ v w'', (Ext w' w'' ∧ (∀ u, Ext w'' u → D u) ∧ XR P F K l (Ext w'') D (e.put d v)) → ∃ C' : World → Prop, C' w'' ∧ (∀ u, C' u → D u) ∧ Cl C' ∧ (∀ k u, F k u w' → F k u w'') ∧ XR P F K l C' D (e.put d v) :=
    fun v w'' ⟨hE, hD, hx⟩ => ⟨Ext w'', Ext.refl w'', hD, Cl_ext, fun k u hf => hF k u _ _ hf hE, hx⟩
  cases x with
  | ok n w'' =>
    cases n <;> simp only [kN] at this ⊢
    case value => exact mk _ _ this
    case skip => exact mk _ _ this
    case enter => exact this.mono fun v w'' hv => mk _ _ hv
    all_goals exact this
  | halt y w' => exact this
/-- An effect behind which all that was drawn has been. -/
theorem xr3 (h : ∀ w', C w' → kN P (fun v w'' => XR P F K l (Ext w'') (Ext w'') (e.put d v)) (rG P op ty e w')) : XR P F K ((⟨d, op, ty, none⟩, 3) :: l) C D e := by
  refine .inl ⟨trivial, fun w' hw => ?_⟩
  have := h w' hw
  rw [XV_rG]
  generalize rG P op ty e w' = x at *
  have mk : ∀ v w'', XR P F K l (Ext w'') (Ext w'') (e.put d v) → ∃ C' D' : World → Prop, C' w'' ∧ (∀ u, C' u → D' u) ∧ Cl C' ∧ XR P F K l C' D' (e.put d v) :=
    fun v w'' hx => ⟨Ext w'', Ext w'', Ext.refl w'', fun _ h => h, Cl_ext, hx⟩
  cases x with
  | ok n w'' =>
    cases n <;> simp only [kN] at this ⊢
    case value => exact mk _ _ this
    case skip => exact mk _ _ this
    case enter => exact this.mono fun v w'' hv => mk _ _ hv
    all_goals exact this
  | halt y w' => exact this
/-- A call that yields some value with a property that lasts. -/
theorem xr5 {f : FuncId} {args : Array Value} (hc : ∀ u, D u → CallsR P f args u fun r u' => F n r u' ∧ Ext u u') (hk : ∀ v, (∃ w, C w ∧ F n v w) → XR P F K l (fun w => C w ∧ F n v w) D (e.put d v))
    (h : ∀ u, D u → rG P op ty e u = .ok (.enter f args) u := by (intro w' hw'; (simp (disch := first | assumption | ((try simp only [upd_size, alloc_size, dr_heap, List.size_toArray, List.length_cons, List.length_nil, Nat.reduceAdd]) <;> omega) | (with_unfolding_all (refine Eq.trans rfl ?_; exact rfl)) | exact Nat.le_of_ble_eq_true rfl | fail) only [push_cast, *, Nat.reduceEqDiff, Nat.reduceAdd, Nat.reduceMul, Nat.reduceSub, Int.reduceToNat, Int.reduceAdd, Int.reduceSub, Int.reduceMul, Int.reduceNeg, ↓reduceIte] <;> rfl))) : XR P F K ((⟨d, op, ty, none⟩, n + 5) :: l) C D e :=
  .inl ⟨trivial, fun u hu => by
    have := h u hu
    unfold rG at this
    unfold RV
    rw [this]
    exact ⟨rfl, Calls.mono (hc u hu) fun en w'' ⟨v', he, hv, hx⟩ => ⟨v', he, hx, hv⟩⟩, hk⟩
theorem xr_nil (h : ∀ w, C w → K e w) : XR P F K [] C D e := h
/-- Within such a row: readings and quiet calls. -/
theorem dr_ {A B : Prop} (q : A) (h : Box A → B := by (intro q; (repeat (first | refine xr0A ?_ | refine xr4A ?_ | refine xr4qA ?_)); exact q.out)) : B := h ⟨q⟩
end
/-! ### A loop whose measure is no function of the frame -/
theorem least_ex {p : Nat → Prop} : ∀ {n : Nat}, p n → ∃ m, p m ∧ ∀ k, p k → m ≤ k := by
  intro n
  induction n using Nat.strongRecOn with
  | _ n ih =>
    intro h
    by_cases hk : ∃ k, k < n ∧ p k
    · obtain ⟨k, hk, hp⟩ := hk
      exact ih k hk hp
    · exact ⟨n, h, fun k hp => Nat.le_of_not_lt fun hl => hk ⟨k, hl, hp⟩⟩
open Classical in
noncomputable def leastN (p : Nat → Prop) : Nat := if h : ∃ m, p m ∧ ∀ k, p k → m ≤ k then Classical.choose h else 0
theorem leastN_spec {p : Nat → Prop} {n : Nat} (h : p n) : p (leastN p) ∧ ∀ k, p k → leastN p ≤ k := by
  have hh := least_ex h
  unfold leastN
  rw [dif_pos hh]
  exact Classical.choose_spec hh
section
variable {P : Program} {Q : Exit → Env → World → Prop} {e : Env} {w : World} {c k : GCode} {D : List Nat}
theorem log_ (I : Nat → World → Env → World → Prop) (n0 : Nat) (h0 : I n0 w e w)
    (h : ∀ n e' w', (∀ i, D.contains i = false → e' i = e i) → I n w e' w' → X P c (thenX (fun e2 w2 => ∃ m, m < n ∧ I m w e2 w2) (thenX (X P k Q) Q)) e' w')
    (hD : dG c = D := by (simp only [dG, List.filterMap_cons, List.filterMap_nil, List.cons_append, List.nil_append, List.append_nil] <;> rfl)) : X P (.seq (.loop c) k) Q e w := by
  refine lo_ (fun W e w' => ∃ n, I n W e w') (fun e w' => leastN fun n => I n w e w') ⟨n0, h0⟩ (fun e' w' hf ⟨n, hn⟩ => ?_) hD
  have hl := leastN_spec (p := fun n => I n w e' w') hn
  refine X_mono c (fun ex e2 w2 hq => ?_) (h _ e' w' hf hl.1)
  cases ex with
  | normal =>
    obtain ⟨m, hm, hI⟩ := hq
    exact ⟨⟨m, hI⟩, Nat.lt_of_le_of_lt ((leastN_spec (p := fun n => I n w e2 w2) hI).2 m hI) hm⟩
  | _ => exact hq
end
end Go.Bx

/- Lists of single cells in memory; what a call owns. No program is in sight. -/
namespace Go.Bx
open Go
set_option linter.unusedSimpArgs false
set_option linter.unusedVariables false

abbrev one1 (l : List Value) : List (List Value) := l.map fun v => [v]
abbrev SlC (w : World) (E : Nat) (a : Option Addr) (cap : Nat) (l : List Value) : Prop := Sl w E 1 a cap (one1 l)
theorem one1_len {l : List Value} : ∀ r ∈ one1 l, r.length = 1 := fun r hr => by obtain ⟨f, _, rfl⟩ := List.mem_map.1 hr; rfl
theorem one1_flat : ∀ {l : List Value}, (one1 l).flatten = l
  | [] => rfl
  | v :: l => by rw [one1, List.map_cons, List.flatten_cons, one1_flat]; rfl
section
variable {w w' : World} {E : Nat} {a : Option Addr} {cap : Nat} {l news : List Value} {P : Program} {t by_ : Nat} {d : TypeDesc} {z : Value} {sz1 by1 : Nat} {z1 : Value}
theorem SlC.nil (w : World) (E : Nat) : SlC w E none 0 [] := Sl.nil w E 1
theorem SlC.keep (h : SlC w E a cap l) (hk : ∀ g, blk a = some g → w'.heap[g]? = w.heap[g]?) : SlC w' E a cap l := Sl.keep h hk
theorem SlC.ext (h : SlC w E a cap l) (hE : Ext w w') : SlC w' E a cap l := Sl.ext h hE
theorem SlC.chg {F : Nat → Prop} (h : SlC w E a cap l) (hC : Chg F w w') (hne : ∀ g, blk a = some g → ¬ F g) : SlC w' E a cap l := Sl.chg h hC hne
theorem SlC.lt (h : SlC w E a cap l) {g : Nat} (hg : blk a = some g) : g < w.heap.size := Sl.lt h hg
theorem SlC.le (h : SlC w E a cap l) : l.length ≤ cap := by
  have := h.l.row
  rw [List.length_map] at this
  rcases this with ⟨_, h0, h2⟩ | ⟨_, _, _, _, h2, _⟩ <;> omega
theorem SlC.at (h : SlC w E a cap l) {i : Nat} {v : Value} (hv : l[i]? = some v) :
    ∃ g cur, a = some ⟨g, 0, none⟩ ∧ w.heap[g]? = some (.cells cur E (0, 0)) ∧ l.length ≤ cap ∧ i < l.length ∧ cur[i]? = some v := by
  obtain ⟨g, cur, h1, h2, h3, h4, h5⟩ := Sl.at h (i := i) (x := [v]) (by rw [List.getElem?_map, hv]; rfl)
  rw [List.length_map] at h3 h4
  refine ⟨g, cur, h1, h2, h3, h4, ?_⟩
  have := h5 0 v rfl
  rwa [Nat.mul_one, Nat.add_zero] at this
theorem SlC.set {g : Nat} {cur : Array Value} (h : SlC w E (some ⟨g, 0, none⟩) cap l) (hg : w.heap[g]? = some (.cells cur E (0, 0))) {i : Nat} (hi : i < l.length) (v : Value) :
    SlC (upd w g (.cells (cur.setIfInBounds i v) E (0, 0))) E (some ⟨g, 0, none⟩) cap (l.set i v) := by
  have := Sl.set h hg (i := i) (j := 0) (x := [l[i]]) (by rw [List.getElem?_map, List.getElem?_eq_getElem hi]; rfl) (by decide) v
  rw [Nat.mul_one, Nat.add_zero] at this
  have e : one1 (l.set i v) = (one1 l).set i ([l[i]].set 0 v) := by rw [one1, List.map_set]; rfl
  unfold SlC; rw [e]; exact this
theorem SlC.take (h : SlC w E a cap l) {k : Nat} (hk : k ≤ l.length) : SlC w E a cap (l.take k) := by
  have := Sl.take h (k := k) (by rw [List.length_map]; exact hk)
  unfold SlC one1; rw [List.map_take]; exact this
theorem SlC.push (h : SlC w E a cap l) (ht : TI P t (.slice E) sz1 by1 z1) (hE : TI P E d 1 by_ z) (hz : z.cells.size = 1) (h1 : news.all isCell = true) (hmax : l.length + news.length ≤ 1099511627776) (hby : by_ ≤ 64) {k : Nat} (hk : k = news.length) {us : Array Value} (hu : us = news.toArray) :
    ∃ a' cap' w', apR P t (.slice a l.length cap) (.slice (some ⟨w.heap.size, 0, none⟩) k k) (w.alloc (.cells us E)) = .ok (.slice a' (l ++ news).length cap') w' ∧
      SlC w' E a' cap' (l ++ news) ∧ Chg (fun k => blk a = some k) w w' ∧ w.heap.size < w'.heap.size ∧ (∀ g, blk a' = some g → blk a = some g ∨ (w.heap.size ≤ g ∧ g < w'.heap.size)) := by
  subst hk hu
  have := Sl.push (news := one1 news) h ht hE hz (by decide) (c := news.length) (us := news.toArray) (by rw [one1_flat]) rfl (by rw [List.length_map]) one1_len (by rw [one1_flat]; exact h1) (by rw [List.length_map, List.length_map]; exact hmax) hby
  rw [← List.map_append, List.length_map, List.length_map] at this
  exact this
theorem SlC.made {g : Nat} (hg : w.heap[g]? = some (.cells l.toArray E (0, 0))) (hm : l.length ≤ 1099511627776) : SlC w E (some ⟨g, 0, none⟩) l.length l := by
  have := Sl.made (E := E) (s := 1) (rows := one1 l) (g := g) (w := w) (by rw [one1_flat]; exact hg) one1_len (by rw [List.length_map]; exact hm)
  rw [List.length_map] at this
  exact this
theorem SlC.upd (h : SlC w E a cap l) {b : Nat} {o : Obj} (hne : ∀ g, blk a = some g → g ≠ b) : SlC (Bx.upd w b o) E a cap l := Sl.keep h fun g hg => upd_other (fun e => hne g hg e.symm)
theorem SlC.alloc (h : SlC w E a cap l) {o : Obj} : SlC (w.alloc o) E a cap l := Sl.ext h ((Ext.refl w).alloc o)
theorem SlC.ne (h : SlC w E a cap l) {g b : Nat} {c : Array Value} {E' : Nat} {fz : Nat × Nat} (hg : blk a = some g) (hb : w.heap[b]? = some (.cells c E' fz)) (hE : E ≠ E') : g ≠ b := by
  rintro rfl
  obtain ⟨c2, h2⟩ := h.l.tag hg
  rw [h2] at hb
  simp only [Option.some.injEq, Obj.cells.injEq] at hb
  exact hE hb.2.1
theorem SlC.inp (h : SlC w E a cap l) : Inp w 1 a (one1 l) := Sl.inp h
theorem SlC.tag (h : SlC w E a cap l) {g : Nat} (hg : blk a = some g) : ∃ c, w.heap[g]? = some (.cells c E (0, 0)) := h.l.tag hg
end
/-- What is a call's own behind it: what was, and what it has laid. -/
def Grow (F : Nat → Prop) (w w' : World) : Nat → Prop := fun k => F k ∨ (w.heap.size ≤ k ∧ k < w'.heap.size)
section
variable {F G : Nat → Prop} {w w1 w2 w' : World}
theorem Grow.same : ∀ {k}, Grow F w w k ↔ F k := fun {k} => ⟨fun h => h.elim id fun h => by omega, .inl⟩
theorem Grow.eq_self : Grow F w w = F := funext fun k => propext Grow.same
theorem Grow.trans (h1 : w.heap.size ≤ w1.heap.size) (h2 : w1.heap.size ≤ w2.heap.size) : Grow (Grow F w w1) w1 w2 = Grow F w w2 := funext fun k => propext (by
  unfold Grow
  constructor
  · rintro ((h | h) | h)
    · exact .inl h
    · exact .inr ⟨h.1, by omega⟩
    · exact .inr ⟨by omega, h.2⟩
  · rintro (h | h)
    · exact .inl (.inl h)
    · by_cases hk : k < w1.heap.size
      · exact .inl (.inr ⟨h.1, hk⟩)
      · exact .inr ⟨by omega, h.2⟩)
theorem Grow.size (h1 : w1.heap.size = w2.heap.size) : Grow F w w1 = Grow F w w2 := by unfold Grow; rw [h1]
theorem Chg.grow (h : Chg F w w1) (k : Chg (Grow F w w1) w1 w2) : Chg F w w2 := h.trans k fun b hb hG => hG.elim id fun h => by omega
/-- An object of one footprint stays as it is when another one turns. -/
theorem Chg.apart (h : Chg F w w1) (hd : ∀ k, F k → ¬ G k) {k : Nat} (hk : G k) (hlt : k < w.heap.size) : w1.heap[k]? = w.heap[k]? := h.heap k hlt fun hf => hd k hf hk
end
/-- The world, by a name. -/
theorem at_w {P : Program} {c : GCode} {Q : Exit → Env → World → Prop} {e : Env} {w : World} (h : ∀ u, u = w → X P c Q e u) : X P c Q e w := h w rfl
/-- A quiet call, in a world that is built on one where it is. -/
theorem qq {P : Program} {f : FuncId} {args : Array Value} {w0 w : World} {v : Value} {K : Value → World → Prop} {n : Nat} (h : Quiet P f args w0 v) (hk : ∀ w', Ext w w' → n ≤ w'.heap.size → K v w')
    (hE : Ext w0 w := by (repeat (first | with_reducible exact Ext.refl _ | with_reducible assumption | with_reducible refine Ext.alloc ?_ _ | with_reducible refine Ext.dr ?_ _ | (with_reducible refine Ext.upd ?_ ?_ _; rotate_left; focus ((try simp only [upd_size, alloc_size, dr_heap, List.size_toArray, List.length_cons, List.length_nil, Nat.reduceAdd]) <;> omega)) | with_reducible refine Ext.trans ?_ (by with_reducible assumption))))
    (hn : w.heap.size = n := by (first | (simp only [upd_size, alloc_size, dr_heap, List.size_toArray, List.length_cons, List.length_nil, Nat.reduceAdd] <;> rfl) | rfl)) : CallsR P f args w K := (h w hE).mono fun r w' ⟨hr, hE⟩ => hr ▸ hk w' hE (hn ▸ hE.size)
end Go.Bx

/- Functions of eight variables as words of 256 bits, and the four numbers that hold one. No program is in sight. -/
namespace Go.Bx
open Go
set_option linter.unusedSimpArgs false
set_option linter.unusedVariables false

abbrev Fun8 := BitVec 256
/-- The k-th of the four words. -/
def word (f : Fun8) (k : Nat) : BitVec 64 := f.extractLsb' (64 * k) 64
def vU (a : BitVec 64) : Value := .int .u64 (a.toNat : Int)
def w4 (h : Nat → BitVec 64) : Array Value := #[vU (h 0), vU (h 1), vU (h 2), vU (h 3)]
def fv (f : Fun8) : Value := .agg (w4 (word f))
/-- The function that four words hold. -/
def join (h : Nat → BitVec 64) : Fun8 := h 3 ++ (h 2 ++ (h 1 ++ h 0 : BitVec 128) : BitVec 192)

theorem word_bit (f : Fun8) (k i : Nat) (hi : i < 64) : (word f k).getLsbD i = f.getLsbD (64 * k + i) := by
  simp [word, BitVec.getLsbD_extractLsb', hi]
theorem bit_word (f : Fun8) (x : Nat) : f.getLsbD x = (word f (x / 64)).getLsbD (x % 64) := by
  rw [word_bit _ _ _ (Nat.mod_lt _ (by decide)), Nat.div_add_mod]
theorem word_ext {a b : BitVec 64} (h : ∀ i, i < 64 → a.getLsbD i = b.getLsbD i) : a = b := BitVec.eq_of_getLsbD_eq h
theorem fn_ext {f g : Fun8} (h : ∀ i, i < 256 → f.getLsbD i = g.getLsbD i) : f = g := BitVec.eq_of_getLsbD_eq h
theorem word_and (f g : Fun8) (k : Nat) : word (f &&& g) k = word f k &&& word g k := by
  refine word_ext fun i hi => ?_
  simp [word_bit _ _ _ hi]
theorem word_or (f g : Fun8) (k : Nat) : word (f ||| g) k = word f k ||| word g k := by
  refine word_ext fun i hi => ?_
  simp [word_bit _ _ _ hi]
theorem word_xor (f g : Fun8) (k : Nat) : word (f ^^^ g) k = word f k ^^^ word g k := by
  refine word_ext fun i hi => ?_
  simp [word_bit _ _ _ hi]
theorem word_not (f : Fun8) (k : Nat) (hk : k < 4) : word (~~~f) k = ~~~word f k := by
  refine word_ext fun i hi => ?_
  have : 64 * k + i < 256 := by omega
  rw [word_bit _ _ _ hi, BitVec.getLsbD_not, BitVec.getLsbD_not, word_bit _ _ _ hi]
  simp [hi, this]
theorem fn_words {f g : Fun8} (h : ∀ k, k < 4 → word f k = word g k) : f = g := by
  refine fn_ext fun i hi => ?_
  rw [bit_word f, bit_word g, h _ (by omega)]
theorem w4_congr {h h' : Nat → BitVec 64} (he : ∀ k, k < 4 → h k = h' k) : w4 h = w4 h' := by
  simp only [w4, he 0 (by decide), he 1 (by decide), he 2 (by decide), he 3 (by decide)]
theorem vU_inj {a b : BitVec 64} (h : vU a = vU b) : a = b := by
  simp only [vU, Value.int.injEq, true_and] at h
  exact BitVec.eq_of_toNat_eq (by omega)
theorem w4_inj {h h' : Nat → BitVec 64} (he : w4 h = w4 h') : ∀ k, k < 4 → h k = h' k := by
  simp only [w4, Array.mk.injEq, List.cons.injEq, and_true] at he
  obtain ⟨h0, h1, h2, h3⟩ := he
  intro k hk
  match k, hk with
  | 0, _ => exact vU_inj h0
  | 1, _ => exact vU_inj h1
  | 2, _ => exact vU_inj h2
  | 3, _ => exact vU_inj h3
theorem fv_inj {f g : Fun8} : fv f = fv g ↔ f = g :=
  ⟨fun h => fn_words (w4_inj (by simpa [fv] using h)), fun h => by rw [h]⟩
theorem fv_of {h : Nat → BitVec 64} {f : Fun8} (he : ∀ k, k < 4 → h k = word f k) : Value.agg (w4 h) = fv f := by rw [w4_congr he]; rfl
theorem word_join (h : Nat → BitVec 64) (k : Nat) (hk : k < 4) : word (join h) k = h k := by
  refine word_ext fun i hi => ?_
  rw [word_bit _ _ _ hi]
  simp only [join, BitVec.getLsbD_append]
  match k, hk with
  | 0, _ => rw [if_pos (by omega), if_pos (by omega), if_pos (by omega)]; exact congrArg _ (by omega)
  | 1, _ => rw [if_pos (by omega), if_pos (by omega), if_neg (by omega)]; exact congrArg _ (by omega)
  | 2, _ => rw [if_pos (by omega), if_neg (by omega)]; exact congrArg _ (by omega)
  | 3, _ => rw [if_neg (by omega)]; exact congrArg _ (by omega)
theorem w4_join (h : Nat → BitVec 64) : Value.agg (w4 h) = fv (join h) := fv_of fun k hk => (word_join h k hk).symm

/-! ### Operations on words -/
theorem ofInt_nat (a : BitVec 64) : BitVec.ofInt 64 (a.toNat : Int) = a := by
  rw [BitVec.ofInt_natCast, BitVec.ofNat_toNat, BitVec.setWidth_eq]
theorem wrap_nat (a : BitVec 64) : IntKind.u64.wrap (a.toNat : Int) = (a.toNat : Int) := by
  have := a.isLt
  exact wrap_u64 (by omega) (by omega)
theorem bits_and64 (a b : BitVec 64) : bits .and .u64 (a.toNat : Int) (b.toNat : Int) = ((a &&& b).toNat : Int) := by
  unfold bits; simp only [IntKind.bits, ofInt_nat]; exact wrap_nat _
theorem bits_or64 (a b : BitVec 64) : bits .or .u64 (a.toNat : Int) (b.toNat : Int) = ((a ||| b).toNat : Int) := by
  unfold bits; simp only [IntKind.bits, ofInt_nat]; exact wrap_nat _
theorem bits_xor64 (a b : BitVec 64) : bits .xor .u64 (a.toNat : Int) (b.toNat : Int) = ((a ^^^ b).toNat : Int) := by
  unfold bits; simp only [IntKind.bits, ofInt_nat]; exact wrap_nat _
section
variable {P : Program} {w : World} {t : TypeId} {x y : Operand} {a b : BitVec 64} {n : Int} {k' : IntKind}
theorem bU_and : binR P .and t x y (vU a) (vU b) w = .ok (vU (a &&& b)) w := by rw [vU, vU, binR_and, bits_and64]; rfl
theorem bU_or : binR P .or t x y (vU a) (vU b) w = .ok (vU (a ||| b)) w := by rw [vU, vU, binR_or, bits_or64]; rfl
theorem bU_xor : binR P .xor t x y (vU a) (vU b) w = .ok (vU (a ^^^ b)) w := by rw [vU, vU, binR_xor, bits_xor64]; rfl
theorem uU_not : unR P .xor (vU a) w = .ok (vU (~~~a)) w := by
  rw [vU, unR_xor]
  have : (if IntKind.u64.signed then (-1 : Int) else IntKind.u64.max) = ((BitVec.allOnes 64).toNat : Int) := by decide +kernel
  rw [this, bits_xor64, BitVec.allOnes_xor]; rfl
theorem bU_shr (h0 : 0 ≤ n) (h1 : n ≤ 64) : binR P .shr t x y (vU a) (.int k' n) w = .ok (vU (a >>> n.toNat)) w := by
  have hm : min n.toNat IntKind.u64.bits = n.toNat := by simp only [IntKind.bits]; omega
  rw [vU, binR_shr (by omega), hm, vU, BitVec.toNat_ushiftRight, Nat.shiftRight_eq_div_pow, Int.fdiv_eq_ediv_of_nonneg _ (Int.pow_nonneg (by decide))]
  rfl
theorem bU_shl (h0 : 0 ≤ n) (h1 : n ≤ 64) : binR P .shl t x y (vU a) (.int k' n) w = .ok (vU (a <<< n.toNat)) w := by
  have hm : min n.toNat IntKind.u64.bits = n.toNat := by simp only [IntKind.bits]; omega
  rw [vU, binR_shl (by omega), hm, vU, BitVec.toNat_shiftLeft, Nat.shiftLeft_eq, IntKind.wrap_u64]
  rfl
theorem bU_neg : unR P .neg (vU a) w = .ok (vU (-a)) w := by
  have := a.isLt
  rw [vU, unR_neg, vU, IntKind.wrap_u64, BitVec.toNat_neg]
  congr 2
  omega
theorem bU_eq : binR P .eql t x y (vU a) (vU b) w = .ok (.bool (a == b)) w := by
  rw [vU, vU, binR_eql]
  congr 2
  rw [Bool.eq_iff_iff]; simp only [beq_iff_eq]
  exact ⟨fun h => BitVec.eq_of_toNat_eq (by omega), fun h => by rw [h]⟩
theorem bU_and1 : binR P .and t x y (vU a) (.int .u64 1) w = .ok (vU (a &&& 1#64)) w := bU_and (b := 1#64)
theorem bU_eq1 : binR P .eql t x y (vU a) (.int .u64 1) w = .ok (.bool (a == 1#64)) w := bU_eq (b := 1#64)
theorem bU_shl1 (h0 : 0 ≤ n) (h1 : n ≤ 64) : binR P .shl t x y (.int .u64 1) (.int k' n) w = .ok (vU (1#64 <<< n.toNat)) w := bU_shl (a := 1#64) h0 h1
theorem bU_rem2 : binR P .rem t x y (vU a) (.int .u64 2) w = .ok (.int .u64 ((a.toNat : Int).tmod 2)) w := binR_rem (by decide)
end

/-- A number that is a word. -/
theorem isU {n : Int} (h0 : 0 ≤ n) (h1 : n < 18446744073709551616) : Value.int .u64 n = vU (BitVec.ofNat 64 n.toNat) := by
  rw [vU, BitVec.toNat_ofNat, Nat.mod_eq_of_lt (by omega)]
  congr 1; omega
/-- A bit, by a shift and a mask; by a shift and a rest. -/
theorem bit_and (a : BitVec 64) (i : Nat) : (a >>> i &&& 1#64 == 1#64) = a.getLsbD i := by
  rw [Bool.eq_iff_iff, beq_iff_eq]
  constructor
  · intro h
    have h2 : (a >>> i &&& 1#64).getLsbD 0 = true := by rw [h]; rfl
    simpa [BitVec.getLsbD_and, BitVec.getLsbD_ushiftRight] using h2
  · intro h
    refine word_ext fun j hj => ?_
    rw [BitVec.getLsbD_and, BitVec.getLsbD_ushiftRight, BitVec.getLsbD_one]
    cases j with
    | zero => simp [h]
    | succ j => simp
theorem bit_rem (a : BitVec 64) (i : Nat) : (((a >>> i).toNat : Int).tmod 2 == 1) = a.getLsbD i := by
  rw [BitVec.getLsbD, Bool.eq_iff_iff, beq_iff_eq, BitVec.toNat_ushiftRight, Nat.testBit_eq_decide_div_mod_eq, Nat.shiftRight_eq_div_pow, decide_eq_true_iff,
    Int.tmod_eq_emod_of_nonneg (Int.natCast_nonneg _)]
  generalize a.toNat / 2 ^ i = n
  omega

/-! ### Four words, one set -/
def setF (h : Nat → BitVec 64) (k : Nat) (a : BitVec 64) : Nat → BitVec 64 := fun i => if i = k then a else h i
theorem w4_size {h : Nat → BitVec 64} : (w4 h).size = 4 := rfl
theorem w4_get {h : Nat → BitVec 64} {k : Nat} (hk : k < 4) : (w4 h)[k]? = some (vU (h k)) := by
  match k, hk with
  | 0, _ => rfl
  | 1, _ => rfl
  | 2, _ => rfl
  | 3, _ => rfl
theorem w4_set {h : Nat → BitVec 64} {k : Nat} {a : BitVec 64} (hk : k < 4) : (w4 h).setIfInBounds k (vU a) = w4 (setF h k a) := by
  match k, hk with
  | 0, _ => rfl
  | 1, _ => rfl
  | 2, _ => rfl
  | 3, _ => rfl
theorem w4_over {h h' : Nat → BitVec 64} : ((((w4 h).setIfInBounds 0 (vU (h' 0))).setIfInBounds 1 (vU (h' 1))).setIfInBounds 2 (vU (h' 2))).setIfInBounds 3 (vU (h' 3)) = w4 h' := rfl
theorem w4_list {h : Nat → BitVec 64} : (w4 h).toList = [vU (h 0), vU (h 1), vU (h 2), vU (h 3)] := rfl
theorem vcs_w4 {h : Nat → BitVec 64} : vcs (.agg (w4 h)) = [vU (h 0), vU (h 1), vU (h 2), vU (h 3)] := rfl
theorem vcs_fv {f : Fun8} : vcs (fv f) = [vU (word f 0), vU (word f 1), vU (word f 2), vU (word f 3)] := rfl
theorem vcs_vU {a : BitVec 64} : vcs (vU a) = [vU a] := rfl

/-! ### A function by its rows -/
def tabOf (p : Nat → Bool) : Nat → Fun8
  | 0 => 0#256
  | n + 1 => if p n then tabOf p n ||| BitVec.twoPow 256 n else tabOf p n
theorem tabOf_bit (p : Nat → Bool) : ∀ (n i : Nat), i < 256 → (tabOf p n).getLsbD i = (decide (i < n) && p i)
  | 0, i, _ => by simp [tabOf]
  | n + 1, i, hi => by
    have ih := tabOf_bit p n i hi
    by_cases hp : p n
    · rw [tabOf, if_pos hp]
      simp only [BitVec.getLsbD_or, BitVec.getLsbD_twoPow, ih]
      by_cases hin : i = n
      · subst hin; simp [hi, hp]
      · have : (decide (i < n + 1)) = decide (i < n) := by rw [decide_eq_decide]; omega
        have h2 : (n == i) = false := by simpa using fun h => hin h.symm
        simp [this]; omega
    · rw [tabOf, if_neg hp, ih]
      by_cases hin : i = n
      · subst hin; simp at hp; simp [hp]
      · have : (decide (i < n + 1)) = decide (i < n) := by rw [decide_eq_decide]; omega
        rw [this]
theorem tabOf_eq {p : Nat → Bool} {f : Fun8} (h : ∀ i, i < 256 → f.getLsbD i = p i) : tabOf p 256 = f := by
  refine fn_ext fun i hi => ?_
  rw [tabOf_bit p 256 i hi, h i hi]; simp [hi]
/-- One row more. -/
theorem word_put (f : Fun8) (x k : Nat) (hx : x < 256) (hk : k < 4) : word (f ||| BitVec.twoPow 256 x) k = if k = x / 64 then word f k ||| (1#64 <<< (x % 64)) else word f k := by
  refine word_ext fun i hi => ?_
  rw [word_bit _ _ _ hi]
  simp only [BitVec.getLsbD_or, BitVec.getLsbD_twoPow]
  by_cases hkx : k = x / 64
  · rw [if_pos hkx]
    simp only [BitVec.getLsbD_or, word_bit _ _ _ hi, BitVec.getLsbD_shiftLeft, BitVec.getLsbD_one]
    congr 1
    rw [Bool.eq_iff_iff]
    simp only [beq_iff_eq, Bool.and_eq_true, decide_eq_true_eq, Bool.not_eq_true', decide_eq_false_iff_not]
    omega
  · rw [if_neg hkx, word_bit _ _ _ hi]
    have : x ≠ 64 * k + i := by omega
    have h2 : ((x == 64 * k + i) : Bool) = false := by simpa using this
    simp [this, h2]
end Go.Bx

/- Functions of eight variables, and what layer 1 does with them, by their rows. No program is in sight. -/
namespace Go.Bx
open Go
set_option linter.unusedSimpArgs false
set_option linter.unusedVariables false
set_option maxRecDepth 100000

def notF (f : Fun8) : Fun8 := ~~~f
def andF (f g : Fun8) : Fun8 := f &&& g
def orF (f g : Fun8) : Fun8 := f ||| g
def xorF (f g : Fun8) : Fun8 := f ^^^ g
def iteF (f g h : Fun8) : Fun8 := f &&& g ||| ~~~f &&& h
def constF (b : Bool) : Fun8 := if b then ~~~0#256 else 0#256
/-- The rows of a variable, a word at a time. -/
def lowW (v : Nat) : BitVec 64 := BitVec.ofNat 64 ([0xaaaaaaaaaaaaaaaa, 0xcccccccccccccccc, 0xf0f0f0f0f0f0f0f0, 0xff00ff00ff00ff00, 0xffff0000ffff0000, 0xffffffff00000000].getD v 0)
def varW (v : Int) (k : Nat) : BitVec 64 := if 0 ≤ v ∧ v < 6 then lowW v.toNat else if v = 6 ∨ v = 7 then -(BitVec.ofNat 64 k >>> (v - 6).toNat &&& 1#64) else 0#64
def varF (v : Int) : Fun8 := join (varW v)
def atF (f : Fun8) (x : Int) : Bool := decide (0 ≤ x) && (decide (x < 256) && f.getLsbD x.toNat)
/-- One row more. -/
def putF (f : Fun8) (x : Nat) (b : Bool) : Fun8 := if b then f ||| BitVec.twoPow 256 x else f
/-- The function of the rows at which p holds. -/
def ofRows (p : Nat → Bool) : Fun8 := tabOf p 256

section
variable {f g h : Fun8} {x v : Nat} {b : Bool}
theorem bt_not (hx : x < 256) : (notF f).getLsbD x = !f.getLsbD x := by simp [notF, hx]
theorem bt_and : (andF f g).getLsbD x = (f.getLsbD x && g.getLsbD x) := by simp [andF]
theorem bt_or : (orF f g).getLsbD x = (f.getLsbD x || g.getLsbD x) := by simp [orF]
theorem bt_xor : (xorF f g).getLsbD x = (f.getLsbD x ^^ g.getLsbD x) := by simp [xorF]
theorem bt_ite (hx : x < 256) : (iteF f g h).getLsbD x = if f.getLsbD x then g.getLsbD x else h.getLsbD x := by
  simp only [iteF, BitVec.getLsbD_or, BitVec.getLsbD_and, BitVec.getLsbD_not, hx, decide_true, Bool.true_and]
  cases f.getLsbD x <;> simp
theorem bt_const (hx : x < 256) : (constF b).getLsbD x = b := by
  cases b
  · simp [constF]
  · rw [constF, if_pos rfl, BitVec.getLsbD_not]; simp [hx]
theorem varF_all : ∀ v : Nat, v < 8 → ∀ x : Nat, x < 256 → (varF v).getLsbD x = x.testBit v := by decide +kernel
theorem bt_var (hv : v < 8) (hx : x < 256) : (varF v).getLsbD x = x.testBit v := varF_all v hv x hx
theorem varF_out {v : Int} (h : ¬ (0 ≤ v ∧ v < 8)) : varF v = constF false := by
  have : varW v = fun _ => 0#64 := by
    funext k
    rw [varW, if_neg (by omega), if_neg (by omega)]
  rw [varF, this]; rfl
theorem bt_rows {p : Nat → Bool} (hx : x < 256) : (ofRows p).getLsbD x = p x := by rw [ofRows, tabOf_bit _ _ _ hx]; simp [hx]
theorem atF_nat (f : Fun8) (k : Nat) (hk : k < 256) : atF f (k : Int) = f.getLsbD k := by
  rw [atF, dec_t (by omega), dec_t (by omega)]; simp
theorem atF_out {x : Int} (h : ¬ (0 ≤ x ∧ x < 256)) (f : Fun8) : atF f x = false := by
  rw [atF]
  by_cases h0 : 0 ≤ x
  · rw [dec_f (p := x < 256) (fun h1 => h ⟨h0, h1⟩)]; simp
  · rw [dec_f h0]; simp
theorem bt_big (hx : ¬ x < 256) : f.getLsbD x = false := BitVec.getLsbD_of_ge _ _ (by omega)
theorem fn_ext_at (hf : ∀ x : Int, atF f x = atF g x) : f = g := fn_ext fun i hi => by have := hf i; rwa [atF_nat _ _ hi, atF_nat _ _ hi] at this

theorem iteF_and : iteF f g f = andF f g := fn_ext fun i hi => by rw [bt_ite hi, bt_and]; cases f.getLsbD i <;> simp
theorem iteF_or : iteF f f g = orF f g := fn_ext fun i hi => by rw [bt_ite hi, bt_or]; cases f.getLsbD i <;> simp
theorem iteF_xor : iteF f (notF g) g = xorF f g := fn_ext fun i hi => by rw [bt_ite hi, bt_xor, bt_not hi]; cases f.getLsbD i <;> simp
theorem iteF_not : iteF f (constF false) (constF true) = notF f := fn_ext fun i hi => by rw [bt_ite hi, bt_not hi, bt_const hi, bt_const hi]; cases f.getLsbD i <;> simp
theorem iteF_same : iteF f g g = g := fn_ext fun i hi => by rw [bt_ite hi]; simp
theorem notF_const : notF (constF false) = constF true := fn_ext fun i hi => by rw [bt_not hi, bt_const hi, bt_const hi]; rfl
theorem notF_notF : notF (notF f) = f := fn_ext fun i hi => by rw [bt_not hi, bt_not hi]; simp
theorem rows_const : ofRows (fun _ => b) = constF b := fn_ext fun i hi => by rw [bt_rows hi, bt_const hi]
theorem rows_var (hv : v < 8) : ofRows (fun x => x.testBit v) = varF v := fn_ext fun i hi => by rw [bt_rows hi, bt_var hv hi]
theorem rows_ite : ofRows (fun x => if f.getLsbD x then g.getLsbD x else h.getLsbD x) = iteF f g h := fn_ext fun i hi => by rw [bt_rows hi, bt_ite hi]
theorem putF_tab (p : Nat → Bool) (k : Nat) : putF (tabOf p k) k (p k) = tabOf p (k + 1) := rfl
theorem putF_f {k : Nat} : putF f k false = f := by rw [putF]; exact if_neg (by decide)
theorem tab0 (p : Nat → Bool) : tabOf p 0 = constF false := rfl
theorem tab256 (p : Nat → Bool) : tabOf p 256 = ofRows p := rfl

/-! ### In words -/
theorem word_notF {k : Nat} (hk : k < 4) : ~~~word f k = word (notF f) k := (word_not f k hk).symm
theorem word_andF {k : Nat} : word f k &&& word g k = word (andF f g) k := (word_and f g k).symm
theorem word_orF {k : Nat} : word f k ||| word g k = word (orF f g) k := (word_or f g k).symm
theorem word_xorF {k : Nat} : word f k ^^^ word g k = word (xorF f g) k := (word_xor f g k).symm
theorem word_iteF {k : Nat} (hk : k < 4) : (word f k &&& word g k) ||| (~~~word f k &&& word h k) = word (iteF f g h) k := by
  rw [iteF, word_or, word_and, word_and, word_not f k hk]
theorem word_varF {v : Int} {k : Nat} (hk : k < 4) : varW v k = word (varF v) k := (word_join _ _ hk).symm
theorem cells_fv : (fv f).cells = #[vU (word f 0), vU (word f 1), vU (word f 2), vU (word f 3)] := rfl
theorem vcs_fv' : vcs (fv f) = [vU (word f 0), vU (word f 1), vU (word f 2), vU (word f 3)] := rfl
theorem fv_back : Value.agg #[vU (word f 0), vU (word f 1), vU (word f 2), vU (word f 3)] = fv f := rfl
theorem fv_of4 {a b c d : BitVec 64} (h0 : a = word f 0) (h1 : b = word f 1) (h2 : c = word f 2) (h3 : d = word f 3) : Value.agg #[vU a, vU b, vU c, vU d] = fv f := by
  subst h0; subst h1; subst h2; subst h3; rfl
theorem zero_cells {p : Nat → Bool} : (#[.int .u64 0, .int .u64 0, .int .u64 0, .int .u64 0] : Array Value) = (fv (tabOf p 0)).cells := by
  show (#[.int .u64 0, .int .u64 0, .int .u64 0, .int .u64 0] : Array Value) = w4 (word 0#256)
  rfl
theorem zero_fv : Value.agg #[.int .u64 0, .int .u64 0, .int .u64 0, .int .u64 0] = fv (constF false) := rfl
/-- A word by its number, and a word set. -/
def wd4 (f : Fun8) : Array Value := #[vU (word f 0), vU (word f 1), vU (word f 2), vU (word f 3)]
theorem wd4_get {k : Nat} (hk : k < 4) : (#[vU (word f 0), vU (word f 1), vU (word f 2), vU (word f 3)] : Array Value)[k]? = some (vU (word f k)) := by
  match k, hk with
  | 0, _ => rfl
  | 1, _ => rfl
  | 2, _ => rfl
  | 3, _ => rfl
theorem wd4_put {x : Nat} (hx : x < 256) : (#[vU (word f 0), vU (word f 1), vU (word f 2), vU (word f 3)] : Array Value).setIfInBounds (x / 64) (vU (word f (x / 64) ||| 1#64 <<< (x % 64))) = (fv (putF f x true)).cells := by
  have hp : ∀ k, k < 4 → word (putF f x true) k = if k = x / 64 then word f k ||| 1#64 <<< (x % 64) else word f k := fun k hk => by rw [putF, if_pos rfl, word_put _ _ _ hx hk]
  rw [cells_fv, hp 0 (by decide), hp 1 (by decide), hp 2 (by decide), hp 3 (by decide)]
  have h4 : x / 64 < 4 := by omega
  generalize x / 64 = k at h4 ⊢
  match k, h4 with
  | 0, _ => rfl
  | 1, _ => rfl
  | 2, _ => rfl
  | 3, _ => rfl
section
variable {n : Nat}
theorem shr6 : (n : Int).fdiv (2 ^ min 6 IntKind.i64.bits) = ((n / 64 : Nat) : Int) := by
  have : min 6 IntKind.i64.bits = 6 := by decide
  rw [this, Int.fdiv_eq_ediv_of_nonneg _ (by decide)]
  rfl
theorem and63_all : ∀ n : Nat, n < 256 → bits .and .i64 (n : Int) 63 = ((n % 64 : Nat) : Int) := by decide +kernel
theorem and63 (h : n < 256) : bits .and .i64 (n : Int) 63 = ((n % 64 : Nat) : Int) := and63_all n h
theorem quo64 : (n : Int).tdiv 64 = ((n / 64 : Nat) : Int) := by rw [Int.tdiv_eq_ediv_of_nonneg (by omega)]; rfl
theorem quo2 : (n : Int).tdiv 2 = ((n / 2 : Nat) : Int) := by rw [Int.tdiv_eq_ediv_of_nonneg (by omega)]; rfl
theorem rem64 : (n : Int).tmod 64 = ((n % 64 : Nat) : Int) := by rw [Int.tmod_eq_emod_of_nonneg (by omega)]; rfl
theorem rem2 : (n : Int).tmod 2 = ((n % 2 : Nat) : Int) := by rw [Int.tmod_eq_emod_of_nonneg (by omega)]; rfl
theorem shlU {k : Nat} (h : k ≤ 64) : Value.int .u64 (IntKind.u64.wrap (1 * 2 ^ min k IntKind.u64.bits)) = vU (1#64 <<< k) := by
  have hm : min k IntKind.u64.bits = k := by simp only [IntKind.bits]; omega
  rw [hm, vU, BitVec.toNat_shiftLeft, Nat.shiftLeft_eq, IntKind.wrap_u64]
  have : (1#64).toNat = 1 := rfl
  rw [this, Nat.one_mul, Int.one_mul]
  rfl
theorem tn_div64 : ((n : Int) / 64).toNat = n / 64 := by omega
theorem tn_mod64 : ((n : Int) % 64).toNat = n % 64 := by omega
end
end
attribute [irreducible] notF andF orF xorF iteF constF varF ofRows putF
attribute [push_cast] cells_fv vcs_fv' fv_back bU_and bU_or bU_xor uU_not bU_shr bU_shl bU_and1 bU_eq1 bU_rem2 shlU vcs_vU bit_and bit_rem tn_div64 tn_mod64
end Go.Bx
