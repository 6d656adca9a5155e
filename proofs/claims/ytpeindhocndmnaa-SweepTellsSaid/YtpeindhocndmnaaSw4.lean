/- Un4, BxMap2, BxSl, BxCl, Fv, TabP, CofP, CofP2, ArP, ArW, UnM, OrdC, PermW, StP: texts of this work, one behind the other. -/
import Derived.Test.YtpeindhocndmnaaSw3
namespace Go.Proofs.Ytpeindhocndmnaa
open Go Go.Bx
set_option linter.unusedSimpArgs false
set_option linter.unusedVariables false
set_option maxRecDepth 100000
set_option maxHeartbeats 4000000
theorem crd_cyc {n b c : Nat} (hb : b < n) (hc : c < n) : crd n b (cyc n b c) = c := by unfold cyc crd; split <;> split <;> omega
theorem udrop_calls {w : World} {p g : Nat} {many : Int} {T : Tb} (h : UqI w p g many T) (I : TabI T many) (lo hi : Int) :
    CallsR Try.prog 136 #[.pointer (some ⟨p, 0, none⟩), .int .i64 lo, .int .i64 hi] w fun r w' => ∃ m' T', UqI w' p g m' T' ∧ TabI T' m' ∧ T'.length = T.length ∧ Chg (fun x => x = p ∨ x = g) w w' ∧
      ((r = .bool false ∧ m' = many ∧ T' = T ∧ ∀ v, ¬ MemT T (lo, hi) v) ∨ (r = .bool true ∧ m' = many - 1 ∧ (∃ v, MemT T (lo, hi) v) ∧ ∀ k v, MemT T' k v ↔ MemT T k v ∧ k ≠ (lo, hi))) := by
  have hlim := h.lim
  have hpos := h.pos
  have hm0 := I.many0
  have hhalf := I.half
  have hpl := lt_of_heap h.at_
  have hgl := lt_of_heap h.sl
  obtain ⟨i, hil, hf⟩ := I.find (lo, hi)
  have hil' : (i : Int) < T.length := by omega
  have hin := tbA_in hil
  have htl : (tbL T).toArray.size = T.length * 4 := by simp [tbL_len]; omega
  refine calls3 (bs := []) Try.func136 rfl mixed (by kernel_rfl) ?_
  intro e0 h0 h1 h2
  simp only [comp, gop, gslot, dops, bigOf, setK, drawOf, drawOf2, dopsW, setW, dopsR, setR, kindOf, List.lookup, List.map_cons, List.map_nil, Option.bind_some, List.getElem?_toArray, List.getElem?_cons_zero, List.getElem?_cons_succ, Option.getD_some, Option.getD_none, List.contains_nil, List.contains_cons, Bool.false_eq_true, ↓reduceIte, Nat.reduceAdd, Nat.reduceBEq, Bool.or_false]
  refine X_seq fun K hK => ?_
  simp only [X_reg, thenX_normal]
  repeat (first | (refine xo (by simp (disch := first | assumption | omega | (with_unfolding_all exact id rfl) | exact Nat.le_of_ble_eq_true rfl | fail) only [Bool.not_true, Bool.not_false, vR_ok, uR_ok, ev_tmp, ev_const, ev_func, Env.put_some, Env.put_none, Env.set_app, Nat.reduceEqDiff, ↓reduceIte, rG_move, rG_assign, opt1_some, ext_all, dec_t, dec_f, beq_t, beq_f, bne_t, bne_f, wrap_i64, wrap_u64, Int.toNat_natCast, Nat.mul_one, Nat.zero_add, Nat.add_zero, List.map_toArray, List.map_cons, List.map_nil, rG_store, st191, stN_1, stN_2, stN_3, stN_4, stN_5, stN_6, stN_7, stN_8, vcs_int, vcs_bool, vcs_ptr, vcs_slice, vcs_map, vcs_nil, vcs_iface, vcs_aggL, List.length_cons, List.length_nil, Nat.reduceAdd, rG_binOp, binR_sub, rG_load, ld191, List.getElem?_toArray, List.getElem?_cons_zero, List.getElem?_cons_succ, ldN_some, rdN_cells, rG_fieldAddr, fa191_0, rG_build, binR_and, ld172, ld1_some, rd1_cells, rG_alloc_191, Value.cells, resM_1, ld4, fa191_2, rG_unOp, unR_not, fa174_1, rG_len, ln172, binR_add, rG_nilCheck, nilR_ptr, call155, st3, ld3, ld189, rG_indexAddr, ia172, fa174_0] <;> rfl) ?_; first | with_reducible refine kv ?_ | with_reducible refine ks ?_ | with_reducible refine ke ?_) | (refine xo_t ?_ ?_; focus (simp (disch := first | assumption | omega | (with_unfolding_all exact id rfl) | exact Nat.le_of_ble_eq_true rfl | fail) only [Env.put_some, Env.put_none, Env.set_app, Nat.reduceEqDiff, ↓reduceIte, Bool.not_true, Bool.not_false]; done)) | (refine xo_f ?_ ?_; focus (simp (disch := first | assumption | omega | (with_unfolding_all exact id rfl) | exact Nat.le_of_ble_eq_true rfl | fail) only [Env.put_some, Env.put_none, Env.set_app, Nat.reduceEqDiff, ↓reduceIte, Bool.not_true, Bool.not_false]; done)) | (refine xo_u ?_ ?_; focus (simp (disch := first | assumption | omega | (with_unfolding_all exact id rfl) | exact Nat.le_of_ble_eq_true rfl | fail) only [Env.put_some, Env.put_none, Env.set_app, Nat.reduceEqDiff, ↓reduceIte, Bool.not_true, Bool.not_false]; done)))
  refine xo_nil ?_
  refine hK _ _ ?_
  clear hK K
  refine X_seq fun K hK => ?_
  (try simp only [X_reg, thenX_normal])
  repeat (first | (refine xo (by simp (disch := first | assumption | omega | (with_unfolding_all exact id rfl) | exact Nat.le_of_ble_eq_true rfl | fail) only [Bool.not_true, Bool.not_false, vR_ok, uR_ok, ev_tmp, ev_const, ev_func, Env.put_some, Env.put_none, Env.set_app, Nat.reduceEqDiff, ↓reduceIte, rG_move, rG_assign, opt1_some, ext_all, dec_t, dec_f, beq_t, beq_f, bne_t, bne_f, wrap_i64, wrap_u64, Int.toNat_natCast, Nat.mul_one, Nat.zero_add, Nat.add_zero, List.map_toArray, List.map_cons, List.map_nil, rG_store, st191, stN_1, stN_2, stN_3, stN_4, stN_5, stN_6, stN_7, stN_8, vcs_int, vcs_bool, vcs_ptr, vcs_slice, vcs_map, vcs_nil, vcs_iface, vcs_aggL, List.length_cons, List.length_nil, Nat.reduceAdd, rG_binOp, binR_sub, rG_load, ld191, List.getElem?_toArray, List.getElem?_cons_zero, List.getElem?_cons_succ, ldN_some, rdN_cells, rG_fieldAddr, fa191_0, rG_build, binR_and, ld172, ld1_some, rd1_cells, rG_alloc_191, Value.cells, resM_1, ld4, fa191_2, rG_unOp, unR_not, fa174_1, rG_len, ln172, binR_add, rG_nilCheck, nilR_ptr, call155, st3, ld3, ld189, rG_indexAddr, ia172, fa174_0, h0, h1, h2, bd_pair] <;> rfl) ?_; first | with_reducible refine kv ?_ | with_reducible refine ks ?_ | with_reducible refine ke ?_) | (refine xo_t ?_ ?_; focus (simp (disch := first | assumption | omega | (with_unfolding_all exact id rfl) | exact Nat.le_of_ble_eq_true rfl | fail) only [Env.put_some, Env.put_none, Env.set_app, Nat.reduceEqDiff, ↓reduceIte, Bool.not_true, Bool.not_false, h0, h1, h2, bd_pair]; done)) | (refine xo_f ?_ ?_; focus (simp (disch := first | assumption | omega | (with_unfolding_all exact id rfl) | exact Nat.le_of_ble_eq_true rfl | fail) only [Env.put_some, Env.put_none, Env.set_app, Nat.reduceEqDiff, ↓reduceIte, Bool.not_true, Bool.not_false, h0, h1, h2, bd_pair]; done)) | (refine xo_u ?_ ?_; focus (simp (disch := first | assumption | omega | (with_unfolding_all exact id rfl) | exact Nat.le_of_ble_eq_true rfl | fail) only [Env.put_some, Env.put_none, Env.set_app, Nat.reduceEqDiff, ↓reduceIte, Bool.not_true, Bool.not_false, h0, h1, h2, bd_pair]; done)))
  refine (ufind_calls h hf).mono ?_
  rintro _ w1 ⟨rfl, hE1⟩
  (try simp only [X_reg, thenX_normal])
  repeat (first | (refine xo (by simp (disch := first | assumption | omega | (with_unfolding_all exact id rfl) | exact Nat.le_of_ble_eq_true rfl | fail) only [Bool.not_true, Bool.not_false, vR_ok, uR_ok, ev_tmp, ev_const, ev_func, Env.put_some, Env.put_none, Env.set_app, Nat.reduceEqDiff, ↓reduceIte, rG_move, rG_assign, opt1_some, ext_all, dec_t, dec_f, beq_t, beq_f, bne_t, bne_f, wrap_i64, wrap_u64, Int.toNat_natCast, Nat.mul_one, Nat.zero_add, Nat.add_zero, List.map_toArray, List.map_cons, List.map_nil, rG_store, st191, stN_1, stN_2, stN_3, stN_4, stN_5, stN_6, stN_7, stN_8, vcs_int, vcs_bool, vcs_ptr, vcs_slice, vcs_map, vcs_nil, vcs_iface, vcs_aggL, List.length_cons, List.length_nil, Nat.reduceAdd, rG_binOp, binR_sub, rG_load, ld191, List.getElem?_toArray, List.getElem?_cons_zero, List.getElem?_cons_succ, ldN_some, rdN_cells, rG_fieldAddr, fa191_0, rG_build, binR_and, ld172, ld1_some, rd1_cells, rG_alloc_191, Value.cells, resM_1, ld4, fa191_2, rG_unOp, unR_not, fa174_1, rG_len, ln172, binR_add, rG_nilCheck, nilR_ptr, call155, st3, ld3, ld189, rG_indexAddr, ia172, fa174_0] <;> rfl) ?_; first | with_reducible refine kv ?_ | with_reducible refine ks ?_ | with_reducible refine ke ?_) | (refine xo_t ?_ ?_; focus (simp (disch := first | assumption | omega | (with_unfolding_all exact id rfl) | exact Nat.le_of_ble_eq_true rfl | fail) only [Env.put_some, Env.put_none, Env.set_app, Nat.reduceEqDiff, ↓reduceIte, Bool.not_true, Bool.not_false]; done)) | (refine xo_f ?_ ?_; focus (simp (disch := first | assumption | omega | (with_unfolding_all exact id rfl) | exact Nat.le_of_ble_eq_true rfl | fail) only [Env.put_some, Env.put_none, Env.set_app, Nat.reduceEqDiff, ↓reduceIte, Bool.not_true, Bool.not_false]; done)) | (refine xo_u ?_ ?_; focus (simp (disch := first | assumption | omega | (with_unfolding_all exact id rfl) | exact Nat.le_of_ble_eq_true rfl | fail) only [Env.put_some, Env.put_none, Env.set_app, Nat.reduceEqDiff, ↓reduceIte, Bool.not_true, Bool.not_false]; done)))
  (try refine xo_nil ?_)
  refine hK _ _ ?_
  clear hK K
  have hU1 := h.ext hE1
  have hb1 := hU1.at_
  have hs1 := hU1.sl
  rcases finds_mem' I.inv hf with ⟨hnone, hno⟩ | ⟨v, hv⟩
  · rw [hnone] at hin
    refine X_seq fun K hK => ?_
    refine X_seq fun K hK => ?_
    simp only [X_reg, thenX_normal]
    repeat (first | (refine xo (by simp (disch := first | assumption | omega | (with_unfolding_all exact id rfl) | exact Nat.le_of_ble_eq_true rfl | fail) only [Bool.not_true, Bool.not_false, vR_ok, uR_ok, ev_tmp, ev_const, ev_func, Env.put_some, Env.put_none, Env.set_app, Nat.reduceEqDiff, ↓reduceIte, rG_move, rG_assign, opt1_some, ext_all, dec_t, dec_f, beq_t, beq_f, bne_t, bne_f, wrap_i64, wrap_u64, Int.toNat_natCast, Nat.mul_one, Nat.zero_add, Nat.add_zero, List.map_toArray, List.map_cons, List.map_nil, rG_store, st191, stN_1, stN_2, stN_3, stN_4, stN_5, stN_6, stN_7, stN_8, vcs_int, vcs_bool, vcs_ptr, vcs_slice, vcs_map, vcs_nil, vcs_iface, vcs_aggL, List.length_cons, List.length_nil, Nat.reduceAdd, rG_binOp, binR_sub, rG_load, ld191, List.getElem?_toArray, List.getElem?_cons_zero, List.getElem?_cons_succ, ldN_some, rdN_cells, rG_fieldAddr, fa191_0, rG_build, binR_and, ld172, ld1_some, rd1_cells, rG_alloc_191, Value.cells, resM_1, ld4, fa191_2, rG_unOp, unR_not, fa174_1, rG_len, ln172, binR_add, rG_nilCheck, nilR_ptr, call155, st3, ld3, ld189, rG_indexAddr, ia172, fa174_0, h0, hb1, hs1, hin, Option.isSome_none] <;> rfl) ?_; first | with_reducible refine kv ?_ | with_reducible refine ks ?_ | with_reducible refine ke ?_) | (refine xo_t ?_ ?_; focus (simp (disch := first | assumption | omega | (with_unfolding_all exact id rfl) | exact Nat.le_of_ble_eq_true rfl | fail) only [Env.put_some, Env.put_none, Env.set_app, Nat.reduceEqDiff, ↓reduceIte, Bool.not_true, Bool.not_false, h0, hb1, hs1, hin, Option.isSome_none]; done)) | (refine xo_f ?_ ?_; focus (simp (disch := first | assumption | omega | (with_unfolding_all exact id rfl) | exact Nat.le_of_ble_eq_true rfl | fail) only [Env.put_some, Env.put_none, Env.set_app, Nat.reduceEqDiff, ↓reduceIte, Bool.not_true, Bool.not_false, h0, hb1, hs1, hin, Option.isSome_none]; done)) | (refine xo_u ?_ ?_; focus (simp (disch := first | assumption | omega | (with_unfolding_all exact id rfl) | exact Nat.le_of_ble_eq_true rfl | fail) only [Env.put_some, Env.put_none, Env.set_app, Nat.reduceEqDiff, ↓reduceIte, Bool.not_true, Bool.not_false, h0, hb1, hs1, hin, Option.isSome_none]; done)))
    refine xo_nil ?_
    refine hK _ _ ?_
    clear hK K
    refine X_if_t (by simp (disch := first | assumption | omega) only [ev_tmp, Env.put_some, Env.put_none, Env.set_app, Nat.reduceEqDiff, ↓reduceIte, beq_t, dec_t, beq_self_eq_true]) ?_
    refine X_seq fun K hK => ?_
    simp only [X_reg, thenX_normal]
    repeat (first | (refine xo (by simp (disch := first | assumption | omega | (with_unfolding_all exact id rfl) | exact Nat.le_of_ble_eq_true rfl | fail) only [Bool.not_true, Bool.not_false, vR_ok, uR_ok, ev_tmp, ev_const, ev_func, Env.put_some, Env.put_none, Env.set_app, Nat.reduceEqDiff, ↓reduceIte, rG_move, rG_assign, opt1_some, ext_all, dec_t, dec_f, beq_t, beq_f, bne_t, bne_f, wrap_i64, wrap_u64, Int.toNat_natCast, Nat.mul_one, Nat.zero_add, Nat.add_zero, List.map_toArray, List.map_cons, List.map_nil, rG_store, st191, stN_1, stN_2, stN_3, stN_4, stN_5, stN_6, stN_7, stN_8, vcs_int, vcs_bool, vcs_ptr, vcs_slice, vcs_map, vcs_nil, vcs_iface, vcs_aggL, List.length_cons, List.length_nil, Nat.reduceAdd, rG_binOp, binR_sub, rG_load, ld191, List.getElem?_toArray, List.getElem?_cons_zero, List.getElem?_cons_succ, ldN_some, rdN_cells, rG_fieldAddr, fa191_0, rG_build, binR_and, ld172, ld1_some, rd1_cells, rG_alloc_191, Value.cells, resM_1, ld4, fa191_2, rG_unOp, unR_not, fa174_1, rG_len, ln172, binR_add, rG_nilCheck, nilR_ptr, call155, st3, ld3, ld189, rG_indexAddr, ia172, fa174_0] <;> rfl) ?_; first | with_reducible refine kv ?_ | with_reducible refine ks ?_ | with_reducible refine ke ?_) | (refine xo_t ?_ ?_; focus (simp (disch := first | assumption | omega | (with_unfolding_all exact id rfl) | exact Nat.le_of_ble_eq_true rfl | fail) only [Env.put_some, Env.put_none, Env.set_app, Nat.reduceEqDiff, ↓reduceIte, Bool.not_true, Bool.not_false]; done)) | (refine xo_f ?_ ?_; focus (simp (disch := first | assumption | omega | (with_unfolding_all exact id rfl) | exact Nat.le_of_ble_eq_true rfl | fail) only [Env.put_some, Env.put_none, Env.set_app, Nat.reduceEqDiff, ↓reduceIte, Bool.not_true, Bool.not_false]; done)) | (refine xo_u ?_ ?_; focus (simp (disch := first | assumption | omega | (with_unfolding_all exact id rfl) | exact Nat.le_of_ble_eq_true rfl | fail) only [Env.put_some, Env.put_none, Env.set_app, Nat.reduceEqDiff, ↓reduceIte, Bool.not_true, Bool.not_false]; done)))
    refine xo_nil ?_
    refine hK _ _ ?_
    clear hK K
    simp (disch := first | assumption | omega | (with_unfolding_all exact id rfl) | exact Nat.le_of_ble_eq_true rfl | fail) only [X_ret, thenX_ret, inX_ret, retX_ret, retX_normal, Try.results136, resM_0, resM_1, resM_2, resM_3, resM_4, Env.put_some, Env.put_none, Env.set_app, Nat.reduceEqDiff, ↓reduceIte]
    exact ⟨_, rfl, many, T, hU1, I, rfl, hE1.chg _, .inl ⟨rfl, rfl, rfl, hno⟩⟩
  · rw [hv] at hin
    obtain ⟨z, hzl, hze⟩ := I.room
    obtain ⟨b, c0, hJ0, hcyc0, hM0⟩ := DropInv.start homeN_lt I.inv hv hzl hze
    have hset0 := tbA_none (T := T) (i := i) hil
    have hsz4 : i * 4 + 4 ≤ (tbL T).toArray.size := by omega
    have hsz2 : (#[.slice (some ⟨g, 0, none⟩) T.length T.length, .int .i64 many] : Array Value).size = 2 := rfl
    refine X_seq fun K hK => ?_
    refine X_seq fun K hK => ?_
    simp only [X_reg, thenX_normal]
    repeat (first | (refine xo (by simp (disch := first | assumption | omega | (with_unfolding_all exact id rfl) | exact Nat.le_of_ble_eq_true rfl | fail) only [Bool.not_true, Bool.not_false, vR_ok, uR_ok, ev_tmp, ev_const, ev_func, Env.put_some, Env.put_none, Env.set_app, Nat.reduceEqDiff, ↓reduceIte, rG_move, rG_assign, opt1_some, ext_all, dec_t, dec_f, beq_t, beq_f, bne_t, bne_f, wrap_i64, wrap_u64, Int.toNat_natCast, Nat.mul_one, Nat.zero_add, Nat.add_zero, List.map_toArray, List.map_cons, List.map_nil, rG_store, st191, stN_1, stN_2, stN_3, stN_4, stN_5, stN_6, stN_7, stN_8, vcs_int, vcs_bool, vcs_ptr, vcs_slice, vcs_map, vcs_nil, vcs_iface, vcs_aggL, List.length_cons, List.length_nil, Nat.reduceAdd, rG_binOp, binR_sub, rG_load, ld191, List.getElem?_toArray, List.getElem?_cons_zero, List.getElem?_cons_succ, ldN_some, rdN_cells, rG_fieldAddr, fa191_0, rG_build, binR_and, ld172, ld1_some, rd1_cells, rG_alloc_191, Value.cells, resM_1, ld4, fa191_2, rG_unOp, unR_not, fa174_1, rG_len, ln172, binR_add, rG_nilCheck, nilR_ptr, call155, st3, ld3, ld189, rG_indexAddr, ia172, fa174_0, h0, hb1, hs1, hin, Option.isSome_some] <;> rfl) ?_; first | with_reducible refine kv ?_ | with_reducible refine ks ?_ | with_reducible refine ke ?_) | (refine xo_t ?_ ?_; focus (simp (disch := first | assumption | omega | (with_unfolding_all exact id rfl) | exact Nat.le_of_ble_eq_true rfl | fail) only [Env.put_some, Env.put_none, Env.set_app, Nat.reduceEqDiff, ↓reduceIte, Bool.not_true, Bool.not_false, h0, hb1, hs1, hin, Option.isSome_some]; done)) | (refine xo_f ?_ ?_; focus (simp (disch := first | assumption | omega | (with_unfolding_all exact id rfl) | exact Nat.le_of_ble_eq_true rfl | fail) only [Env.put_some, Env.put_none, Env.set_app, Nat.reduceEqDiff, ↓reduceIte, Bool.not_true, Bool.not_false, h0, hb1, hs1, hin, Option.isSome_some]; done)) | (refine xo_u ?_ ?_; focus (simp (disch := first | assumption | omega | (with_unfolding_all exact id rfl) | exact Nat.le_of_ble_eq_true rfl | fail) only [Env.put_some, Env.put_none, Env.set_app, Nat.reduceEqDiff, ↓reduceIte, Bool.not_true, Bool.not_false, h0, hb1, hs1, hin, Option.isSome_some]; done)))
    refine xo_nil ?_
    refine hK _ _ ?_
    clear hK K
    refine X_if_f (by simp (disch := first | assumption | omega) only [ev_tmp, Env.put_some, Env.put_none, Env.set_app, Nat.reduceEqDiff, ↓reduceIte, beq_f, dec_f]) ?_
    simp only [X_skip, X_exit, X_ret, X_block, thenX_normal, thenX_ret, thenX_exit, inX_normal, inX_ret, inX_exit, ↓reduceIte, Nat.reduceEqDiff]
    (try refine xo_nil ?_)
    refine hK _ _ ?_
    clear hK K
    refine X_seq fun K hK => ?_
    simp only [X_reg, thenX_normal]
    repeat (first | (refine xo (by simp (disch := first | assumption | omega | (with_unfolding_all exact id rfl) | exact Nat.le_of_ble_eq_true rfl | fail) only [Bool.not_true, Bool.not_false, vR_ok, uR_ok, ev_tmp, ev_const, ev_func, Env.put_some, Env.put_none, Env.set_app, Nat.reduceEqDiff, ↓reduceIte, rG_move, rG_assign, opt1_some, ext_all, dec_t, dec_f, beq_t, beq_f, bne_t, bne_f, wrap_i64, wrap_u64, Int.toNat_natCast, Nat.mul_one, Nat.zero_add, Nat.add_zero, List.map_toArray, List.map_cons, List.map_nil, rG_store, st191, stN_1, stN_2, stN_3, stN_4, stN_5, stN_6, stN_7, stN_8, vcs_int, vcs_bool, vcs_ptr, vcs_slice, vcs_map, vcs_nil, vcs_iface, vcs_aggL, List.length_cons, List.length_nil, Nat.reduceAdd, rG_binOp, binR_sub, rG_load, ld191, List.getElem?_toArray, List.getElem?_cons_zero, List.getElem?_cons_succ, ldN_some, rdN_cells, rG_fieldAddr, fa191_0, rG_build, binR_and, ld172, ld1_some, rd1_cells, rG_alloc_191, Value.cells, resM_1, ld4, fa191_2, rG_unOp, unR_not, fa174_1, rG_len, ln172, binR_add, rG_nilCheck, nilR_ptr, call155, st3, ld3, ld189, rG_indexAddr, ia172, fa174_0, h0, hb1, hs1, bd_slot0, hset0] <;> rfl) ?_; first | with_reducible refine kv ?_ | with_reducible refine ks ?_ | with_reducible refine ke ?_) | (refine xo_t ?_ ?_; focus (simp (disch := first | assumption | omega | (with_unfolding_all exact id rfl) | exact Nat.le_of_ble_eq_true rfl | fail) only [Env.put_some, Env.put_none, Env.set_app, Nat.reduceEqDiff, ↓reduceIte, Bool.not_true, Bool.not_false, h0, hb1, hs1, bd_slot0, hset0]; done)) | (refine xo_f ?_ ?_; focus (simp (disch := first | assumption | omega | (with_unfolding_all exact id rfl) | exact Nat.le_of_ble_eq_true rfl | fail) only [Env.put_some, Env.put_none, Env.set_app, Nat.reduceEqDiff, ↓reduceIte, Bool.not_true, Bool.not_false, h0, hb1, hs1, bd_slot0, hset0]; done)) | (refine xo_u ?_ ?_; focus (simp (disch := first | assumption | omega | (with_unfolding_all exact id rfl) | exact Nat.le_of_ble_eq_true rfl | fail) only [Env.put_some, Env.put_none, Env.set_app, Nat.reduceEqDiff, ↓reduceIte, Bool.not_true, Bool.not_false, h0, hb1, hs1, bd_slot0, hset0]; done)))
    refine xo_nil ?_
    refine hK _ _ ?_
    clear hK K
    have hU2 := hU1.row hil none
    have hC2 : Chg (fun x => x = p ∨ x = g) w (upd w1 g (.cells (tbL (T.set i none)).toArray 191)) := (hE1.chg (fun x => x = p ∨ x = g)).upd (fun _ => .inr rfl) _
    have hcn2 : cntT (T.set i none) = many - 1 := by rw [cnt_set hil, hv, I.cnt]; simp [b2]
    generalize upd w1 g (.cells (tbL (T.set i none)).toArray 191) = w2 at hU2 hC2 ⊢
    have hl2 : (T.set i none).length = T.length := List.length_set ..
    have hmany1 : 1 ≤ many := by
      have := cnt_le (T.set i none)
      omega
    generalize T.set i none = T0 at *
    have hb2 := hU2.at_
    rw [hl2] at hb2
    refine X_seq fun K hK => ?_
    simp only [X_reg, thenX_normal]
    repeat (first | (refine xo (by simp (disch := first | assumption | omega | (with_unfolding_all exact id rfl) | exact Nat.le_of_ble_eq_true rfl | fail) only [Bool.not_true, Bool.not_false, vR_ok, uR_ok, ev_tmp, ev_const, ev_func, Env.put_some, Env.put_none, Env.set_app, Nat.reduceEqDiff, ↓reduceIte, rG_move, rG_assign, opt1_some, ext_all, dec_t, dec_f, beq_t, beq_f, bne_t, bne_f, wrap_i64, wrap_u64, Int.toNat_natCast, Nat.mul_one, Nat.zero_add, Nat.add_zero, List.map_toArray, List.map_cons, List.map_nil, rG_store, st191, stN_1, stN_2, stN_3, stN_4, stN_5, stN_6, stN_7, stN_8, vcs_int, vcs_bool, vcs_ptr, vcs_slice, vcs_map, vcs_nil, vcs_iface, vcs_aggL, List.length_cons, List.length_nil, Nat.reduceAdd, rG_binOp, binR_sub, rG_load, ld191, List.getElem?_toArray, List.getElem?_cons_zero, List.getElem?_cons_succ, ldN_some, rdN_cells, rG_fieldAddr, fa191_0, rG_build, binR_and, ld172, ld1_some, rd1_cells, rG_alloc_191, Value.cells, resM_1, ld4, fa191_2, rG_unOp, unR_not, fa174_1, rG_len, ln172, binR_add, rG_nilCheck, nilR_ptr, call155, st3, ld3, ld189, rG_indexAddr, ia172, fa174_0, h0, hb2, List.setIfInBounds_toArray, List.set_cons_zero, List.set_cons_succ] <;> rfl) ?_; first | with_reducible refine kv ?_ | with_reducible refine ks ?_ | with_reducible refine ke ?_) | (refine xo_t ?_ ?_; focus (simp (disch := first | assumption | omega | (with_unfolding_all exact id rfl) | exact Nat.le_of_ble_eq_true rfl | fail) only [Env.put_some, Env.put_none, Env.set_app, Nat.reduceEqDiff, ↓reduceIte, Bool.not_true, Bool.not_false, h0, hb2, List.setIfInBounds_toArray, List.set_cons_zero, List.set_cons_succ]; done)) | (refine xo_f ?_ ?_; focus (simp (disch := first | assumption | omega | (with_unfolding_all exact id rfl) | exact Nat.le_of_ble_eq_true rfl | fail) only [Env.put_some, Env.put_none, Env.set_app, Nat.reduceEqDiff, ↓reduceIte, Bool.not_true, Bool.not_false, h0, hb2, List.setIfInBounds_toArray, List.set_cons_zero, List.set_cons_succ]; done)) | (refine xo_u ?_ ?_; focus (simp (disch := first | assumption | omega | (with_unfolding_all exact id rfl) | exact Nat.le_of_ble_eq_true rfl | fail) only [Env.put_some, Env.put_none, Env.set_app, Nat.reduceEqDiff, ↓reduceIte, Bool.not_true, Bool.not_false, h0, hb2, List.setIfInBounds_toArray, List.set_cons_zero, List.set_cons_succ]; done)))
    refine xo_nil ?_
    refine hK _ _ ?_
    clear hK K
    have hU3 := hU2.setm (m := many - 1)
    rw [hl2] at hU3
    have hC3 := hC2.upd (b := p) (fun _ => .inl rfl) (.cells #[.slice (some ⟨g, 0, none⟩) T.length T.length, .int .i64 (many - 1)] 174)
    generalize upd w2 p (.cells #[.slice (some ⟨g, 0, none⟩) T.length T.length, .int .i64 (many - 1)] 174) = w3 at hU3 hC3 ⊢
    have hb3 := hU3.at_
    rw [hl2] at hb3
    refine X_seq fun K hK => ?_
    simp only [X_reg, thenX_normal]
    repeat (first | (refine xo (by simp (disch := first | assumption | omega | (with_unfolding_all exact id rfl) | exact Nat.le_of_ble_eq_true rfl | fail) only [Bool.not_true, Bool.not_false, vR_ok, uR_ok, ev_tmp, ev_const, ev_func, Env.put_some, Env.put_none, Env.set_app, Nat.reduceEqDiff, ↓reduceIte, rG_move, rG_assign, opt1_some, ext_all, dec_t, dec_f, beq_t, beq_f, bne_t, bne_f, wrap_i64, wrap_u64, Int.toNat_natCast, Nat.mul_one, Nat.zero_add, Nat.add_zero, List.map_toArray, List.map_cons, List.map_nil, rG_store, st191, stN_1, stN_2, stN_3, stN_4, stN_5, stN_6, stN_7, stN_8, vcs_int, vcs_bool, vcs_ptr, vcs_slice, vcs_map, vcs_nil, vcs_iface, vcs_aggL, List.length_cons, List.length_nil, Nat.reduceAdd, rG_binOp, binR_sub, rG_load, ld191, List.getElem?_toArray, List.getElem?_cons_zero, List.getElem?_cons_succ, ldN_some, rdN_cells, rG_fieldAddr, fa191_0, rG_build, binR_and, ld172, ld1_some, rd1_cells, rG_alloc_191, Value.cells, resM_1, ld4, fa191_2, rG_unOp, unR_not, fa174_1, rG_len, ln172, binR_add, rG_nilCheck, nilR_ptr, call155, st3, ld3, ld189, rG_indexAddr, ia172, fa174_0, h0, hb3] <;> rfl) ?_; first | with_reducible refine kv ?_ | with_reducible refine ks ?_ | with_reducible refine ke ?_) | (refine xo_t ?_ ?_; focus (simp (disch := first | assumption | omega | (with_unfolding_all exact id rfl) | exact Nat.le_of_ble_eq_true rfl | fail) only [Env.put_some, Env.put_none, Env.set_app, Nat.reduceEqDiff, ↓reduceIte, Bool.not_true, Bool.not_false, h0, hb3]; done)) | (refine xo_f ?_ ?_; focus (simp (disch := first | assumption | omega | (with_unfolding_all exact id rfl) | exact Nat.le_of_ble_eq_true rfl | fail) only [Env.put_some, Env.put_none, Env.set_app, Nat.reduceEqDiff, ↓reduceIte, Bool.not_true, Bool.not_false, h0, hb3]; done)) | (refine xo_u ?_ ?_; focus (simp (disch := first | assumption | omega | (with_unfolding_all exact id rfl) | exact Nat.le_of_ble_eq_true rfl | fail) only [Env.put_some, Env.put_none, Env.set_app, Nat.reduceEqDiff, ↓reduceIte, Bool.not_true, Bool.not_false, h0, hb3]; done)))
    refine xo_nil ?_
    refine hK _ _ ?_
    clear hK K
    have hnx := h.next hil
    have hb' : b < T.length := by have := hJ0.hb; omega
    refine X_cut (fun e w' => ∃ T', UqI w' p g (many - 1) T' ∧ TbInv homeN T' ∧ T'.length = T.length ∧ cntT T' = many - 1 ∧ (∀ k v, MemT T' k v ↔ MemT T k v ∧ k ≠ (lo, hi)) ∧ Chg (fun x => x = p ∨ x = g) w w') ?_ ?_
    · refine X_seq fun K hK => ?_
      simp only [X_reg, thenX_normal]
      repeat (first | (refine xo (by simp (disch := first | assumption | omega | (with_unfolding_all exact id rfl) | exact Nat.le_of_ble_eq_true rfl | fail) only [Bool.not_true, Bool.not_false, vR_ok, uR_ok, ev_tmp, ev_const, ev_func, Env.put_some, Env.put_none, Env.set_app, Nat.reduceEqDiff, ↓reduceIte, rG_move, rG_assign, opt1_some, ext_all, dec_t, dec_f, beq_t, beq_f, bne_t, bne_f, wrap_i64, wrap_u64, Int.toNat_natCast, Nat.mul_one, Nat.zero_add, Nat.add_zero, List.map_toArray, List.map_cons, List.map_nil, rG_store, st191, stN_1, stN_2, stN_3, stN_4, stN_5, stN_6, stN_7, stN_8, vcs_int, vcs_bool, vcs_ptr, vcs_slice, vcs_map, vcs_nil, vcs_iface, vcs_aggL, List.length_cons, List.length_nil, Nat.reduceAdd, rG_binOp, binR_sub, rG_load, ld191, List.getElem?_toArray, List.getElem?_cons_zero, List.getElem?_cons_succ, ldN_some, rdN_cells, rG_fieldAddr, fa191_0, rG_build, binR_and, ld172, ld1_some, rd1_cells, rG_alloc_191, Value.cells, resM_1, ld4, fa191_2, rG_unOp, unR_not, fa174_1, rG_len, ln172, binR_add, rG_nilCheck, nilR_ptr, call155, st3, ld3, ld189, rG_indexAddr, ia172, fa174_0, hnx] <;> rfl) ?_; first | with_reducible refine kv ?_ | with_reducible refine ks ?_ | with_reducible refine ke ?_) | (refine xo_t ?_ ?_; focus (simp (disch := first | assumption | omega | (with_unfolding_all exact id rfl) | exact Nat.le_of_ble_eq_true rfl | fail) only [Env.put_some, Env.put_none, Env.set_app, Nat.reduceEqDiff, ↓reduceIte, Bool.not_true, Bool.not_false, hnx]; done)) | (refine xo_f ?_ ?_; focus (simp (disch := first | assumption | omega | (with_unfolding_all exact id rfl) | exact Nat.le_of_ble_eq_true rfl | fail) only [Env.put_some, Env.put_none, Env.set_app, Nat.reduceEqDiff, ↓reduceIte, Bool.not_true, Bool.not_false, hnx]; done)) | (refine xo_u ?_ ?_; focus (simp (disch := first | assumption | omega | (with_unfolding_all exact id rfl) | exact Nat.le_of_ble_eq_true rfl | fail) only [Env.put_some, Env.put_none, Env.set_app, Nat.reduceEqDiff, ↓reduceIte, Bool.not_true, Bool.not_false, hnx]; done)))
      refine xo_nil ?_
      refine hK _ _ ?_
      clear hK K
      simp only [X_skip, X_exit, X_ret, X_block, thenX_normal, thenX_ret, thenX_exit, inX_normal, inX_ret, inX_exit, ↓reduceIte, Nat.reduceEqDiff]
      refine X_loop (fun e w' => ∃ c T', e 9 = .int .i64 (cyc T.length b c : Nat) ∧ e 8 = .int .i64 ((T.length : Int) - 1) ∧ e 0 = .pointer (some ⟨p, 0, none⟩) ∧ UqI w' p g (many - 1) T' ∧ DropInv homeN T' b c ∧ T'.length = T.length ∧ cntT T' = many - 1 ∧ (∀ k v, MemT T' k v ↔ MemT T k v ∧ k ≠ (lo, hi)) ∧ Chg (fun x => x = p ∨ x = g) w w') (fun e _ => T.length - crd T.length b (nat (e 9))) ?_ ?_
      · refine ⟨c0, T0, ?_, ?_, ?_, hU3, hJ0, hl2, hcn2, hM0, hC3⟩
        · (try simp (disch := first | assumption | omega | (with_unfolding_all exact id rfl) | exact Nat.le_of_ble_eq_true rfl | fail) only [Env.put_some, Env.put_none, Env.set_app, Nat.reduceEqDiff, ↓reduceIte, nat_int, Int.toNat_natCast, wrap_i64, h1, hcyc0])
        · (try simp (disch := first | assumption | omega | (with_unfolding_all exact id rfl) | exact Nat.le_of_ble_eq_true rfl | fail) only [Env.put_some, Env.put_none, Env.set_app, Nat.reduceEqDiff, ↓reduceIte, nat_int, Int.toNat_natCast, wrap_i64])
        · (try simp (disch := first | assumption | omega | (with_unfolding_all exact id rfl) | exact Nat.le_of_ble_eq_true rfl | fail) only [Env.put_some, Env.put_none, Env.set_app, Nat.reduceEqDiff, ↓reduceIte, nat_int, Int.toNat_natCast, wrap_i64, h0])
      · clear h0 h1 h2 hb3 hU3 hC3 hb2 hU2 hC2 hJ0 hM0 hb1 hs1 hU1 hcn2 hnx hcyc0 hE1 hin hset0
        clear w3 w2 w1
        rintro e w1 ⟨c, T1, h9, h8, h0, hU, hJ, hl, hcn, hM, hC⟩
        have hcl : c < T.length := by have := hJ.hc; omega
        obtain ⟨pc, hpc⟩ : ∃ pc, cyc T.length b c = pc := ⟨_, rfl⟩
        have hpcl : pc < T.length := by rw [← hpc]; exact cyc_lt hb' (by omega)
        have hcrd : crd T.length b pc = c := by rw [← hpc]; exact crd_cyc hb' hcl
        rw [hpc] at h9
        have hn9 : nat (e 9) = pc := by rw [h9, nat_int]; omega
        have hpcl' : (pc : Int) < T.length := by omega
        have hb1 := hU.at_
        have hs1 := hU.sl
        rw [hl] at hb1
        have hpl1 : pc < T1.length := by omega
        have hin := tbA_in hpl1
        have htn : (tbL T1).toArray.size = T.length * 4 := by simp [tbL_len]; omega
        have hrow := tbL_row hpl1
        cases ho : occ T1 pc with
        | none =>
          rw [ho] at hin
          refine X_seq fun K hK => ?_
          refine X_seq fun K hK => ?_
          (try simp only [X_reg, thenX_normal])
          repeat (first | (refine xo (by simp (disch := first | assumption | omega | (with_unfolding_all exact id rfl) | exact Nat.le_of_ble_eq_true rfl | fail) only [Bool.not_true, Bool.not_false, vR_ok, uR_ok, ev_tmp, ev_const, ev_func, Env.put_some, Env.put_none, Env.set_app, Nat.reduceEqDiff, ↓reduceIte, rG_move, rG_assign, opt1_some, ext_all, dec_t, dec_f, beq_t, beq_f, bne_t, bne_f, wrap_i64, wrap_u64, Int.toNat_natCast, Nat.mul_one, Nat.zero_add, Nat.add_zero, List.map_toArray, List.map_cons, List.map_nil, rG_store, st191, stN_1, stN_2, stN_3, stN_4, stN_5, stN_6, stN_7, stN_8, vcs_int, vcs_bool, vcs_ptr, vcs_slice, vcs_map, vcs_nil, vcs_iface, vcs_aggL, List.length_cons, List.length_nil, Nat.reduceAdd, rG_binOp, binR_sub, rG_load, ld191, List.getElem?_toArray, List.getElem?_cons_zero, List.getElem?_cons_succ, ldN_some, rdN_cells, rG_fieldAddr, fa191_0, rG_build, binR_and, ld172, ld1_some, rd1_cells, rG_alloc_191, Value.cells, resM_1, ld4, fa191_2, rG_unOp, unR_not, fa174_1, rG_len, ln172, binR_add, rG_nilCheck, nilR_ptr, call155, st3, ld3, ld189, rG_indexAddr, ia172, fa174_0, h0, h9, hb1, hs1, hin, Option.isSome_none] <;> rfl) ?_; first | with_reducible refine kv ?_ | with_reducible refine ks ?_ | with_reducible refine ke ?_) | (refine xo_t ?_ ?_; focus (simp (disch := first | assumption | omega | (with_unfolding_all exact id rfl) | exact Nat.le_of_ble_eq_true rfl | fail) only [Env.put_some, Env.put_none, Env.set_app, Nat.reduceEqDiff, ↓reduceIte, Bool.not_true, Bool.not_false, h0, h9, hb1, hs1, hin, Option.isSome_none]; done)) | (refine xo_f ?_ ?_; focus (simp (disch := first | assumption | omega | (with_unfolding_all exact id rfl) | exact Nat.le_of_ble_eq_true rfl | fail) only [Env.put_some, Env.put_none, Env.set_app, Nat.reduceEqDiff, ↓reduceIte, Bool.not_true, Bool.not_false, h0, h9, hb1, hs1, hin, Option.isSome_none]; done)) | (refine xo_u ?_ ?_; focus (simp (disch := first | assumption | omega | (with_unfolding_all exact id rfl) | exact Nat.le_of_ble_eq_true rfl | fail) only [Env.put_some, Env.put_none, Env.set_app, Nat.reduceEqDiff, ↓reduceIte, Bool.not_true, Bool.not_false, h0, h9, hb1, hs1, hin, Option.isSome_none]; done)))
          (try refine xo_nil ?_)
          refine hK _ _ ?_
          clear hK K
          refine X_if_f (by simp (disch := first | assumption | omega) only [ev_tmp, Env.put_some, Env.put_none, Env.set_app, Nat.reduceEqDiff, ↓reduceIte, beq_f, dec_f]) ?_
          simp only [X_skip, X_exit, X_ret, X_block, thenX_normal, thenX_ret, thenX_exit, inX_normal, inX_ret, inX_exit, ↓reduceIte, Nat.reduceEqDiff]
          exact ⟨T1, hU, hJ.stop homeN_lt (by rw [hl, hpc]; exact ho), hl, hcn, hM, hC⟩
        | some o =>
          obtain ⟨⟨x, y⟩, z⟩ := o
          rw [ho] at hin hrow
          have hrow' : (tbL T1).toArray.extract (pc * 4) (pc * 4 + 4) = #[.int .i64 x, .int .i64 y, .int .i64 z, .bool true] := hrow
          have hszp : pc * 4 + 4 ≤ (tbL T1).toArray.size := by omega
          have hset1 := tbA_none (T := T1) (i := pc) hpl1
          have hlp : (T1.set pc none).length = T.length := by rw [List.length_set, hl]
          have honone : occ (T1.set pc none) pc = none := by rw [occ_set hpl1, if_pos rfl]
          obtain ⟨i2, hf2⟩ := Finds.ex homeN_lt (T := T1.set pc none) (x, y) (z := pc) (by omega) honone
          have hst := hJ.step homeN_lt (k := (x, y)) (v := z) (i' := i2) (by rw [hl, hpc]; exact ho) (by rw [hl, hpc]; exact hf2)
          rw [hl, hpc] at hst
          obtain ⟨r1, r2, r3, r4, r5⟩ := hst
          have hi2' : (i2 : Int) < T.length := by omega
          have hcn1 : cntT ((T1.set pc none).set i2 (some ((x, y), z))) = many - 1 := by
            rw [cnt_set (by omega), r2, cnt_set hpl1, ho, hcn]; simp [b2]
          have hgl1 : g < w1.heap.size := lt_of_heap hs1
          have hpl1' : p < w1.heap.size := lt_of_heap hb1
          refine X_seq fun K hK => ?_
          refine X_seq fun K hK => ?_
          (try simp only [X_reg, thenX_normal])
          repeat (first | (refine xo (by simp (disch := first | assumption | omega | (with_unfolding_all exact id rfl) | exact Nat.le_of_ble_eq_true rfl | fail) only [Bool.not_true, Bool.not_false, vR_ok, uR_ok, ev_tmp, ev_const, ev_func, Env.put_some, Env.put_none, Env.set_app, Nat.reduceEqDiff, ↓reduceIte, rG_move, rG_assign, opt1_some, ext_all, dec_t, dec_f, beq_t, beq_f, bne_t, bne_f, wrap_i64, wrap_u64, Int.toNat_natCast, Nat.mul_one, Nat.zero_add, Nat.add_zero, List.map_toArray, List.map_cons, List.map_nil, rG_store, st191, stN_1, stN_2, stN_3, stN_4, stN_5, stN_6, stN_7, stN_8, vcs_int, vcs_bool, vcs_ptr, vcs_slice, vcs_map, vcs_nil, vcs_iface, vcs_aggL, List.length_cons, List.length_nil, Nat.reduceAdd, rG_binOp, binR_sub, rG_load, ld191, List.getElem?_toArray, List.getElem?_cons_zero, List.getElem?_cons_succ, ldN_some, rdN_cells, rG_fieldAddr, fa191_0, rG_build, binR_and, ld172, ld1_some, rd1_cells, rG_alloc_191, Value.cells, resM_1, ld4, fa191_2, rG_unOp, unR_not, fa174_1, rG_len, ln172, binR_add, rG_nilCheck, nilR_ptr, call155, st3, ld3, ld189, rG_indexAddr, ia172, fa174_0, h0, h9, hb1, hs1, hin, Option.isSome_some] <;> rfl) ?_; first | with_reducible refine kv ?_ | with_reducible refine ks ?_ | with_reducible refine ke ?_) | (refine xo_t ?_ ?_; focus (simp (disch := first | assumption | omega | (with_unfolding_all exact id rfl) | exact Nat.le_of_ble_eq_true rfl | fail) only [Env.put_some, Env.put_none, Env.set_app, Nat.reduceEqDiff, ↓reduceIte, Bool.not_true, Bool.not_false, h0, h9, hb1, hs1, hin, Option.isSome_some]; done)) | (refine xo_f ?_ ?_; focus (simp (disch := first | assumption | omega | (with_unfolding_all exact id rfl) | exact Nat.le_of_ble_eq_true rfl | fail) only [Env.put_some, Env.put_none, Env.set_app, Nat.reduceEqDiff, ↓reduceIte, Bool.not_true, Bool.not_false, h0, h9, hb1, hs1, hin, Option.isSome_some]; done)) | (refine xo_u ?_ ?_; focus (simp (disch := first | assumption | omega | (with_unfolding_all exact id rfl) | exact Nat.le_of_ble_eq_true rfl | fail) only [Env.put_some, Env.put_none, Env.set_app, Nat.reduceEqDiff, ↓reduceIte, Bool.not_true, Bool.not_false, h0, h9, hb1, hs1, hin, Option.isSome_some]; done)))
          (try refine xo_nil ?_)
          refine hK _ _ ?_
          clear hK K
          refine X_if_t (by simp (disch := first | assumption | omega) only [ev_tmp, Env.put_some, Env.put_none, Env.set_app, Nat.reduceEqDiff, ↓reduceIte, beq_t, dec_t, beq_self_eq_true]) ?_
          simp only [X_skip, X_exit, X_ret, X_block, thenX_normal, thenX_ret, thenX_exit, inX_normal, inX_ret, inX_exit, ↓reduceIte, Nat.reduceEqDiff]
          (try refine xo_nil ?_)
          refine hK _ _ ?_
          clear hK K
          refine X_seq fun K hK => ?_
          simp only [X_skip, X_exit, X_ret, X_block, thenX_normal, thenX_ret, thenX_exit, inX_normal, inX_ret, inX_exit, ↓reduceIte, Nat.reduceEqDiff]
          refine X_seq fun K hK => ?_
          (try simp only [X_reg, thenX_normal])
          repeat (first | (refine xo (by simp (disch := first | assumption | omega | (with_unfolding_all exact id rfl) | exact Nat.le_of_ble_eq_true rfl | fail) only [Bool.not_true, Bool.not_false, vR_ok, uR_ok, ev_tmp, ev_const, ev_func, Env.put_some, Env.put_none, Env.set_app, Nat.reduceEqDiff, ↓reduceIte, rG_move, rG_assign, opt1_some, ext_all, dec_t, dec_f, beq_t, beq_f, bne_t, bne_f, wrap_i64, wrap_u64, Int.toNat_natCast, Nat.mul_one, Nat.zero_add, Nat.add_zero, List.map_toArray, List.map_cons, List.map_nil, rG_store, st191, stN_1, stN_2, stN_3, stN_4, stN_5, stN_6, stN_7, stN_8, vcs_int, vcs_bool, vcs_ptr, vcs_slice, vcs_map, vcs_nil, vcs_iface, vcs_aggL, List.length_cons, List.length_nil, Nat.reduceAdd, rG_binOp, binR_sub, rG_load, ld191, List.getElem?_toArray, List.getElem?_cons_zero, List.getElem?_cons_succ, ldN_some, rdN_cells, rG_fieldAddr, fa191_0, rG_build, binR_and, ld172, ld1_some, rd1_cells, rG_alloc_191, Value.cells, resM_1, ld4, fa191_2, rG_unOp, unR_not, fa174_1, rG_len, ln172, binR_add, rG_nilCheck, nilR_ptr, call155, st3, ld3, ld189, rG_indexAddr, ia172, fa174_0, h0, h9, hb1, hs1, hrow'] <;> rfl) ?_; first | with_reducible refine kv ?_ | with_reducible refine ks ?_ | with_reducible refine ke ?_) | (refine xo_t ?_ ?_; focus (simp (disch := first | assumption | omega | (with_unfolding_all exact id rfl) | exact Nat.le_of_ble_eq_true rfl | fail) only [Env.put_some, Env.put_none, Env.set_app, Nat.reduceEqDiff, ↓reduceIte, Bool.not_true, Bool.not_false, h0, h9, hb1, hs1, hrow']; done)) | (refine xo_f ?_ ?_; focus (simp (disch := first | assumption | omega | (with_unfolding_all exact id rfl) | exact Nat.le_of_ble_eq_true rfl | fail) only [Env.put_some, Env.put_none, Env.set_app, Nat.reduceEqDiff, ↓reduceIte, Bool.not_true, Bool.not_false, h0, h9, hb1, hs1, hrow']; done)) | (refine xo_u ?_ ?_; focus (simp (disch := first | assumption | omega | (with_unfolding_all exact id rfl) | exact Nat.le_of_ble_eq_true rfl | fail) only [Env.put_some, Env.put_none, Env.set_app, Nat.reduceEqDiff, ↓reduceIte, Bool.not_true, Bool.not_false, h0, h9, hb1, hs1, hrow']; done)))
          refine xo (rG_store_new (w := w1) (cs := #[.int .i64 0, .int .i64 0, .int .i64 0, .bool false]) (E := 191) (v := .agg #[.int .i64 x, .int .i64 y, .int .i64 z, .bool true]) (TI.mk' (sz := 4) (by_ := 32) (z := Value.agg #[Value.int IntKind.i64 0, Value.int IntKind.i64 0, Value.int IntKind.i64 0, Value.bool false]) Try.underlying191 (by kernel_rfl)) (by simp (disch := first | assumption | omega) only [ev_tmp, ev_const, Env.put_some, Env.put_none, Env.set_app, Nat.reduceEqDiff, ↓reduceIte]) (by simp (disch := first | assumption | omega) only [ev_tmp, ev_const, Env.put_some, Env.put_none, Env.set_app, Nat.reduceEqDiff, ↓reduceIte]) rfl rfl rfl) ?_
          refine ks ?_
          (try refine xo_nil ?_)
          refine hK _ _ ?_
          clear hK K
          have hE2 := (Ext.refl w1).alloc (.cells ((Value.agg #[.int .i64 x, .int .i64 y, .int .i64 z, .bool true]).cells) 191)
          have hn2 : (w1.alloc (.cells ((Value.agg #[.int .i64 x, .int .i64 y, .int .i64 z, .bool true]).cells) 191)).heap[w1.heap.size]? = some (.cells #[.int .i64 x, .int .i64 y, .int .i64 z, .bool true] 191) := alloc_new
          obtain ⟨nb, hnb⟩ : ∃ nb, w1.heap.size = nb := ⟨_, rfl⟩
          rw [hnb] at hn2 hgl1 hpl1' ⊢
          generalize w1.alloc (.cells ((Value.agg #[.int .i64 x, .int .i64 y, .int .i64 z, .bool true]).cells) 191) = w2 at hE2 hn2 ⊢
          have hU2 := hU.ext hE2
          have hC2 := hC.trans (hE2.chg (fun _ => False)) (fun _ _ h => h.elim)
          have hb2 := hU2.at_
          have hs2 := hU2.sl
          rw [hl] at hb2
          refine X_seq fun K hK => ?_
          simp only [X_reg, thenX_normal]
          repeat (first | (refine xo (by simp (disch := first | assumption | omega | (with_unfolding_all exact id rfl) | exact Nat.le_of_ble_eq_true rfl | fail) only [Bool.not_true, Bool.not_false, vR_ok, uR_ok, ev_tmp, ev_const, ev_func, Env.put_some, Env.put_none, Env.set_app, Nat.reduceEqDiff, ↓reduceIte, rG_move, rG_assign, opt1_some, ext_all, dec_t, dec_f, beq_t, beq_f, bne_t, bne_f, wrap_i64, wrap_u64, Int.toNat_natCast, Nat.mul_one, Nat.zero_add, Nat.add_zero, List.map_toArray, List.map_cons, List.map_nil, rG_store, st191, stN_1, stN_2, stN_3, stN_4, stN_5, stN_6, stN_7, stN_8, vcs_int, vcs_bool, vcs_ptr, vcs_slice, vcs_map, vcs_nil, vcs_iface, vcs_aggL, List.length_cons, List.length_nil, Nat.reduceAdd, rG_binOp, binR_sub, rG_load, ld191, List.getElem?_toArray, List.getElem?_cons_zero, List.getElem?_cons_succ, ldN_some, rdN_cells, rG_fieldAddr, fa191_0, rG_build, binR_and, ld172, ld1_some, rd1_cells, rG_alloc_191, Value.cells, resM_1, ld4, fa191_2, rG_unOp, unR_not, fa174_1, rG_len, ln172, binR_add, rG_nilCheck, nilR_ptr, call155, st3, ld3, ld189, rG_indexAddr, ia172, fa174_0, h0, h9, hb2, hs2, bd_slot0, hset1] <;> rfl) ?_; first | with_reducible refine kv ?_ | with_reducible refine ks ?_ | with_reducible refine ke ?_) | (refine xo_t ?_ ?_; focus (simp (disch := first | assumption | omega | (with_unfolding_all exact id rfl) | exact Nat.le_of_ble_eq_true rfl | fail) only [Env.put_some, Env.put_none, Env.set_app, Nat.reduceEqDiff, ↓reduceIte, Bool.not_true, Bool.not_false, h0, h9, hb2, hs2, bd_slot0, hset1]; done)) | (refine xo_f ?_ ?_; focus (simp (disch := first | assumption | omega | (with_unfolding_all exact id rfl) | exact Nat.le_of_ble_eq_true rfl | fail) only [Env.put_some, Env.put_none, Env.set_app, Nat.reduceEqDiff, ↓reduceIte, Bool.not_true, Bool.not_false, h0, h9, hb2, hs2, bd_slot0, hset1]; done)) | (refine xo_u ?_ ?_; focus (simp (disch := first | assumption | omega | (with_unfolding_all exact id rfl) | exact Nat.le_of_ble_eq_true rfl | fail) only [Env.put_some, Env.put_none, Env.set_app, Nat.reduceEqDiff, ↓reduceIte, Bool.not_true, Bool.not_false, h0, h9, hb2, hs2, bd_slot0, hset1]; done)))
          refine xo_nil ?_
          refine hK _ _ ?_
          clear hK K
          have hU3 := hU2.row hpl1 none
          have hC3 := hC2.upd (b := g) (fun _ => .inr rfl) (.cells (tbL (T1.set pc none)).toArray 191)
          have hn3 : (upd w2 g (.cells (tbL (T1.set pc none)).toArray 191)).heap[nb]? = some (.cells #[.int .i64 x, .int .i64 y, .int .i64 z, .bool true] 191) := by rw [upd_other (by omega)]; exact hn2
          generalize upd w2 g (.cells (tbL (T1.set pc none)).toArray 191) = w3 at hU3 hC3 hn3 ⊢
          generalize hT2 : T1.set pc none = T2 at *
          have hp3 : ∀ u, Ext w3 u → u.heap[p]? = some (.cells #[.slice (some ⟨g, 0, none⟩) T.length T.length, .int .i64 (many - 1)] 174) := fun u hu => by have := hu.at hU3.at_; rwa [hlp] at this
          have hb3 : ∀ u, Ext w3 u → u.heap[nb]? = some (.cells #[.int .i64 x, .int .i64 y, .int .i64 z, .bool true] 191) := fun u hu => hu.at hn3
          have hk2 : (#[.int .i64 x, .int .i64 y, .int .i64 z, .bool true] : Array Value).extract 0 (0 + 2) = #[.int .i64 x, .int .i64 y] := rfl
          have hk4 : (#[.int .i64 x, .int .i64 y, .int .i64 z, .bool true] : Array Value).extract 0 (0 + 4) = #[.int .i64 x, .int .i64 y, .int .i64 z, .bool true] := rfl
          have hs4 : 0 + 4 ≤ (#[.int .i64 x, .int .i64 y, .int .i64 z, .bool true] : Array Value).size := Nat.le_refl 4
          have hs2' : 0 + 2 ≤ (#[.int .i64 x, .int .i64 y, .int .i64 z, .bool true] : Array Value).size := show 2 ≤ 4 by omega
          have hset2 := tbA_some (T := T2) (i := i2) (lo := x) (hi := y) (n := z) (by omega)
          have htn2 : (tbL T2).toArray.size = T.length * 4 := by simp [tbL_len]; omega
          have hszt : i2 * 4 + 4 ≤ (tbL T2).toArray.size := by omega
          simp only [X_draw, thenX_normal]
          refine XD_ext ?_
          repeat (first | (refine xe0 (fun w => (by simp (disch := first | assumption | omega | (with_unfolding_all exact id rfl) | exact Nat.le_of_ble_eq_true rfl | fail) only [Bool.not_true, Bool.not_false, vR_ok, uR_ok, ev_tmp, ev_const, ev_func, Env.put_some, Env.put_none, Env.set_app, Nat.reduceEqDiff, ↓reduceIte, rG_move, rG_assign, opt1_some, ext_all, dec_t, dec_f, beq_t, beq_f, bne_t, bne_f, wrap_i64, wrap_u64, Int.toNat_natCast, Nat.mul_one, Nat.zero_add, Nat.add_zero, List.map_toArray, List.map_cons, List.map_nil, rG_store, st191, stN_1, stN_2, stN_3, stN_4, stN_5, stN_6, stN_7, stN_8, vcs_int, vcs_bool, vcs_ptr, vcs_slice, vcs_map, vcs_nil, vcs_iface, vcs_aggL, List.length_cons, List.length_nil, Nat.reduceAdd, rG_binOp, binR_sub, rG_load, ld191, List.getElem?_toArray, List.getElem?_cons_zero, List.getElem?_cons_succ, ldN_some, rdN_cells, rG_fieldAddr, fa191_0, rG_build, binR_and, ld172, ld1_some, rd1_cells, rG_alloc_191, Value.cells, resM_1, ld4, fa191_2, rG_unOp, unR_not, fa174_1, rG_len, ln172, binR_add, rG_nilCheck, nilR_ptr, call155, st3, ld3, ld189, rG_indexAddr, ia172, fa174_0, h0, hp3, hb3, hk2] <;> rfl)) ?_) | (refine xe1e (fun w' hw => (by simp (disch := first | assumption | omega | (with_unfolding_all exact id rfl) | exact Nat.le_of_ble_eq_true rfl | fail) only [Bool.not_true, Bool.not_false, vR_ok, uR_ok, ev_tmp, ev_const, ev_func, Env.put_some, Env.put_none, Env.set_app, Nat.reduceEqDiff, ↓reduceIte, rG_move, rG_assign, opt1_some, ext_all, dec_t, dec_f, beq_t, beq_f, bne_t, bne_f, wrap_i64, wrap_u64, Int.toNat_natCast, Nat.mul_one, Nat.zero_add, Nat.add_zero, List.map_toArray, List.map_cons, List.map_nil, rG_store, st191, stN_1, stN_2, stN_3, stN_4, stN_5, stN_6, stN_7, stN_8, vcs_int, vcs_bool, vcs_ptr, vcs_slice, vcs_map, vcs_nil, vcs_iface, vcs_aggL, List.length_cons, List.length_nil, Nat.reduceAdd, rG_binOp, binR_sub, rG_load, ld191, List.getElem?_toArray, List.getElem?_cons_zero, List.getElem?_cons_succ, ldN_some, rdN_cells, rG_fieldAddr, fa191_0, rG_build, binR_and, ld172, ld1_some, rd1_cells, rG_alloc_191, Value.cells, resM_1, ld4, fa191_2, rG_unOp, unR_not, fa174_1, rG_len, ln172, binR_add, rG_nilCheck, nilR_ptr, call155, st3, ld3, ld189, rG_indexAddr, ia172, fa174_0, h0, hp3, hb3, hk2] <;> rfl)) ?_) | (refine xe2x (by simp (disch := first | assumption | omega | (with_unfolding_all exact id rfl) | exact Nat.le_of_ble_eq_true rfl | fail) only [Bool.not_true, Bool.not_false, vR_ok, uR_ok, ev_tmp, ev_const, ev_func, Env.put_some, Env.put_none, Env.set_app, Nat.reduceEqDiff, ↓reduceIte, rG_move, rG_assign, opt1_some, ext_all, dec_t, dec_f, beq_t, beq_f, bne_t, bne_f, wrap_i64, wrap_u64, Int.toNat_natCast, Nat.mul_one, Nat.zero_add, Nat.add_zero, List.map_toArray, List.map_cons, List.map_nil, rG_store, st191, stN_1, stN_2, stN_3, stN_4, stN_5, stN_6, stN_7, stN_8, vcs_int, vcs_bool, vcs_ptr, vcs_slice, vcs_map, vcs_nil, vcs_iface, vcs_aggL, List.length_cons, List.length_nil, Nat.reduceAdd, rG_binOp, binR_sub, rG_load, ld191, List.getElem?_toArray, List.getElem?_cons_zero, List.getElem?_cons_succ, ldN_some, rdN_cells, rG_fieldAddr, fa191_0, rG_build, binR_and, ld172, ld1_some, rd1_cells, rG_alloc_191, Value.cells, resM_1, ld4, fa191_2, rG_unOp, unR_not, fa174_1, rG_len, ln172, binR_add, rG_nilCheck, nilR_ptr, call155, st3, ld3, ld189, rG_indexAddr, ia172, fa174_0, h0, hp3, hb3, hk2] <;> rfl) ?_; (first | with_reducible refine kv ?_ | with_reducible refine ks ?_ | with_reducible refine ke ?_)) | (refine xe0_t ?_ ?_; focus (simp (disch := first | assumption | omega | (with_unfolding_all exact id rfl) | exact Nat.le_of_ble_eq_true rfl | fail) only [Env.put_some, Env.put_none, Env.set_app, Nat.reduceEqDiff, ↓reduceIte, Bool.not_true, Bool.not_false, h0, hp3, hb3, hk2]; done)) | (refine xe1_t ?_ ?_; focus (simp (disch := first | assumption | omega | (with_unfolding_all exact id rfl) | exact Nat.le_of_ble_eq_true rfl | fail) only [Env.put_some, Env.put_none, Env.set_app, Nat.reduceEqDiff, ↓reduceIte, Bool.not_true, Bool.not_false, h0, hp3, hb3, hk2]; done)) | (refine xe0_f ?_ ?_; focus (simp (disch := first | assumption | omega | (with_unfolding_all exact id rfl) | exact Nat.le_of_ble_eq_true rfl | fail) only [Env.put_some, Env.put_none, Env.set_app, Nat.reduceEqDiff, ↓reduceIte, Bool.not_true, Bool.not_false, h0, hp3, hb3, hk2]; done)) | (refine xe1_f ?_ ?_; focus (simp (disch := first | assumption | omega | (with_unfolding_all exact id rfl) | exact Nat.le_of_ble_eq_true rfl | fail) only [Env.put_some, Env.put_none, Env.set_app, Nat.reduceEqDiff, ↓reduceIte, Bool.not_true, Bool.not_false, h0, hp3, hb3, hk2]; done)) | (refine xe0_u ?_ ?_; focus (simp (disch := first | assumption | omega | (with_unfolding_all exact id rfl) | exact Nat.le_of_ble_eq_true rfl | fail) only [Env.put_some, Env.put_none, Env.set_app, Nat.reduceEqDiff, ↓reduceIte, Bool.not_true, Bool.not_false, h0, hp3, hb3, hk2]; done)) | (refine xe1_u ?_ ?_; focus (simp (disch := first | assumption | omega | (with_unfolding_all exact id rfl) | exact Nat.le_of_ble_eq_true rfl | fail) only [Env.put_some, Env.put_none, Env.set_app, Nat.reduceEqDiff, ↓reduceIte, Bool.not_true, Bool.not_false, h0, hp3, hb3, hk2]; done)))
          refine xe1c (fun w' hw => (by simp (disch := first | assumption | omega | (with_unfolding_all exact id rfl) | exact Nat.le_of_ble_eq_true rfl | fail) only [Bool.not_true, Bool.not_false, vR_ok, uR_ok, ev_tmp, ev_const, ev_func, Env.put_some, Env.put_none, Env.set_app, Nat.reduceEqDiff, ↓reduceIte, rG_move, rG_assign, opt1_some, ext_all, dec_t, dec_f, beq_t, beq_f, bne_t, bne_f, wrap_i64, wrap_u64, Int.toNat_natCast, Nat.mul_one, Nat.zero_add, Nat.add_zero, List.map_toArray, List.map_cons, List.map_nil, rG_store, st191, stN_1, stN_2, stN_3, stN_4, stN_5, stN_6, stN_7, stN_8, vcs_int, vcs_bool, vcs_ptr, vcs_slice, vcs_map, vcs_nil, vcs_iface, vcs_aggL, List.length_cons, List.length_nil, Nat.reduceAdd, rG_binOp, binR_sub, rG_load, ld191, List.getElem?_toArray, List.getElem?_cons_zero, List.getElem?_cons_succ, ldN_some, rdN_cells, rG_fieldAddr, fa191_0, rG_build, binR_and, ld172, ld1_some, rd1_cells, rG_alloc_191, Value.cells, resM_1, ld4, fa191_2, rG_unOp, unR_not, fa174_1, rG_len, ln172, binR_add, rG_nilCheck, nilR_ptr, call155, st3, ld3, ld189, rG_indexAddr, ia172, fa174_0, h0] <;> rfl)) (fun w' hw => ufind_calls (hU3.ext hw) hf2) ?_
          repeat (first | (refine xe0 (fun w => (by simp (disch := first | assumption | omega | (with_unfolding_all exact id rfl) | exact Nat.le_of_ble_eq_true rfl | fail) only [Bool.not_true, Bool.not_false, vR_ok, uR_ok, ev_tmp, ev_const, ev_func, Env.put_some, Env.put_none, Env.set_app, Nat.reduceEqDiff, ↓reduceIte, rG_move, rG_assign, opt1_some, ext_all, dec_t, dec_f, beq_t, beq_f, bne_t, bne_f, wrap_i64, wrap_u64, Int.toNat_natCast, Nat.mul_one, Nat.zero_add, Nat.add_zero, List.map_toArray, List.map_cons, List.map_nil, rG_store, st191, stN_1, stN_2, stN_3, stN_4, stN_5, stN_6, stN_7, stN_8, vcs_int, vcs_bool, vcs_ptr, vcs_slice, vcs_map, vcs_nil, vcs_iface, vcs_aggL, List.length_cons, List.length_nil, Nat.reduceAdd, rG_binOp, binR_sub, rG_load, ld191, List.getElem?_toArray, List.getElem?_cons_zero, List.getElem?_cons_succ, ldN_some, rdN_cells, rG_fieldAddr, fa191_0, rG_build, binR_and, ld172, ld1_some, rd1_cells, rG_alloc_191, Value.cells, resM_1, ld4, fa191_2, rG_unOp, unR_not, fa174_1, rG_len, ln172, binR_add, rG_nilCheck, nilR_ptr, call155, st3, ld3, ld189, rG_indexAddr, ia172, fa174_0, h0, hb3, hk4] <;> rfl)) ?_) | (refine xe1e (fun w' hw => (by simp (disch := first | assumption | omega | (with_unfolding_all exact id rfl) | exact Nat.le_of_ble_eq_true rfl | fail) only [Bool.not_true, Bool.not_false, vR_ok, uR_ok, ev_tmp, ev_const, ev_func, Env.put_some, Env.put_none, Env.set_app, Nat.reduceEqDiff, ↓reduceIte, rG_move, rG_assign, opt1_some, ext_all, dec_t, dec_f, beq_t, beq_f, bne_t, bne_f, wrap_i64, wrap_u64, Int.toNat_natCast, Nat.mul_one, Nat.zero_add, Nat.add_zero, List.map_toArray, List.map_cons, List.map_nil, rG_store, st191, stN_1, stN_2, stN_3, stN_4, stN_5, stN_6, stN_7, stN_8, vcs_int, vcs_bool, vcs_ptr, vcs_slice, vcs_map, vcs_nil, vcs_iface, vcs_aggL, List.length_cons, List.length_nil, Nat.reduceAdd, rG_binOp, binR_sub, rG_load, ld191, List.getElem?_toArray, List.getElem?_cons_zero, List.getElem?_cons_succ, ldN_some, rdN_cells, rG_fieldAddr, fa191_0, rG_build, binR_and, ld172, ld1_some, rd1_cells, rG_alloc_191, Value.cells, resM_1, ld4, fa191_2, rG_unOp, unR_not, fa174_1, rG_len, ln172, binR_add, rG_nilCheck, nilR_ptr, call155, st3, ld3, ld189, rG_indexAddr, ia172, fa174_0, h0, hb3, hk4] <;> rfl)) ?_) | (refine xe2x (by simp (disch := first | assumption | omega | (with_unfolding_all exact id rfl) | exact Nat.le_of_ble_eq_true rfl | fail) only [Bool.not_true, Bool.not_false, vR_ok, uR_ok, ev_tmp, ev_const, ev_func, Env.put_some, Env.put_none, Env.set_app, Nat.reduceEqDiff, ↓reduceIte, rG_move, rG_assign, opt1_some, ext_all, dec_t, dec_f, beq_t, beq_f, bne_t, bne_f, wrap_i64, wrap_u64, Int.toNat_natCast, Nat.mul_one, Nat.zero_add, Nat.add_zero, List.map_toArray, List.map_cons, List.map_nil, rG_store, st191, stN_1, stN_2, stN_3, stN_4, stN_5, stN_6, stN_7, stN_8, vcs_int, vcs_bool, vcs_ptr, vcs_slice, vcs_map, vcs_nil, vcs_iface, vcs_aggL, List.length_cons, List.length_nil, Nat.reduceAdd, rG_binOp, binR_sub, rG_load, ld191, List.getElem?_toArray, List.getElem?_cons_zero, List.getElem?_cons_succ, ldN_some, rdN_cells, rG_fieldAddr, fa191_0, rG_build, binR_and, ld172, ld1_some, rd1_cells, rG_alloc_191, Value.cells, resM_1, ld4, fa191_2, rG_unOp, unR_not, fa174_1, rG_len, ln172, binR_add, rG_nilCheck, nilR_ptr, call155, st3, ld3, ld189, rG_indexAddr, ia172, fa174_0, h0, hb3, hk4] <;> rfl) ?_; (first | with_reducible refine kv ?_ | with_reducible refine ks ?_ | with_reducible refine ke ?_)) | (refine xe0_t ?_ ?_; focus (simp (disch := first | assumption | omega | (with_unfolding_all exact id rfl) | exact Nat.le_of_ble_eq_true rfl | fail) only [Env.put_some, Env.put_none, Env.set_app, Nat.reduceEqDiff, ↓reduceIte, Bool.not_true, Bool.not_false, h0, hb3, hk4]; done)) | (refine xe1_t ?_ ?_; focus (simp (disch := first | assumption | omega | (with_unfolding_all exact id rfl) | exact Nat.le_of_ble_eq_true rfl | fail) only [Env.put_some, Env.put_none, Env.set_app, Nat.reduceEqDiff, ↓reduceIte, Bool.not_true, Bool.not_false, h0, hb3, hk4]; done)) | (refine xe0_f ?_ ?_; focus (simp (disch := first | assumption | omega | (with_unfolding_all exact id rfl) | exact Nat.le_of_ble_eq_true rfl | fail) only [Env.put_some, Env.put_none, Env.set_app, Nat.reduceEqDiff, ↓reduceIte, Bool.not_true, Bool.not_false, h0, hb3, hk4]; done)) | (refine xe1_f ?_ ?_; focus (simp (disch := first | assumption | omega | (with_unfolding_all exact id rfl) | exact Nat.le_of_ble_eq_true rfl | fail) only [Env.put_some, Env.put_none, Env.set_app, Nat.reduceEqDiff, ↓reduceIte, Bool.not_true, Bool.not_false, h0, hb3, hk4]; done)) | (refine xe0_u ?_ ?_; focus (simp (disch := first | assumption | omega | (with_unfolding_all exact id rfl) | exact Nat.le_of_ble_eq_true rfl | fail) only [Env.put_some, Env.put_none, Env.set_app, Nat.reduceEqDiff, ↓reduceIte, Bool.not_true, Bool.not_false, h0, hb3, hk4]; done)) | (refine xe1_u ?_ ?_; focus (simp (disch := first | assumption | omega | (with_unfolding_all exact id rfl) | exact Nat.le_of_ble_eq_true rfl | fail) only [Env.put_some, Env.put_none, Env.set_app, Nat.reduceEqDiff, ↓reduceIte, Bool.not_true, Bool.not_false, h0, hb3, hk4]; done)))
          refine xe2 fun w4 hE4 => ?_
          have hU4 := hU3.ext hE4
          have hsl4 := hU4.sl
          refine kr (by simp (disch := first | assumption | omega | (with_unfolding_all exact id rfl) | exact Nat.le_of_ble_eq_true rfl | fail) only [Bool.not_true, Bool.not_false, vR_ok, uR_ok, ev_tmp, ev_const, ev_func, Env.put_some, Env.put_none, Env.set_app, Nat.reduceEqDiff, ↓reduceIte, rG_move, rG_assign, opt1_some, ext_all, dec_t, dec_f, beq_t, beq_f, bne_t, bne_f, wrap_i64, wrap_u64, Int.toNat_natCast, Nat.mul_one, Nat.zero_add, Nat.add_zero, List.map_toArray, List.map_cons, List.map_nil, rG_store, st191, stN_1, stN_2, stN_3, stN_4, stN_5, stN_6, stN_7, stN_8, vcs_int, vcs_bool, vcs_ptr, vcs_slice, vcs_map, vcs_nil, vcs_iface, vcs_aggL, List.length_cons, List.length_nil, Nat.reduceAdd, rG_binOp, binR_sub, rG_load, ld191, List.getElem?_toArray, List.getElem?_cons_zero, List.getElem?_cons_succ, ldN_some, rdN_cells, rG_fieldAddr, fa191_0, rG_build, binR_and, ld172, ld1_some, rd1_cells, rG_alloc_191, Value.cells, resM_1, ld4, fa191_2, rG_unOp, unR_not, fa174_1, rG_len, ln172, binR_add, rG_nilCheck, nilR_ptr, call155, st3, ld3, ld189, rG_indexAddr, ia172, fa174_0, hsl4, hset2] <;> rfl) ?_
          first | with_reducible refine kv ?_ | with_reducible refine ks ?_ | with_reducible refine ke ?_
          refine xe_nil ?_
          rintro _ rfl
          simp only [X_skip, X_exit, X_ret, X_block, thenX_normal, thenX_ret, thenX_exit, inX_normal, inX_ret, inX_exit, ↓reduceIte, Nat.reduceEqDiff]
          (try refine xo_nil ?_)
          refine hK _ _ ?_
          clear hK K
          have hU5 := hU4.row (i := i2) (by omega) (some ((x, y), z))
          have hC4 := hC3.trans (hE4.chg (fun _ => False)) (fun _ _ h => h.elim)
          have hnx := h.next hpcl
          have hcs : cyc T.length pc 1 = cyc T.length b (c + 1) := by rw [← hpc]; exact cyc_succ hb' hcl
          (try simp only [X_reg, thenX_normal])
          repeat (first | (refine xo (by simp (disch := first | assumption | omega | (with_unfolding_all exact id rfl) | exact Nat.le_of_ble_eq_true rfl | fail) only [Bool.not_true, Bool.not_false, vR_ok, uR_ok, ev_tmp, ev_const, ev_func, Env.put_some, Env.put_none, Env.set_app, Nat.reduceEqDiff, ↓reduceIte, rG_move, rG_assign, opt1_some, ext_all, dec_t, dec_f, beq_t, beq_f, bne_t, bne_f, wrap_i64, wrap_u64, Int.toNat_natCast, Nat.mul_one, Nat.zero_add, Nat.add_zero, List.map_toArray, List.map_cons, List.map_nil, rG_store, st191, stN_1, stN_2, stN_3, stN_4, stN_5, stN_6, stN_7, stN_8, vcs_int, vcs_bool, vcs_ptr, vcs_slice, vcs_map, vcs_nil, vcs_iface, vcs_aggL, List.length_cons, List.length_nil, Nat.reduceAdd, rG_binOp, binR_sub, rG_load, ld191, List.getElem?_toArray, List.getElem?_cons_zero, List.getElem?_cons_succ, ldN_some, rdN_cells, rG_fieldAddr, fa191_0, rG_build, binR_and, ld172, ld1_some, rd1_cells, rG_alloc_191, Value.cells, resM_1, ld4, fa191_2, rG_unOp, unR_not, fa174_1, rG_len, ln172, binR_add, rG_nilCheck, nilR_ptr, call155, st3, ld3, ld189, rG_indexAddr, ia172, fa174_0, h9, h8, hnx] <;> rfl) ?_; first | with_reducible refine kv ?_ | with_reducible refine ks ?_ | with_reducible refine ke ?_) | (refine xo_t ?_ ?_; focus (simp (disch := first | assumption | omega | (with_unfolding_all exact id rfl) | exact Nat.le_of_ble_eq_true rfl | fail) only [Env.put_some, Env.put_none, Env.set_app, Nat.reduceEqDiff, ↓reduceIte, Bool.not_true, Bool.not_false, h9, h8, hnx]; done)) | (refine xo_f ?_ ?_; focus (simp (disch := first | assumption | omega | (with_unfolding_all exact id rfl) | exact Nat.le_of_ble_eq_true rfl | fail) only [Env.put_some, Env.put_none, Env.set_app, Nat.reduceEqDiff, ↓reduceIte, Bool.not_true, Bool.not_false, h9, h8, hnx]; done)) | (refine xo_u ?_ ?_; focus (simp (disch := first | assumption | omega | (with_unfolding_all exact id rfl) | exact Nat.le_of_ble_eq_true rfl | fail) only [Env.put_some, Env.put_none, Env.set_app, Nat.reduceEqDiff, ↓reduceIte, Bool.not_true, Bool.not_false, h9, h8, hnx]; done)))
          refine xo_nil ⟨⟨c + 1, _, ?_, ?_, ?_, hU5, r4, by rw [List.length_set]; exact hlp, hcn1, fun k v => by rw [r5, hM], hC4.upd (fun _ => .inr rfl) _⟩, ?_⟩
          · rw [← hcs]
            (try simp (disch := first | assumption | omega | (with_unfolding_all exact id rfl) | exact Nat.le_of_ble_eq_true rfl | fail) only [Env.put_some, Env.put_none, Env.set_app, Nat.reduceEqDiff, ↓reduceIte, nat_int, Int.toNat_natCast, wrap_i64])
          · (try simp (disch := first | assumption | omega | (with_unfolding_all exact id rfl) | exact Nat.le_of_ble_eq_true rfl | fail) only [Env.put_some, Env.put_none, Env.set_app, Nat.reduceEqDiff, ↓reduceIte, nat_int, Int.toNat_natCast, wrap_i64, h8])
          · (try simp (disch := first | assumption | omega | (with_unfolding_all exact id rfl) | exact Nat.le_of_ble_eq_true rfl | fail) only [Env.put_some, Env.put_none, Env.set_app, Nat.reduceEqDiff, ↓reduceIte, nat_int, Int.toNat_natCast, wrap_i64, h0])
          · rw [hn9, hcrd]
            (try simp (disch := first | assumption | omega | (with_unfolding_all exact id rfl) | exact Nat.le_of_ble_eq_true rfl | fail) only [Env.put_some, Env.put_none, Env.set_app, Nat.reduceEqDiff, ↓reduceIte, nat_int, Int.toNat_natCast, wrap_i64])
            rw [hcs, crd_cyc hb' (by omega)]
            omega
    · rintro e w4 ⟨T', hU', hI', hl', hcn', hM', hC'⟩
      refine X_seq fun K hK => ?_
      simp only [X_reg, thenX_normal]
      repeat (first | (refine xo (by simp (disch := first | assumption | omega | (with_unfolding_all exact id rfl) | exact Nat.le_of_ble_eq_true rfl | fail) only [Bool.not_true, Bool.not_false, vR_ok, uR_ok, ev_tmp, ev_const, ev_func, Env.put_some, Env.put_none, Env.set_app, Nat.reduceEqDiff, ↓reduceIte, rG_move, rG_assign, opt1_some, ext_all, dec_t, dec_f, beq_t, beq_f, bne_t, bne_f, wrap_i64, wrap_u64, Int.toNat_natCast, Nat.mul_one, Nat.zero_add, Nat.add_zero, List.map_toArray, List.map_cons, List.map_nil, rG_store, st191, stN_1, stN_2, stN_3, stN_4, stN_5, stN_6, stN_7, stN_8, vcs_int, vcs_bool, vcs_ptr, vcs_slice, vcs_map, vcs_nil, vcs_iface, vcs_aggL, List.length_cons, List.length_nil, Nat.reduceAdd, rG_binOp, binR_sub, rG_load, ld191, List.getElem?_toArray, List.getElem?_cons_zero, List.getElem?_cons_succ, ldN_some, rdN_cells, rG_fieldAddr, fa191_0, rG_build, binR_and, ld172, ld1_some, rd1_cells, rG_alloc_191, Value.cells, resM_1, ld4, fa191_2, rG_unOp, unR_not, fa174_1, rG_len, ln172, binR_add, rG_nilCheck, nilR_ptr, call155, st3, ld3, ld189, rG_indexAddr, ia172, fa174_0] <;> rfl) ?_; first | with_reducible refine kv ?_ | with_reducible refine ks ?_ | with_reducible refine ke ?_) | (refine xo_t ?_ ?_; focus (simp (disch := first | assumption | omega | (with_unfolding_all exact id rfl) | exact Nat.le_of_ble_eq_true rfl | fail) only [Env.put_some, Env.put_none, Env.set_app, Nat.reduceEqDiff, ↓reduceIte, Bool.not_true, Bool.not_false]; done)) | (refine xo_f ?_ ?_; focus (simp (disch := first | assumption | omega | (with_unfolding_all exact id rfl) | exact Nat.le_of_ble_eq_true rfl | fail) only [Env.put_some, Env.put_none, Env.set_app, Nat.reduceEqDiff, ↓reduceIte, Bool.not_true, Bool.not_false]; done)) | (refine xo_u ?_ ?_; focus (simp (disch := first | assumption | omega | (with_unfolding_all exact id rfl) | exact Nat.le_of_ble_eq_true rfl | fail) only [Env.put_some, Env.put_none, Env.set_app, Nat.reduceEqDiff, ↓reduceIte, Bool.not_true, Bool.not_false]; done)))
      refine xo_nil ?_
      refine hK _ _ ?_
      clear hK K
      simp (disch := first | assumption | omega | (with_unfolding_all exact id rfl) | exact Nat.le_of_ble_eq_true rfl | fail) only [X_ret, thenX_ret, inX_ret, retX_ret, retX_normal, Try.results136, resM_0, resM_1, resM_2, resM_3, resM_4, Env.put_some, Env.put_none, Env.set_app, Nat.reduceEqDiff, ↓reduceIte]
      exact ⟨_, rfl, many - 1, T', hU', ⟨hI', hcn', by rw [hl']; omega, by omega⟩, hl', hC', .inr ⟨rfl, rfl, ⟨v, i, hv⟩, hM'⟩⟩
end Go.Proofs.Ytpeindhocndmnaa

namespace Go.Bx
open Go
set_option linter.unusedSimpArgs false
set_option linter.unusedVariables false
def luO (P : Program) (t : TypeId) (b : Nat) (k : Value) (c : Bool) (w : World) (ob : Option Obj) (_ : w.heap[b]? = ob) : Result Value := luR P t (.map (some b)) k c w
def muO (P : Program) (t : TypeId) (b : Nat) (k v : Value) (w : World) (ob : Option Obj) (_ : w.heap[b]? = ob) : Result Unit := muR P t (.map (some b)) k v w
def meR (P : Program) (t : TypeId) (a k : Value) (w : World) : Result Value := (Instr.mapEntry t a k).run P w
def meO (P : Program) (t : TypeId) (b : Nat) (k : Value) (w : World) (ob : Option Obj) (_ : w.heap[b]? = ob) : Result Value := meR P t (.map (some b)) k w
def esR (P : Program) (t : TypeId) (a s v : Value) (w : World) : Result Unit := (Instr.entryStore t a s v).run P w
def esO (P : Program) (t : TypeId) (b : Nat) (s v : Value) (w : World) (ob : Option Obj) (_ : w.heap[b]? = ob) : Result Unit := esR P t (.map (some b)) s v w
def lnO (P : Program) (t : TypeId) (b : Nat) (w : World) (ob : Option Obj) (_ : w.heap[b]? = ob) : Result Value := lnR P t (.map (some b)) w
section
variable {P : Program} {t ty : TypeId} {e : Env} {w : World} {x y z : Operand} {b : Nat} {k v : Value} {c : Bool}
theorem luR_map : luR P t (.map (some b)) k c w = luO P t b k c w (w.heap[b]?) rfl := rfl
theorem muR_map : muR P t (.map (some b)) k v w = muO P t b k v w (w.heap[b]?) rfl := rfl
theorem meR_map : meR P t (.map (some b)) k w = meO P t b k w (w.heap[b]?) rfl := rfl
theorem esR_map {s : Value} : esR P t (.map (some b)) s v w = esO P t b s v w (w.heap[b]?) rfl := rfl
theorem lnR_map : lnR P t (.map (some b)) w = lnO P t b w (w.heap[b]?) rfl := rfl
end
attribute [push_cast] luR_map muR_map meR_map esR_map lnR_map
structure MInv {κ : Type} (es : List (Ent κ)) (clock : Nat) : Prop where
  keys : (es.map (·.1)).Nodup
  born : ∀ e ∈ es, e.2.2 < clock
  borns : (es.map (·.2.2)).Nodup
theorem MInv.nil {κ : Type} : MInv ([] : List (Ent κ)) 0 := ⟨List.nodup_nil, fun _ h => (by cases h), List.nodup_nil⟩
section
variable {κ : Type} [DecidableEq κ] {kf : κ → Value} {ok : κ → Prop} {P : Program} {w w' : World} {t kt et b clock sz by_ s2 b2 : Nat} {z zv : Value} {de : TypeDesc} {es : List (Ent κ)} {k : κ}
abbrev mObj (kf : κ → Value) (es : List (Ent κ)) (clock : Nat) : Obj := .map (es.map (mEnt kf)).toArray clock
theorem MInv.put (h : MInv es clock) (k : κ) (v : Value) : MInv (mput es k v clock) (mclock es k clock) := by
  have hM : MapK (fun _ : κ => Value.bool true) (fun _ => True) ((default : World).alloc (mObj (fun _ : κ => Value.bool true) es clock)) (default : World).heap.size es clock := ⟨alloc_new, h.keys, fun _ _ => trivial, h.born, h.borns⟩
  have := hM.put (k := k) (v := v) trivial
  exact ⟨this.keys, this.born, this.borns⟩
def stampOf (es : List (Ent κ)) (k : κ) (clock : Nat) : Nat := match mfind es k with
  | some (i, _) => ((es[i]?).map (·.2.2)).getD 0
  | none => clock
theorem lookup_at (hb : w.heap[b]? = some (mObj kf es clock)) (ht : TI P t (.map kt et) sz by_ z) (he : TI P et de s2 b2 zv) (hk : KeyOK P kt kf ok) (hok : ok k) (hall : ∀ e ∈ es, ok e.1) (c : Bool) :
    luR P t (.map (some b)) (kf k) c w = .ok (if c then .tuple #[(mget es k).getD zv, .bool (mget es k).isSome] else (mget es k).getD zv) w := by
  simp only [luR, Instr.lookup, Sem.run_bind, ht.underlying, Result.andThen_ok, MapKept.run_getObj_map hb, List.toList_toArray]
  (try simp only [Sem.run_pure, Result.andThen_ok, List.toList_toArray])
  rw [hk.check _ _ _ hok]
  simp only [Result.andThen_ok, Sem.run_bind]
  rw [hk.find k es w hok hall]
  simp only [Result.andThen_ok]
  unfold mget
  cases hm : mfind es k with
  | none => cases c <;> simp [he.zeroValue, pure, Sem.run]
  | some r => cases c <;> simp [pure, Sem.run]
theorem update_at (hb : w.heap[b]? = some (mObj kf es clock)) (ht : TI P t (.map kt et) sz by_ z) (hk : KeyOK P kt kf ok) (hok : ok k) (hall : ∀ e ∈ es, ok e.1) (v : Value) :
    muR P t (.map (some b)) (kf k) v w = .ok () (upd w b (mObj kf (mput es k v clock) (mclock es k clock))) := by
  simp only [muR, Instr.mapUpdate, Sem.run_bind, ht.underlying, Result.andThen_ok, MapKept.run_getObj_map hb, List.toList_toArray]
  (try simp only [Sem.run_pure, Result.andThen_ok, List.toList_toArray])
  rw [hk.check _ _ _ hok]
  simp only [Result.andThen_ok, Sem.run_bind]
  rw [hk.find k es w hok hall]
  simp only [Result.andThen_ok]
  unfold mput mclock
  cases hm : mfind es k with
  | none =>
    simp only [Option.isSome_none, Bool.false_eq_true, if_false, MapKept.run_setObj_map _ hb]
    simp [set_upd, mEnt, mObj]
  | some r =>
    obtain ⟨i, u⟩ := r
    obtain ⟨_, bb, hi⟩ := mfindFrom_some hm
    rw [Nat.sub_zero] at hi
    have h1 : (((es.map (mEnt kf)).toArray[i]?).map (·.key)).getD (kf k) = kf k := by
      simp [hi, mEnt]
    simp only [Option.isSome_some, if_true, Sem.run_bind, h1, hk.stay k w hok, Result.andThen_ok, MapKept.run_setObj_map _ hb, set_upd]
    congr 3
    apply Array.ext_getElem?
    intro j
    simp only [Array.getElem?_modify, List.getElem?_toArray, List.getElem?_map, List.getElem?_modify]
    by_cases hj : i = j
    · subst hj; simp [hi, mEnt]
    · simp [hj]
end
attribute [push_cast] Option.getD_some Option.getD_none
end Go.Bx

namespace Go.Bx
open Go
set_option linter.unusedSimpArgs false
set_option linter.unusedVariables false
structure Sl (w : World) (E s : Nat) (a : Option Addr) (cap : Nat) (rows : List (List Value)) : Prop where
  l : Lst w E s a rows.length cap rows.flatten
  len : ∀ r ∈ rows, r.length = s
theorem flat_len {s : Nat} : ∀ {rows : List (List Value)}, (∀ r ∈ rows, r.length = s) → rows.flatten.length = rows.length * s
  | [], _ => by simp
  | r :: rs, h => by
    rw [List.flatten_cons, List.length_append, flat_len (fun x hx => h x (by simp [hx])), h r (by simp), List.length_cons, Nat.succ_mul, Nat.add_comm]
theorem flat_get {s : Nat} : ∀ {rows : List (List Value)}, (∀ r ∈ rows, r.length = s) → ∀ {i : Nat} {x : List Value}, rows[i]? = some x → ∀ j u, x[j]? = some u → rows.flatten[i * s + j]? = some u
  | [], _, i, x, hx, _, _, _ => by cases hx
  | r :: rs, h, 0, x, hx, j, u, hj => by
    cases hx
    rw [Nat.zero_mul, Nat.zero_add, List.flatten_cons, List.getElem?_append_left (List.getElem?_eq_some_iff.1 hj).1]; exact hj
  | r :: rs, h, i + 1, x, hx, j, u, hj => by
    have := flat_get (fun y hy => h y (by simp [hy])) (by simpa using hx : rs[i]? = some x) j u hj
    rw [List.flatten_cons, List.getElem?_append_right (by rw [h r (by simp), Nat.succ_mul]; omega), h r (by simp)]
    rw [← this]; congr 1; rw [Nat.succ_mul]; omega
theorem flat_take {s : Nat} : ∀ {rows : List (List Value)}, (∀ r ∈ rows, r.length = s) → ∀ k, k ≤ rows.length → (rows.take k).flatten = rows.flatten.take (k * s)
  | [], _, 0, _ => by simp
  | r :: rs, h, 0, _ => by simp
  | r :: rs, h, k + 1, hk => by
    have hr := h r (by simp)
    rw [List.take_succ_cons, List.flatten_cons, List.flatten_cons, flat_take (fun y hy => h y (by simp [hy])) k (by simpa using hk), List.take_append, hr, Nat.succ_mul]
    rw [show k * s + s - s = k * s by omega, List.take_of_length_le (by rw [hr]; omega : r.length ≤ k * s + s)]
theorem blk_g {b o g : Nat} {s : Option Nat} (h : blk (some ⟨b, o, s⟩) = some g) : b = g := Option.some.inj h
section
variable {w w' : World} {E s : Nat} {a : Option Addr} {cap : Nat} {rows news : List (List Value)} {P : Program} {t by_ : Nat} {d : TypeDesc} {z : Value} {sz1 by1 : Nat} {z1 : Value}
theorem Sl.nil (w : World) (E s : Nat) : Sl w E s none 0 [] := ⟨Lst.nil w E s, fun _ h => by cases h⟩
theorem Sl.made {g : Nat} (hg : w.heap[g]? = some (.cells rows.flatten.toArray E (0, 0))) (h : ∀ r ∈ rows, r.length = s) (hm : rows.length ≤ 1099511627776) : Sl w E s (some ⟨g, 0, none⟩) rows.length rows :=
  ⟨⟨flat_len h, .inr ⟨g, _, rfl, hg, Nat.le_refl _, by simp only [maxLen]; omega, by rw [List.size_toArray, flat_len h], by rw [← flat_len h, List.take_length]⟩⟩, h⟩
theorem Sl.keep (h : Sl w E s a cap rows) (hk : ∀ g, blk a = some g → w'.heap[g]? = w.heap[g]?) : Sl w' E s a cap rows := ⟨h.l.keep hk, h.len⟩
theorem Sl.lt (h : Sl w E s a cap rows) {g : Nat} (hg : blk a = some g) : g < w.heap.size := h.l.lt hg
theorem Sl.chg {F : Nat → Prop} (h : Sl w E s a cap rows) (hC : Chg F w w') (hne : ∀ g, blk a = some g → ¬ F g) : Sl w' E s a cap rows := ⟨h.l.chg hC hne, h.len⟩
theorem Sl.ext (h : Sl w E s a cap rows) (hC : Ext w w') : Sl w' E s a cap rows := ⟨h.l.ext hC, h.len⟩
theorem Sl.take (h : Sl w E s a cap rows) {k : Nat} (hk : k ≤ rows.length) : Sl w E s a cap (rows.take k) :=
  ⟨by have := h.l.take hk; rw [← flat_take h.len k hk] at this; rwa [List.length_take, Nat.min_eq_left hk], fun r hr => h.len r (List.mem_of_mem_take hr)⟩
theorem Sl.at (h : Sl w E s a cap rows) {i : Nat} {x : List Value} (hx : rows[i]? = some x) :
    ∃ g cur, a = some ⟨g, 0, none⟩ ∧ w.heap[g]? = some (.cells cur E (0, 0)) ∧ rows.length ≤ cap ∧ i < rows.length ∧ ∀ j u, x[j]? = some u → cur[i * s + j]? = some u := by
  have hi := (List.getElem?_eq_some_iff.1 hx).1
  obtain ⟨g, cur, h1, h2, h3, h4, h5⟩ := h.l.at (by omega)
  refine ⟨g, cur, h1, h2, h3, hi, fun j u hj => ?_⟩
  have hj' := (List.getElem?_eq_some_iff.1 hj).1
  have hxl := h.len x (List.mem_of_getElem? hx)
  have : i * s + j < rows.length * s := by
    have : (i + 1) * s ≤ rows.length * s := Nat.mul_le_mul_right _ hi
    rw [Nat.succ_mul] at this
    omega
  rw [h5 _ this]
  exact flat_get h.len hx j u hj
theorem Sl.inp (h : Sl w E s a cap rows) : Inp w s a rows := by
  rcases h.l.row with ⟨rfl, h0, _⟩ | ⟨g, cur, rfl, hg, h1, h2, h3, h4⟩
  · exact .inl (List.eq_nil_of_length_eq_zero h0)
  · refine .inr ⟨g, 0, cur, E, (0, 0), rfl, hg, fun i x hx j u hj => ?_⟩
    obtain ⟨g', cur', he, hg', _, _, h5⟩ := h.at hx
    cases he
    rw [hg] at hg'
    cases hg'
    rw [Nat.zero_add]
    exact h5 j u hj
theorem Inp.ext (h : Inp w s a rows) (hE : Ext w w') : Inp w' s a rows := by
  rcases h with rfl | ⟨b, o, c, E, fz, h1, h2, h3⟩
  · exact .inl rfl
  · exact .inr ⟨b, o, c, E, fz, h1, by rw [hE.heap b (lt_of_heap h2)]; exact h2, h3⟩
theorem ap_none {n : Nat} (hn : n ≤ cap) (ht : TI P t (.slice E) sz1 by1 z1) (hE : TI P E d s by_ z) {b0 : Option Addr} {c : Nat} :
    apR P t (.slice a n cap) (.slice b0 0 c) w = .ok (.slice a n cap) w := by
  obtain ⟨i, hi, hi1, hi2, hi3⟩ := hE.inf
  cases b0 <;> cases a <;>
    simp [apR, Builtin.append_, run_underlying ht.und, sizeOf, typeInfo, hi, Builtin.lenOf, Builtin.firstCells, loadCells, loadCellsFrom, hn, storeCells, pure, Sem.run]
theorem Inp.cells (h : Inp w s a rows) (hr : ∀ r ∈ rows, r.length = s) (hne : rows ≠ []) : ∃ b o c E fz, a = some ⟨b, o, none⟩ ∧ w.heap[b]? = some (.cells c E fz) ∧ ∀ j u, rows.flatten[j]? = some u → c[o + j]? = some u := by
  rcases h with rfl | ⟨b, o, c, E, fz, h1, h2, h3⟩
  · exact absurd rfl hne
  · refine ⟨b, o, c, E, fz, h1, h2, fun j u hj => ?_⟩
    have hl := flat_len hr
    have hjl := (List.getElem?_eq_some_iff.1 hj).1
    rw [hl] at hjl
    have hs : 0 < s := by rcases Nat.eq_zero_or_pos s with rfl | h; · omega
                          · exact h
    have hi : j / s < rows.length := (Nat.div_lt_iff_lt_mul hs).2 hjl
    obtain ⟨x, hx⟩ : ∃ x, rows[j / s]? = some x := ⟨rows[j / s], List.getElem?_eq_getElem hi⟩
    have hxl := hr x (List.mem_of_getElem? hx)
    obtain ⟨v, hv⟩ : ∃ v, x[j % s]? = some v := ⟨x[j % s]'(by rw [hxl]; exact Nat.mod_lt _ hs), List.getElem?_eq_getElem _⟩
    have h4 := flat_get hr hx _ v hv
    have h5 := h3 _ _ hx _ v hv
    rw [Nat.div_add_mod' j s] at h4
    rw [Nat.add_assoc, Nat.div_add_mod' j s] at h5
    rw [hj] at h4
    cases h4
    exact h5
theorem Sl.append (h : Sl w E s a cap rows) (ht : TI P t (.slice E) sz1 by1 z1) (hE : TI P E d s by_ z) (hz : z.cells.size = s) (hs : 0 < s) {b0 : Option Addr} {c : Nat} (hI : Inp w s b0 news) (hr : ∀ r ∈ news, r.length = s) (h1 : news.flatten.all isCell = true)
    (hmax : rows.length + news.length ≤ 1099511627776) (hby : by_ ≤ 64) :
    ∃ a' cap' w', apR P t (.slice a rows.length cap) (.slice b0 news.length c) w = .ok (.slice a' (rows ++ news).length cap') w' ∧ Sl w' E s a' cap' (rows ++ news) ∧ Chg (fun k => blk a = some k) w w' ∧ (∀ g, blk a' = some g → blk a = some g ∨ (w.heap.size ≤ g ∧ g < w'.heap.size)) := by
  have hlen : ∀ r ∈ rows ++ news, r.length = s := fun r hm => (List.mem_append.1 hm).elim (h.len r) (hr r)
  by_cases hne : news = []
  · subst hne
    have hn : rows.length ≤ cap := by rcases h.l.row with ⟨_, h0, h2⟩ | ⟨_, _, _, _, h2, _⟩ <;> omega
    refine ⟨a, cap, w, ?_, ?_, Chg.refl _ _, fun g hg => .inl hg⟩
    · rw [List.append_nil]; exact ap_none hn ht hE
    · rw [List.append_nil]; exact h
  · obtain ⟨b, o, cs, T, fz, rfl, hb, hc⟩ := hI.cells hr hne
    have hm : rows.length + news.length ≤ maxLen := by simp only [maxLen]; omega
    have hb2 : (rows.length + news.length) * by_ ≤ 140737488355328 := Nat.le_trans (Nat.mul_le_mul hmax hby) (by decide)
    obtain ⟨a', cap', w', g1, g2, g3, g4⟩ := h.l.append (c := c) ht hE hz hs hb (flat_len hr) hc h1 hm hb2
    refine ⟨a', cap', w', by rw [List.length_append]; exact g1, ⟨?_, hlen⟩, g3, g4⟩
    rw [List.length_append, List.flatten_append]; exact g2
theorem Sl.push (h : Sl w E s a cap rows) (ht : TI P t (.slice E) sz1 by1 z1) (hE : TI P E d s by_ z) (hz : z.cells.size = s) (hs : 0 < s) {us : Array Value} {m c b0 : Nat} (hu : us = news.flatten.toArray) (hb : b0 = w.heap.size) (hm : m = news.length) (hr : ∀ r ∈ news, r.length = s) (h1 : news.flatten.all isCell = true)
    (hmax : rows.length + news.length ≤ 1099511627776) (hby : by_ ≤ 64) :
    ∃ a' cap' w', apR P t (.slice a rows.length cap) (.slice (some ⟨b0, 0, none⟩) m c) (w.alloc (.cells us E)) = .ok (.slice a' (rows ++ news).length cap') w' ∧ Sl w' E s a' cap' (rows ++ news) ∧ Chg (fun k => blk a = some k) w w' ∧ w.heap.size < w'.heap.size ∧ (∀ g, blk a' = some g → blk a = some g ∨ (w.heap.size ≤ g ∧ g < w'.heap.size)) := by
  subst hu hb hm
  have h' : Sl (w.alloc (.cells news.flatten.toArray E)) E s a cap rows := h.ext ((Ext.refl w).alloc _)
  obtain ⟨a', c', w', g1, g2, g3, g4⟩ := h'.append (P := P) (c := c) ht hE hz hs (b0 := some ⟨w.heap.size, 0, none⟩) (news := news) (.inr ⟨w.heap.size, 0, _, E, (0, 0), rfl, alloc_new, fun i x hx j u hj => by
    rw [Nat.zero_add]
    have := flat_get hr hx j u hj
    simpa using this⟩) hr h1 hmax hby
  have hsz := g3.size
  rw [alloc_size] at hsz
  refine ⟨a', c', w', g1, g2, ((Chg.refl (fun k => blk a = some k) w).alloc _).trans g3 (fun b _ hb => hb), by omega, fun g hg => ?_⟩
  rcases g4 g hg with h | ⟨h, h'⟩
  · exact .inl h
  · rw [alloc_size] at h; exact .inr ⟨by omega, h'⟩
theorem Sl.set {g : Nat} {cur : Array Value} (h : Sl w E s (some ⟨g, 0, none⟩) cap rows) (hg : w.heap[g]? = some (.cells cur E (0, 0))) {i j : Nat} {x : List Value} (hx : rows[i]? = some x) (hj : j < s) (v : Value) :
    Sl (upd w g (.cells (cur.setIfInBounds (i * s + j) v) E (0, 0))) E s (some ⟨g, 0, none⟩) cap (rows.set i (x.set j v)) := by
  have hi := (List.getElem?_eq_some_iff.1 hx).1
  have hlen : ∀ r ∈ rows.set i (x.set j v), r.length = s := fun r hr => by
    rcases List.mem_or_eq_of_mem_set hr with h1 | rfl
    · exact h.len r h1
    · rw [List.length_set]; exact h.len x (List.mem_of_getElem? hx)
  refine ⟨?_, hlen⟩
  have h1 := h.l.set hg (i * s + j) v
  have e : (rows.set i (x.set j v)).flatten = rows.flatten.set (i * s + j) v := by
    apply List.ext_getElem?
    intro p
    have hs : 0 < s := by omega
    rcases Nat.lt_or_ge p (rows.length * s) with hp | hp
    · have hq : p / s < rows.length := (Nat.div_lt_iff_lt_mul hs).2 hp
      obtain ⟨y, hy⟩ : ∃ y, rows[p / s]? = some y := ⟨rows[p / s], List.getElem?_eq_getElem hq⟩
      have hyl := h.len y (List.mem_of_getElem? hy)
      obtain ⟨u, hu⟩ : ∃ u, y[p % s]? = some u := ⟨y[p % s]'(by rw [hyl]; exact Nat.mod_lt _ hs), List.getElem?_eq_getElem _⟩
      have h4 := flat_get h.len hy _ u hu
      rw [Nat.div_add_mod' p s] at h4
      have hpe : p / s * s + p % s = p := Nat.div_add_mod' p s
      by_cases hpi : p / s = i
      · subst hpi
        have : y = x := by rw [hx] at hy; cases hy; rfl
        subst this
        have h5 : (rows.set (p / s) (y.set j v))[p / s]? = some (y.set j v) := by rw [List.getElem?_set_self hq]
        by_cases hpj : p % s = j
        · subst hpj
          have h6 := flat_get hlen h5 (p % s) v (by rw [List.getElem?_set_self (by rw [hyl]; exact Nat.mod_lt _ hs)])
          rw [hpe] at h6 ⊢
          rw [h6, List.getElem?_set_self (by rw [flat_len h.len]; exact hp)]
        · have h6 := flat_get hlen h5 (p % s) u (by rw [List.getElem?_set_ne (Ne.symm hpj)]; exact hu)
          rw [hpe] at h6
          rw [h6, List.getElem?_set_ne (by omega), h4]
      · have h5 : (rows.set i (x.set j v))[p / s]? = some y := by rw [List.getElem?_set_ne (Ne.symm hpi)]; exact hy
        have h6 := flat_get hlen h5 (p % s) u hu
        rw [hpe] at h6
        rw [h6, List.getElem?_set_ne ?_, h4]
        intro hc
        apply hpi
        rw [← hc, Nat.mul_comm, Nat.mul_add_div hs, Nat.div_eq_of_lt hj, Nat.add_zero]
    · rw [List.getElem?_eq_none (by rw [flat_len hlen, List.length_set]; exact hp), List.getElem?_eq_none (by rw [List.length_set, flat_len h.len]; exact hp)]
  rw [e, List.length_set]
  exact h1
end
section
variable {P : Program} {K : Env → World → Prop} {C : World → Prop} {d : Option Tmp} {op : Op} {ty : TypeId} {e : Env} {w w1 : World} {l : List (GOp × Nat)} {v : Value} {f : FuncId} {args : Array Value}
theorem rgA {x : Result Next} (h : rG P op ty e w = x := by (simp (disch := first | assumption | ((try simp only [upd_size, alloc_size, dr_heap, List.size_toArray, List.length_cons, List.length_nil, Nat.reduceAdd]) <;> omega) | (with_unfolding_all (refine Eq.trans rfl ?_; exact rfl)) | exact Nat.le_of_ble_eq_true rfl | fail) only [push_cast, *, Nat.reduceEqDiff, Nat.reduceAdd, Nat.reduceMul, Nat.reduceSub, Int.reduceToNat, Int.reduceAdd, Int.reduceSub, Int.reduceMul, Int.reduceNeg, ↓reduceIte] <;> rfl)) : rG P op ty e w = x := h
theorem xf1A {D : World → Prop} (hk : XF P K l (Ext w) D (e.put d v)) (h : ∀ u, Ext w u → rG P op ty e u = .ok (.value v) u := by (intro w' hw'; (simp (disch := first | assumption | ((try simp only [upd_size, alloc_size, dr_heap, List.size_toArray, List.length_cons, List.length_nil, Nat.reduceAdd]) <;> omega) | (with_unfolding_all (refine Eq.trans rfl ?_; exact rfl)) | exact Nat.le_of_ble_eq_true rfl | fail) only [push_cast, *, Nat.reduceEqDiff, Nat.reduceAdd, Nat.reduceMul, Nat.reduceSub, Int.reduceToNat, Int.reduceAdd, Int.reduceSub, Int.reduceMul, Int.reduceNeg, ↓reduceIte] <;> rfl))) : XF P K ((⟨d, op, ty, none⟩, 1) :: l) (Ext w) D e := xf1 h hk
end
section
variable {P : Program} {K : Env → World → Prop} {C : World → Prop} {d : Option Tmp} {op : Op} {ty : TypeId} {e : Env} {w : World} {l : List (GOp × Nat)}
theorem xe2w (h : ∀ w', C w' → kN P (fun v w'' => XE P K l (Ext w'') (e.put d v)) (rG P op ty e w')) : XE P K ((⟨d, op, ty, none⟩, 2) :: l) C e := by
  rw [XE_cons2]
  intro w hw
  have := h w hw
  generalize rG P op ty e w = x at *
  have mk : ∀ v w'', XE P K l (Ext w'') (e.put d v) → ∃ C' : World → Prop, C' w'' ∧ XE P K l C' (e.put d v) := fun v w'' hx => ⟨Ext w'', Ext.refl w'', hx⟩
  cases x with
  | ok n w'' =>
    cases n <;> simp only [kN] at this ⊢
    case value => exact mk _ _ this
    case skip => exact mk _ _ this
    case enter => exact this.mono fun v w'' hv => mk _ _ hv
    all_goals exact this
  | halt y w' => exact this
end
section
variable {P : Program} {K : Env → World → Prop} {C D : World → Prop} {d : Option Tmp} {op : Op} {ty : TypeId} {e : Env} {w w1 : World} {l : List (GOp × Nat)} {v : Value} {t : Tmp} {b : Bool} {k : Nat}
theorem xf_gt {g : Tmp × Bool} (hg : e g.1 = .bool g.2) (h : XF P K ((⟨d, op, ty, none⟩, k) :: l) C D e) : XF P K ((⟨d, op, ty, some g⟩, k) :: l) C D e := by
  obtain ⟨t, b⟩ := g
  have hw : wantG e (some (t, b)) := hg
  match k, h with
  | 0, h => exact .inl ⟨hw, (h.resolve_right fun hh => by obtain ⟨⟨_, _, h0, _⟩, _⟩ := hh; cases h0).2⟩
  | 1, h => exact .inl ⟨hw, (h.resolve_right fun hh => by obtain ⟨⟨_, _, h0, _⟩, _⟩ := hh; cases h0).2⟩
  | 2, h => exact .inl ⟨hw, (h.resolve_right fun hh => by obtain ⟨⟨_, _, h0, _⟩, _⟩ := hh; cases h0).2⟩
  | 3, h => exact .inl ⟨hw, (h.resolve_right fun hh => by obtain ⟨⟨_, _, h0, _⟩, _⟩ := hh; cases h0).2⟩
  | _ + 4, h => exact .inl ⟨hw, (h.resolve_right fun hh => by obtain ⟨⟨_, _, h0, _⟩, _⟩ := hh; cases h0).2⟩
theorem xf_gf {g : Tmp × Bool} (hg : e g.1 ≠ .bool g.2) (h : XF P K l C D (e.put d undef)) : XF P K ((⟨d, op, ty, some g⟩, k) :: l) C D e := by
  obtain ⟨t, b⟩ := g
  have hw : badG e (some (t, b)) := ⟨t, b, rfl, hg⟩
  match k with
  | 0 => exact .inr ⟨hw, h⟩
  | 1 => exact .inr ⟨hw, h⟩
  | 2 => exact .inr ⟨hw, h⟩
  | 3 => exact .inr ⟨hw, h⟩
  | _ + 4 => exact .inr ⟨hw, h⟩
theorem gft (h : XF P K ((⟨d, op, ty, none⟩, k) :: l) C D e) (hg : e t = .bool b := by (simp (disch := first | assumption | ((try simp only [upd_size, alloc_size, dr_heap, List.size_toArray, List.length_cons, List.length_nil, Nat.reduceAdd]) <;> omega) | (with_unfolding_all (refine Eq.trans rfl ?_; exact rfl)) | fail) only [push_cast, *, Nat.reduceEqDiff, ↓reduceIte] <;> fail)) : XF P K ((⟨d, op, ty, some (t, b)⟩, k) :: l) C D e := xf_gt hg h
theorem gff (h : XF P K l C D (e.put d undef)) (hg : e t = .bool (!b) := by (simp (disch := first | assumption | ((try simp only [upd_size, alloc_size, dr_heap, List.size_toArray, List.length_cons, List.length_nil, Nat.reduceAdd]) <;> omega) | (with_unfolding_all (refine Eq.trans rfl ?_; exact rfl)) | fail) only [push_cast, *, Nat.reduceEqDiff, ↓reduceIte] <;> fail)) : XF P K ((⟨d, op, ty, some (t, b)⟩, k) :: l) C D e := xf_gf (by rw [hg]; cases b <;> simp) h
theorem gfu (h : XF P K l C D (e.put d undef)) (hg : e t = undef := by (simp (disch := first | assumption | ((try simp only [upd_size, alloc_size, dr_heap, List.size_toArray, List.length_cons, List.length_nil, Nat.reduceAdd]) <;> omega) | (with_unfolding_all (refine Eq.trans rfl ?_; exact rfl)) | fail) only [push_cast, *, Nat.reduceEqDiff, ↓reduceIte] <;> fail)) : XF P K ((⟨d, op, ty, some (t, b)⟩, k) :: l) C D e := xf_gf (by rw [hg]; cases b <;> simp [undef]) h
theorem xf1qA {f : FuncId} {args : Array Value} (hk : XF P K l (Ext w) D (e.put d v))
    (h : ∀ w', Ext w w' → rG P op ty e w' = .ok (.enter f args) w' := by (intro w' hw'; (simp (disch := first | assumption | ((try simp only [upd_size, alloc_size, dr_heap, List.size_toArray, List.length_cons, List.length_nil, Nat.reduceAdd]) <;> omega) | (with_unfolding_all (refine Eq.trans rfl ?_; exact rfl)) | exact Nat.le_of_ble_eq_true rfl | fail) only [push_cast, *, Nat.reduceEqDiff, Nat.reduceAdd, Nat.reduceMul, Nat.reduceSub, Int.reduceToNat, Int.reduceAdd, Int.reduceSub, Int.reduceMul, Int.reduceNeg, ↓reduceIte] <;> rfl))) (hc : Quiet P f args w v := by (first | with_reducible assumption | exact Sure.quiet (by with_reducible assumption))) : XF P K ((⟨d, op, ty, none⟩, 1) :: l) (Ext w) D e := xf1c h hc hk
theorem dw_ {A B : Prop} (q : A) (h : Box A → B := by (intro q; (repeat (first | refine xf0A ?_ | refine xf3A ?_ | refine xf3qA ?_ | refine xf1A ?_ | refine xf1qA ?_ | refine gft ?_ | refine gff ?_ | refine gfu ?_)); exact q.out)) : B := h ⟨q⟩
end
theorem least_ex {p : Nat → Prop} : ∀ {n : Nat}, p n → ∃ m, p m ∧ ∀ k, p k → m ≤ k := by
  intro n
  induction n using Nat.strongRecOn with
  | _ n ih =>
    intro h
    by_cases hk : ∃ k, k < n ∧ p k
    · obtain ⟨k, hk, hp⟩ := hk
      exact ih k hk hp
    · exact ⟨n, h, fun k hp => Nat.le_of_not_lt fun hl => hk ⟨k, hl, hp⟩⟩
open Classical in
noncomputable def leastN (p : Nat → Prop) : Nat := if h : ∃ m, p m ∧ ∀ k, p k → m ≤ k then Classical.choose h else 0
theorem leastN_spec {p : Nat → Prop} {n : Nat} (h : p n) : p (leastN p) ∧ ∀ k, p k → leastN p ≤ k := by
  have hh := least_ex h
  unfold leastN
  rw [dif_pos hh]
  exact Classical.choose_spec hh
section
variable {P : Program} {Q : Exit → Env → World → Prop} {e : Env} {w : World} {c k : GCode} {D : List Nat}
theorem log_ (I : Nat → World → Env → World → Prop) (n0 : Nat) (h0 : I n0 w e w)
    (h : ∀ n e' w', (∀ i, D.contains i = false → e' i = e i) → I n w e' w' → X P c (thenX (fun e2 w2 => ∃ m, m < n ∧ I m w e2 w2) (thenX (X P k Q) Q)) e' w')
    (hD : dG c = D := by (simp only [dG, List.filterMap_cons, List.filterMap_nil, List.cons_append, List.nil_append, List.append_nil] <;> rfl)) : X P (.seq (.loop c) k) Q e w := by
  refine lo_ (fun W e w' => ∃ n, I n W e w') (fun e w' => leastN fun n => I n w e w') ⟨n0, h0⟩ (fun e' w' hf ⟨n, hn⟩ => ?_) hD
  have hl := leastN_spec (p := fun n => I n w e' w') hn
  refine X_mono c (fun ex e2 w2 hq => ?_) (h _ e' w' hf hl.1)
  cases ex with
  | normal =>
    obtain ⟨m, hm, hI⟩ := hq
    exact ⟨⟨m, hI⟩, Nat.lt_of_le_of_lt ((leastN_spec (p := fun n => I n w e2 w2) hI).2 m hI) hm⟩
  | _ => exact hq
end
end Go.Bx

namespace Go.Bx
open Go
set_option linter.unusedSimpArgs false
set_option linter.unusedVariables false
abbrev one1 (l : List Value) : List (List Value) := l.map fun v => [v]
abbrev SlC (w : World) (E : Nat) (a : Option Addr) (cap : Nat) (l : List Value) : Prop := Sl w E 1 a cap (one1 l)
theorem one1_len {l : List Value} : ∀ r ∈ one1 l, r.length = 1 := fun r hr => by obtain ⟨f, _, rfl⟩ := List.mem_map.1 hr; rfl
theorem one1_flat : ∀ {l : List Value}, (one1 l).flatten = l
  | [] => rfl
  | v :: l => by rw [one1, List.map_cons, List.flatten_cons, one1_flat]; rfl
section
variable {w w' : World} {E : Nat} {a : Option Addr} {cap : Nat} {l news : List Value} {P : Program} {t by_ : Nat} {d : TypeDesc} {z : Value} {sz1 by1 : Nat} {z1 : Value}
theorem SlC.nil (w : World) (E : Nat) : SlC w E none 0 [] := Sl.nil w E 1
theorem SlC.keep (h : SlC w E a cap l) (hk : ∀ g, blk a = some g → w'.heap[g]? = w.heap[g]?) : SlC w' E a cap l := Sl.keep h hk
theorem SlC.ext (h : SlC w E a cap l) (hE : Ext w w') : SlC w' E a cap l := Sl.ext h hE
theorem SlC.chg {F : Nat → Prop} (h : SlC w E a cap l) (hC : Chg F w w') (hne : ∀ g, blk a = some g → ¬ F g) : SlC w' E a cap l := Sl.chg h hC hne
theorem SlC.lt (h : SlC w E a cap l) {g : Nat} (hg : blk a = some g) : g < w.heap.size := Sl.lt h hg
theorem SlC.le (h : SlC w E a cap l) : l.length ≤ cap := by
  have := h.l.row
  rw [List.length_map] at this
  rcases this with ⟨_, h0, h2⟩ | ⟨_, _, _, _, h2, _⟩ <;> omega
theorem SlC.at (h : SlC w E a cap l) {i : Nat} {v : Value} (hv : l[i]? = some v) :
    ∃ g cur, a = some ⟨g, 0, none⟩ ∧ w.heap[g]? = some (.cells cur E (0, 0)) ∧ l.length ≤ cap ∧ i < l.length ∧ cur[i]? = some v := by
  obtain ⟨g, cur, h1, h2, h3, h4, h5⟩ := Sl.at h (i := i) (x := [v]) (by rw [List.getElem?_map, hv]; rfl)
  rw [List.length_map] at h3 h4
  refine ⟨g, cur, h1, h2, h3, h4, ?_⟩
  have := h5 0 v rfl
  rwa [Nat.mul_one, Nat.add_zero] at this
theorem SlC.set {g : Nat} {cur : Array Value} (h : SlC w E (some ⟨g, 0, none⟩) cap l) (hg : w.heap[g]? = some (.cells cur E (0, 0))) {i : Nat} (hi : i < l.length) (v : Value) :
    SlC (upd w g (.cells (cur.setIfInBounds i v) E (0, 0))) E (some ⟨g, 0, none⟩) cap (l.set i v) := by
  have := Sl.set h hg (i := i) (j := 0) (x := [l[i]]) (by rw [List.getElem?_map, List.getElem?_eq_getElem hi]; rfl) (by decide) v
  rw [Nat.mul_one, Nat.add_zero] at this
  have e : one1 (l.set i v) = (one1 l).set i ([l[i]].set 0 v) := by rw [one1, List.map_set]; rfl
  unfold SlC; rw [e]; exact this
theorem SlC.take (h : SlC w E a cap l) {k : Nat} (hk : k ≤ l.length) : SlC w E a cap (l.take k) := by
  have := Sl.take h (k := k) (by rw [List.length_map]; exact hk)
  unfold SlC one1; rw [List.map_take]; exact this
theorem SlC.push (h : SlC w E a cap l) (ht : TI P t (.slice E) sz1 by1 z1) (hE : TI P E d 1 by_ z) (hz : z.cells.size = 1) (h1 : news.all isCell = true) (hmax : l.length + news.length ≤ 1099511627776) (hby : by_ ≤ 64) {k : Nat} (hk : k = news.length) {us : Array Value} (hu : us = news.toArray) :
    ∃ a' cap' w', apR P t (.slice a l.length cap) (.slice (some ⟨w.heap.size, 0, none⟩) k k) (w.alloc (.cells us E)) = .ok (.slice a' (l ++ news).length cap') w' ∧
      SlC w' E a' cap' (l ++ news) ∧ Chg (fun k => blk a = some k) w w' ∧ w.heap.size < w'.heap.size ∧ (∀ g, blk a' = some g → blk a = some g ∨ (w.heap.size ≤ g ∧ g < w'.heap.size)) := by
  subst hk hu
  have := Sl.push (news := one1 news) h ht hE hz (by decide) (c := news.length) (us := news.toArray) (by rw [one1_flat]) rfl (by rw [List.length_map]) one1_len (by rw [one1_flat]; exact h1) (by rw [List.length_map, List.length_map]; exact hmax) hby
  rw [← List.map_append, List.length_map, List.length_map] at this
  exact this
theorem SlC.made {g : Nat} (hg : w.heap[g]? = some (.cells l.toArray E (0, 0))) (hm : l.length ≤ 1099511627776) : SlC w E (some ⟨g, 0, none⟩) l.length l := by
  have := Sl.made (E := E) (s := 1) (rows := one1 l) (g := g) (w := w) (by rw [one1_flat]; exact hg) one1_len (by rw [List.length_map]; exact hm)
  rw [List.length_map] at this
  exact this
theorem SlC.upd (h : SlC w E a cap l) {b : Nat} {o : Obj} (hne : ∀ g, blk a = some g → g ≠ b) : SlC (Bx.upd w b o) E a cap l := Sl.keep h fun g hg => upd_other (fun e => hne g hg e.symm)
theorem SlC.alloc (h : SlC w E a cap l) {o : Obj} : SlC (w.alloc o) E a cap l := Sl.ext h ((Ext.refl w).alloc o)
theorem SlC.ne (h : SlC w E a cap l) {g b : Nat} {c : Array Value} {E' : Nat} {fz : Nat × Nat} (hg : blk a = some g) (hb : w.heap[b]? = some (.cells c E' fz)) (hE : E ≠ E') : g ≠ b := by
  rintro rfl
  obtain ⟨c2, h2⟩ := h.l.tag hg
  rw [h2] at hb
  simp only [Option.some.injEq, Obj.cells.injEq] at hb
  exact hE hb.2.1
theorem SlC.inp (h : SlC w E a cap l) : Inp w 1 a (one1 l) := Sl.inp h
theorem SlC.tag (h : SlC w E a cap l) {g : Nat} (hg : blk a = some g) : ∃ c, w.heap[g]? = some (.cells c E (0, 0)) := h.l.tag hg
end
def Grow (F : Nat → Prop) (w w' : World) : Nat → Prop := fun k => F k ∨ (w.heap.size ≤ k ∧ k < w'.heap.size)
section
variable {F G : Nat → Prop} {w w1 w2 w' : World}
theorem Grow.same : ∀ {k}, Grow F w w k ↔ F k := fun {k} => ⟨fun h => h.elim id fun h => by omega, .inl⟩
theorem Grow.eq_self : Grow F w w = F := funext fun k => propext Grow.same
theorem Grow.size (h1 : w1.heap.size = w2.heap.size) : Grow F w w1 = Grow F w w2 := by unfold Grow; rw [h1]
end
theorem at_w {P : Program} {c : GCode} {Q : Exit → Env → World → Prop} {e : Env} {w : World} (h : ∀ u, u = w → X P c Q e u) : X P c Q e w := h w rfl
theorem qq {P : Program} {f : FuncId} {args : Array Value} {w0 w : World} {v : Value} {K : Value → World → Prop} {n : Nat} (h : Quiet P f args w0 v) (hk : ∀ w', Ext w w' → n ≤ w'.heap.size → K v w')
    (hE : Ext w0 w := by (repeat (first | with_reducible exact Ext.refl _ | with_reducible assumption | with_reducible refine Ext.alloc ?_ _ | with_reducible refine Ext.dr ?_ _ | (with_reducible refine Ext.upd ?_ ?_ _; rotate_left; focus ((try simp only [upd_size, alloc_size, dr_heap, List.size_toArray, List.length_cons, List.length_nil, Nat.reduceAdd]) <;> omega)) | with_reducible refine Ext.trans ?_ (by with_reducible assumption))))
    (hn : w.heap.size = n := by (first | (simp only [upd_size, alloc_size, dr_heap, List.size_toArray, List.length_cons, List.length_nil, Nat.reduceAdd] <;> rfl) | rfl)) : CallsR P f args w K := (h w hE).mono fun r w' ⟨hr, hE⟩ => hr ▸ hk w' hE (hn ▸ hE.size)
end Go.Bx

namespace Go.Bx
open Go
set_option linter.unusedSimpArgs false
set_option linter.unusedVariables false
abbrev Fun8 := BitVec 256
def word (f : Fun8) (k : Nat) : BitVec 64 := f.extractLsb' (64 * k) 64
def vU (a : BitVec 64) : Value := .int .u64 (a.toNat : Int)
def w4 (h : Nat → BitVec 64) : Array Value := #[vU (h 0), vU (h 1), vU (h 2), vU (h 3)]
def fv (f : Fun8) : Value := .agg (w4 (word f))
def join (h : Nat → BitVec 64) : Fun8 := h 3 ++ (h 2 ++ (h 1 ++ h 0 : BitVec 128) : BitVec 192)
theorem fn_ext {f g : Fun8} (h : ∀ i, i < 256 → f.getLsbD i = g.getLsbD i) : f = g := BitVec.eq_of_getLsbD_eq h
theorem ofInt_nat (a : BitVec 64) : BitVec.ofInt 64 (a.toNat : Int) = a := by
  rw [BitVec.ofInt_natCast, BitVec.ofNat_toNat, BitVec.setWidth_eq]
theorem wrap_nat (a : BitVec 64) : IntKind.u64.wrap (a.toNat : Int) = (a.toNat : Int) := by
  have := a.isLt
  exact wrap_u64 (by omega) (by omega)
theorem bits_and64 (a b : BitVec 64) : bits .and .u64 (a.toNat : Int) (b.toNat : Int) = ((a &&& b).toNat : Int) := by
  unfold bits; simp only [IntKind.bits, ofInt_nat]; exact wrap_nat _
theorem bits_or64 (a b : BitVec 64) : bits .or .u64 (a.toNat : Int) (b.toNat : Int) = ((a ||| b).toNat : Int) := by
  unfold bits; simp only [IntKind.bits, ofInt_nat]; exact wrap_nat _
theorem bits_xor64 (a b : BitVec 64) : bits .xor .u64 (a.toNat : Int) (b.toNat : Int) = ((a ^^^ b).toNat : Int) := by
  unfold bits; simp only [IntKind.bits, ofInt_nat]; exact wrap_nat _
section
variable {P : Program} {w : World} {t : TypeId} {x y : Operand} {a b : BitVec 64} {n : Int} {k' : IntKind}
theorem bU_and : binR P .and t x y (vU a) (vU b) w = .ok (vU (a &&& b)) w := by rw [vU, vU, binR_and, bits_and64]; rfl
theorem bU_or : binR P .or t x y (vU a) (vU b) w = .ok (vU (a ||| b)) w := by rw [vU, vU, binR_or, bits_or64]; rfl
theorem bU_xor : binR P .xor t x y (vU a) (vU b) w = .ok (vU (a ^^^ b)) w := by rw [vU, vU, binR_xor, bits_xor64]; rfl
theorem uU_not : unR P .xor (vU a) w = .ok (vU (~~~a)) w := by
  rw [vU, unR_xor]
  have : (if IntKind.u64.signed then (-1 : Int) else IntKind.u64.max) = ((BitVec.allOnes 64).toNat : Int) := by decide +kernel
  rw [this, bits_xor64, BitVec.allOnes_xor]; rfl
theorem bU_shr (h0 : 0 ≤ n) (h1 : n ≤ 64) : binR P .shr t x y (vU a) (.int k' n) w = .ok (vU (a >>> n.toNat)) w := by
  have hm : min n.toNat IntKind.u64.bits = n.toNat := by simp only [IntKind.bits]; omega
  rw [vU, binR_shr (by omega), hm, vU, BitVec.toNat_ushiftRight, Nat.shiftRight_eq_div_pow, Int.fdiv_eq_ediv_of_nonneg _ (Int.pow_nonneg (by decide))]
  rfl
theorem bU_shl (h0 : 0 ≤ n) (h1 : n ≤ 64) : binR P .shl t x y (vU a) (.int k' n) w = .ok (vU (a <<< n.toNat)) w := by
  have hm : min n.toNat IntKind.u64.bits = n.toNat := by simp only [IntKind.bits]; omega
  rw [vU, binR_shl (by omega), hm, vU, BitVec.toNat_shiftLeft, Nat.shiftLeft_eq, IntKind.wrap_u64]
  rfl
end
def setF (h : Nat → BitVec 64) (k : Nat) (a : BitVec 64) : Nat → BitVec 64 := fun i => if i = k then a else h i
theorem vcs_vU {a : BitVec 64} : vcs (vU a) = [vU a] := rfl
def tabOf (p : Nat → Bool) : Nat → Fun8
  | 0 => 0#256
  | n + 1 => if p n then tabOf p n ||| BitVec.twoPow 256 n else tabOf p n
theorem tabOf_bit (p : Nat → Bool) : ∀ (n i : Nat), i < 256 → (tabOf p n).getLsbD i = (decide (i < n) && p i)
  | 0, i, _ => by simp [tabOf]
  | n + 1, i, hi => by
    have ih := tabOf_bit p n i hi
    by_cases hp : p n
    · rw [tabOf, if_pos hp]
      simp only [BitVec.getLsbD_or, BitVec.getLsbD_twoPow, ih]
      by_cases hin : i = n
      · subst hin; simp [hi, hp]
      · have : (decide (i < n + 1)) = decide (i < n) := by rw [decide_eq_decide]; omega
        have h2 : (n == i) = false := by simpa using fun h => hin h.symm
        simp [this]; omega
    · rw [tabOf, if_neg hp, ih]
      by_cases hin : i = n
      · subst hin; simp at hp; simp [hp]
      · have : (decide (i < n + 1)) = decide (i < n) := by rw [decide_eq_decide]; omega
        rw [this]
end Go.Bx

namespace Go.Bx
open Go
set_option linter.unusedSimpArgs false
set_option linter.unusedVariables false
set_option maxRecDepth 100000
def notF (f : Fun8) : Fun8 := ~~~f
def andF (f g : Fun8) : Fun8 := f &&& g
def orF (f g : Fun8) : Fun8 := f ||| g
def xorF (f g : Fun8) : Fun8 := f ^^^ g
def iteF (f g h : Fun8) : Fun8 := f &&& g ||| ~~~f &&& h
def constF (b : Bool) : Fun8 := if b then ~~~0#256 else 0#256
def lowW (v : Nat) : BitVec 64 := BitVec.ofNat 64 ([0xaaaaaaaaaaaaaaaa, 0xcccccccccccccccc, 0xf0f0f0f0f0f0f0f0, 0xff00ff00ff00ff00, 0xffff0000ffff0000, 0xffffffff00000000].getD v 0)
def varW (v : Int) (k : Nat) : BitVec 64 := if 0 ≤ v ∧ v < 6 then lowW v.toNat else if v = 6 ∨ v = 7 then -(BitVec.ofNat 64 k >>> (v - 6).toNat &&& 1#64) else 0#64
def varF (v : Int) : Fun8 := join (varW v)
def atF (f : Fun8) (x : Int) : Bool := decide (0 ≤ x) && (decide (x < 256) && f.getLsbD x.toNat)
def putF (f : Fun8) (x : Nat) (b : Bool) : Fun8 := if b then f ||| BitVec.twoPow 256 x else f
def ofRows (p : Nat → Bool) : Fun8 := tabOf p 256
section
variable {f g h : Fun8} {x v : Nat} {b : Bool}
theorem bt_ite (hx : x < 256) : (iteF f g h).getLsbD x = if f.getLsbD x then g.getLsbD x else h.getLsbD x := by
  simp only [iteF, BitVec.getLsbD_or, BitVec.getLsbD_and, BitVec.getLsbD_not, hx, decide_true, Bool.true_and]
  cases f.getLsbD x <;> simp
theorem bt_const (hx : x < 256) : (constF b).getLsbD x = b := by
  cases b
  · simp [constF]
  · rw [constF, if_pos rfl, BitVec.getLsbD_not]; simp [hx]
theorem varF_all : ∀ v : Nat, v < 8 → ∀ x : Nat, x < 256 → (varF v).getLsbD x = x.testBit v := by decide +kernel
theorem bt_var (hv : v < 8) (hx : x < 256) : (varF v).getLsbD x = x.testBit v := varF_all v hv x hx
theorem varF_out {v : Int} (h : ¬ (0 ≤ v ∧ v < 8)) : varF v = constF false := by
  have : varW v = fun _ => 0#64 := by
    funext k
    rw [varW, if_neg (by omega), if_neg (by omega)]
  rw [varF, this]; rfl
theorem iteF_same : iteF f g g = g := fn_ext fun i hi => by rw [bt_ite hi]; simp
theorem cells_fv : (fv f).cells = #[vU (word f 0), vU (word f 1), vU (word f 2), vU (word f 3)] := rfl
theorem vcs_fv' : vcs (fv f) = [vU (word f 0), vU (word f 1), vU (word f 2), vU (word f 3)] := rfl
theorem fv_back : Value.agg #[vU (word f 0), vU (word f 1), vU (word f 2), vU (word f 3)] = fv f := rfl
def wd4 (f : Fun8) : Array Value := #[vU (word f 0), vU (word f 1), vU (word f 2), vU (word f 3)]
section
variable {n : Nat}
theorem shlU {k : Nat} (h : k ≤ 64) : Value.int .u64 (IntKind.u64.wrap (1 * 2 ^ min k IntKind.u64.bits)) = vU (1#64 <<< k) := by
  have hm : min k IntKind.u64.bits = k := by simp only [IntKind.bits]; omega
  rw [hm, vU, BitVec.toNat_shiftLeft, Nat.shiftLeft_eq, IntKind.wrap_u64]
  have : (1#64).toNat = 1 := rfl
  rw [this, Nat.one_mul, Int.one_mul]
  rfl
end
end
attribute [irreducible] notF andF orF xorF iteF constF varF ofRows putF
attribute [push_cast] cells_fv vcs_fv' fv_back bU_and bU_or bU_xor uU_not bU_shr bU_shl shlU vcs_vU
end Go.Bx

namespace Go.Bx
open Go
set_option linter.unusedSimpArgs false
set_option linter.unusedVariables false
set_option maxRecDepth 100000
def setB (x v : Nat) (b : Bool) : Nat := if x.testBit v then (if b then x else x - 2 ^ v) else (if b then x + 2 ^ v else x)
theorem setB_lt_all : ∀ v : Nat, v < 8 → ∀ x : Nat, x < 256 → (setB x v false < 256 ∧ setB x v true < 256) := by decide +kernel
theorem setB_lt {x v : Nat} {b : Bool} (hx : x < 256) (hv : v < 8) : setB x v b < 256 := by
  cases b
  · exact (setB_lt_all v hv x hx).1
  · exact (setB_lt_all v hv x hx).2
theorem setB_set_all : ∀ v : Nat, v < 8 → ∀ x : Nat, x < 256 → ∀ b c : Bool, setB (setB x v b) v c = setB x v c := by decide +kernel
theorem setB_comm_all : ∀ v : Nat, v < 8 → ∀ u : Nat, u < 8 → v ≠ u → ∀ x : Nat, x < 256 → ∀ b c : Bool, setB (setB x v b) u c = setB (setB x u c) v b := by decide +kernel
theorem setB_self_all : ∀ v : Nat, v < 8 → ∀ x : Nat, x < 256 → setB x v (x.testBit v) = x := by decide +kernel
def cofF (f : Fun8) (v : Int) (b : Bool) : Fun8 := if 0 ≤ v ∧ v < 8 then tabOf (fun x => f.getLsbD (setB x v.toNat b)) 256 else f
theorem cofF_out {f : Fun8} {v : Int} {b : Bool} (h : ¬ (0 ≤ v ∧ v < 8)) : cofF f v b = f := if_neg h
theorem cofF_in {f : Fun8} {v : Nat} {b : Bool} (h : v < 8) : cofF f v b = tabOf (fun x => f.getLsbD (setB x v b)) 256 := by
  rw [cofF, if_pos (by omega)]; rfl
theorem cofF_bit {f : Fun8} {v : Nat} {b : Bool} (h : v < 8) {x : Nat} (hx : x < 256) : (cofF f v b).getLsbD x = f.getLsbD (setB x v b) := by
  rw [cofF_in h, tabOf_bit _ _ _ hx]; simp [hx]
def depF (f : Fun8) (v : Int) : Bool := !decide (cofF f v false = cofF f v true)
def supTo (f : Fun8) : Nat → Nat
  | 0 => 0
  | k + 1 => supTo f k + if depF f k then 2 ^ k else 0
def supF (f : Fun8) : Nat := supTo f 8
def cnt (p : Nat → Bool) : Nat → Nat
  | 0 => 0
  | n + 1 => cnt p n + if p n then 1 else 0
theorem cnt_le (p : Nat → Bool) : ∀ n, cnt p n ≤ n
  | 0 => Nat.le_refl _
  | n + 1 => by
    have := cnt_le p n
    rw [cnt]; split <;> omega
def countF (f : Fun8) : Nat := cnt (fun x => f.getLsbD x) 256
def popW (a : BitVec 64) : Nat := cnt (fun x => a.getLsbD x) 64
def countTo (f : Fun8) (k : Nat) : Nat := cnt (fun x => f.getLsbD x) (64 * k)
def fd (B : Nat) : List Nat → Nat
  | [] => 0
  | d :: l => d + B * fd B l
def ps : List Nat → List Nat
  | a :: b :: l => (a + b) :: ps l
  | _ => []
def bl (x : Nat) : Nat → List Nat
  | 0 => []
  | n + 1 => x % 2 :: bl (x / 2) n
def mk (b : Nat) : Nat → Nat
  | 0 => 0
  | n + 1 => (2 ^ b - 1) + 2 ^ (b + b) * mk b n
def pop1 (x : Nat) : Nat := (x / 2 &&& 6148914691236517205) + (x &&& 6148914691236517205)
def pop2 (x : Nat) : Nat := (x / 4 &&& 3689348814741910323) + (x &&& 3689348814741910323)
def pop3 (x : Nat) : Nat := (x / 16 + x) &&& 1085102592571150095
theorem bits_andNot64 (a b : BitVec 64) : bits .andNot .u64 (a.toNat : Int) (b.toNat : Int) = ((a &&& ~~~b).toNat : Int) := by
  unfold bits; simp only [IntKind.bits, ofInt_nat]; exact wrap_nat _
theorem bU_andNot {P : Program} {w : World} {t : TypeId} {x y : Operand} {a b : BitVec 64} : binR P .andNot t x y (vU a) (vU b) w = .ok (vU (a &&& ~~~b)) w := by rw [vU, vU, binR_andNot, bits_andNot64]; rfl
theorem depF_def {f : Fun8} {v : Int} : depF f v = !decide (cofF f v false = cofF f v true) := rfl
attribute [push_cast] bU_andNot
attribute [irreducible] cofF depF supF countF
end Go.Bx

namespace Go.Bx
open Go
set_option linter.unusedSimpArgs false
set_option linter.unusedVariables false
set_option maxRecDepth 100000
section
variable {f g h : Fun8} {v w : Int} {b c : Bool}
theorem cof_ext {f g : Fun8} (hb : ∀ x, x < 256 → f.getLsbD x = g.getLsbD x) : f = g := fn_ext hb
theorem setB_bit_all : ∀ v : Nat, v < 8 → ∀ x : Nat, x < 256 → ∀ b : Bool, (setB x v b).testBit v = b := by decide +kernel
theorem setB_other_all : ∀ v : Nat, v < 8 → ∀ u : Nat, u < 8 → v ≠ u → ∀ x : Nat, x < 256 → ∀ b : Bool, (setB x v b).testBit u = x.testBit u := by decide +kernel
theorem nat8 (hv : 0 ≤ v ∧ v < 8) : ∃ n : Nat, v = n ∧ n < 8 := ⟨v.toNat, by omega, by omega⟩
theorem cof_cof : cofF (cofF f v b) v c = cofF f v b := by
  by_cases hv : 0 ≤ v ∧ v < 8
  · obtain ⟨n, rfl, hn⟩ := nat8 hv
    refine fn_ext fun x hx => ?_
    rw [cofF_bit hn hx, cofF_bit hn (setB_lt hx hn), cofF_bit hn hx, setB_set_all n hn x hx c b]
  · rw [cofF_out hv, cofF_out hv]
theorem dep_cof : depF (cofF f v b) v = false := by rw [depF_def, cof_cof, cof_cof]; simp
theorem cof_comm (h : v ≠ w) : cofF (cofF f v b) w c = cofF (cofF f w c) v b := by
  by_cases hv : 0 ≤ v ∧ v < 8
  · by_cases hw : 0 ≤ w ∧ w < 8
    · obtain ⟨n, rfl, hn⟩ := nat8 hv
      obtain ⟨m, rfl, hm⟩ := nat8 hw
      refine fn_ext fun x hx => ?_
      rw [cofF_bit hm hx, cofF_bit hn (setB_lt hx hm), cofF_bit hn hx, cofF_bit hm (setB_lt hx hn), setB_comm_all n hn m hm (by omega) x hx b c]
    · rw [cofF_out hw, cofF_out hw]
  · rw [cofF_out hv, cofF_out hv]
theorem ite_cof : iteF (varF v) (cofF f v true) (cofF f v false) = f := by
  by_cases hv : 0 ≤ v ∧ v < 8
  · obtain ⟨n, rfl, hn⟩ := nat8 hv
    refine fn_ext fun x hx => ?_
    have hs := setB_self_all n hn x hx
    rw [bt_ite hx, bt_var hn hx, cofF_bit hn hx, cofF_bit hn hx]
    cases hb : x.testBit n
    · rw [hb] at hs; simp [hs]
    · rw [hb] at hs; simp [hs]
  · rw [cofF_out hv, cofF_out hv, iteF_same]
theorem ite_const : iteF (constF b) g h = if b then g else h := by
  refine fn_ext fun x hx => ?_
  rw [bt_ite hx, bt_const hx]
  cases b <;> rfl
def sw (s x : Nat) : Nat := if x / s % 2 = 0 then x + s else x - s
end
end Go.Bx

namespace Go.Bx
open Go
set_option linter.unusedSimpArgs false
set_option linter.unusedVariables false
def lvl (l : List Int) (v : Int) : Int := match l.idxOf? v with | some i => (i : Int) | none => -1
theorem lvl_first {l : List Int} {v : Int} {k : Nat} (h : l[k]? = some v) (hno : ∀ i, i < k → l[i]? ≠ some v) : lvl l v = k := by
  obtain ⟨hk, hv⟩ := List.getElem?_eq_some_iff.1 h
  unfold lvl
  have : l.idxOf? v = some k := by
    rw [List.idxOf?_eq_some_iff]
    refine ⟨hk, by simpa using hv, fun j hj hne => ?_⟩
    have h2 := hno j hj
    rw [List.getElem?_eq_getElem (by omega)] at h2
    exact h2 (by simpa using hne)
  rw [this]
theorem lvl_none {l : List Int} {v : Int} (hno : ∀ i, i < l.length → l[i]? ≠ some v) : lvl l v = -1 := by
  unfold lvl
  have : l.idxOf? v = none := by
    rw [List.idxOf?_eq_none_iff]
    intro hm
    obtain ⟨i, hi, he⟩ := List.getElem_of_mem hm
    exact hno i hi (by rw [List.getElem?_eq_getElem hi, he])
  rw [this]
def swp (l : List Int) (i : Int) : List Int := if 0 ≤ i ∧ i < 7 then (l.set i.toNat (l.getD (i.toNat + 1) 0)).set (i.toNat + 1) (l.getD i.toNat 0) else l
theorem swp_length (l : List Int) (i : Int) : (swp l i).length = l.length := by unfold swp; split <;> simp
theorem swp_at (l : List Int) (hl : l.length = 8) (i : Int) (h0 : 0 ≤ i) (h7 : i < 7) (j : Nat) :
    (swp l i)[j]? = if j = i.toNat then l[i.toNat + 1]? else if j = i.toNat + 1 then l[i.toNat]? else l[j]? := by
  have h1 : swp l i = (l.set i.toNat (l.getD (i.toNat + 1) 0)).set (i.toNat + 1) (l.getD i.toNat 0) := if_pos ⟨h0, h7⟩
  generalize hn : i.toNat = n at *
  rw [h1]
  by_cases hj : j = n
  · subst hj
    rw [List.getElem?_set_ne (by omega), List.getElem?_set_self (by omega), List.getElem?_eq_getElem (show j + 1 < l.length by omega)]
    simp [List.getD, List.getElem?_eq_getElem (show j + 1 < l.length by omega)]
  · by_cases hj1 : j = n + 1
    · subst hj1
      rw [List.getElem?_set_self (by simp; omega), List.getElem?_eq_getElem (show n < l.length by omega)]
      simp [List.getD, List.getElem?_eq_getElem (show n < l.length by omega)]
    · rw [List.getElem?_set_ne (by omega), List.getElem?_set_ne (by omega), if_neg hj, if_neg hj1]
structure OrdOK (l : List Int) : Prop where
  len : l.length = 8
  all : ∀ v : Int, 0 ≤ v → v < 8 → ∃ k : Nat, k < 8 ∧ l[k]? = some v
  one : ∀ (i j : Nat) (v : Int), l[i]? = some v → l[j]? = some v → i = j
  rng : ∀ (k : Nat) (v : Int), l[k]? = some v → 0 ≤ v ∧ v < 8
theorem OrdOK.lvl {l : List Int} (h : OrdOK l) {k : Nat} {v : Int} (hk : l[k]? = some v) : lvl l v = k :=
  lvl_first hk fun i hi he => by have := h.one _ _ _ hk he; omega
theorem OrdOK.at {l : List Int} (h : OrdOK l) {v : Int} (h0 : 0 ≤ v) (h1 : v < 8) : ∃ k : Nat, k < 8 ∧ l[k]? = some v ∧ Go.Bx.lvl l v = k := by
  obtain ⟨k, hk, he⟩ := h.all v h0 h1
  exact ⟨k, hk, he, h.lvl he⟩
theorem OrdOK.inj {l : List Int} (h : OrdOK l) {u v : Int} (hu : 0 ≤ u ∧ u < 8) (hv : 0 ≤ v ∧ v < 8) (he : Go.Bx.lvl l u = Go.Bx.lvl l v) : u = v := by
  obtain ⟨k, _, h1, h2⟩ := h.at hu.1 hu.2
  obtain ⟨j, _, h3, h4⟩ := h.at hv.1 hv.2
  have : k = j := by omega
  subst this
  rw [h1] at h3; cases h3; rfl
theorem OrdOK.lt {l : List Int} (h : OrdOK l) {v : Int} (hv : 0 ≤ v ∧ v < 8) : 0 ≤ Go.Bx.lvl l v ∧ Go.Bx.lvl l v < 8 := by
  obtain ⟨k, hk, _, h2⟩ := h.at hv.1 hv.2
  omega
def plain : List Int := [0, 1, 2, 3, 4, 5, 6, 7]
theorem OrdOK.plain : OrdOK plain := by
  have key : ∀ (i : Nat) (v : Int), Go.Bx.plain[i]? = some v → v = i ∧ i < 8 := by
    intro i v h
    match i, h with
    | 0, h => cases h; exact ⟨rfl, by decide⟩
    | 1, h => cases h; exact ⟨rfl, by decide⟩
    | 2, h => cases h; exact ⟨rfl, by decide⟩
    | 3, h => cases h; exact ⟨rfl, by decide⟩
    | 4, h => cases h; exact ⟨rfl, by decide⟩
    | 5, h => cases h; exact ⟨rfl, by decide⟩
    | 6, h => cases h; exact ⟨rfl, by decide⟩
    | 7, h => cases h; exact ⟨rfl, by decide⟩
    | n + 8, h => cases h
  refine ⟨rfl, fun v h0 h1 => ⟨v.toNat, by omega, ?_⟩, fun i j v h h' => ?_, fun k v h => ?_⟩
  · obtain ⟨n, rfl⟩ := Int.eq_ofNat_of_zero_le h0
    have : n < 8 := by omega
    match n, this with
    | 0, _ => rfl
    | 1, _ => rfl
    | 2, _ => rfl
    | 3, _ => rfl
    | 4, _ => rfl
    | 5, _ => rfl
    | 6, _ => rfl
    | 7, _ => rfl
  · have := key _ _ h; have := key _ _ h'; omega
  · have := key _ _ h; omega
theorem OrdOK.swp {l : List Int} (h : OrdOK l) (i : Int) : OrdOK (swp l i) := by
  by_cases hi : 0 ≤ i ∧ i < 7
  · have at_ := swp_at l h.len i hi.1 hi.2
    generalize hn : i.toNat = n at at_
    have hn7 : n < 7 := by omega
    -- the place where what stands at j stood
    have src : ∀ (j : Nat) (v : Int), (Go.Bx.swp l i)[j]? = some v ↔ l[if j = n then n + 1 else if j = n + 1 then n else j]? = some v := by
      intro j v
      rw [at_]
      by_cases h1 : j = n
      · rw [if_pos h1, if_pos h1]
      · rw [if_neg h1, if_neg h1]
        by_cases h2 : j = n + 1
        · rw [if_pos h2, if_pos h2]
        · rw [if_neg h2, if_neg h2]
    refine ⟨by rw [swp_length]; exact h.len, fun v h0 h1 => ?_, fun a b v ha hb => ?_, fun k v hk => h.rng _ v ((src _ _).1 hk)⟩
    · obtain ⟨k, hk, he⟩ := h.all v h0 h1
      refine ⟨if k = n then n + 1 else if k = n + 1 then n else k, by split <;> (try split) <;> omega, (src _ _).2 ?_⟩
      rw [← he]; congr 1
      split <;> (try split) <;> (try split) <;> omega
    · have := h.one _ _ _ ((src _ _).1 ha) ((src _ _).1 hb)
      split at this <;> split at this <;> (try split at this) <;> (try split at this) <;> omega
  · rw [show Go.Bx.swp l i = l from if_neg hi]; exact h
theorem OrdOK.swp_lvl {l : List Int} (h : OrdOK l) {n : Nat} (hn : n < 7) {x y : Int} (hx : l[n]? = some x) (hy : l[n + 1]? = some y) :
    Go.Bx.lvl (Go.Bx.swp l n) y = n ∧ Go.Bx.lvl (Go.Bx.swp l n) x = (n : Int) + 1 ∧ ∀ v, v ≠ x → v ≠ y → 0 ≤ v ∧ v < 8 → Go.Bx.lvl (Go.Bx.swp l n) v = Go.Bx.lvl l v := by
  have hs := h.swp (n : Int)
  have at_ := swp_at l h.len (n : Int) (by omega) (by omega)
  have e : ((n : Int)).toNat = n := by omega
  rw [e] at at_
  refine ⟨hs.lvl (by rw [at_, if_pos rfl]; exact hy), ?_, fun v h1 h2 hr => ?_⟩
  · have := hs.lvl (k := n + 1) (v := x) (by rw [at_, if_neg (by omega), if_pos rfl]; exact hx)
    rw [this]; omega
  · obtain ⟨k, hk, he, hl⟩ := h.at hr.1 hr.2
    have n1 : k ≠ n := fun e => h1 (by subst e; rw [hx] at he; cases he; rfl)
    have n2 : k ≠ n + 1 := fun e => h2 (by subst e; rw [hy] at he; cases he; rfl)
    rw [hl]
    exact hs.lvl (by rw [at_, if_neg n1, if_neg n2]; exact he)
structure Ar where
  most : Int
  T : List Bool
  Fr : List Int
def Ar.has (a : Ar) (n : Int) : Bool := decide (0 ≤ n) && a.T.getD n.toNat false
def Ar.many (a : Ar) : Int := (a.T.length : Int) - a.Fr.length
def Ar.takeB (a : Ar) (n : Int) (R : List Int) : Ar := ⟨a.most, a.T.set n.toNat true, R⟩
def Ar.takeN (a : Ar) : Ar := ⟨a.most, a.T ++ [true], []⟩
def Ar.give (a : Ar) (n : Int) : Ar := ⟨a.most, a.T.set n.toNat false, a.Fr ++ [n]⟩
def Ar.take (a : Ar) : Option (Int × Ar) :=
  match a.Fr.getLast? with
  | some n => some (n, a.takeB n a.Fr.dropLast)
  | none => if (a.T.length : Int) = a.most then none else some (a.T.length, a.takeN)
structure Ar.OK (a : Ar) : Prop where
  nodup : a.Fr.Nodup
  mem : ∀ n : Int, n ∈ a.Fr ↔ 0 ≤ n ∧ a.T[n.toNat]? = some false
  lim : (a.T.length : Int) ≤ a.most
  m0 : 0 ≤ a.most
  most : a.most ≤ 20000
theorem Ar.has_iff {a : Ar} {n : Int} : a.has n = true ↔ 0 ≤ n ∧ a.T[n.toNat]? = some true := by
  unfold Ar.has
  rw [Bool.and_eq_true, List.getD_eq_getElem?_getD]
  constructor
  · rintro ⟨h1, h2⟩
    refine ⟨by simpa using h1, ?_⟩
    cases h : a.T[n.toNat]? with
    | none => rw [h] at h2; cases h2
    | some b => rw [h] at h2; simpa using h2
  · rintro ⟨h1, h2⟩
    exact ⟨by simpa using h1, by rw [h2]; rfl⟩
theorem Ar.has_lt {a : Ar} {n : Int} (h : a.has n = true) : 0 ≤ n ∧ n < a.T.length := by
  have := Ar.has_iff.1 h
  have h2 := (List.getElem?_eq_some_iff.1 this.2).1
  omega
theorem sub_len' {α : Type} [DecidableEq α] : ∀ {l m : List α}, l.Nodup → (∀ x ∈ l, x ∈ m) → l.length ≤ m.length
  | [], m, _, _ => by simp
  | x :: l, m, hn, h => by
    have hx := h x (by simp)
    have hn' := List.nodup_cons.1 hn
    have := sub_len' (m := m.erase x) hn'.2 fun y hy => (List.mem_erase_of_ne (by intro e; subst e; exact hn'.1 hy)).2 (h y (by simp [hy]))
    rw [List.length_erase_of_mem hx] at this
    have := List.length_pos_of_mem hx
    simp only [List.length_cons]; omega
def upto (n : Nat) : List Int := (List.range n).map fun k : Nat => (k : Int)
theorem mem_upto {n : Nat} {x : Int} : x ∈ upto n ↔ 0 ≤ x ∧ x < n := by
  unfold upto
  rw [List.mem_map]
  constructor
  · rintro ⟨k, hk, rfl⟩; rw [List.mem_range] at hk; omega
  · rintro ⟨h1, h2⟩; exact ⟨x.toNat, List.mem_range.2 (by omega), by omega⟩
theorem nodup_upto (n : Nat) : (upto n).Nodup := by
  unfold upto
  rw [List.nodup_iff_pairwise_ne, List.pairwise_map]
  exact List.Pairwise.imp (fun h => by omega) List.pairwise_lt_range
theorem len_upto (n : Nat) : (upto n).length = n := by simp [upto]
section
variable {a : Ar}
theorem Ar.OK.count (h : a.OK) {l : List Int} (hn : l.Nodup) (hm : ∀ n, n ∈ l ↔ a.has n = true) : (l.length : Int) = a.many := by
  have nd : (l ++ a.Fr).Nodup := by
    rw [List.nodup_append]
    refine ⟨hn, h.nodup, fun x hx y hy e => ?_⟩
    subst e
    have h1 := (Ar.has_iff.1 ((hm x).1 hx)).2
    rw [((h.mem x).1 hy).2] at h1; cases h1
  have mm : ∀ x, x ∈ l ++ a.Fr ↔ x ∈ upto a.T.length := by
    intro x
    rw [mem_upto, List.mem_append, hm, h.mem, Ar.has_iff]
    constructor
    · rintro (⟨h1, h2⟩ | ⟨h1, h2⟩) <;> (have := (List.getElem?_eq_some_iff.1 h2).1; omega)
    · rintro ⟨h1, h2⟩
      have hl : x.toNat < a.T.length := by omega
      rw [List.getElem?_eq_getElem hl]
      cases hb : a.T[x.toNat]
      · exact .inr ⟨h1, rfl⟩
      · exact .inl ⟨h1, rfl⟩
  have l1 := sub_len' nd fun x hx => (mm x).1 hx
  have l2 := sub_len' (nodup_upto a.T.length) fun x hx => (mm x).2 hx
  rw [len_upto, List.length_append] at l1 l2
  unfold Ar.many; omega
theorem Ar.OK.many_le (h : a.OK) : 0 ≤ a.many ∧ a.many ≤ a.most := by
  have l1 := sub_len' h.nodup fun x hx => (mem_upto (n := a.T.length)).2 (by
    have := (h.mem x).1 hx
    have h2 := (List.getElem?_eq_some_iff.1 this.2).1
    omega)
  rw [len_upto] at l1
  have := h.lim
  unfold Ar.many; omega
theorem Ar.OK.frlen (h : a.OK) : a.Fr.length ≤ a.T.length := by have := h.many_le; unfold Ar.many at this; omega
theorem Ar.OK.start {m : Int} (h0 : 0 ≤ m) (h1 : m ≤ 20000) : (Ar.mk m [] []).OK := ⟨List.nodup_nil, fun n => by simp, by simpa using h0, h0, h1⟩
inductive Ar.Take (a : Ar) : Option (Int × Ar) → Prop
  | back (R : List Int) (n : Int) (hF : a.Fr = R ++ [n]) (h0 : 0 ≤ n) (h1 : n < a.T.length) (hf : a.has n = false) : Take a (some (n, a.takeB n R))
  | full (hF : a.Fr = []) (hm : (a.T.length : Int) = a.most) : Take a none
  | new (hF : a.Fr = []) (hm : (a.T.length : Int) < a.most) : Take a (some ((a.T.length : Int), a.takeN))
theorem Ar.OK.takes (h : a.OK) : a.Take a.take := by
  unfold Ar.take
  rcases List.eq_nil_or_concat a.Fr with e | ⟨R, n, e⟩
  · rw [e, List.getLast?_nil]
    by_cases hm : (a.T.length : Int) = a.most
    · simp only [hm, ↓reduceIte]; exact .full e hm
    · simp only [hm, ↓reduceIte]; exact .new e (by have := h.lim; omega)
  · rw [List.concat_eq_append] at e
    rw [e, List.getLast?_append, List.getLast?_singleton, List.dropLast_concat]
    have hm := (h.mem n).1 (by rw [e]; simp)
    have := (List.getElem?_eq_some_iff.1 hm.2).1
    refine .back R n e hm.1 (by omega) ?_
    cases hb : a.has n
    · rfl
    · have := (Ar.has_iff.1 hb).2; rw [hm.2] at this; cases this
theorem Ar.has_takeB {n m : Int} {R : List Int} (h0 : 0 ≤ n) (h1 : n < a.T.length) : (a.takeB n R).has m = (a.has m || decide (m = n)) := by
  have key : (a.takeB n R).has m = true ↔ (a.has m || decide (m = n)) = true := by
    rw [Ar.has_iff, Bool.or_eq_true, Ar.has_iff]
    simp only [Ar.takeB, decide_eq_true_eq]
    by_cases e : m = n
    · subst e; rw [List.getElem?_set_self (by omega)]; simp [h0]
    · constructor
      · rintro ⟨h2, h3⟩
        rw [List.getElem?_set_ne (by omega)] at h3; exact .inl ⟨h2, h3⟩
      · rintro (⟨h2, h3⟩ | h)
        · rw [List.getElem?_set_ne (by omega)]; exact ⟨h2, h3⟩
        · exact absurd h e
  cases h2 : (a.takeB n R).has m <;> cases h3 : (a.has m || decide (m = n)) <;> simp_all
theorem Ar.has_takeN {m : Int} : a.takeN.has m = (a.has m || decide (m = a.T.length)) := by
  have key : a.takeN.has m = true ↔ (a.has m || decide (m = a.T.length)) = true := by
    rw [Ar.has_iff, Bool.or_eq_true, Ar.has_iff]
    simp only [Ar.takeN, decide_eq_true_eq]
    constructor
    · rintro ⟨h2, h3⟩
      rw [List.getElem?_append] at h3
      split at h3
      · exact .inl ⟨h2, h3⟩
      · have := (List.getElem?_eq_some_iff.1 h3).1
        simp at this; right; omega
    · rintro (⟨h2, h3⟩ | rfl)
      · exact ⟨h2, by rw [List.getElem?_append_left (List.getElem?_eq_some_iff.1 h3).1]; exact h3⟩
      · exact ⟨by omega, by simp⟩
  cases h2 : a.takeN.has m <;> cases h3 : (a.has m || decide (m = a.T.length)) <;> simp_all
theorem Ar.has_give {n m : Int} (h : a.has n = true) : (a.give n).has m = (a.has m && !decide (m = n)) := by
  have hl := Ar.has_lt h
  have key : (a.give n).has m = true ↔ (a.has m && !decide (m = n)) = true := by
    rw [Ar.has_iff, Bool.and_eq_true, Ar.has_iff]
    simp only [Ar.give, Bool.not_eq_true', decide_eq_false_iff_not]
    by_cases e : m = n
    · subst e; rw [List.getElem?_set_self (by omega)]; simp
    · constructor
      · rintro ⟨h2, h3⟩
        rw [List.getElem?_set_ne (by omega)] at h3; exact ⟨⟨h2, h3⟩, e⟩
      · rintro ⟨⟨h2, h3⟩, _⟩
        rw [List.getElem?_set_ne (by omega)]; exact ⟨h2, h3⟩
  cases h2 : (a.give n).has m <;> cases h3 : (a.has m && !decide (m = n)) <;> simp_all
theorem Ar.OK.taken {n : Int} {b : Ar} (h : a.OK) (ht : a.take = some (n, b)) : b.OK ∧ b.most = a.most ∧ b.many = a.many + 1 ∧ a.has n = false ∧ 0 ≤ n ∧ n ≤ a.T.length ∧ (∀ m, b.has m = (a.has m || decide (m = n))) ∧ b.T.length = (if n = a.T.length then a.T.length + 1 else a.T.length) := by
  have hk := h.takes
  rw [ht] at hk
  generalize he : some (n, b) = o at hk
  cases hk with
  | full => cases he
  | back R k hF h0 h1 hf =>
    cases he
    refine ⟨⟨?_, fun m => ?_, ?_, h.m0, h.most⟩, rfl, ?_, hf, h0, by omega, fun m => Ar.has_takeB h0 h1, by rw [if_neg (by omega)]; simp [Ar.takeB]⟩
    · have := h.nodup; rw [hF, List.nodup_append] at this; exact this.1
    · have hm := h.mem m
      rw [hF, List.mem_append, List.mem_singleton] at hm
      have hnd := h.nodup
      rw [hF, List.nodup_append] at hnd
      by_cases e : m = n
      · subst e
        constructor
        · intro hR; exact absurd rfl (hnd.2.2 m hR m (by simp))
        · rintro ⟨_, h3⟩; simp only [Ar.takeB] at h3; rw [List.getElem?_set_self (by omega)] at h3; cases h3
      · simp only [Ar.takeB]
        constructor
        · intro hR
          have := hm.1 (.inl hR)
          exact ⟨this.1, by rw [List.getElem?_set_ne (by omega)]; exact this.2⟩
        · rintro ⟨h2, h3⟩
          rw [List.getElem?_set_ne (by omega)] at h3
          exact (hm.2 ⟨h2, h3⟩).resolve_right e
    · simpa [Ar.takeB] using h.lim
    · have : a.Fr.length = R.length + 1 := by rw [hF]; simp
      simp only [Ar.many, Ar.takeB, List.length_set, this]; omega
  | new hF hm =>
    cases he
    have hno : a.has (a.T.length : Int) = false := by
      cases hb : a.has (a.T.length : Int)
      · rfl
      · have := Ar.has_lt hb; omega
    refine ⟨⟨List.nodup_nil, fun m => ?_, ?_, h.m0, h.most⟩, rfl, ?_, hno, by omega, Int.le_refl _, fun m => Ar.has_takeN, by rw [if_pos rfl]; simp [Ar.takeN]⟩
    · have hm := h.mem m
      rw [hF] at hm
      constructor
      · intro h; cases h
      · rintro ⟨h2, h3⟩
        simp only [Ar.takeN] at h3
        rw [List.getElem?_append] at h3
        split at h3
        · exact hm.2 ⟨h2, h3⟩
        · have hh := (List.getElem?_eq_some_iff.1 h3).1
          simp at hh
          have e : m.toNat - a.T.length = 0 := by omega
          rw [e] at h3; cases h3
    · simp only [Ar.takeN, List.length_append, List.length_singleton]; omega
    · simp only [Ar.many, Ar.takeN, hF, List.length_append, List.length_singleton, List.length_nil]; omega
theorem Ar.OK.room (h : a.OK) : a.take = none ↔ a.many = a.most := by
  have hk := h.takes
  constructor
  · intro ht
    rw [ht] at hk
    generalize he : (none : Option (Int × Ar)) = o at hk
    cases hk with
    | full hF hm => unfold Ar.many; rw [hF, hm]; simp
    | back => cases he
    | new => cases he
  · intro hm
    cases ht : a.take with
    | none => rfl
    | some x =>
      obtain ⟨n, b⟩ := x
      have := h.taken ht
      have h2 := this.1.many_le
      omega
theorem Ar.OK.given {n : Int} (h : a.OK) (hn : a.has n = true) : (a.give n).OK ∧ (a.give n).many = a.many - 1 := by
  have hl := Ar.has_lt hn
  have ht := (Ar.has_iff.1 hn).2
  refine ⟨⟨?_, fun m => ?_, by simpa [Ar.give] using h.lim, h.m0, h.most⟩, by simp only [Ar.many, Ar.give, List.length_set, List.length_append, List.length_singleton]; omega⟩
  · simp only [Ar.give]
    rw [List.nodup_append]
    refine ⟨h.nodup, by simp, fun x hx y hy e => ?_⟩
    rw [List.mem_singleton] at hy
    subst e hy
    have := ((h.mem x).1 hx).2
    rw [ht] at this; cases this
  · simp only [Ar.give, List.mem_append, List.mem_singleton]
    rw [h.mem]
    by_cases e : m = n
    · subst e; rw [List.getElem?_set_self (by omega)]; simp [hl.1]
    · constructor
      · rintro (⟨h2, h3⟩ | h2)
        · exact ⟨h2, by rw [List.getElem?_set_ne (by omega)]; exact h3⟩
        · exact absurd h2 e
      · rintro ⟨h2, h3⟩
        rw [List.getElem?_set_ne (by omega)] at h3
        exact .inl ⟨h2, h3⟩
end
end Go.Bx

namespace Go.Proofs.Ytpeindhocndmnaa
open Go Go.Bx
set_option linter.unusedSimpArgs false
set_option linter.unusedVariables false
set_option maxRecDepth 100000
set_option maxHeartbeats 4000000
attribute [local irreducible] X XO XE XF XD XW thenX inX retX kN CallsR
def iV (n : Int) : Value := .int .i64 n
structure ArO (F : Nat → Prop) (w : World) (p : Nat) (a : Ar) (ta : Option Addr) (tc : Nat) (fa : Option Addr) (fc : Nat) : Prop where
  at_ : w.heap[p]? = some (.cells #[.int .i64 a.most, .slice ta a.T.length tc, .slice fa a.Fr.length fc] 171)
  T : SlC w 4 ta tc (a.T.map .bool)
  Fr : SlC w 3 fa fc (a.Fr.map (.int .i64))
  fp : F p
  ft : ∀ g, blk ta = some g → F g
  ff : ∀ g, blk fa = some g → F g
  lt : ∀ k, F k → k < w.heap.size
def ArI (F : Nat → Prop) (w : World) (p : Nat) (a : Ar) : Prop := ∃ ta tc fa fc, ArO F w p a ta tc fa fc
section
variable {F : Nat → Prop} {w w' : World} {p : Nat} {a : Ar}
theorem ArI.keep (h : ArI F w p a) (hk : ∀ k, F k → w'.heap[k]? = w.heap[k]?) (hs : w.heap.size ≤ w'.heap.size) : ArI F w' p a := by
  obtain ⟨ta, tc, fa, fc, h⟩ := h
  exact ⟨ta, tc, fa, fc, by rw [hk p h.fp]; exact h.at_, h.T.keep fun g hg => hk g (h.ft g hg), h.Fr.keep fun g hg => hk g (h.ff g hg), h.fp, h.ft, h.ff, fun k hk' => Nat.lt_of_lt_of_le (h.lt k hk') hs⟩
theorem ArI.wider {G : Nat → Prop} (h : ArI F w p a) (hFG : ∀ k, F k → G k) (hG : ∀ k, G k → k < w.heap.size) : ArI G w p a := by
  obtain ⟨ta, tc, fa, fc, h⟩ := h
  exact ⟨ta, tc, fa, fc, h.at_, h.T, h.Fr, hFG _ h.fp, fun g hg => hFG _ (h.ft g hg), fun g hg => hFG _ (h.ff g hg), hG⟩
theorem ArI.lt (h : ArI F w p a) : ∀ k, F k → k < w.heap.size := by obtain ⟨_, _, _, _, h⟩ := h; exact h.lt
theorem ArI.ext (h : ArI F w p a) (hE : Ext w w') : ArI F w' p a := h.keep (fun k hk => hE.heap k (h.lt k hk)) hE.size
theorem ArI.grown (h : ArI F w p a) (hE : Ext w w') : ArI (Grow F w w') w' p a := (h.ext hE).wider (fun k hk => .inl hk) fun k hk => hk.elim (fun h1 => Nat.lt_of_lt_of_le (h.lt k h1) hE.size) fun h1 => h1.2
end
theorem arHas_calls {F : Nat → Prop} {w : World} {p : Nat} {a : Ar} (h : ArI F w p a) (n : Int) : Quiet Try.prog 92 #[.pointer (some ⟨p, 0, none⟩), .int .i64 n] w (.bool (a.has n)) := by
  intro u hu
  have h := h.ext hu
  clear hu
  obtain ⟨ta, tc, fa, fc, hp, hT, hF, fp, ft, ff, hlt⟩ := h
  by_cases hn : 0 ≤ n ∧ n < a.T.length
  · obtain ⟨b, hb⟩ : ∃ b, a.T[n.toNat]? = some b := ⟨a.T[n.toNat]'(by omega), List.getElem?_eq_getElem (by omega)⟩
    obtain ⟨g, cur, rfl, hg, hc, _, hat⟩ := hT.at (i := n.toNat) (v := .bool b) (by rw [List.getElem?_map, hb]; rfl)
    have hr : a.has n = b := by unfold Ar.has; rw [List.getD, hb]; simp [hn.1]
    rw [hr]
    rw [List.length_map] at hc
    have hn0 := hn.1
    have hn1 := hn.2
    clear hb hr hn
    refine en2 Try.func92 Try.results92 mixed [] ?_
    intro e0 h0 h1
    refine w_ fun d => ?_
    exact ⟨rfl, ext_⟩
  · have hr : a.has n = false := by
      cases hh : a.has n
      · rfl
      · exact absurd (Ar.has_lt hh) hn
    rw [hr]
    clear hr
    by_cases hn0 : 0 ≤ n
    · have hn1 : ¬ n < a.T.length := by omega
      clear hn
      refine en2 Try.func92 Try.results92 mixed [] ?_
      intro e0 h0 h1
      refine w_ fun d => ?_
      exact ⟨rfl, ext_⟩
    · clear hn
      refine en2 Try.func92 Try.results92 mixed [] ?_
      intro e0 h0 h1
      refine w_ fun d => ?_
      exact ⟨rfl, ext_⟩
theorem arMany_calls {F : Nat → Prop} {w : World} {p : Nat} {a : Ar} (h : ArI F w p a) (ho : a.OK) : Quiet Try.prog 107 #[.pointer (some ⟨p, 0, none⟩)] w (.int .i64 a.many) := by
  intro u hu
  have h := h.ext hu
  clear hu
  obtain ⟨ta, tc, fa, fc, hp, hT, hF, fp, ft, ff, hlt⟩ := h
  have h1 := ho.lim
  have h2 := ho.most
  have h3 := ho.frlen
  have hm : (a.T.length : Int) - a.Fr.length = a.many := rfl
  have hm2 := ho.many_le
  clear ho
  refine en1 Try.func107 Try.results107 mixed [] ?_
  intro e0 h0
  refine w_ fun d => ?_
  exact ⟨rfl, ext_⟩
def errV (c : Int) : Value := if c = 0 then .nilIface else .iface 127 (.int .i64 c)
theorem errV0 : errV 0 = .nilIface := rfl
theorem arNew_calls (most : Int) (h0' : 0 ≤ most) (h1' : most ≤ 20000) (w : World) :
    CallsR Try.prog 84 #[.int .i64 most] w fun r w' => r = .pointer (some ⟨w.heap.size, 0, none⟩) ∧ ArI (fun k => k = w.heap.size) w' w.heap.size ⟨most, [], []⟩ ∧ w'.heap.size = w.heap.size + 1 ∧ Ext w w' := by
  refine en1 Try.func84 Try.results84 mixed [] ?_
  intro e0 h0
  refine w_ fun d => ?_
  refine ⟨rfl, ⟨none, 0, none, 0, hA rfl, SlC.nil _ _, SlC.nil _ _, rfl, (fun g h => by cases h), (fun g h => by cases h), fun k hk => ?_⟩, by rw [alloc_size], ext_⟩
  rw [hk, alloc_size]; omega
theorem arNew_none (most : Int) (h : ¬ (0 ≤ most ∧ most ≤ 20000)) : Sure Try.prog 84 #[.int .i64 most] (.pointer none) := by
  intro w
  by_cases hm : 0 ≤ most
  · have hm2 : ¬ most ≤ 20000 := fun h' => h ⟨hm, h'⟩
    clear h
    refine en1 Try.func84 Try.results84 mixed [] ?_
    intro e0 h0
    refine w_ fun d => ?_
    exact ⟨rfl, ext_⟩
  · clear h
    refine en1 Try.func84 Try.results84 mixed [] ?_
    intro e0 h0
    refine w_ fun d => ?_
    exact ⟨rfl, ext_⟩
theorem arTake_calls {F : Nat → Prop} {w : World} {p : Nat} {a : Ar} (h : ArI F w p a) (ho : a.OK) :
    CallsR Try.prog 131 #[.pointer (some ⟨p, 0, none⟩)] w fun r w' => ∃ b, ((∃ n, a.take = some (n, b) ∧ r = .tuple #[.int .i64 n, .nilIface]) ∨ (a.take = none ∧ b = a ∧ r = .tuple #[.int .i64 0, .iface 127 (.int .i64 2)])) ∧ ArI (Grow F w w') w' p b ∧ Chg F w w' := by
  obtain ⟨ta, tc, fa, fc, hp, hT, hF, fp, ft, ff, hlt⟩ := h
  have hlim := ho.lim
  have hmost := ho.most
  have hpl := lt_of_heap hp
  have hfl := ho.frlen
  have hk := ho.takes
  clear ho
  generalize a.take = o at hk
  cases hk with
  | back R n hFr h0' h1' hf =>
    have e1 : a.Fr.length = R.length + 1 := by rw [hFr]; simp
    have hRl : R.length ≤ 1099511627776 := by omega
    rw [hFr] at hF
    obtain ⟨g, cur, rfl, hg, hc, _, hat⟩ := hF.at (i := R.length) (v := .int .i64 n) (by simp)
    have hgp : g ≠ p := hF.ne rfl hp (by decide)
    obtain ⟨b, hb⟩ : ∃ b, a.T[n.toNat]? = some b := ⟨a.T[n.toNat]'(by omega), List.getElem?_eq_getElem (by omega)⟩
    obtain ⟨gt, curt, rfl, hgt, hct, _, hatt⟩ := hT.at (i := n.toNat) (v := .bool b) (by rw [List.getElem?_map, hb]; rfl)
    have hgtp : gt ≠ p := hT.ne rfl hp (by decide)
    have hgg : gt ≠ g := hT.ne rfl hg (by decide)
    have e2 : (R.length : Int) + 1 - 1 = R.length := by omega
    have hszt : n.toNat < curt.size := (Array.getElem?_eq_some_iff.1 hatt).1
    rw [e1] at hp
    rw [List.length_map, List.length_append, List.length_singleton] at hc
    rw [List.length_map] at hct
    clear hFr hb e1
    have hpg := hgp.symm
    have hpgt := hgtp.symm
    refine en1 Try.func131 Try.results131 mixed [] ?_
    intro e0 h0
    refine w_ fun d => ?_
    have hT1 : SlC (upd w p (.cells #[.int .i64 a.most, .slice (some ⟨gt, 0, none⟩) a.T.length tc, .slice (some ⟨g, 0, none⟩) R.length fc] 171)) 4 (some ⟨gt, 0, none⟩) tc (a.T.map .bool) := hT.upd fun x hx => by have := blk_g hx; omega
    have hF1 := (hF.take (k := R.length) (by simp)).upd (b := p) (o := .cells #[.int .i64 a.most, .slice (some ⟨gt, 0, none⟩) a.T.length tc, .slice (some ⟨g, 0, none⟩) R.length fc] 171) fun x hx => by have := blk_g hx; omega
    rw [List.map_append, List.take_left' (by simp)] at hF1
    have hT2 := hT1.set (hA rfl) (i := n.toNat) (by rw [List.length_map]; omega) (.bool true)
    rw [← List.map_set] at hT2
    have hF2 := hF1.upd (b := gt) (o := .cells (curt.setIfInBounds n.toNat (.bool true)) 4) fun x hx => by have := blk_g hx; omega
    refine ⟨_, .inl ⟨n, rfl, rfl⟩, ?_, ?_⟩
    · rw [Grow.size (w2 := w) (by simp only [upd_size]), Grow.eq_self]
      refine ⟨_, tc, _, fc, ?_, hT2, hF2, fp, ft, ff, fun k hk => by simp only [upd_size]; exact hlt k hk⟩
      have : (a.takeB n R).T.length = a.T.length := by simp [Ar.takeB]
      rw [this]; exact hA rfl
    · have := fp; have := ft gt rfl
      exact chg_
  | full hFr hm =>
    have e1 : a.Fr.length = 0 := by rw [hFr]; rfl
    rw [e1] at hp
    have hm2 : ((a.T.length : Int) == a.most) = true := by simpa using hm
    refine en1 Try.func131 Try.results131 mixed [] ?_
    intro e0 h0
    refine w_ fun d => ?_
    refine ⟨a, .inr (by simp), ?_, chg_⟩
    rw [Grow.size (w2 := w) (by simp only [dr_heap]), Grow.eq_self]
    exact ArI.ext ⟨ta, tc, fa, fc, by rw [e1]; exact hp, hT, hF, fp, ft, ff, hlt⟩ ext_
  | new hFr hm =>
    have e1 : a.Fr.length = 0 := by rw [hFr]; rfl
    rw [e1] at hp
    rw [hFr] at hF
    have hne : ((a.T.length : Int) == a.most) = false := by simpa using (by omega : (a.T.length : Int) ≠ a.most)
    refine en1 Try.func131 Try.results131 mixed [] ?_
    intro e0 h0
    refine w_ fun d => ?_
    have hE0 : Ext w (dr w d) := ext_
    have hp0 := hp
    rw [← hE0.heap p hpl] at hp0
    have hT0 := hT.ext hE0
    have hF0 := hF.ext hE0
    obtain ⟨a', c', w1, hr, hT1, hC1, hs1, hB1⟩ := hT0.push (P := Try.prog) (news := [.bool true]) T44 T4 rfl rfl (by rw [List.length_map]; simp; omega) (by decide) (k := 1) rfl rfl
    have hl1 : (a.T.map Value.bool ++ [Value.bool true]).length = a.T.length + 1 := by simp
    rw [List.length_map, hl1] at hr
    have hta : ∀ g, blk ta = some g → g ≠ p := fun g hg => hT0.ne hg hp0 (by decide)
    have hp1 : w1.heap[p]? = some (.cells #[.int .i64 a.most, .slice ta a.T.length tc, .slice fa 0 fc] 171) := by rw [hC1.heap _ hpl fun h => hta p h rfl]; exact hp
    have hF1 := hF0.chg hC1 fun g hg hb => by
      obtain ⟨c2, h2⟩ := hT0.tag hb
      exact hF0.ne hg h2 (by decide) rfl
    have hpl1 := lt_of_heap hp1
    have hCw := (hE0.chg F).trans hC1 fun b _ hb => ft b hb
    simp only [alloc_dr, dr_heap] at hr hs1 hB1
    have e3 : (a.T.length : Int) + 1 - 1 = a.T.length := by omega
    clear hp0 hT0 hF0 hC1 hE0
    refine w_ fun d => ?_
    have ha' : ∀ g, blk a' = some g → g ≠ p := fun g hg => hT1.ne hg hp1 (by decide)
    have hfa : ∀ g, blk fa = some g → g ≠ p := fun g hg => hF1.ne hg hp1 (by decide)
    refine ⟨_, .inl ⟨_, rfl, rfl⟩, ?_, chg_⟩
    refine ⟨a', c', fa, fc, ?_, ?_, ?_, .inl fp, fun g hg => ?_, fun g hg => .inl (ff g hg), fun k hk => ?_⟩
    · have : a.takeN.T.length = a.T.length + 1 := by simp [Ar.takeN]
      rw [this]; exact hA rfl
    · have := hT1.upd (b := p) (o := .cells #[.int .i64 a.most, .slice a' (a.T.length + 1) c', .slice fa 0 fc] 171) ha'
      rw [show a.takeN.T.map Value.bool = a.T.map Value.bool ++ [Value.bool true] by simp [Ar.takeN]]
      exact this
    · exact hF1.upd hfa
    · rcases hB1 g hg with h | ⟨h, h'⟩
      · exact .inl (ft g h)
      · exact .inr ⟨h, by simp only [upd_size]; exact h'⟩
    · rcases hk with hk | hk
      · have := hlt k hk; simp only [upd_size]; omega
      · exact hk.2
theorem arGive_calls {F : Nat → Prop} {w : World} {p : Nat} {a : Ar} (h : ArI F w p a) (ho : a.OK) (n : Int) :
    CallsR Try.prog 132 #[.pointer (some ⟨p, 0, none⟩), .int .i64 n] w fun r w' => (if a.has n then r = .nilIface ∧ ArI (Grow F w w') w' p (a.give n) else r = .iface 127 (.int .i64 1) ∧ ArI (Grow F w w') w' p a) ∧ Chg F w w' := by
  have c1 := arHas_calls h n
  cases hh : a.has n
  · rw [hh] at c1
    simp only [Bool.false_eq_true, ↓reduceIte]
    refine en2 Try.func132 Try.results132 mixed [] ?_
    intro e0 h0 h1
    refine w_ fun d => ?_
    refine callQ c1.call fun w1 hE1 hs1 => ?_
    refine w_ fun d => ?_
    exact ⟨⟨rfl, h.grown hE1⟩, chg_⟩
  · rw [hh] at c1
    simp only [↓reduceIte]
    obtain ⟨hn0, hn1⟩ := Ar.has_lt hh
    obtain ⟨hn2, hb⟩ := Ar.has_iff.1 hh
    have hfl := ho.frlen
    have hlim := ho.lim
    have hmost := ho.most
    clear hh hn2 ho
    refine en2 Try.func132 Try.results132 mixed [] ?_
    intro e0 h0 h1
    refine w_ fun d => ?_
    refine callQ c1.call fun w1 hE1 hs1 => ?_
    have h' := h.ext hE1
    have hlt0 := h.lt
    clear c1 h
    obtain ⟨ta, tc, fa, fc, hp, hT, hF, fp, ft, ff, hlt⟩ := h'
    have hCE := hE1.chg F
    have hpl := lt_of_heap hp
    obtain ⟨gt, curt, rfl, hgt, hct, _, hatt⟩ := hT.at (i := n.toNat) (v := .bool true) (by rw [List.getElem?_map, hb]; rfl)
    rw [List.length_map] at hct
    have hgtp : gt ≠ p := hT.ne rfl hp (by decide)
    have hpgt := hgtp.symm
    have hszt : n.toNat < curt.size := (Array.getElem?_eq_some_iff.1 hatt).1
    have hfp : ∀ g, blk fa = some g → g ≠ p := fun g hg => hF.ne hg hp (by decide)
    have hfg : ∀ g, blk fa = some g → g ≠ gt := fun g hg => hF.ne hg hgt (by decide)
    have hgl := lt_of_heap hgt
    have hF1 := hF.upd (b := gt) (o := .cells (curt.setIfInBounds n.toNat (.bool false)) 4) hfg
    have hT1 := hT.set hgt (i := n.toNat) (by rw [List.length_map]; omega) (.bool false)
    rw [← List.map_set] at hT1
    obtain ⟨a', c', w2, hr, hF2, hC2, hs2, hB2⟩ := hF1.push (P := Try.prog) (news := [.int .i64 n]) T34 T3 rfl rfl (by rw [List.length_map]; simp; omega) (by decide) (k := 1) rfl rfl
    have hl1 : (a.Fr.map (Value.int .i64) ++ [Value.int .i64 n]).length = a.Fr.length + 1 := by simp
    rw [List.length_map, hl1] at hr
    simp only [upd_size] at hr hs2 hB2
    have hp2 : w2.heap[p]? = some (.cells #[.int .i64 a.most, .slice (some ⟨gt, 0, none⟩) a.T.length tc, .slice fa a.Fr.length fc] 171) := by
      rw [hC2.heap _ (by simp only [upd_size]; exact hpl) fun h => hfp p h rfl, upd_other hgtp]; exact hp
    have hT2 := hT1.chg hC2 fun g hg hb => by
      have := blk_g hg
      exact hfg g hb this.symm
    have hpl2 := lt_of_heap hp2
    have hCw := (hCE.upd (b := gt) (fun _ => ft gt rfl) (.cells (curt.setIfInBounds n.toNat (.bool false)) 4)).trans hC2 fun b _ hb => ff b hb
    clear hC2
    refine w_ fun d => ?_
    have ha' : ∀ g, blk a' = some g → g ≠ p := fun g hg => hF2.ne hg hp2 (by decide)
    refine ⟨⟨rfl, _, tc, a', c', ?_, ?_, ?_, .inl fp, fun g hg => .inl (ft g hg), fun g hg => ?_, fun k hk => ?_⟩, chg_⟩
    · rw [show (a.give n).T.length = a.T.length by simp [Ar.give], show (a.give n).Fr.length = a.Fr.length + 1 by simp [Ar.give]]
      exact hA rfl
    · exact hT2.upd fun g hg => by have := blk_g hg; omega
    · rw [show (a.give n).Fr.map (Value.int .i64) = a.Fr.map (Value.int .i64) ++ [Value.int .i64 n] by simp [Ar.give]]
      exact hF2.upd ha'
    · rcases hB2 g hg with h | ⟨h, h'⟩
      · exact .inl (ff g h)
      · exact .inr ⟨by omega, by simp only [upd_size]; exact h'⟩
    · rcases hk with hk | hk
      · have := hlt k hk; simp only [upd_size]; omega
      · exact hk.2
end Go.Proofs.Ytpeindhocndmnaa

namespace Go.Proofs.Ytpeindhocndmnaa
open Go Go.Bx
set_option linter.unusedSimpArgs false
set_option linter.unusedVariables false
set_option maxRecDepth 100000
set_option maxHeartbeats 4000000
attribute [local irreducible] X XO XE XF XD XW thenX inX retX kN CallsR
def UqM (F : Nat → Prop) (w : World) (p : Nat) (M : Ky → Option Int) (c : Int) : Prop :=
  ∃ g T, UqI w p g c T ∧ TabI T c ∧ (∀ k v, M k = some v ↔ MemT T k v) ∧ T.length ≤ 80000 ∧ F p ∧ F g ∧ ∀ k, F k → k < w.heap.size
section
variable {F : Nat → Prop} {w w' : World} {p : Nat} {M : Ky → Option Int} {c : Int}
theorem UqM.keep (h : UqM F w p M c) (hk : ∀ k, F k → w'.heap[k]? = w.heap[k]?) (hs : w.heap.size ≤ w'.heap.size) : UqM F w' p M c := by
  obtain ⟨g, T, h1, h2, h3, h4, h5, h6, h7⟩ := h
  exact ⟨g, T, ⟨by rw [hk p h5]; exact h1.at_, by rw [hk g h6]; exact h1.sl, h1.pw, h1.pos, h1.lim⟩, h2, h3, h4, h5, h6, fun k hk' => Nat.lt_of_lt_of_le (h7 k hk') hs⟩
theorem UqM.wider {G : Nat → Prop} (h : UqM F w p M c) (hFG : ∀ k, F k → G k) (hG : ∀ k, G k → k < w.heap.size) : UqM G w p M c := by
  obtain ⟨g, T, h1, h2, h3, h4, h5, h6, h7⟩ := h
  exact ⟨g, T, h1, h2, h3, h4, hFG _ h5, hFG _ h6, hG⟩
theorem UqM.lt (h : UqM F w p M c) : ∀ k, F k → k < w.heap.size := by obtain ⟨g, T, h1, h2, h3, h4, h5, h6, h7⟩ := h; exact h7
theorem UqM.ext (h : UqM F w p M c) (hE : Ext w w') : UqM F w' p M c := h.keep (fun k hk => hE.heap k (h.lt k hk)) hE.size
end
theorem uqNew_calls (w : World) : CallsR Try.prog 85 #[] w fun r w' => ∃ p, r = .pointer (some ⟨p, 0, none⟩) ∧ UqM (fun k => w.heap.size ≤ k ∧ k < w'.heap.size) w' p (fun _ => none) 0 ∧ Ext w w' := by
  refine (unew_calls w).mono ?_
  rintro r w' ⟨g, p, rfl, h, hg, hp, hE⟩
  refine ⟨p, rfl, ⟨g, _, h, ⟨inv_rep (by decide), cnt_rep 8, by simp, by decide⟩, fun k v => ?_, by simp, ⟨hp, lt_of_heap h.at_⟩, ⟨hg, lt_of_heap h.sl⟩, fun k hk => hk.2⟩, hE⟩
  constructor
  · intro h; cases h
  · rintro ⟨q, hq⟩
    unfold occ at hq; rw [List.getElem?_replicate] at hq; split at hq <;> cases hq
section
variable {F : Nat → Prop} {w w' : World} {p : Nat} {M : Ky → Option Int} {c : Int}
theorem uqGet_calls (h : UqM F w p M c) (lo hi : Int) : Quiet Try.prog 130 #[.pointer (some ⟨p, 0, none⟩), .int .i64 lo, .int .i64 hi] w (.tuple #[.int .i64 ((M (lo, hi)).getD 0), .bool (M (lo, hi)).isSome]) := by
  intro u hu
  obtain ⟨g, T, h1, h2, h3, h4, h5, h6, h7⟩ := h.ext hu
  obtain ⟨i, hil, hf⟩ := h2.find (lo, hi)
  refine (uget_calls h1 hil hf).mono ?_
  rintro r w' ⟨rfl, hE⟩
  refine ⟨?_, hE⟩
  rcases finds_mem' h2.inv hf with ⟨a, b⟩ | ⟨v, a⟩
  · rw [a]
    cases hm : M (lo, hi) with
    | none => rfl
    | some v => exact absurd ((h3 _ _).1 hm) (b v)
  · rw [a, (h3 _ _).2 ⟨i, a⟩]; rfl
theorem uqPut_calls (h : UqM F w p M c) (hc : c ≤ 19999) {lo hi : Int} (n : Int) (hm : M (lo, hi) = none) :
    CallsR Try.prog 138 #[.pointer (some ⟨p, 0, none⟩), .int .i64 lo, .int .i64 hi, .int .i64 n] w fun r w' => r = .bool true ∧ UqM (Grow F w w') w' p (fun k => if k = (lo, hi) then some n else M k) (c + 1) ∧ Chg F w w' := by
  obtain ⟨g, T, h1, h2, h3, h4, h5, h6, h7⟩ := h
  refine (uput_calls h1 h2 (by omega) lo hi n).mono ?_
  rintro r w' ⟨g', m', T', k1, k2, k3, k4, k5⟩
  have hC : Chg F w w' := k3.mono fun k _ hk => by rcases hk with rfl | rfl; exact h5; exact h6
  rcases k5 with ⟨_, _, _, v, hv⟩ | ⟨rfl, rfl, hno, hM, hl⟩
  · rw [(h3 _ _).2 hv] at hm; cases hm
  · refine ⟨rfl, ⟨g', T', k1, k2, fun k v => ?_, by rw [hl]; split <;> omega, .inl h5, ?_, fun k hk => ?_⟩, hC⟩
    · rw [hM]
      show (if k = (lo, hi) then some n else M k) = some v ↔ _
      by_cases e : k = (lo, hi)
      · subst e
        rw [if_pos rfl]
        constructor
        · intro h; cases h; exact .inr ⟨rfl, rfl⟩
        · rintro (h | ⟨_, rfl⟩)
          · exact absurd h (hno v)
          · rfl
      · rw [if_neg e, h3]
        constructor
        · exact .inl
        · rintro (h | ⟨h, _⟩)
          · exact h
          · exact absurd h e
    · rcases k4 with rfl | k4
      · exact .inl h6
      · exact .inr ⟨k4, lt_of_heap k1.sl⟩
    · rcases hk with hk | hk
      · exact Nat.lt_of_lt_of_le (h7 k hk) k3.size
      · exact hk.2
theorem uqDrop_calls (h : UqM F w p M c) {lo hi n : Int} (hm : M (lo, hi) = some n) :
    CallsR Try.prog 136 #[.pointer (some ⟨p, 0, none⟩), .int .i64 lo, .int .i64 hi] w fun r w' => r = .bool true ∧ UqM (Grow F w w') w' p (fun k => if k = (lo, hi) then none else M k) (c - 1) ∧ Chg F w w' := by
  obtain ⟨g, T, h1, h2, h3, h4, h5, h6, h7⟩ := h
  refine (udrop_calls h1 h2 lo hi).mono ?_
  rintro r w' ⟨m', T', k1, k2, k3, k4, k5⟩
  have hC : Chg F w w' := k4.mono fun k _ hk => by rcases hk with rfl | rfl; exact h5; exact h6
  rcases k5 with ⟨_, _, _, hno⟩ | ⟨rfl, rfl, _, hM⟩
  · exact absurd ((h3 _ _).1 hm) (hno n)
  · refine ⟨rfl, ⟨g, T', k1, k2, fun k v => ?_, by omega, .inl h5, .inl h6, fun k hk => ?_⟩, hC⟩
    · rw [hM]
      show (if k = (lo, hi) then none else M k) = some v ↔ _
      by_cases e : k = (lo, hi)
      · rw [if_pos e]
        constructor
        · intro h; cases h
        · rintro ⟨_, h⟩; exact absurd e h
      · rw [if_neg e, h3]
        exact ⟨fun h => ⟨h, e⟩, fun h => h.1⟩
    · rcases hk with hk | hk
      · exact Nat.lt_of_lt_of_le (h7 k hk) k4.size
      · exact hk.2
end
end Go.Proofs.Ytpeindhocndmnaa

namespace Go.Proofs.Ytpeindhocndmnaa
open Go Go.Bx
set_option linter.unusedSimpArgs false
set_option linter.unusedVariables false
set_option maxRecDepth 100000
set_option maxHeartbeats 4000000
attribute [local irreducible] X XO XE XF XD XW thenX inX retX kN CallsR
structure OrdC (ord : List Int) (cs : Array Value) : Prop where
  agg : aI ord = .agg cs
  size : cs.size = 8
  all : cs.extract 0 8 = cs
  at_ : ∀ (k : Nat) (x : Int), ord[k]? = some x → cs[k]? = some (Value.int IntKind.i64 x)
  vc : vcs (.agg cs) = ord.map (Value.int .i64)
  len8 : (vcs (.agg cs)).length = 8
  cell : (vcs (.agg cs)).all isCell = true
theorem ordC {ord : List Int} (h : ord.length = 8) : ∃ cs, OrdC ord cs := by
  refine ⟨_, rfl, by simpa using h, ?_, fun k x hx => ?_, rfl, by rw [vcs_aggL, List.length_map]; exact h, by rw [vcs_aggL, List.all_map]; exact List.all_eq_true.2 fun x _ => rfl⟩
  · apply Array.ext_getElem?
    intro j
    rw [Array.getElem?_extract]
    by_cases hj : j < 8
    · rw [if_pos (by simp [h]; omega)]; simp
    · rw [if_neg (by simp [h]; omega), Array.getElem?_eq_none (by simp [h]; omega)]
  · simp [hx]
theorem stN_agg {P : Program} {b : Nat} {w : World} {E : TypeId} {cs c : Array Value} (h : cs.size = c.size) : stN P b 0 (vcs (.agg cs)) w (some (.cells c E (0, 0))) = .ok () (upd w b (.cells cs E (0, 0))) := by
  have e : vcs (.agg cs) = cs.toList := rfl
  rw [e, stN_cells (by rw [Array.length_toList]; omega)]
  congr 3
  have := wrN_all cs.toList c.toList [] (by simp [h])
  simpa using this
attribute [push_cast] stN_agg
end Go.Proofs.Ytpeindhocndmnaa

namespace Go.Proofs.Ytpeindhocndmnaa
open Go Go.Bx
set_option linter.unusedSimpArgs false
set_option linter.unusedVariables false
set_option maxRecDepth 100000
set_option maxHeartbeats 4000000
attribute [local irreducible] X XO XE XF XD XW thenX inX retX kN CallsR
theorem level_calls (l : List Int) (ho : l.length = 8) (v : Int) : Sure Try.prog 122 #[aI l, .int .i64 v] (.int .i64 (lvl l v)) := by
  intro w
  obtain ⟨oc, hc⟩ := ordC ho
  have hsz := hc.size
  have hall := hc.all
  rw [hc.agg]
  refine en2 Try.func122 Try.results122 mixed [] ?_
  intro e0 h0 h1
  refine w_ fun d => ?_
  refine lo_ (fun W e w' => ∃ k : Nat, k ≤ 8 ∧ e 8 = .int .i64 k ∧ e 7 = .agg oc ∧ Box (∀ i, i < k → l[i]? ≠ some v) ∧ Ext W w') (fun e _ => 8 - nat (e 8)) ?_ ?_
  · exact ⟨0, by omega, eA rfl, eA rfl, ⟨fun i hi => by omega⟩, ext_⟩
  rintro e w1 hf ⟨k, hk, h8, h7, ⟨hi⟩, hE⟩
  have hs1 := sz_ hE
  by_cases hlt : k < 8
  · obtain ⟨x, hx⟩ : ∃ x, l[k]? = some x := ⟨l[k], List.getElem?_eq_getElem (by omega)⟩
    have hat := hc.at_ k x hx
    by_cases e : x = v
    · subst e
      have hl := lvl_first hx hi
      clear hx hi
      refine w_ fun d => ?_
      exact ⟨by rw [hl], ext_⟩
    · have hi' : Box (∀ i, i < k + 1 → l[i]? ≠ some v) := ⟨fun i h => by
        by_cases e2 : i = k
        · subst e2; rw [hx]; simpa using e
        · exact hi i (by omega)⟩
      clear hx hi
      have e' : (x == v) = false := by simpa using e
      refine w_ fun d => ?_
      exact ⟨⟨k + 1, by omega, eA rfl, eA rfl, hi', ext_⟩, mA⟩
  · obtain rfl : k = 8 := by omega
    have hl := lvl_none (l := l) (v := v) (by rw [ho]; exact hi)
    clear hi
    refine w_ fun d => ?_
    exact ⟨by rw [hl], ext_⟩
theorem swap_calls (l : List Int) (ho : l.length = 8) (i : Int) : Sure Try.prog 96 #[aI l, .int .i64 i] (aI (swp l i)) := by
  intro w
  obtain ⟨oc, hc⟩ := ordC ho
  have hsz := hc.size
  have hall := hc.all
  by_cases hi : 0 ≤ i ∧ i < 7
  · obtain ⟨n, rfl⟩ := Int.eq_ofNat_of_zero_le hi.1
    have hn : n < 7 := by omega
    obtain ⟨x, hx⟩ : ∃ x, l[n]? = some x := ⟨l[n], List.getElem?_eq_getElem (by omega)⟩
    obtain ⟨y, hy⟩ : ∃ y, l[n + 1]? = some y := ⟨l[n + 1], List.getElem?_eq_getElem (by omega)⟩
    have hn1 : ((n : Int) + 1).toNat = n + 1 := by omega
    have hss : (oc.setIfInBounds n (.int .i64 y)).size = 8 := by rw [Array.size_setIfInBounds]; exact hsz
    have hx' := hc.at_ n x hx
    have hy' := hc.at_ (n + 1) y hy
    have hres : Value.agg ((oc.setIfInBounds n (.int .i64 y)).setIfInBounds (n + 1) (.int .i64 x)) = aI (swp l n) := by
      have : oc = (l.map (Value.int .i64)).toArray := by have := hc.agg; unfold aI at this; cases this; rfl
      rw [this, List.setIfInBounds_toArray, List.setIfInBounds_toArray]
      unfold swp
      rw [if_pos hi, aI, List.map_set, List.map_set]
      simp [List.getD, hx, hy]
    obtain ⟨oc2, hc2⟩ := ordC (ord := swp l n) (by rw [swp_length]; exact ho)
    have hsz2 := hc2.size
    have hall2 := hc2.all
    have hl2 := hc2.len8
    have hcl2 := hc2.cell
    rw [hc2.agg] at hres ⊢
    have hr : (oc.setIfInBounds n (.int .i64 y)).setIfInBounds (n + 1) (.int .i64 x) = oc2 := by cases hres; rfl
    clear hres
    rw [hc.agg]
    clear hx hy
    refine en2 Try.func96 Try.results96 mixed [] ?_
    intro e0 h0 h1
    refine w_ fun d => ?_
    exact ⟨rfl, ext_⟩
  · have hs : swp l i = l := if_neg hi
    have hl2 := hc.len8
    have hcl2 := hc.cell
    rw [hs, hc.agg]
    by_cases h0' : 0 ≤ i
    · refine en2 Try.func96 Try.results96 mixed [] ?_
      intro e0 h0 h1
      refine w_ fun d => ?_
      exact ⟨rfl, ext_⟩
    · refine en2 Try.func96 Try.results96 mixed [] ?_
      intro e0 h0 h1
      refine w_ fun d => ?_
      exact ⟨rfl, ext_⟩
def FF (l : List Int) (v : Int) (k : Nat) (m : Int) : Prop := (m = -1 ∧ ∀ j, k ≤ j → l[j]? ≠ some v) ∨ ∃ n : Nat, m = n ∧ k ≤ n ∧ l[n]? = some v ∧ ∀ j, k ≤ j → j < n → l[j]? ≠ some v
theorem FF_zero {l : List Int} {v m : Int} (h : FF l v 0 m) : m = lvl l v := by
  rcases h with ⟨rfl, h⟩ | ⟨n, rfl, _, h1, h2⟩
  · exact (lvl_none fun i _ => h i (by omega)).symm
  · exact (lvl_first h1 fun i hi => h2 i (by omega) hi).symm
theorem FF.hit {l : List Int} {v : Int} {k : Nat} (h : l[k]? = some v) : FF l v k k := .inr ⟨k, rfl, Nat.le_refl _, h, fun j h1 h2 => by omega⟩
theorem FF.miss {l : List Int} {v m : Int} {k : Nat} (h : FF l v (k + 1) m) (hk : l[k]? ≠ some v) : FF l v k m := by
  have key : ∀ j, k ≤ j → j = k ∨ k + 1 ≤ j := fun j h => by omega
  rcases h with ⟨rfl, h⟩ | ⟨n, rfl, h0, h1, h2⟩
  · refine .inl ⟨rfl, fun j hj => ?_⟩
    rcases key j hj with rfl | h'
    · exact hk
    · exact h j h'
  · refine .inr ⟨n, rfl, by omega, h1, fun j hj hn => ?_⟩
    rcases key j hj with rfl | h'
    · exact hk
    · exact h2 j h' hn
theorem refLevel_calls (l : List Int) (ho : l.length = 8) (v : Int) : Sure Try.prog 25 #[aI l, .int .i64 v] (.int .i64 (lvl l v)) := by
  intro w
  obtain ⟨oc, hc⟩ := ordC ho
  have hsz := hc.size
  have hall := hc.all
  rw [hc.agg]
  refine en2 Try.func25 Try.results25 mixed [] ?_
  intro e0 h0 h1
  refine w_ fun d => ?_
  refine lo_ (fun W e w' => ∃ (k : Nat) (m : Int), k ≤ 8 ∧ e 6 = .int .i64 ((k : Int) - 1) ∧ e 5 = .int .i64 m ∧ w'.heap[w.heap.size]? = some (.cells oc 36) ∧ Box (FF l v k m) ∧ Ext w w') (fun e _ => upI (e 6)) ?_ ?_
  · exact ⟨8, -1, by omega, eA rfl, eA rfl, hA rfl, ⟨.inl ⟨rfl, fun j hj => by rw [List.getElem?_eq_none (by omega)]; simp⟩⟩, ext_⟩
  rintro e w1 hf ⟨k, m, hk, h6, h5, hb, ⟨hi⟩, hE⟩
  have hs1 := sz_ hE
  have hlb := lt_of_heap hb
  match k, hk with
  | 0, _ =>
    have hm := FF_zero hi
    clear hi
    refine w_ fun d => ?_
    exact ⟨rfl, ext_⟩
  | k + 1, hk =>
    obtain ⟨x, hx⟩ : ∃ x, l[k]? = some x := ⟨l[k], List.getElem?_eq_getElem (by omega)⟩
    have hat := hc.at_ k x hx
    have e1 : ((k + 1 : Nat) : Int) - 1 = k := by omega
    rw [e1] at h6
    by_cases e : x = v
    · subst e
      have hi' : Box (FF l x k k) := ⟨FF.hit hx⟩
      clear hx hi
      refine w_ fun d => ?_
      exact ⟨⟨k, k, by omega, eA rfl, eA rfl, hA rfl, hi', ext_⟩, mS⟩
    · have hi' : Box (FF l v k m) := ⟨hi.miss (by rw [hx]; simpa using e)⟩
      have e' : (x == v) = false := by simpa using e
      clear hx hi
      refine w_ fun d => ?_
      exact ⟨⟨k, m, by omega, eA rfl, eA rfl, hA rfl, hi', ext_⟩, mS⟩
theorem refSwap_calls (l : List Int) (ho : l.length = 8) (i : Int) : Sure Try.prog 109 #[aI l, .int .i64 i] (aI (swp l i)) := by
  intro w
  obtain ⟨oc, hc⟩ := ordC ho
  have hsz := hc.size
  have hall := hc.all
  have hl1 := hc.len8
  have hcl1 := hc.cell
  obtain ⟨oc2, hc2⟩ := ordC (ord := swp l i) (by rw [swp_length]; exact ho)
  have hsz2 := hc2.size
  have hall2 := hc2.all
  have hl2 := hc2.len8
  have hcl2 := hc2.cell
  have hst : ∀ n : Nat, n < 7 → i = n → ∃ x y : Int, oc[n]? = some (Value.int .i64 x) ∧ oc[n + 1]? = some (Value.int .i64 y) ∧ (oc.setIfInBounds n (.int .i64 y)).setIfInBounds (n + 1) (.int .i64 x) = oc2 := by
    intro n hn hi
    obtain ⟨x, hx⟩ : ∃ x, l[n]? = some x := ⟨l[n], List.getElem?_eq_getElem (by omega)⟩
    obtain ⟨y, hy⟩ : ∃ y, l[n + 1]? = some y := ⟨l[n + 1], List.getElem?_eq_getElem (by omega)⟩
    refine ⟨x, y, hc.at_ _ _ hx, hc.at_ _ _ hy, ?_⟩
    have h1 : oc = (l.map (Value.int .i64)).toArray := by have := hc.agg; unfold aI at this; cases this; rfl
    have h2 : oc2 = ((swp l i).map (Value.int .i64)).toArray := by have := hc2.agg; unfold aI at this; cases this; rfl
    rw [h1, h2, List.setIfInBounds_toArray, List.setIfInBounds_toArray, hi]
    unfold swp
    rw [if_pos (by omega), List.map_set, List.map_set]
    simp [List.getD, hx, hy]
  have hne : ¬ (0 ≤ i ∧ i < 7) → oc2 = oc := fun h => by
    have h1 := hc.agg
    have h2 := hc2.agg
    rw [show swp l i = l from if_neg h, h1] at h2
    cases h2; rfl
  rw [hc.agg, hc2.agg]
  clear hc hc2 ho
  refine en2 Try.func109 Try.results109 mixed [] ?_
  intro e0 h0 h1
  refine w_ fun d => ?_
  refine lo_ (fun W e w' => ∃ (k : Nat) (rc : Array Value), k ≤ 7 ∧ e 6 = .int .i64 k ∧ w'.heap[w.heap.size]? = some (.cells oc 36) ∧ w'.heap[w.heap.size + 1]? = some (.cells #[.int .i64 0, .int .i64 0, .int .i64 0, .int .i64 0, .int .i64 0, .int .i64 0, .int .i64 0, .int .i64 0] 36) ∧ w'.heap[w.heap.size + 1 + 1]? = some (.cells rc 36) ∧ Box (rc = if 0 ≤ i ∧ i < k then oc2 else oc) ∧ Ext w w') (fun e _ => 7 - nat (e 6)) ?_ ?_
  · exact ⟨0, oc, by omega, eA rfl, hA rfl, hA rfl, hA rfl, ⟨by rw [if_neg (by omega)]⟩, ext_⟩
  rintro e w1 hf ⟨k, rc, hk, h6, hb1, hb2, hb3, ⟨hi⟩, hE⟩
  have hs1 := sz_ hE
  have hlb := lt_of_heap hb3
  by_cases hlt : k < 7
  · by_cases e : i = k
    · obtain ⟨x, y, hx, hy, hr⟩ := hst k hlt e
      have hi' : Box (oc2 = if 0 ≤ i ∧ i < (k + 1 : Nat) then oc2 else oc) := ⟨by rw [if_pos (by omega)]⟩
      have hrc : rc = oc := by rw [hi, if_neg (by omega)]
      subst hrc
      have hn1 : ((k : Int) + 1).toNat = k + 1 := by omega
      have hss : (rc.setIfInBounds k (.int .i64 y)).size = 8 := by rw [Array.size_setIfInBounds]; exact hsz
      clear hi hne hst
      subst e
      refine w_ fun d => ?_
      exact ⟨⟨k + 1, oc2, by omega, eA rfl, hA rfl, hA rfl, hA rfl, hi', ext_⟩, mA⟩
    · have hi' : Box (rc = if 0 ≤ i ∧ i < (k + 1 : Nat) then oc2 else oc) := ⟨by
        by_cases h : 0 ≤ i ∧ i < k
        · rw [if_pos (by omega), hi, if_pos h]
        · rw [if_neg (by omega), hi, if_neg h]⟩
      have e' : ((k : Int) == i) = false := by simpa using fun h => e h.symm
      clear hi hne hst
      refine w_ fun d => ?_
      exact ⟨⟨k + 1, rc, by omega, eA rfl, hA rfl, hA rfl, hA rfl, hi', ext_⟩, mA⟩
  · obtain rfl : k = 7 := by omega
    have hr : rc = oc2 := by
      by_cases h : 0 ≤ i ∧ i < 7
      · rw [hi, if_pos (by omega)]
      · rw [hi, if_neg (by omega), hne h]
    subst hr
    clear hi hne hst
    refine w_ fun d => ?_
    exact ⟨rfl, ext_⟩
end Go.Proofs.Ytpeindhocndmnaa

namespace Go.Bx
open Go
set_option linter.unusedSimpArgs false
set_option linter.unusedVariables false
section
variable {f g h : Fun8} {u v : Int} {b : Bool}
theorem cof_nodep (h : depF f v = false) : cofF f v b = f := by
  have e := ite_cof (f := f) (v := v)
  have e2 : cofF f v false = cofF f v true := by rw [depF_def] at h; simpa using h
  rw [e2, iteF_same] at e
  cases b
  · rw [e2]; exact e
  · exact e
theorem nodep_of (h : cofF f v false = cofF f v true) : depF f v = false := by rw [depF_def]; simp [h]
theorem cof_iteF : cofF (iteF f g h) v b = iteF (cofF f v b) (cofF g v b) (cofF h v b) := by
  by_cases hv : 0 ≤ v ∧ v < 8
  · obtain ⟨n, rfl, hn⟩ := nat8 hv
    exact cof_ext fun x hx => by rw [cofF_bit hn hx, bt_ite (setB_lt hx hn), bt_ite hx, cofF_bit hn hx, cofF_bit hn hx, cofF_bit hn hx]
  · rw [cofF_out hv, cofF_out hv, cofF_out hv, cofF_out hv]
theorem cof_const {c : Bool} : cofF (constF c) v b = constF c := by
  by_cases hv : 0 ≤ v ∧ v < 8
  · obtain ⟨n, rfl, hn⟩ := nat8 hv
    exact cof_ext fun x hx => by rw [cofF_bit hn hx, bt_const (setB_lt hx hn), bt_const hx]
  · rw [cofF_out hv]
theorem dep_const {c : Bool} : depF (constF c) v = false := nodep_of (by rw [cof_const, cof_const])
theorem cof_var_same (hu : 0 ≤ u ∧ u < 8) : cofF (varF u) u b = constF b := by
  obtain ⟨n, rfl, hn⟩ := nat8 hu
  exact cof_ext fun x hx => by rw [cofF_bit hn hx, bt_var hn (setB_lt hx hn), bt_const hx, setB_bit_all n hn x hx]
theorem cof_var_other (h : v ≠ u) : cofF (varF u) v b = varF u := by
  by_cases hv : 0 ≤ v ∧ v < 8
  · by_cases hu : 0 ≤ u ∧ u < 8
    · obtain ⟨n, rfl, hn⟩ := nat8 hv
      obtain ⟨m, rfl, hm⟩ := nat8 hu
      exact cof_ext fun x hx => by rw [cofF_bit hn hx, bt_var hm (setB_lt hx hn), bt_var hm hx, setB_other_all n hn m hm (by omega) x hx]
    · rw [varF_out hu, cof_const]
  · rw [cofF_out hv]
theorem cof_node (hu : 0 ≤ u ∧ u < 8) (hg : depF g u = false) (hh : depF h u = false) : cofF (iteF (varF u) g h) u b = if b then g else h := by
  rw [cof_iteF, cof_var_same hu, cof_nodep hg, cof_nodep hh, ite_const]
theorem cof_other (h' : v ≠ u) : cofF (iteF (varF u) g h) v b = iteF (varF u) (cofF g v b) (cofF h v b) := by rw [cof_iteF, cof_var_other h']
theorem dep_node (h' : depF (iteF (varF u) g h) v = true) : v = u ∨ depF g v = true ∨ depF h v = true := by
  by_cases e : v = u
  · exact .inl e
  · right
    cases hg : depF g v
    · cases hh : depF h v
      · rw [nodep_of (by rw [cof_other e, cof_other e, cof_nodep hg, cof_nodep hh, cof_nodep hg, cof_nodep hh])] at h'; cases h'
      · exact .inr rfl
    · exact .inl rfl
theorem dep_of_cof2 (h : depF (cofF f u b) v = true) : depF f v = true := by
  cases hd : depF f v
  · exfalso
    by_cases e : v = u
    · subst e; rw [dep_cof] at h; cases h
    · rw [nodep_of (by rw [cof_comm (Ne.symm e), cof_comm (Ne.symm e), cof_nodep hd, cof_nodep hd])] at h; cases h
  · rfl
theorem const_ne : constF false ≠ constF true := fun h => by
  have := congrArg (fun f : Fun8 => f.getLsbD 0) h
  simp only [bt_const (show 0 < 256 by decide)] at this; cases this
end
abbrev Nd := Int × Int × Int
structure Md where
  a : Ar
  N : List Nd
  ord : List Int
def Md.has (s : Md) (n : Int) : Bool := decide (2 ≤ n) && s.a.has (n - 2)
def Md.nd (s : Md) (n : Int) : Nd := s.N.getD (n - 2).toNat (0, 0, 0)
def Md.below (s : Md) (n v : Int) : Bool := decide (n = 0) || (decide (n = 1) || (s.has n && decide (lvl s.ord v < lvl s.ord (s.nd n).1)))
def Md.of (s : Md) (n v : Int) : Bool := s.has n && decide ((s.nd n).1 = v)
def Md.find (s : Md) (but : List Int) (x : Nd) : Option Int :=
  ((List.range s.N.length).find? fun k => decide (s.N[k]? = some x) && (s.a.has (k : Nat) && !decide (((k : Nat) : Int) + 2 ∈ but))).map fun k : Nat => (k : Int) + 2
def Md.add (s : Md) (k : Int) (b : Ar) (x : Nd) : Md := ⟨b, if k = s.N.length then s.N ++ [x] else s.N.set k.toNat x, s.ord⟩
def Md.mk' (s : Md) (but : List Int) (v lo hi : Int) : (Int × Int) × Md :=
  if decide (v < 0) || (decide (7 < v) || (!s.below lo v || !s.below hi v)) then ((0, 1), s)
  else if lo = hi then ((lo, 0), s)
  else match s.find but (v, lo, hi) with
  | some n => ((n, 0), s)
  | none => match s.a.take with
    | none => ((0, 2), s)
    | some (k, b) => ((k + 2, 0), s.add k b (v, lo, hi))
def Md.lay (s : Md) (n : Int) (x : Nd) : Md := ⟨s.a, s.N.set (n - 2).toNat x, s.ord⟩
inductive Den (s : Md) : Int → Fun8 → Prop
  | c0 : Den s 0 (constF false)
  | c1 : Den s 1 (constF true)
  | node {n v lo hi : Int} {f0 f1 : Fun8} (h : s.has n = true) (hx : s.nd n = (v, lo, hi)) (h0 : Den s lo f0) (h1 : Den s hi f1) : Den s n (iteF (varF v) f1 f0)
structure Md.WF (s : Md) : Prop where
  ar : s.a.OK
  len : s.N.length = s.a.T.length
  ord : OrdOK s.ord
structure NodeOK (s : Md) (n : Int) : Prop where
  var : 0 ≤ (s.nd n).1 ∧ (s.nd n).1 < 8
  ne : (s.nd n).2.1 ≠ (s.nd n).2.2
  lo : s.below (s.nd n).2.1 (s.nd n).1 = true
  hi : s.below (s.nd n).2.2 (s.nd n).1 = true
structure Md.Good (s : Md) (but : List Int) : Prop where
  wf : s.WF
  sub : ∀ n ∈ but, s.has n = true
  node : ∀ n, s.has n = true → n ∉ but → NodeOK s n
  one : ∀ m n, s.has m = true → m ∉ but → s.has n = true → n ∉ but → s.nd m = s.nd n → m = n
structure Md.Le (s s' : Md) : Prop where
  ord : s'.ord = s.ord
  most : s'.a.most = s.a.most
  has : ∀ n, s.has n = true → s'.has n = true
  nd : ∀ n, s.has n = true → s'.nd n = s.nd n
section
variable {s s' : Md} {n m v lo hi : Int} {f g : Fun8} {but : List Int}
theorem Md.Le.refl (s : Md) : s.Le s := ⟨rfl, rfl, fun _ h => h, fun _ _ => rfl⟩
theorem Md.Le.trans {s2 : Md} (h : s.Le s') (k : s'.Le s2) : s.Le s2 := ⟨k.ord.trans h.ord, k.most.trans h.most, fun n hn => k.has n (h.has n hn), fun n hn => (k.nd n (h.has n hn)).trans (h.nd n hn)⟩
theorem Md.has_ge (h : s.has n = true) : 2 ≤ n := by unfold Md.has at h; rw [Bool.and_eq_true] at h; simpa using h.1
theorem Md.has_ar (h : s.has n = true) : s.a.has (n - 2) = true := by unfold Md.has at h; rw [Bool.and_eq_true] at h; exact h.2
theorem Md.has_of (h0 : 0 ≤ n) (h : s.a.has n = true) : s.has (n + 2) = true := by
  unfold Md.has; rw [Bool.and_eq_true]; exact ⟨by simp; omega, by rw [show n + 2 - 2 = n by omega]; exact h⟩
theorem Md.has_no (h : ¬ 2 ≤ n) : s.has n = false := by unfold Md.has; simp [h]
theorem Md.WF.lt (h : s.WF) (hn : s.has n = true) : 2 ≤ n ∧ n - 2 < s.N.length := by
  have := Ar.has_lt (Md.has_ar hn)
  have := Md.has_ge hn
  have := h.len
  omega
theorem Md.WF.get (h : s.WF) (hn : s.has n = true) : s.N[(n - 2).toNat]? = some (s.nd n) := by
  have := h.lt hn
  unfold Md.nd
  rw [List.getElem?_eq_getElem (by omega), List.getD, List.getElem?_eq_getElem (by omega)]; rfl
theorem Md.below_iff : s.below n v = true ↔ n = 0 ∨ n = 1 ∨ (s.has n = true ∧ lvl s.ord v < lvl s.ord (s.nd n).1) := by
  unfold Md.below; simp
theorem Den.keep (hh : ∀ n, s.has n = true → s'.has n = true) (hn : ∀ n, s.has n = true → s'.nd n = s.nd n) (h : Den s n f) : Den s' n f := by
  induction h with
  | c0 => exact .c0
  | c1 => exact .c1
  | node h hx _ _ ih0 ih1 => exact .node (hh _ h) ((hn _ h).trans hx) ih0 ih1
theorem Den.mono (hl : s.Le s') (h : Den s n f) : Den s' n f := h.keep hl.has hl.nd
theorem Den.cases' (h : Den s n f) : (n = 0 ∧ f = constF false) ∨ (n = 1 ∧ f = constF true) ∨ (s.has n = true ∧ ∃ f0 f1, Den s (s.nd n).2.1 f0 ∧ Den s (s.nd n).2.2 f1 ∧ f = iteF (varF (s.nd n).1) f1 f0) := by
  cases h with
  | c0 => exact .inl ⟨rfl, rfl⟩
  | c1 => exact .inr (.inl ⟨rfl, rfl⟩)
  | node h hx h0 h1 => exact .inr (.inr ⟨h, _, _, by rw [hx]; exact h0, by rw [hx]; exact h1, by rw [hx]⟩)
theorem Den.at (h : Den s n f) (hn : s.has n = true) : ∃ f0 f1, Den s (s.nd n).2.1 f0 ∧ Den s (s.nd n).2.2 f1 ∧ f = iteF (varF (s.nd n).1) f1 f0 := by
  have := Md.has_ge hn
  rcases h.cases' with ⟨e, _⟩ | ⟨e, _⟩ | h
  · omega
  · omega
  · exact h.2
theorem Den.fn (h : Den s n f) : ∀ {g}, Den s n g → f = g := by
  induction h with
  | c0 =>
    intro g h'
    rcases h'.cases' with ⟨_, e⟩ | ⟨e, _⟩ | ⟨e, _⟩
    · exact e.symm
    · omega
    · have := Md.has_ge e; omega
  | c1 =>
    intro g h'
    rcases h'.cases' with ⟨e, _⟩ | ⟨_, e⟩ | ⟨e, _⟩
    · omega
    · exact e.symm
    · have := Md.has_ge e; omega
  | node h hx _ _ ih0 ih1 =>
    intro g h'
    obtain ⟨g0, g1, k0, k1, rfl⟩ := h'.at h
    rw [hx] at k0 k1 ⊢
    rw [ih0 k0, ih1 k1]
theorem Den.there (h : Den s n f) : n = 0 ∨ n = 1 ∨ s.has n = true := by
  rcases h.cases' with ⟨e, _⟩ | ⟨e, _⟩ | ⟨e, _⟩
  · exact .inl e
  · exact .inr (.inl e)
  · exact .inr (.inr e)
theorem Den.zero (h : Den s 0 f) : f = constF false := Den.fn h .c0
theorem Den.one (h : Den s 1 f) : f = constF true := Den.fn h .c1
theorem Md.Good.dep (G : s.Good []) (h : Den s n f) (hd : depF f v = true) : s.has n = true ∧ lvl s.ord (s.nd n).1 ≤ lvl s.ord v := by
  induction h with
  | c0 => rw [dep_const] at hd; cases hd
  | c1 => rw [dep_const] at hd; cases hd
  | @node n u lo hi f0 f1 h hx h0 h1 ih0 ih1 =>
    refine ⟨h, ?_⟩
    have ok := G.node n h (by simp)
    have hlo := ok.lo
    have hhi := ok.hi
    rw [hx] at hlo hhi ⊢
    have key : ∀ c, s.below c u = true → (s.has c = true ∧ lvl s.ord (s.nd c).1 ≤ lvl s.ord v) → lvl s.ord u ≤ lvl s.ord v := by
      intro c hb hc
      rcases Md.below_iff.1 hb with e | e | e
      · have := Md.has_ge hc.1; omega
      · have := Md.has_ge hc.1; omega
      · omega
    rcases dep_node hd with e | e | e
    · subst e; exact Int.le_refl _
    · exact key hi hhi (ih1 e)
    · exact key lo hlo (ih0 e)
theorem Md.Good.nodep (G : s.Good []) (h : Den s n f) (hb : s.below n v = true) : depF f v = false := by
  cases hd : depF f v
  · rfl
  · have := G.dep h hd
    rcases Md.below_iff.1 hb with e | e | e
    · have := Md.has_ge this.1; omega
    · have := Md.has_ge this.1; omega
    · omega
theorem Md.Good.sides (G : s.Good []) (h : Den s n f) (hn : s.has n = true) : Den s (s.nd n).2.1 (cofF f (s.nd n).1 false) ∧ Den s (s.nd n).2.2 (cofF f (s.nd n).1 true) := by
  obtain ⟨f0, f1, h0, h1, rfl⟩ := h.at hn
  have ok := G.node n hn (by simp)
  have d0 := G.nodep h0 ok.lo
  have d1 := G.nodep h1 ok.hi
  rw [cof_node ok.var d1 d0, cof_node ok.var d1 d0]
  exact ⟨h0, h1⟩
def Md.rk (s : Md) (n : Int) : Nat := if s.has n then (8 - lvl s.ord (s.nd n).1).toNat else 0
theorem Md.Good.rk_lt (G : s.Good []) (hn : s.has n = true) {c : Int} (hb : s.below c (s.nd n).1 = true) : s.rk c < s.rk n := by
  have ok := G.node n hn (by simp)
  have hl := G.wf.ord.lt ok.var
  unfold Md.rk
  rw [if_pos hn]
  split
  · rename_i hc
    have ok2 := G.node c hc (by simp)
    have hl2 := G.wf.ord.lt ok2.var
    rcases Md.below_iff.1 hb with e | e | e
    · have := Md.has_ge hc; omega
    · have := Md.has_ge hc; omega
    · omega
  · omega
theorem Md.Good.rk_le (G : s.Good []) (n : Int) : s.rk n ≤ 8 := by
  unfold Md.rk
  split
  · rename_i h
    have := G.wf.ord.lt (G.node n h (by simp)).var
    omega
  · omega
theorem Md.Good.den (G : s.Good []) : ∀ (k : Nat) (n : Int), s.rk n ≤ k → (n = 0 ∨ n = 1 ∨ s.has n = true) → ∃ f, Den s n f
  | k, n, hk, h => by
    rcases h with rfl | rfl | h
    · exact ⟨_, .c0⟩
    · exact ⟨_, .c1⟩
    · have ok := G.node n h (by simp)
      have lt0 := G.rk_lt h ok.lo
      have lt1 := G.rk_lt h ok.hi
      have th : ∀ {c : Int}, s.below c (s.nd n).1 = true → c = 0 ∨ c = 1 ∨ s.has c = true := fun hb => by
        rcases Md.below_iff.1 hb with e | e | e
        · exact .inl e
        · exact .inr (.inl e)
        · exact .inr (.inr e.1)
      match k with
      | 0 => omega
      | k + 1 =>
        obtain ⟨f0, h0⟩ := G.den k _ (by omega) (th ok.lo)
        obtain ⟨f1, h1⟩ := G.den k _ (by omega) (th ok.hi)
        exact ⟨_, .node h rfl h0 h1⟩
theorem Md.Good.has_den (G : s.Good []) (h : n = 0 ∨ n = 1 ∨ s.has n = true) : ∃ f, Den s n f := G.den _ n (Nat.le_refl _) h
theorem Md.Good.canon' (G : s.Good []) : ∀ (k : Nat) (m n : Int) (f : Fun8), s.rk m ≤ k → s.rk n ≤ k → Den s m f → Den s n f → m = n
  | k, m, n, f, hm, hn, dm, dn => by
    -- a node depends on its own variable
    have top : ∀ (m : Int) (f : Fun8), s.rk m ≤ k → s.has m = true → Den s m f → depF f (s.nd m).1 = true := by
      intro m f hm h d
      have ok := G.node m h (by simp)
      have lt0 := G.rk_lt h ok.lo
      have lt1 := G.rk_lt h ok.hi
      have ⟨h0, h1⟩ := G.sides d h
      match k with
      | 0 => omega
      | k + 1 =>
        cases hd : depF f (s.nd m).1
        · exfalso
          rw [cof_nodep hd] at h0 h1
          exact ok.ne (G.canon' k _ _ f (by omega) (by omega) h0 h1)
        · rfl
    rcases dm.cases' with ⟨rfl, rfl⟩ | ⟨rfl, rfl⟩ | ⟨em, _⟩
    · rcases dn.cases' with ⟨rfl, e⟩ | ⟨rfl, e⟩ | ⟨en, _⟩
      · rfl
      · exact absurd e const_ne
      · have := top n _ hn en dn; rw [dep_const] at this; cases this
    · rcases dn.cases' with ⟨rfl, e⟩ | ⟨rfl, e⟩ | ⟨en, _⟩
      · exact absurd e.symm const_ne
      · rfl
      · have := top n _ hn en dn; rw [dep_const] at this; cases this
    · rcases dn.there with rfl | rfl | en
      · rw [dn.zero] at dm; have := top m _ hm em dm; rw [dep_const] at this; cases this
      · rw [dn.one] at dm; have := top m _ hm em dm; rw [dep_const] at this; cases this
      · have okm := G.node m em (by simp)
        have okn := G.node n en (by simp)
        have l1 := (G.dep dm (top n f hn en dn)).2
        have l2 := (G.dep dn (top m f hm em dm)).2
        have ev := G.wf.ord.inj okm.var okn.var (by omega)
        have ⟨m0, m1⟩ := G.sides dm em
        have ⟨n0, n1⟩ := G.sides dn en
        rw [← ev] at n0 n1
        have a0 := G.rk_lt em okm.lo
        have a1 := G.rk_lt em okm.hi
        have b0 := G.rk_lt en okn.lo
        have b1 := G.rk_lt en okn.hi
        match k with
        | 0 => omega
        | k + 1 =>
          have e0 := G.canon' k _ _ _ (by omega) (by omega) m0 n0
          have e1 := G.canon' k _ _ _ (by omega) (by omega) m1 n1
          exact G.one m n em (by simp) en (by simp) (Prod.ext ev (Prod.ext e0 e1))
theorem Md.Good.canon (G : s.Good []) (dm : Den s m f) (dn : Den s n f) : m = n := G.canon' 8 m n f (G.rk_le m) (G.rk_le n) dm dn
theorem Md.Good.top (G : s.Good []) (hn : s.has n = true) (d : Den s n f) : depF f (s.nd n).1 = true := by
  cases hd : depF f (s.nd n).1
  · have ⟨h0, h1⟩ := G.sides d hn
    rw [cof_nodep hd] at h0 h1
    exact absurd (G.canon h0 h1) (G.node n hn (by simp)).ne
  · rfl
theorem Md.find_some {x : Nd} (h : s.find but x = some n) : s.has n = true ∧ n ∉ but ∧ s.nd n = x := by
  unfold Md.find at h
  rw [Option.map_eq_some_iff] at h
  obtain ⟨k, hk, rfl⟩ := h
  have := List.find?_some hk
  rw [Bool.and_eq_true, Bool.and_eq_true] at this
  obtain ⟨h1, h2, h3⟩ := this
  refine ⟨Md.has_of (by omega) h2, by simpa using h3, ?_⟩
  have h1 : s.N[k]? = some x := by simpa using h1
  unfold Md.nd
  rw [show ((k : Int) + 2 - 2).toNat = k by omega, List.getD, h1]; rfl
theorem Md.WF.find_none {x : Nd} (W : s.WF) (h : s.find but x = none) (hn : s.has n = true) (hb : n ∉ but) : s.nd n ≠ x := by
  intro e
  unfold Md.find at h
  rw [Option.map_eq_none_iff, List.find?_eq_none] at h
  have hl := W.lt hn
  have := h (n - 2).toNat (List.mem_range.2 (by omega))
  have hg := W.get hn
  have e2 : (((n - 2).toNat : Nat) : Int) = n - 2 := by omega
  rw [hg, e2, Md.has_ar hn, show n - 2 + 2 = n by omega, e] at this
  simp [hb] at this
theorem Md.WF.added {k : Int} {b : Ar} {x : Nd} (W : s.WF) (ht : s.a.take = some (k, b)) :
    (s.add k b x).WF ∧ s.Le (s.add k b x) ∧ s.has (k + 2) = false ∧ (∀ m, (s.add k b x).has m = (s.has m || decide (m = k + 2))) ∧ (s.add k b x).nd (k + 2) = x ∧ (s.add k b x).a.many = s.a.many + 1 ∧ 0 ≤ k := by
  obtain ⟨b1, b2, b3, b4, b5, b6, b7, b8⟩ := W.ar.taken ht
  have hlen := W.len
  have hh : ∀ m, (s.add k b x).has m = (s.has m || decide (m = k + 2)) := by
    intro m
    unfold Md.has Md.add
    rw [b7]
    by_cases e : m = k + 2
    · subst e; simp; omega
    · have : ¬ (m - 2 = k) := by omega
      simp [e, this]
  have hno : s.has (k + 2) = false := by
    unfold Md.has; rw [show k + 2 - 2 = k by omega, b4]; simp
  refine ⟨⟨b1, ?_, W.ord⟩, ⟨rfl, b2, fun m hm => by rw [hh, hm]; rfl, fun m hm => ?_⟩, hno, hh, ?_, b3, b5⟩
  · simp only [Md.add]
    rw [b8, hlen]
    split
    · rw [List.length_append, hlen]; rfl
    · rw [List.length_set, hlen]
  · have hm2 := W.lt hm
    have hne : m ≠ k + 2 := fun e => by rw [e, hno] at hm; cases hm
    unfold Md.nd Md.add
    simp only
    split
    · rw [List.getD, List.getElem?_append_left (by omega)]; rfl
    · rw [List.getD, List.getElem?_set_ne (by omega)]; rfl
  · unfold Md.nd Md.add
    simp only
    rw [show k + 2 - 2 = k by omega]
    split
    · rename_i e
      rw [e, List.getD, show ((s.N.length : Int)).toNat = s.N.length by omega, List.getElem?_append_right (Nat.le_refl _), Nat.sub_self]; rfl
    · rw [List.getD, List.getElem?_set_self (by omega)]; rfl
theorem Md.Le.below (hl : s.Le s') (h : s.below n v = true) : s'.below n v = true := by
  rcases Md.below_iff.1 h with e | e | ⟨e1, e2⟩
  · exact Md.below_iff.2 (.inl e)
  · exact Md.below_iff.2 (.inr (.inl e))
  · exact Md.below_iff.2 (.inr (.inr ⟨hl.has n e1, by rw [hl.ord, hl.nd n e1]; exact e2⟩))
theorem Md.Le.nodeOK (hl : s.Le s') (hn : s.has n = true) (h : NodeOK s n) : NodeOK s' n := by
  have e := hl.nd n hn
  exact ⟨by rw [e]; exact h.var, by rw [e]; exact h.ne, by rw [e]; exact hl.below h.lo, by rw [e]; exact hl.below h.hi⟩
inductive Mk (s : Md) (but : List Int) (v lo hi : Int) : (Int × Int) × Md → Prop
  | bad (h : ¬ ((0 ≤ v ∧ v < 8) ∧ s.below lo v = true ∧ s.below hi v = true)) : Mk s but v lo hi ((0, 1), s)
  | same (hv : 0 ≤ v ∧ v < 8) (h0 : s.below lo v = true) (h1 : s.below hi v = true) (e : lo = hi) : Mk s but v lo hi ((lo, 0), s)
  | found (n : Int) (hv : 0 ≤ v ∧ v < 8) (h0 : s.below lo v = true) (h1 : s.below hi v = true) (e : lo ≠ hi) (hf : s.find but (v, lo, hi) = some n) (hn : s.has n = true) (hb : n ∉ but) (hx : s.nd n = (v, lo, hi)) : Mk s but v lo hi ((n, 0), s)
  | full (hv : 0 ≤ v ∧ v < 8) (h0 : s.below lo v = true) (h1 : s.below hi v = true) (e : lo ≠ hi) (hf : s.find but (v, lo, hi) = none) (ht : s.a.take = none) (hm : s.a.many = s.a.most) : Mk s but v lo hi ((0, 2), s)
  | new (k : Int) (b : Ar) (hv : 0 ≤ v ∧ v < 8) (h0 : s.below lo v = true) (h1 : s.below hi v = true) (e : lo ≠ hi) (hf : s.find but (v, lo, hi) = none) (ht : s.a.take = some (k, b)) : Mk s but v lo hi ((k + 2, 0), s.add k b (v, lo, hi))
theorem Md.WF.mks (W : s.WF) (but : List Int) (v lo hi : Int) : Mk s but v lo hi (s.mk' but v lo hi) := by
  unfold Md.mk'
  by_cases hv : 0 ≤ v ∧ v < 8
  · cases h0 : s.below lo v
    · rw [if_pos (by simp)]; exact .bad (by simp [h0])
    · cases h1 : s.below hi v
      · rw [if_pos (by simp)]; exact .bad (by simp [h1])
      · rw [if_neg (by simp; omega)]
        by_cases e : lo = hi
        · rw [if_pos e]; exact .same hv h0 h1 e
        · rw [if_neg e]
          cases hf : s.find but (v, lo, hi) with
          | some n => obtain ⟨a, b, c⟩ := Md.find_some hf; exact .found n hv h0 h1 e hf a b c
          | none =>
            cases ht : s.a.take with
            | none => exact .full hv h0 h1 e hf ht (W.ar.room.1 ht)
            | some x => obtain ⟨k, b⟩ := x; exact .new k b hv h0 h1 e hf ht
  · rw [if_pos (by simp; omega)]; exact .bad (fun h => hv h.1)
theorem Md.Good.added {k : Int} {b : Ar} (G : s.Good but) (ht : s.a.take = some (k, b)) (hv : 0 ≤ v ∧ v < 8) (h0 : s.below lo v = true) (h1 : s.below hi v = true) (e : lo ≠ hi) (hf : s.find but (v, lo, hi) = none) :
    (s.add k b (v, lo, hi)).Good but ∧ k + 2 ∉ but := by
  obtain ⟨W, hl, hno, hh, hnd, _, _⟩ := G.wf.added (x := (v, lo, hi)) ht
  have hnb : k + 2 ∉ but := fun h => by have := G.sub _ h; rw [hno] at this; cases this
  have cs : ∀ m, (s.add k b (v, lo, hi)).has m = true → s.has m = true ∨ m = k + 2 := fun m hm => by
    rw [hh, Bool.or_eq_true] at hm; simpa using hm
  refine ⟨⟨W, fun n hn => hl.has n (G.sub n hn), fun n hn hb => ?_, fun m n hm hmb hn hnb' he => ?_⟩, hnb⟩
  · rcases cs n hn with h | rfl
    · exact hl.nodeOK h (G.node n h hb)
    · exact ⟨by rw [hnd]; exact hv, by rw [hnd]; exact e, by rw [hnd]; exact hl.below h0, by rw [hnd]; exact hl.below h1⟩
  · rcases cs m hm with h | rfl
    · rcases cs n hn with h' | rfl
      · rw [hl.nd m h, hl.nd n h'] at he; exact G.one m n h hmb h' hnb' he
      · rw [hl.nd m h, hnd] at he; exact absurd he (G.wf.find_none hf h hmb)
    · rcases cs n hn with h' | rfl
      · rw [hl.nd n h', hnd] at he; exact absurd he.symm (G.wf.find_none hf h' hnb')
      · rfl
theorem Md.Good.mks (G : s.Good but) (v lo hi : Int) : (s.mk' but v lo hi).2.Good but ∧ s.Le (s.mk' but v lo hi).2 ∧ (s.mk' but v lo hi).2.a.many ≤ s.a.many + 1 := by
  have h := G.wf.mks but v lo hi
  generalize s.mk' but v lo hi = r at h
  cases h with
  | new k b hv h0 h1 e hf ht => exact ⟨(G.added ht hv h0 h1 e hf).1, (G.wf.added ht).2.1, by rw [(G.wf.added ht).2.2.2.2.2.1]; exact Int.le_refl _⟩
  | _ => exact ⟨G, Md.Le.refl s, by show s.a.many ≤ s.a.many + 1; omega⟩
theorem Md.Good.made (G : s.Good but) (hv : 0 ≤ v ∧ v < 8) (h0 : s.below lo v = true) (h1 : s.below hi v = true) {r : (Int × Int) × Md} (hr : s.mk' but v lo hi = r) (hok : r.1.2 = 0) :
    ((lo = hi ∧ r.1.1 = lo ∧ r.2 = s) ∨ (lo ≠ hi ∧ r.2.has r.1.1 = true ∧ r.1.1 ∉ but ∧ r.2.nd r.1.1 = (v, lo, hi))) ∧ (∀ m, r.2.has m = true → s.has m = true ∨ (m = r.1.1 ∧ r.2.nd m = (v, lo, hi))) ∧
    ∀ f0 f1, Den s lo f0 → Den s hi f1 → Den r.2 r.1.1 (iteF (varF v) f1 f0) := by
  have h := G.wf.mks but v lo hi
  rw [hr] at h
  cases h with
  | bad h => exact absurd ⟨hv, h0, h1⟩ h
  | full => cases hok
  | same _ _ _ e => exact ⟨.inl ⟨e, rfl, rfl⟩, fun m hm => .inl hm, fun f0 f1 d0 d1 => by subst e; rw [d0.fn d1, iteF_same]; exact d1⟩
  | found n _ _ _ e hf hn hb hx => exact ⟨.inr ⟨e, hn, hb, hx⟩, fun m hm => .inl hm, fun f0 f1 d0 d1 => .node hn hx d0 d1⟩
  | new k b _ _ _ e hf ht =>
    obtain ⟨W, hl, hno, hh, hnd, _, _⟩ := G.wf.added (x := (v, lo, hi)) ht
    have hk : (s.add k b (v, lo, hi)).has (k + 2) = true := by rw [hh]; simp
    refine ⟨.inr ⟨e, hk, (G.added ht hv h0 h1 e hf).2, hnd⟩, fun m hm => ?_, fun f0 f1 d0 d1 => .node hk hnd (d0.mono hl) (d1.mono hl)⟩
    rw [hh, Bool.or_eq_true] at hm
    rcases hm with h | h
    · exact .inl h
    · have : m = k + 2 := by simpa using h
      exact .inr ⟨this, by rw [this]; exact hnd⟩
theorem Md.Good.mk_err (G : s.Good but) (hv : 0 ≤ v ∧ v < 8) (h0 : s.below lo v = true) (h1 : s.below hi v = true) : (s.mk' but v lo hi).1.2 = 0 ∨ ((s.mk' but v lo hi).1 = (0, 2) ∧ (s.mk' but v lo hi).2 = s ∧ s.a.many = s.a.most) := by
  have h := G.wf.mks but v lo hi
  generalize s.mk' but v lo hi = r at h
  cases h with
  | bad h => exact absurd ⟨hv, h0, h1⟩ h
  | full _ _ _ _ _ _ hm => exact .inr ⟨rfl, rfl, hm⟩
  | _ => exact .inl rfl
end
end Go.Bx

