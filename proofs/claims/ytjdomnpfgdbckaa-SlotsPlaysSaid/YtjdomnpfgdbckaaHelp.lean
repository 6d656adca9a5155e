/- What the statements of all layers ask of what is handed in (layer 0's Pick and Code). -/
import Derived.Test.YtjdomnpfgdbckaaTy
namespace Go.Proofs.Ytjdomnpfgdbckaa
open Go Go.Bx
set_option linter.unusedSimpArgs false
set_option linter.unusedVariables false
set_option maxRecDepth 100000

theorem tmod_pk (n : Int) {b : Int} (hb : 0 < b) : -b < n.tmod b ∧ n.tmod b < b ∧ (n.tmod b < 0 → n.tmod b + b = n % b) ∧ (0 ≤ n.tmod b → n.tmod b = n % b) := by
  have h1 := Int.mul_tdiv_add_tmod n b
  have h2 : n.tmod b < b := Int.tmod_lt_of_pos n hb
  have h3 : -b < n.tmod b := Int.lt_tmod_of_pos n hb
  have h4 : n % b = n.tmod b % b := by
    conv => lhs; rw [← h1]
    rw [Int.add_comm, Int.add_mul_emod_self_left]
  refine ⟨h3, h2, fun h => ?_, fun h => ?_⟩
  · rw [h4, ← Int.add_emod_right, Int.emod_eq_of_lt (by omega) (by omega)]
  · rw [h4, Int.emod_eq_of_lt h h2]

theorem pick_calls (n b : Int) (hb : 0 < b) (hm : b ≤ 4611686018427387904) (w : World) :
    CallsR Try.prog 22 #[.int .i64 n, .int .i64 b] w fun r w' => r = .int .i64 (n % b) ∧ Ext w w' := by
  obtain ⟨h3, h4, h5, h6⟩ := tmod_pk n hb
  have hb0 : b ≠ 0 := by omega
  refine calls2 (bs := []) Try.func22 rfl mixed (by kernel_rfl) ?_
  intro e0 h0 h1
  simp only [comp, gop, gslot, dops, bigOf, setK, drawOf, dopsW, setW, kindOf, List.lookup, List.map_cons, List.map_nil, Option.bind_some, List.getElem?_toArray, List.getElem?_cons_zero, List.getElem?_cons_succ, Option.getD_some, Option.getD_none, List.contains_nil, List.contains_cons, Bool.false_eq_true, ↓reduceIte, Nat.reduceAdd, Nat.reduceBEq, Bool.or_false]
  refine X_seq fun K hK => ?_
  simp only [X_reg, thenX_normal]
  repeat (first | (refine xo (by simp (disch := first | assumption | omega | (with_unfolding_all exact id rfl) | exact Nat.le_of_ble_eq_true rfl | fail) only [Bool.not_true, Bool.not_false, vR_ok, uR_ok, ev_tmp, ev_const, ev_func, Env.put_some, Env.put_none, Env.set_app, Nat.reduceEqDiff, ↓reduceIte, rG_move, rG_assign, opt1_some, ext_all, dec_t, dec_f, beq_t, beq_f, bne_t, bne_f, wrap_i64, wrap_u64, Int.toNat_natCast, Nat.mul_one, Nat.zero_add, Nat.add_zero, List.map_toArray, List.map_cons, List.map_nil, rG_binOp, binR_add, binR_lss, resM_1, binR_rem] <;> rfl) ?_; first | with_reducible refine kv ?_ | with_reducible refine ks ?_ | with_reducible refine ke ?_) | (refine xo_t ?_ ?_; focus (simp (disch := first | assumption | omega | (with_unfolding_all exact id rfl) | exact Nat.le_of_ble_eq_true rfl | fail) only [Env.put_some, Env.put_none, Env.set_app, Nat.reduceEqDiff, ↓reduceIte, Bool.not_true, Bool.not_false]; done)) | (refine xo_f ?_ ?_; focus (simp (disch := first | assumption | omega | (with_unfolding_all exact id rfl) | exact Nat.le_of_ble_eq_true rfl | fail) only [Env.put_some, Env.put_none, Env.set_app, Nat.reduceEqDiff, ↓reduceIte, Bool.not_true, Bool.not_false]; done)) | (refine xo_u ?_ ?_; focus (simp (disch := first | assumption | omega | (with_unfolding_all exact id rfl) | exact Nat.le_of_ble_eq_true rfl | fail) only [Env.put_some, Env.put_none, Env.set_app, Nat.reduceEqDiff, ↓reduceIte, Bool.not_true, Bool.not_false]; done)))
  refine xo_nil ?_
  refine hK _ _ ?_
  clear hK K
  refine X_seq fun K hK => ?_
  simp only [X_reg, thenX_normal]
  repeat (first | (refine xo (by simp (disch := first | assumption | omega | (with_unfolding_all exact id rfl) | exact Nat.le_of_ble_eq_true rfl | fail) only [Bool.not_true, Bool.not_false, vR_ok, uR_ok, ev_tmp, ev_const, ev_func, Env.put_some, Env.put_none, Env.set_app, Nat.reduceEqDiff, ↓reduceIte, rG_move, rG_assign, opt1_some, ext_all, dec_t, dec_f, beq_t, beq_f, bne_t, bne_f, wrap_i64, wrap_u64, Int.toNat_natCast, Nat.mul_one, Nat.zero_add, Nat.add_zero, List.map_toArray, List.map_cons, List.map_nil, rG_binOp, binR_add, binR_lss, resM_1, binR_rem, h0, h1] <;> rfl) ?_; first | with_reducible refine kv ?_ | with_reducible refine ks ?_ | with_reducible refine ke ?_) | (refine xo_t ?_ ?_; focus (simp (disch := first | assumption | omega | (with_unfolding_all exact id rfl) | exact Nat.le_of_ble_eq_true rfl | fail) only [Env.put_some, Env.put_none, Env.set_app, Nat.reduceEqDiff, ↓reduceIte, Bool.not_true, Bool.not_false, h0, h1]; done)) | (refine xo_f ?_ ?_; focus (simp (disch := first | assumption | omega | (with_unfolding_all exact id rfl) | exact Nat.le_of_ble_eq_true rfl | fail) only [Env.put_some, Env.put_none, Env.set_app, Nat.reduceEqDiff, ↓reduceIte, Bool.not_true, Bool.not_false, h0, h1]; done)) | (refine xo_u ?_ ?_; focus (simp (disch := first | assumption | omega | (with_unfolding_all exact id rfl) | exact Nat.le_of_ble_eq_true rfl | fail) only [Env.put_some, Env.put_none, Env.set_app, Nat.reduceEqDiff, ↓reduceIte, Bool.not_true, Bool.not_false, h0, h1]; done)))
  refine xo_nil ?_
  refine hK _ _ ?_
  clear hK K
  by_cases hn : n.tmod b < 0
  · refine X_cut (fun e w' => e 0 = .int .i64 (n % b) ∧ Ext w w') ?_ ?_
    · refine X_seq fun K hK => ?_
      simp only [X_reg, thenX_normal]
      repeat (first | (refine xo (by simp (disch := first | assumption | omega | (with_unfolding_all exact id rfl) | exact Nat.le_of_ble_eq_true rfl | fail) only [Bool.not_true, Bool.not_false, vR_ok, uR_ok, ev_tmp, ev_const, ev_func, Env.put_some, Env.put_none, Env.set_app, Nat.reduceEqDiff, ↓reduceIte, rG_move, rG_assign, opt1_some, ext_all, dec_t, dec_f, beq_t, beq_f, bne_t, bne_f, wrap_i64, wrap_u64, Int.toNat_natCast, Nat.mul_one, Nat.zero_add, Nat.add_zero, List.map_toArray, List.map_cons, List.map_nil, rG_binOp, binR_add, binR_lss, resM_1, binR_rem] <;> rfl) ?_; first | with_reducible refine kv ?_ | with_reducible refine ks ?_ | with_reducible refine ke ?_) | (refine xo_t ?_ ?_; focus (simp (disch := first | assumption | omega | (with_unfolding_all exact id rfl) | exact Nat.le_of_ble_eq_true rfl | fail) only [Env.put_some, Env.put_none, Env.set_app, Nat.reduceEqDiff, ↓reduceIte, Bool.not_true, Bool.not_false]; done)) | (refine xo_f ?_ ?_; focus (simp (disch := first | assumption | omega | (with_unfolding_all exact id rfl) | exact Nat.le_of_ble_eq_true rfl | fail) only [Env.put_some, Env.put_none, Env.set_app, Nat.reduceEqDiff, ↓reduceIte, Bool.not_true, Bool.not_false]; done)) | (refine xo_u ?_ ?_; focus (simp (disch := first | assumption | omega | (with_unfolding_all exact id rfl) | exact Nat.le_of_ble_eq_true rfl | fail) only [Env.put_some, Env.put_none, Env.set_app, Nat.reduceEqDiff, ↓reduceIte, Bool.not_true, Bool.not_false]; done)))
      refine xo_nil ?_
      refine hK _ _ ?_
      clear hK K
      refine X_if_t (by simp (disch := first | assumption | omega) only [ev_tmp, Env.put_some, Env.put_none, Env.set_app, Nat.reduceEqDiff, ↓reduceIte, beq_t, dec_t, beq_self_eq_true]) ?_
      (try simp only [X_reg, thenX_normal])
      repeat (first | (refine xo (by simp (disch := first | assumption | omega | (with_unfolding_all exact id rfl) | exact Nat.le_of_ble_eq_true rfl | fail) only [Bool.not_true, Bool.not_false, vR_ok, uR_ok, ev_tmp, ev_const, ev_func, Env.put_some, Env.put_none, Env.set_app, Nat.reduceEqDiff, ↓reduceIte, rG_move, rG_assign, opt1_some, ext_all, dec_t, dec_f, beq_t, beq_f, bne_t, bne_f, wrap_i64, wrap_u64, Int.toNat_natCast, Nat.mul_one, Nat.zero_add, Nat.add_zero, List.map_toArray, List.map_cons, List.map_nil, rG_binOp, binR_add, binR_lss, resM_1, binR_rem, h1] <;> rfl) ?_; first | with_reducible refine kv ?_ | with_reducible refine ks ?_ | with_reducible refine ke ?_) | (refine xo_t ?_ ?_; focus (simp (disch := first | assumption | omega | (with_unfolding_all exact id rfl) | exact Nat.le_of_ble_eq_true rfl | fail) only [Env.put_some, Env.put_none, Env.set_app, Nat.reduceEqDiff, ↓reduceIte, Bool.not_true, Bool.not_false, h1]; done)) | (refine xo_f ?_ ?_; focus (simp (disch := first | assumption | omega | (with_unfolding_all exact id rfl) | exact Nat.le_of_ble_eq_true rfl | fail) only [Env.put_some, Env.put_none, Env.set_app, Nat.reduceEqDiff, ↓reduceIte, Bool.not_true, Bool.not_false, h1]; done)) | (refine xo_u ?_ ?_; focus (simp (disch := first | assumption | omega | (with_unfolding_all exact id rfl) | exact Nat.le_of_ble_eq_true rfl | fail) only [Env.put_some, Env.put_none, Env.set_app, Nat.reduceEqDiff, ↓reduceIte, Bool.not_true, Bool.not_false, h1]; done)))
      refine xo_nil ⟨?_, Ext.refl w⟩
      (try simp (disch := first | assumption | omega | (with_unfolding_all exact id rfl) | exact Nat.le_of_ble_eq_true rfl | fail) only [Env.put_some, Env.put_none, Env.set_app, Nat.reduceEqDiff, ↓reduceIte, nat_int, Int.toNat_natCast, wrap_i64])
      rw [h5 hn]
    · rintro e w1 ⟨h0', hE⟩
      refine X_seq fun K hK => ?_
      simp only [X_reg, thenX_normal]
      repeat (first | (refine xo (by simp (disch := first | assumption | omega | (with_unfolding_all exact id rfl) | exact Nat.le_of_ble_eq_true rfl | fail) only [Bool.not_true, Bool.not_false, vR_ok, uR_ok, ev_tmp, ev_const, ev_func, Env.put_some, Env.put_none, Env.set_app, Nat.reduceEqDiff, ↓reduceIte, rG_move, rG_assign, opt1_some, ext_all, dec_t, dec_f, beq_t, beq_f, bne_t, bne_f, wrap_i64, wrap_u64, Int.toNat_natCast, Nat.mul_one, Nat.zero_add, Nat.add_zero, List.map_toArray, List.map_cons, List.map_nil, rG_binOp, binR_add, binR_lss, resM_1, binR_rem, h0'] <;> rfl) ?_; first | with_reducible refine kv ?_ | with_reducible refine ks ?_ | with_reducible refine ke ?_) | (refine xo_t ?_ ?_; focus (simp (disch := first | assumption | omega | (with_unfolding_all exact id rfl) | exact Nat.le_of_ble_eq_true rfl | fail) only [Env.put_some, Env.put_none, Env.set_app, Nat.reduceEqDiff, ↓reduceIte, Bool.not_true, Bool.not_false, h0']; done)) | (refine xo_f ?_ ?_; focus (simp (disch := first | assumption | omega | (with_unfolding_all exact id rfl) | exact Nat.le_of_ble_eq_true rfl | fail) only [Env.put_some, Env.put_none, Env.set_app, Nat.reduceEqDiff, ↓reduceIte, Bool.not_true, Bool.not_false, h0']; done)) | (refine xo_u ?_ ?_; focus (simp (disch := first | assumption | omega | (with_unfolding_all exact id rfl) | exact Nat.le_of_ble_eq_true rfl | fail) only [Env.put_some, Env.put_none, Env.set_app, Nat.reduceEqDiff, ↓reduceIte, Bool.not_true, Bool.not_false, h0']; done)))
      refine xo_nil ?_
      refine hK _ _ ?_
      clear hK K
      simp (disch := first | assumption | omega | (with_unfolding_all exact id rfl) | exact Nat.le_of_ble_eq_true rfl | fail) only [X_ret, thenX_ret, inX_ret, retX_ret, retX_normal, Try.results22, resM_0, resM_1, resM_2, resM_3, resM_4, Env.put_some, Env.put_none, Env.set_app, Nat.reduceEqDiff, ↓reduceIte]
      exact ⟨_, rfl, rfl, hE⟩
  · refine X_cut (fun e w' => e 0 = .int .i64 (n % b) ∧ Ext w w') ?_ ?_
    · refine X_seq fun K hK => ?_
      simp only [X_reg, thenX_normal]
      repeat (first | (refine xo (by simp (disch := first | assumption | omega | (with_unfolding_all exact id rfl) | exact Nat.le_of_ble_eq_true rfl | fail) only [Bool.not_true, Bool.not_false, vR_ok, uR_ok, ev_tmp, ev_const, ev_func, Env.put_some, Env.put_none, Env.set_app, Nat.reduceEqDiff, ↓reduceIte, rG_move, rG_assign, opt1_some, ext_all, dec_t, dec_f, beq_t, beq_f, bne_t, bne_f, wrap_i64, wrap_u64, Int.toNat_natCast, Nat.mul_one, Nat.zero_add, Nat.add_zero, List.map_toArray, List.map_cons, List.map_nil, rG_binOp, binR_add, binR_lss, resM_1, binR_rem] <;> rfl) ?_; first | with_reducible refine kv ?_ | with_reducible refine ks ?_ | with_reducible refine ke ?_) | (refine xo_t ?_ ?_; focus (simp (disch := first | assumption | omega | (with_unfolding_all exact id rfl) | exact Nat.le_of_ble_eq_true rfl | fail) only [Env.put_some, Env.put_none, Env.set_app, Nat.reduceEqDiff, ↓reduceIte, Bool.not_true, Bool.not_false]; done)) | (refine xo_f ?_ ?_; focus (simp (disch := first | assumption | omega | (with_unfolding_all exact id rfl) | exact Nat.le_of_ble_eq_true rfl | fail) only [Env.put_some, Env.put_none, Env.set_app, Nat.reduceEqDiff, ↓reduceIte, Bool.not_true, Bool.not_false]; done)) | (refine xo_u ?_ ?_; focus (simp (disch := first | assumption | omega | (with_unfolding_all exact id rfl) | exact Nat.le_of_ble_eq_true rfl | fail) only [Env.put_some, Env.put_none, Env.set_app, Nat.reduceEqDiff, ↓reduceIte, Bool.not_true, Bool.not_false]; done)))
      refine xo_nil ?_
      refine hK _ _ ?_
      clear hK K
      refine X_if_f (by simp (disch := first | assumption | omega) only [ev_tmp, Env.put_some, Env.put_none, Env.set_app, Nat.reduceEqDiff, ↓reduceIte, beq_f, dec_f]) ?_
      simp only [X_skip, X_exit, X_ret, X_block, thenX_normal, thenX_ret, thenX_exit, inX_normal, inX_ret, inX_exit, ↓reduceIte, Nat.reduceEqDiff]
      refine ⟨?_, Ext.refl w⟩
      (try simp (disch := first | assumption | omega | (with_unfolding_all exact id rfl) | exact Nat.le_of_ble_eq_true rfl | fail) only [Env.put_some, Env.put_none, Env.set_app, Nat.reduceEqDiff, ↓reduceIte, nat_int, Int.toNat_natCast, wrap_i64])
      rw [h6 (by omega)]
    · rintro e w1 ⟨h0', hE⟩
      refine X_seq fun K hK => ?_
      simp only [X_reg, thenX_normal]
      repeat (first | (refine xo (by simp (disch := first | assumption | omega | (with_unfolding_all exact id rfl) | exact Nat.le_of_ble_eq_true rfl | fail) only [Bool.not_true, Bool.not_false, vR_ok, uR_ok, ev_tmp, ev_const, ev_func, Env.put_some, Env.put_none, Env.set_app, Nat.reduceEqDiff, ↓reduceIte, rG_move, rG_assign, opt1_some, ext_all, dec_t, dec_f, beq_t, beq_f, bne_t, bne_f, wrap_i64, wrap_u64, Int.toNat_natCast, Nat.mul_one, Nat.zero_add, Nat.add_zero, List.map_toArray, List.map_cons, List.map_nil, rG_binOp, binR_add, binR_lss, resM_1, binR_rem, h0'] <;> rfl) ?_; first | with_reducible refine kv ?_ | with_reducible refine ks ?_ | with_reducible refine ke ?_) | (refine xo_t ?_ ?_; focus (simp (disch := first | assumption | omega | (with_unfolding_all exact id rfl) | exact Nat.le_of_ble_eq_true rfl | fail) only [Env.put_some, Env.put_none, Env.set_app, Nat.reduceEqDiff, ↓reduceIte, Bool.not_true, Bool.not_false, h0']; done)) | (refine xo_f ?_ ?_; focus (simp (disch := first | assumption | omega | (with_unfolding_all exact id rfl) | exact Nat.le_of_ble_eq_true rfl | fail) only [Env.put_some, Env.put_none, Env.set_app, Nat.reduceEqDiff, ↓reduceIte, Bool.not_true, Bool.not_false, h0']; done)) | (refine xo_u ?_ ?_; focus (simp (disch := first | assumption | omega | (with_unfolding_all exact id rfl) | exact Nat.le_of_ble_eq_true rfl | fail) only [Env.put_some, Env.put_none, Env.set_app, Nat.reduceEqDiff, ↓reduceIte, Bool.not_true, Bool.not_false, h0']; done)))
      refine xo_nil ?_
      refine hK _ _ ?_
      clear hK K
      simp (disch := first | assumption | omega | (with_unfolding_all exact id rfl) | exact Nat.le_of_ble_eq_true rfl | fail) only [X_ret, thenX_ret, inX_ret, retX_ret, retX_normal, Try.results22, resM_0, resM_1, resM_2, resM_3, resM_4, Env.put_some, Env.put_none, Env.set_app, Nat.reduceEqDiff, ↓reduceIte]
      exact ⟨_, rfl, rfl, hE⟩

/-- An error of api's by its number; none: 0. -/
def errV (c : Int) : Value := if c = 0 then .nilIface else .iface 116 (.int .i64 c)
theorem errV_zero : errV 0 = .nilIface := rfl
theorem errV_of {c : Int} (h : c ≠ 0) : errV c = .iface 116 (.int .i64 c) := if_neg h

theorem code_calls (c : Int) (h0 : 0 ≤ c) (h8 : c ≤ 8) (w : World) :
    CallsR Try.prog 28 #[errV c] w fun r w' => r = .int .i64 c ∧ Ext w w' := by
  refine calls1 (bs := []) Try.func28 rfl mixed (by kernel_rfl) ?_
  intro e0 h0
  simp only [comp, gop, gslot, dops, bigOf, setK, drawOf, dopsW, setW, kindOf, List.lookup, List.map_cons, List.map_nil, Option.bind_some, List.getElem?_toArray, List.getElem?_cons_zero, List.getElem?_cons_succ, Option.getD_some, Option.getD_none, List.contains_nil, List.contains_cons, Bool.false_eq_true, ↓reduceIte, Nat.reduceAdd, Nat.reduceBEq, Bool.or_false]
  refine X_seq fun K hK => ?_
  simp only [X_reg, thenX_normal]
  repeat (first | (refine xo (by simp (disch := first | assumption | omega | (with_unfolding_all exact id rfl) | exact Nat.le_of_ble_eq_true rfl | fail) only [Bool.not_true, Bool.not_false, vR_ok, uR_ok, ev_tmp, ev_const, ev_func, Env.put_some, Env.put_none, Env.set_app, Nat.reduceEqDiff, ↓reduceIte, rG_move, rG_assign, opt1_some, ext_all, dec_t, dec_f, beq_t, beq_f, bne_t, bne_f, wrap_i64, wrap_u64, Int.toNat_natCast, Nat.mul_one, Nat.zero_add, Nat.add_zero, List.map_toArray, List.map_cons, List.map_nil, mi116, rG_binOp, binR_add, resM_1, binR_leq, ceql_nn_37, ceql_in_37, ceql_ni_37, ceql_ii_37_116] <;> rfl) ?_; first | with_reducible refine kv ?_ | with_reducible refine ks ?_ | with_reducible refine ke ?_) | (refine xo_t ?_ ?_; focus (simp (disch := first | assumption | omega | (with_unfolding_all exact id rfl) | exact Nat.le_of_ble_eq_true rfl | fail) only [Env.put_some, Env.put_none, Env.set_app, Nat.reduceEqDiff, ↓reduceIte, Bool.not_true, Bool.not_false]; done)) | (refine xo_f ?_ ?_; focus (simp (disch := first | assumption | omega | (with_unfolding_all exact id rfl) | exact Nat.le_of_ble_eq_true rfl | fail) only [Env.put_some, Env.put_none, Env.set_app, Nat.reduceEqDiff, ↓reduceIte, Bool.not_true, Bool.not_false]; done)) | (refine xo_u ?_ ?_; focus (simp (disch := first | assumption | omega | (with_unfolding_all exact id rfl) | exact Nat.le_of_ble_eq_true rfl | fail) only [Env.put_some, Env.put_none, Env.set_app, Nat.reduceEqDiff, ↓reduceIte, Bool.not_true, Bool.not_false]; done)))
  refine xo_nil ?_
  refine hK _ _ ?_
  clear hK K
  by_cases hc : c = 0
  · subst hc
    rw [errV_zero] at h0
    refine X_seq fun K hK => ?_
    refine X_seq fun K hK => ?_
    simp only [X_reg, thenX_normal]
    repeat (first | (refine xo (by simp (disch := first | assumption | omega | (with_unfolding_all exact id rfl) | exact Nat.le_of_ble_eq_true rfl | fail) only [Bool.not_true, Bool.not_false, vR_ok, uR_ok, ev_tmp, ev_const, ev_func, Env.put_some, Env.put_none, Env.set_app, Nat.reduceEqDiff, ↓reduceIte, rG_move, rG_assign, opt1_some, ext_all, dec_t, dec_f, beq_t, beq_f, bne_t, bne_f, wrap_i64, wrap_u64, Int.toNat_natCast, Nat.mul_one, Nat.zero_add, Nat.add_zero, List.map_toArray, List.map_cons, List.map_nil, mi116, rG_binOp, binR_add, resM_1, binR_leq, ceql_nn_37, ceql_in_37, ceql_ni_37, ceql_ii_37_116, h0] <;> rfl) ?_; first | with_reducible refine kv ?_ | with_reducible refine ks ?_ | with_reducible refine ke ?_) | (refine xo_t ?_ ?_; focus (simp (disch := first | assumption | omega | (with_unfolding_all exact id rfl) | exact Nat.le_of_ble_eq_true rfl | fail) only [Env.put_some, Env.put_none, Env.set_app, Nat.reduceEqDiff, ↓reduceIte, Bool.not_true, Bool.not_false, h0]; done)) | (refine xo_f ?_ ?_; focus (simp (disch := first | assumption | omega | (with_unfolding_all exact id rfl) | exact Nat.le_of_ble_eq_true rfl | fail) only [Env.put_some, Env.put_none, Env.set_app, Nat.reduceEqDiff, ↓reduceIte, Bool.not_true, Bool.not_false, h0]; done)) | (refine xo_u ?_ ?_; focus (simp (disch := first | assumption | omega | (with_unfolding_all exact id rfl) | exact Nat.le_of_ble_eq_true rfl | fail) only [Env.put_some, Env.put_none, Env.set_app, Nat.reduceEqDiff, ↓reduceIte, Bool.not_true, Bool.not_false, h0]; done)))
    refine xo_nil ?_
    refine hK _ _ ?_
    clear hK K
    refine X_if_t (by simp (disch := first | assumption | omega) only [ev_tmp, Env.put_some, Env.put_none, Env.set_app, Nat.reduceEqDiff, ↓reduceIte, beq_t, dec_t, beq_self_eq_true]) ?_
    refine X_seq fun K hK => ?_
    simp only [X_reg, thenX_normal]
    repeat (first | (refine xo (by simp (disch := first | assumption | omega | (with_unfolding_all exact id rfl) | exact Nat.le_of_ble_eq_true rfl | fail) only [Bool.not_true, Bool.not_false, vR_ok, uR_ok, ev_tmp, ev_const, ev_func, Env.put_some, Env.put_none, Env.set_app, Nat.reduceEqDiff, ↓reduceIte, rG_move, rG_assign, opt1_some, ext_all, dec_t, dec_f, beq_t, beq_f, bne_t, bne_f, wrap_i64, wrap_u64, Int.toNat_natCast, Nat.mul_one, Nat.zero_add, Nat.add_zero, List.map_toArray, List.map_cons, List.map_nil, mi116, rG_binOp, binR_add, resM_1, binR_leq, ceql_nn_37, ceql_in_37, ceql_ni_37, ceql_ii_37_116] <;> rfl) ?_; first | with_reducible refine kv ?_ | with_reducible refine ks ?_ | with_reducible refine ke ?_) | (refine xo_t ?_ ?_; focus (simp (disch := first | assumption | omega | (with_unfolding_all exact id rfl) | exact Nat.le_of_ble_eq_true rfl | fail) only [Env.put_some, Env.put_none, Env.set_app, Nat.reduceEqDiff, ↓reduceIte, Bool.not_true, Bool.not_false]; done)) | (refine xo_f ?_ ?_; focus (simp (disch := first | assumption | omega | (with_unfolding_all exact id rfl) | exact Nat.le_of_ble_eq_true rfl | fail) only [Env.put_some, Env.put_none, Env.set_app, Nat.reduceEqDiff, ↓reduceIte, Bool.not_true, Bool.not_false]; done)) | (refine xo_u ?_ ?_; focus (simp (disch := first | assumption | omega | (with_unfolding_all exact id rfl) | exact Nat.le_of_ble_eq_true rfl | fail) only [Env.put_some, Env.put_none, Env.set_app, Nat.reduceEqDiff, ↓reduceIte, Bool.not_true, Bool.not_false]; done)))
    refine xo_nil ?_
    refine hK _ _ ?_
    clear hK K
    simp (disch := first | assumption | omega | (with_unfolding_all exact id rfl) | exact Nat.le_of_ble_eq_true rfl | fail) only [X_ret, thenX_ret, inX_ret, retX_ret, retX_normal, Try.results28, resM_0, resM_1, resM_2, resM_3, resM_4, Env.put_some, Env.put_none, Env.set_app, Nat.reduceEqDiff, ↓reduceIte]
    exact ⟨_, rfl, rfl, Ext.refl w⟩
  · rw [errV_of hc] at h0
    refine X_seq fun K hK => ?_
    refine X_seq fun K hK => ?_
    simp only [X_reg, thenX_normal]
    repeat (first | (refine xo (by simp (disch := first | assumption | omega | (with_unfolding_all exact id rfl) | exact Nat.le_of_ble_eq_true rfl | fail) only [Bool.not_true, Bool.not_false, vR_ok, uR_ok, ev_tmp, ev_const, ev_func, Env.put_some, Env.put_none, Env.set_app, Nat.reduceEqDiff, ↓reduceIte, rG_move, rG_assign, opt1_some, ext_all, dec_t, dec_f, beq_t, beq_f, bne_t, bne_f, wrap_i64, wrap_u64, Int.toNat_natCast, Nat.mul_one, Nat.zero_add, Nat.add_zero, List.map_toArray, List.map_cons, List.map_nil, mi116, rG_binOp, binR_add, resM_1, binR_leq, ceql_nn_37, ceql_in_37, ceql_ni_37, ceql_ii_37_116, h0] <;> rfl) ?_; first | with_reducible refine kv ?_ | with_reducible refine ks ?_ | with_reducible refine ke ?_) | (refine xo_t ?_ ?_; focus (simp (disch := first | assumption | omega | (with_unfolding_all exact id rfl) | exact Nat.le_of_ble_eq_true rfl | fail) only [Env.put_some, Env.put_none, Env.set_app, Nat.reduceEqDiff, ↓reduceIte, Bool.not_true, Bool.not_false, h0]; done)) | (refine xo_f ?_ ?_; focus (simp (disch := first | assumption | omega | (with_unfolding_all exact id rfl) | exact Nat.le_of_ble_eq_true rfl | fail) only [Env.put_some, Env.put_none, Env.set_app, Nat.reduceEqDiff, ↓reduceIte, Bool.not_true, Bool.not_false, h0]; done)) | (refine xo_u ?_ ?_; focus (simp (disch := first | assumption | omega | (with_unfolding_all exact id rfl) | exact Nat.le_of_ble_eq_true rfl | fail) only [Env.put_some, Env.put_none, Env.set_app, Nat.reduceEqDiff, ↓reduceIte, Bool.not_true, Bool.not_false, h0]; done)))
    refine xo_nil ?_
    refine hK _ _ ?_
    clear hK K
    refine X_if_f (by simp (disch := first | assumption | omega) only [ev_tmp, Env.put_some, Env.put_none, Env.set_app, Nat.reduceEqDiff, ↓reduceIte, beq_f, dec_f]) ?_
    simp only [X_skip, X_exit, X_ret, X_block, thenX_normal, thenX_ret, thenX_exit, inX_normal, inX_ret, inX_exit, ↓reduceIte, Nat.reduceEqDiff]
    (try refine xo_nil ?_)
    refine hK _ _ ?_
    clear hK K
    refine X_cut (fun e w' => False) ?_ ?_
    · refine X_seq fun K hK => ?_
      simp only [X_reg, thenX_normal]
      repeat (first | (refine xo (by simp (disch := first | assumption | omega | (with_unfolding_all exact id rfl) | exact Nat.le_of_ble_eq_true rfl | fail) only [Bool.not_true, Bool.not_false, vR_ok, uR_ok, ev_tmp, ev_const, ev_func, Env.put_some, Env.put_none, Env.set_app, Nat.reduceEqDiff, ↓reduceIte, rG_move, rG_assign, opt1_some, ext_all, dec_t, dec_f, beq_t, beq_f, bne_t, bne_f, wrap_i64, wrap_u64, Int.toNat_natCast, Nat.mul_one, Nat.zero_add, Nat.add_zero, List.map_toArray, List.map_cons, List.map_nil, mi116, rG_binOp, binR_add, resM_1, binR_leq, ceql_nn_37, ceql_in_37, ceql_ni_37, ceql_ii_37_116] <;> rfl) ?_; first | with_reducible refine kv ?_ | with_reducible refine ks ?_ | with_reducible refine ke ?_) | (refine xo_t ?_ ?_; focus (simp (disch := first | assumption | omega | (with_unfolding_all exact id rfl) | exact Nat.le_of_ble_eq_true rfl | fail) only [Env.put_some, Env.put_none, Env.set_app, Nat.reduceEqDiff, ↓reduceIte, Bool.not_true, Bool.not_false]; done)) | (refine xo_f ?_ ?_; focus (simp (disch := first | assumption | omega | (with_unfolding_all exact id rfl) | exact Nat.le_of_ble_eq_true rfl | fail) only [Env.put_some, Env.put_none, Env.set_app, Nat.reduceEqDiff, ↓reduceIte, Bool.not_true, Bool.not_false]; done)) | (refine xo_u ?_ ?_; focus (simp (disch := first | assumption | omega | (with_unfolding_all exact id rfl) | exact Nat.le_of_ble_eq_true rfl | fail) only [Env.put_some, Env.put_none, Env.set_app, Nat.reduceEqDiff, ↓reduceIte, Bool.not_true, Bool.not_false]; done)))
      refine xo_nil ?_
      refine hK _ _ ?_
      clear hK K
      simp only [X_skip, X_exit, X_ret, X_block, thenX_normal, thenX_ret, thenX_exit, inX_normal, inX_ret, inX_exit, ↓reduceIte, Nat.reduceEqDiff]
      refine X_loop (fun e w' => ∃ k : Int, 1 ≤ k ∧ k ≤ c ∧ e 3 = .int .i64 k ∧ e 0 = .iface 116 (.int .i64 c) ∧ Ext w w') (fun e _ => match e 3 with | .int _ n => (9 - n).toNat | _ => 0) ?_ ?_
      · refine ⟨1, by omega, by omega, ?_, ?_, Ext.refl w⟩
        · (try simp (disch := first | assumption | omega | (with_unfolding_all exact id rfl) | exact Nat.le_of_ble_eq_true rfl | fail) only [Env.put_some, Env.put_none, Env.set_app, Nat.reduceEqDiff, ↓reduceIte, nat_int, Int.toNat_natCast, wrap_i64])
        · (try simp (disch := first | assumption | omega | (with_unfolding_all exact id rfl) | exact Nat.le_of_ble_eq_true rfl | fail) only [Env.put_some, Env.put_none, Env.set_app, Nat.reduceEqDiff, ↓reduceIte, nat_int, Int.toNat_natCast, wrap_i64, h0])
      · rintro e w1 ⟨k, hk1, hkc, h3, h0, hE⟩
        refine X_seq fun K hK => ?_
        refine X_seq fun K hK => ?_
        (try simp only [X_reg, thenX_normal])
        repeat (first | (refine xo (by simp (disch := first | assumption | omega | (with_unfolding_all exact id rfl) | exact Nat.le_of_ble_eq_true rfl | fail) only [Bool.not_true, Bool.not_false, vR_ok, uR_ok, ev_tmp, ev_const, ev_func, Env.put_some, Env.put_none, Env.set_app, Nat.reduceEqDiff, ↓reduceIte, rG_move, rG_assign, opt1_some, ext_all, dec_t, dec_f, beq_t, beq_f, bne_t, bne_f, wrap_i64, wrap_u64, Int.toNat_natCast, Nat.mul_one, Nat.zero_add, Nat.add_zero, List.map_toArray, List.map_cons, List.map_nil, mi116, rG_binOp, binR_add, resM_1, binR_leq, ceql_nn_37, ceql_in_37, ceql_ni_37, ceql_ii_37_116, h3] <;> rfl) ?_; first | with_reducible refine kv ?_ | with_reducible refine ks ?_ | with_reducible refine ke ?_) | (refine xo_t ?_ ?_; focus (simp (disch := first | assumption | omega | (with_unfolding_all exact id rfl) | exact Nat.le_of_ble_eq_true rfl | fail) only [Env.put_some, Env.put_none, Env.set_app, Nat.reduceEqDiff, ↓reduceIte, Bool.not_true, Bool.not_false, h3]; done)) | (refine xo_f ?_ ?_; focus (simp (disch := first | assumption | omega | (with_unfolding_all exact id rfl) | exact Nat.le_of_ble_eq_true rfl | fail) only [Env.put_some, Env.put_none, Env.set_app, Nat.reduceEqDiff, ↓reduceIte, Bool.not_true, Bool.not_false, h3]; done)) | (refine xo_u ?_ ?_; focus (simp (disch := first | assumption | omega | (with_unfolding_all exact id rfl) | exact Nat.le_of_ble_eq_true rfl | fail) only [Env.put_some, Env.put_none, Env.set_app, Nat.reduceEqDiff, ↓reduceIte, Bool.not_true, Bool.not_false, h3]; done)))
        (try refine xo_nil ?_)
        refine hK _ _ ?_
        clear hK K
        refine X_if_t (by simp (disch := first | assumption | omega) only [ev_tmp, Env.put_some, Env.put_none, Env.set_app, Nat.reduceEqDiff, ↓reduceIte, beq_t, dec_t, beq_self_eq_true]) ?_
        simp only [X_skip, X_exit, X_ret, X_block, thenX_normal, thenX_ret, thenX_exit, inX_normal, inX_ret, inX_exit, ↓reduceIte, Nat.reduceEqDiff]
        (try refine xo_nil ?_)
        refine hK _ _ ?_
        clear hK K
        refine X_seq fun K hK => ?_
        simp only [X_skip, X_exit, X_ret, X_block, thenX_normal, thenX_ret, thenX_exit, inX_normal, inX_ret, inX_exit, ↓reduceIte, Nat.reduceEqDiff]
        refine X_seq fun K hK => ?_
        simp only [X_reg, thenX_normal]
        repeat (first | (refine xo (by simp (disch := first | assumption | omega | (with_unfolding_all exact id rfl) | exact Nat.le_of_ble_eq_true rfl | fail) only [Bool.not_true, Bool.not_false, vR_ok, uR_ok, ev_tmp, ev_const, ev_func, Env.put_some, Env.put_none, Env.set_app, Nat.reduceEqDiff, ↓reduceIte, rG_move, rG_assign, opt1_some, ext_all, dec_t, dec_f, beq_t, beq_f, bne_t, bne_f, wrap_i64, wrap_u64, Int.toNat_natCast, Nat.mul_one, Nat.zero_add, Nat.add_zero, List.map_toArray, List.map_cons, List.map_nil, mi116, rG_binOp, binR_add, resM_1, binR_leq, ceql_nn_37, ceql_in_37, ceql_ni_37, ceql_ii_37_116, h3, h0] <;> rfl) ?_; first | with_reducible refine kv ?_ | with_reducible refine ks ?_ | with_reducible refine ke ?_) | (refine xo_t ?_ ?_; focus (simp (disch := first | assumption | omega | (with_unfolding_all exact id rfl) | exact Nat.le_of_ble_eq_true rfl | fail) only [Env.put_some, Env.put_none, Env.set_app, Nat.reduceEqDiff, ↓reduceIte, Bool.not_true, Bool.not_false, h3, h0]; done)) | (refine xo_f ?_ ?_; focus (simp (disch := first | assumption | omega | (with_unfolding_all exact id rfl) | exact Nat.le_of_ble_eq_true rfl | fail) only [Env.put_some, Env.put_none, Env.set_app, Nat.reduceEqDiff, ↓reduceIte, Bool.not_true, Bool.not_false, h3, h0]; done)) | (refine xo_u ?_ ?_; focus (simp (disch := first | assumption | omega | (with_unfolding_all exact id rfl) | exact Nat.le_of_ble_eq_true rfl | fail) only [Env.put_some, Env.put_none, Env.set_app, Nat.reduceEqDiff, ↓reduceIte, Bool.not_true, Bool.not_false, h3, h0]; done)))
        refine xo_nil ?_
        refine hK _ _ ?_
        clear hK K
        by_cases hkk : k = c
        · subst hkk
          refine X_if_t (by simp (disch := first | assumption | omega) only [ev_tmp, Env.put_some, Env.put_none, Env.set_app, Nat.reduceEqDiff, ↓reduceIte, beq_t, dec_t, beq_self_eq_true, beq_self_eq_true]) ?_
          refine X_seq fun K hK => ?_
          simp only [X_reg, thenX_normal]
          repeat (first | (refine xo (by simp (disch := first | assumption | omega | (with_unfolding_all exact id rfl) | exact Nat.le_of_ble_eq_true rfl | fail) only [Bool.not_true, Bool.not_false, vR_ok, uR_ok, ev_tmp, ev_const, ev_func, Env.put_some, Env.put_none, Env.set_app, Nat.reduceEqDiff, ↓reduceIte, rG_move, rG_assign, opt1_some, ext_all, dec_t, dec_f, beq_t, beq_f, bne_t, bne_f, wrap_i64, wrap_u64, Int.toNat_natCast, Nat.mul_one, Nat.zero_add, Nat.add_zero, List.map_toArray, List.map_cons, List.map_nil, mi116, rG_binOp, binR_add, resM_1, binR_leq, ceql_nn_37, ceql_in_37, ceql_ni_37, ceql_ii_37_116, h3] <;> rfl) ?_; first | with_reducible refine kv ?_ | with_reducible refine ks ?_ | with_reducible refine ke ?_) | (refine xo_t ?_ ?_; focus (simp (disch := first | assumption | omega | (with_unfolding_all exact id rfl) | exact Nat.le_of_ble_eq_true rfl | fail) only [Env.put_some, Env.put_none, Env.set_app, Nat.reduceEqDiff, ↓reduceIte, Bool.not_true, Bool.not_false, h3]; done)) | (refine xo_f ?_ ?_; focus (simp (disch := first | assumption | omega | (with_unfolding_all exact id rfl) | exact Nat.le_of_ble_eq_true rfl | fail) only [Env.put_some, Env.put_none, Env.set_app, Nat.reduceEqDiff, ↓reduceIte, Bool.not_true, Bool.not_false, h3]; done)) | (refine xo_u ?_ ?_; focus (simp (disch := first | assumption | omega | (with_unfolding_all exact id rfl) | exact Nat.le_of_ble_eq_true rfl | fail) only [Env.put_some, Env.put_none, Env.set_app, Nat.reduceEqDiff, ↓reduceIte, Bool.not_true, Bool.not_false, h3]; done)))
          refine xo_nil ?_
          refine hK _ _ ?_
          clear hK K
          simp only [X_skip, X_exit, X_ret, X_block, thenX_normal, thenX_ret, thenX_exit, inX_normal, inX_ret, inX_exit, ↓reduceIte, Nat.reduceEqDiff]
          simp (disch := first | assumption | omega | (with_unfolding_all exact id rfl) | exact Nat.le_of_ble_eq_true rfl | fail) only [X_ret, thenX_ret, inX_ret, retX_ret, retX_normal, Try.results28, resM_0, resM_1, resM_2, resM_3, resM_4, Env.put_some, Env.put_none, Env.set_app, Nat.reduceEqDiff, ↓reduceIte]
          exact ⟨_, rfl, rfl, hE⟩
        · have hne : (c == k) = false := beq_eq_false_iff_ne.2 (fun h => hkk h.symm)
          refine X_if_f (by simp (disch := first | assumption | omega) only [ev_tmp, Env.put_some, Env.put_none, Env.set_app, Nat.reduceEqDiff, ↓reduceIte, beq_f, dec_f, hne]) ?_
          simp only [X_skip, X_exit, X_ret, X_block, thenX_normal, thenX_ret, thenX_exit, inX_normal, inX_ret, inX_exit, ↓reduceIte, Nat.reduceEqDiff]
          (try refine xo_nil ?_)
          refine hK _ _ ?_
          clear hK K
          (try simp only [X_reg, thenX_normal])
          repeat (first | (refine xo (by simp (disch := first | assumption | omega | (with_unfolding_all exact id rfl) | exact Nat.le_of_ble_eq_true rfl | fail) only [Bool.not_true, Bool.not_false, vR_ok, uR_ok, ev_tmp, ev_const, ev_func, Env.put_some, Env.put_none, Env.set_app, Nat.reduceEqDiff, ↓reduceIte, rG_move, rG_assign, opt1_some, ext_all, dec_t, dec_f, beq_t, beq_f, bne_t, bne_f, wrap_i64, wrap_u64, Int.toNat_natCast, Nat.mul_one, Nat.zero_add, Nat.add_zero, List.map_toArray, List.map_cons, List.map_nil, mi116, rG_binOp, binR_add, resM_1, binR_leq, ceql_nn_37, ceql_in_37, ceql_ni_37, ceql_ii_37_116, h3] <;> rfl) ?_; first | with_reducible refine kv ?_ | with_reducible refine ks ?_ | with_reducible refine ke ?_) | (refine xo_t ?_ ?_; focus (simp (disch := first | assumption | omega | (with_unfolding_all exact id rfl) | exact Nat.le_of_ble_eq_true rfl | fail) only [Env.put_some, Env.put_none, Env.set_app, Nat.reduceEqDiff, ↓reduceIte, Bool.not_true, Bool.not_false, h3]; done)) | (refine xo_f ?_ ?_; focus (simp (disch := first | assumption | omega | (with_unfolding_all exact id rfl) | exact Nat.le_of_ble_eq_true rfl | fail) only [Env.put_some, Env.put_none, Env.set_app, Nat.reduceEqDiff, ↓reduceIte, Bool.not_true, Bool.not_false, h3]; done)) | (refine xo_u ?_ ?_; focus (simp (disch := first | assumption | omega | (with_unfolding_all exact id rfl) | exact Nat.le_of_ble_eq_true rfl | fail) only [Env.put_some, Env.put_none, Env.set_app, Nat.reduceEqDiff, ↓reduceIte, Bool.not_true, Bool.not_false, h3]; done)))
          refine xo_nil ⟨⟨k + 1, by omega, by omega, ?_, ?_, hE⟩, ?_⟩
          · (try simp (disch := first | assumption | omega | (with_unfolding_all exact id rfl) | exact Nat.le_of_ble_eq_true rfl | fail) only [Env.put_some, Env.put_none, Env.set_app, Nat.reduceEqDiff, ↓reduceIte, nat_int, Int.toNat_natCast, wrap_i64])
          · (try simp (disch := first | assumption | omega | (with_unfolding_all exact id rfl) | exact Nat.le_of_ble_eq_true rfl | fail) only [Env.put_some, Env.put_none, Env.set_app, Nat.reduceEqDiff, ↓reduceIte, nat_int, Int.toNat_natCast, wrap_i64, h0])
          · (try simp (disch := first | assumption | omega | (with_unfolding_all exact id rfl) | exact Nat.le_of_ble_eq_true rfl | fail) only [Env.put_some, Env.put_none, Env.set_app, Nat.reduceEqDiff, ↓reduceIte, nat_int, Int.toNat_natCast, wrap_i64, h3])
            omega
    · exact fun _ _ h => h.elim
end Go.Proofs.Ytjdomnpfgdbckaa
