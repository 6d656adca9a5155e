/- Law00, Law00b, StNew, Law07, Law07b, Law07c, Law07d, LawKit, LawFv, StOpen, Law07e, Law07f, StSaid2: texts of this work, one behind the other. -/
import Derived.Test.YtpeindhocndmnaaSb7
import Derived.WalkKit
import Derived.ProofKit
import Derived.OpenShut
import Derived.ShutString
import Derived.ChangeOld
import Derived.Below
import Derived.Carry
import Derived.SizedLaws
import Derived.KernelRfl
import Derived.Test.YtpeindhocndmnaaRows
/- What the statements of all layers ask of what is handed in (layer 0's Pick and Code). -/
namespace Go.Proofs.Ytpeindhocndmnaa
open Go Go.Bx
set_option linter.unusedSimpArgs false
set_option linter.unusedVariables false
set_option maxRecDepth 100000

theorem tmod_pk (n : Int) {b : Int} (hb : 0 < b) : -b < n.tmod b ∧ n.tmod b < b ∧ (n.tmod b < 0 → n.tmod b + b = n % b) ∧ (0 ≤ n.tmod b → n.tmod b = n % b) := by
  have h1 := Int.mul_tdiv_add_tmod n b
  have h2 : n.tmod b < b := Int.tmod_lt_of_pos n hb
  have h3 : -b < n.tmod b := Int.lt_tmod_of_pos n hb
  have h4 : n % b = n.tmod b % b := by
    conv => lhs; rw [← h1]
    rw [Int.add_comm, Int.add_mul_emod_self_left]
  refine ⟨h3, h2, fun h => ?_, fun h => ?_⟩
  · rw [h4, ← Int.add_emod_right, Int.emod_eq_of_lt (by omega) (by omega)]
  · rw [h4, Int.emod_eq_of_lt h h2]

theorem pick_calls (n b : Int) (hb : 0 < b) (hm : b ≤ 4611686018427387904) (w : World) :
    CallsR Try.prog 26 #[.int .i64 n, .int .i64 b] w fun r w' => r = .int .i64 (n % b) ∧ Ext w w' := by
  obtain ⟨h3, h4, h5, h6⟩ := tmod_pk n hb
  have hb0 : b ≠ 0 := by omega
  refine calls2 (bs := []) Try.func26 rfl mixed (by kernel_rfl) ?_
  intro e0 h0 h1
  simp only [comp, gop, gslot, dops, bigOf, setK, drawOf, drawOf2, dopsW, setW, dopsR, setR, kindOf, List.lookup, List.map_cons, List.map_nil, Option.bind_some, List.getElem?_toArray, List.getElem?_cons_zero, List.getElem?_cons_succ, Option.getD_some, Option.getD_none, List.contains_nil, List.contains_cons, Bool.false_eq_true, ↓reduceIte, Nat.reduceAdd, Nat.reduceBEq, Bool.or_false]
  refine X_seq fun K hK => ?_
  simp only [X_reg, thenX_normal]
  repeat (first | (refine xo (by simp (disch := first | assumption | omega | (with_unfolding_all exact id rfl) | exact Nat.le_of_ble_eq_true rfl | fail) only [Bool.not_true, Bool.not_false, vR_ok, uR_ok, ev_tmp, ev_const, ev_func, Env.put_some, Env.put_none, Env.set_app, Nat.reduceEqDiff, ↓reduceIte, rG_move, rG_assign, opt1_some, ext_all, dec_t, dec_f, beq_t, beq_f, bne_t, bne_f, wrap_i64, wrap_u64, Int.toNat_natCast, Nat.mul_one, Nat.zero_add, Nat.add_zero, List.map_toArray, List.map_cons, List.map_nil, resM_1, rG_binOp, binR_lss, binR_rem, binR_add] <;> rfl) ?_; first | with_reducible refine kv ?_ | with_reducible refine ks ?_ | with_reducible refine ke ?_) | (refine xo_t ?_ ?_; focus (simp (disch := first | assumption | omega | (with_unfolding_all exact id rfl) | exact Nat.le_of_ble_eq_true rfl | fail) only [Env.put_some, Env.put_none, Env.set_app, Nat.reduceEqDiff, ↓reduceIte, Bool.not_true, Bool.not_false]; done)) | (refine xo_f ?_ ?_; focus (simp (disch := first | assumption | omega | (with_unfolding_all exact id rfl) | exact Nat.le_of_ble_eq_true rfl | fail) only [Env.put_some, Env.put_none, Env.set_app, Nat.reduceEqDiff, ↓reduceIte, Bool.not_true, Bool.not_false]; done)) | (refine xo_u ?_ ?_; focus (simp (disch := first | assumption | omega | (with_unfolding_all exact id rfl) | exact Nat.le_of_ble_eq_true rfl | fail) only [Env.put_some, Env.put_none, Env.set_app, Nat.reduceEqDiff, ↓reduceIte, Bool.not_true, Bool.not_false]; done)))
  refine xo_nil ?_
  refine hK _ _ ?_
  clear hK K
  refine X_seq fun K hK => ?_
  simp only [X_reg, thenX_normal]
  repeat (first | (refine xo (by simp (disch := first | assumption | omega | (with_unfolding_all exact id rfl) | exact Nat.le_of_ble_eq_true rfl | fail) only [Bool.not_true, Bool.not_false, vR_ok, uR_ok, ev_tmp, ev_const, ev_func, Env.put_some, Env.put_none, Env.set_app, Nat.reduceEqDiff, ↓reduceIte, rG_move, rG_assign, opt1_some, ext_all, dec_t, dec_f, beq_t, beq_f, bne_t, bne_f, wrap_i64, wrap_u64, Int.toNat_natCast, Nat.mul_one, Nat.zero_add, Nat.add_zero, List.map_toArray, List.map_cons, List.map_nil, resM_1, rG_binOp, binR_lss, binR_rem, binR_add, h0, h1] <;> rfl) ?_; first | with_reducible refine kv ?_ | with_reducible refine ks ?_ | with_reducible refine ke ?_) | (refine xo_t ?_ ?_; focus (simp (disch := first | assumption | omega | (with_unfolding_all exact id rfl) | exact Nat.le_of_ble_eq_true rfl | fail) only [Env.put_some, Env.put_none, Env.set_app, Nat.reduceEqDiff, ↓reduceIte, Bool.not_true, Bool.not_false, h0, h1]; done)) | (refine xo_f ?_ ?_; focus (simp (disch := first | assumption | omega | (with_unfolding_all exact id rfl) | exact Nat.le_of_ble_eq_true rfl | fail) only [Env.put_some, Env.put_none, Env.set_app, Nat.reduceEqDiff, ↓reduceIte, Bool.not_true, Bool.not_false, h0, h1]; done)) | (refine xo_u ?_ ?_; focus (simp (disch := first | assumption | omega | (with_unfolding_all exact id rfl) | exact Nat.le_of_ble_eq_true rfl | fail) only [Env.put_some, Env.put_none, Env.set_app, Nat.reduceEqDiff, ↓reduceIte, Bool.not_true, Bool.not_false, h0, h1]; done)))
  refine xo_nil ?_
  refine hK _ _ ?_
  clear hK K
  by_cases hn : n.tmod b < 0
  · refine X_cut (fun e w' => e 0 = .int .i64 (n % b) ∧ Ext w w') ?_ ?_
    · refine X_seq fun K hK => ?_
      simp only [X_reg, thenX_normal]
      repeat (first | (refine xo (by simp (disch := first | assumption | omega | (with_unfolding_all exact id rfl) | exact Nat.le_of_ble_eq_true rfl | fail) only [Bool.not_true, Bool.not_false, vR_ok, uR_ok, ev_tmp, ev_const, ev_func, Env.put_some, Env.put_none, Env.set_app, Nat.reduceEqDiff, ↓reduceIte, rG_move, rG_assign, opt1_some, ext_all, dec_t, dec_f, beq_t, beq_f, bne_t, bne_f, wrap_i64, wrap_u64, Int.toNat_natCast, Nat.mul_one, Nat.zero_add, Nat.add_zero, List.map_toArray, List.map_cons, List.map_nil, resM_1, rG_binOp, binR_lss, binR_rem, binR_add] <;> rfl) ?_; first | with_reducible refine kv ?_ | with_reducible refine ks ?_ | with_reducible refine ke ?_) | (refine xo_t ?_ ?_; focus (simp (disch := first | assumption | omega | (with_unfolding_all exact id rfl) | exact Nat.le_of_ble_eq_true rfl | fail) only [Env.put_some, Env.put_none, Env.set_app, Nat.reduceEqDiff, ↓reduceIte, Bool.not_true, Bool.not_false]; done)) | (refine xo_f ?_ ?_; focus (simp (disch := first | assumption | omega | (with_unfolding_all exact id rfl) | exact Nat.le_of_ble_eq_true rfl | fail) only [Env.put_some, Env.put_none, Env.set_app, Nat.reduceEqDiff, ↓reduceIte, Bool.not_true, Bool.not_false]; done)) | (refine xo_u ?_ ?_; focus (simp (disch := first | assumption | omega | (with_unfolding_all exact id rfl) | exact Nat.le_of_ble_eq_true rfl | fail) only [Env.put_some, Env.put_none, Env.set_app, Nat.reduceEqDiff, ↓reduceIte, Bool.not_true, Bool.not_false]; done)))
      refine xo_nil ?_
      refine hK _ _ ?_
      clear hK K
      refine X_if_t (by simp (disch := first | assumption | omega) only [ev_tmp, Env.put_some, Env.put_none, Env.set_app, Nat.reduceEqDiff, ↓reduceIte, beq_t, dec_t, beq_self_eq_true]) ?_
      (try simp only [X_reg, thenX_normal])
      repeat (first | (refine xo (by simp (disch := first | assumption | omega | (with_unfolding_all exact id rfl) | exact Nat.le_of_ble_eq_true rfl | fail) only [Bool.not_true, Bool.not_false, vR_ok, uR_ok, ev_tmp, ev_const, ev_func, Env.put_some, Env.put_none, Env.set_app, Nat.reduceEqDiff, ↓reduceIte, rG_move, rG_assign, opt1_some, ext_all, dec_t, dec_f, beq_t, beq_f, bne_t, bne_f, wrap_i64, wrap_u64, Int.toNat_natCast, Nat.mul_one, Nat.zero_add, Nat.add_zero, List.map_toArray, List.map_cons, List.map_nil, resM_1, rG_binOp, binR_lss, binR_rem, binR_add, h1] <;> rfl) ?_; first | with_reducible refine kv ?_ | with_reducible refine ks ?_ | with_reducible refine ke ?_) | (refine xo_t ?_ ?_; focus (simp (disch := first | assumption | omega | (with_unfolding_all exact id rfl) | exact Nat.le_of_ble_eq_true rfl | fail) only [Env.put_some, Env.put_none, Env.set_app, Nat.reduceEqDiff, ↓reduceIte, Bool.not_true, Bool.not_false, h1]; done)) | (refine xo_f ?_ ?_; focus (simp (disch := first | assumption | omega | (with_unfolding_all exact id rfl) | exact Nat.le_of_ble_eq_true rfl | fail) only [Env.put_some, Env.put_none, Env.set_app, Nat.reduceEqDiff, ↓reduceIte, Bool.not_true, Bool.not_false, h1]; done)) | (refine xo_u ?_ ?_; focus (simp (disch := first | assumption | omega | (with_unfolding_all exact id rfl) | exact Nat.le_of_ble_eq_true rfl | fail) only [Env.put_some, Env.put_none, Env.set_app, Nat.reduceEqDiff, ↓reduceIte, Bool.not_true, Bool.not_false, h1]; done)))
      refine xo_nil ⟨?_, Ext.refl w⟩
      (try simp (disch := first | assumption | omega | (with_unfolding_all exact id rfl) | exact Nat.le_of_ble_eq_true rfl | fail) only [Env.put_some, Env.put_none, Env.set_app, Nat.reduceEqDiff, ↓reduceIte, nat_int, Int.toNat_natCast, wrap_i64])
      rw [h5 hn]
    · rintro e w1 ⟨h0', hE⟩
      refine X_seq fun K hK => ?_
      simp only [X_reg, thenX_normal]
      repeat (first | (refine xo (by simp (disch := first | assumption | omega | (with_unfolding_all exact id rfl) | exact Nat.le_of_ble_eq_true rfl | fail) only [Bool.not_true, Bool.not_false, vR_ok, uR_ok, ev_tmp, ev_const, ev_func, Env.put_some, Env.put_none, Env.set_app, Nat.reduceEqDiff, ↓reduceIte, rG_move, rG_assign, opt1_some, ext_all, dec_t, dec_f, beq_t, beq_f, bne_t, bne_f, wrap_i64, wrap_u64, Int.toNat_natCast, Nat.mul_one, Nat.zero_add, Nat.add_zero, List.map_toArray, List.map_cons, List.map_nil, resM_1, rG_binOp, binR_lss, binR_rem, binR_add, h0'] <;> rfl) ?_; first | with_reducible refine kv ?_ | with_reducible refine ks ?_ | with_reducible refine ke ?_) | (refine xo_t ?_ ?_; focus (simp (disch := first | assumption | omega | (with_unfolding_all exact id rfl) | exact Nat.le_of_ble_eq_true rfl | fail) only [Env.put_some, Env.put_none, Env.set_app, Nat.reduceEqDiff, ↓reduceIte, Bool.not_true, Bool.not_false, h0']; done)) | (refine xo_f ?_ ?_; focus (simp (disch := first | assumption | omega | (with_unfolding_all exact id rfl) | exact Nat.le_of_ble_eq_true rfl | fail) only [Env.put_some, Env.put_none, Env.set_app, Nat.reduceEqDiff, ↓reduceIte, Bool.not_true, Bool.not_false, h0']; done)) | (refine xo_u ?_ ?_; focus (simp (disch := first | assumption | omega | (with_unfolding_all exact id rfl) | exact Nat.le_of_ble_eq_true rfl | fail) only [Env.put_some, Env.put_none, Env.set_app, Nat.reduceEqDiff, ↓reduceIte, Bool.not_true, Bool.not_false, h0']; done)))
      refine xo_nil ?_
      refine hK _ _ ?_
      clear hK K
      simp (disch := first | assumption | omega | (with_unfolding_all exact id rfl) | exact Nat.le_of_ble_eq_true rfl | fail) only [X_ret, thenX_ret, inX_ret, retX_ret, retX_normal, Try.results26, resM_0, resM_1, resM_2, resM_3, resM_4, Env.put_some, Env.put_none, Env.set_app, Nat.reduceEqDiff, ↓reduceIte]
      exact ⟨_, rfl, rfl, hE⟩
  · refine X_cut (fun e w' => e 0 = .int .i64 (n % b) ∧ Ext w w') ?_ ?_
    · refine X_seq fun K hK => ?_
      simp only [X_reg, thenX_normal]
      repeat (first | (refine xo (by simp (disch := first | assumption | omega | (with_unfolding_all exact id rfl) | exact Nat.le_of_ble_eq_true rfl | fail) only [Bool.not_true, Bool.not_false, vR_ok, uR_ok, ev_tmp, ev_const, ev_func, Env.put_some, Env.put_none, Env.set_app, Nat.reduceEqDiff, ↓reduceIte, rG_move, rG_assign, opt1_some, ext_all, dec_t, dec_f, beq_t, beq_f, bne_t, bne_f, wrap_i64, wrap_u64, Int.toNat_natCast, Nat.mul_one, Nat.zero_add, Nat.add_zero, List.map_toArray, List.map_cons, List.map_nil, resM_1, rG_binOp, binR_lss, binR_rem, binR_add] <;> rfl) ?_; first | with_reducible refine kv ?_ | with_reducible refine ks ?_ | with_reducible refine ke ?_) | (refine xo_t ?_ ?_; focus (simp (disch := first | assumption | omega | (with_unfolding_all exact id rfl) | exact Nat.le_of_ble_eq_true rfl | fail) only [Env.put_some, Env.put_none, Env.set_app, Nat.reduceEqDiff, ↓reduceIte, Bool.not_true, Bool.not_false]; done)) | (refine xo_f ?_ ?_; focus (simp (disch := first | assumption | omega | (with_unfolding_all exact id rfl) | exact Nat.le_of_ble_eq_true rfl | fail) only [Env.put_some, Env.put_none, Env.set_app, Nat.reduceEqDiff, ↓reduceIte, Bool.not_true, Bool.not_false]; done)) | (refine xo_u ?_ ?_; focus (simp (disch := first | assumption | omega | (with_unfolding_all exact id rfl) | exact Nat.le_of_ble_eq_true rfl | fail) only [Env.put_some, Env.put_none, Env.set_app, Nat.reduceEqDiff, ↓reduceIte, Bool.not_true, Bool.not_false]; done)))
      refine xo_nil ?_
      refine hK _ _ ?_
      clear hK K
      refine X_if_f (by simp (disch := first | assumption | omega) only [ev_tmp, Env.put_some, Env.put_none, Env.set_app, Nat.reduceEqDiff, ↓reduceIte, beq_f, dec_f]) ?_
      simp only [X_skip, X_exit, X_ret, X_block, thenX_normal, thenX_ret, thenX_exit, inX_normal, inX_ret, inX_exit, ↓reduceIte, Nat.reduceEqDiff]
      refine ⟨?_, Ext.refl w⟩
      (try simp (disch := first | assumption | omega | (with_unfolding_all exact id rfl) | exact Nat.le_of_ble_eq_true rfl | fail) only [Env.put_some, Env.put_none, Env.set_app, Nat.reduceEqDiff, ↓reduceIte, nat_int, Int.toNat_natCast, wrap_i64])
      rw [h6 (by omega)]
    · rintro e w1 ⟨h0', hE⟩
      refine X_seq fun K hK => ?_
      simp only [X_reg, thenX_normal]
      repeat (first | (refine xo (by simp (disch := first | assumption | omega | (with_unfolding_all exact id rfl) | exact Nat.le_of_ble_eq_true rfl | fail) only [Bool.not_true, Bool.not_false, vR_ok, uR_ok, ev_tmp, ev_const, ev_func, Env.put_some, Env.put_none, Env.set_app, Nat.reduceEqDiff, ↓reduceIte, rG_move, rG_assign, opt1_some, ext_all, dec_t, dec_f, beq_t, beq_f, bne_t, bne_f, wrap_i64, wrap_u64, Int.toNat_natCast, Nat.mul_one, Nat.zero_add, Nat.add_zero, List.map_toArray, List.map_cons, List.map_nil, resM_1, rG_binOp, binR_lss, binR_rem, binR_add, h0'] <;> rfl) ?_; first | with_reducible refine kv ?_ | with_reducible refine ks ?_ | with_reducible refine ke ?_) | (refine xo_t ?_ ?_; focus (simp (disch := first | assumption | omega | (with_unfolding_all exact id rfl) | exact Nat.le_of_ble_eq_true rfl | fail) only [Env.put_some, Env.put_none, Env.set_app, Nat.reduceEqDiff, ↓reduceIte, Bool.not_true, Bool.not_false, h0']; done)) | (refine xo_f ?_ ?_; focus (simp (disch := first | assumption | omega | (with_unfolding_all exact id rfl) | exact Nat.le_of_ble_eq_true rfl | fail) only [Env.put_some, Env.put_none, Env.set_app, Nat.reduceEqDiff, ↓reduceIte, Bool.not_true, Bool.not_false, h0']; done)) | (refine xo_u ?_ ?_; focus (simp (disch := first | assumption | omega | (with_unfolding_all exact id rfl) | exact Nat.le_of_ble_eq_true rfl | fail) only [Env.put_some, Env.put_none, Env.set_app, Nat.reduceEqDiff, ↓reduceIte, Bool.not_true, Bool.not_false, h0']; done)))
      refine xo_nil ?_
      refine hK _ _ ?_
      clear hK K
      simp (disch := first | assumption | omega | (with_unfolding_all exact id rfl) | exact Nat.le_of_ble_eq_true rfl | fail) only [X_ret, thenX_ret, inX_ret, retX_ret, retX_normal, Try.results26, resM_0, resM_1, resM_2, resM_3, resM_4, Env.put_some, Env.put_none, Env.set_app, Nat.reduceEqDiff, ↓reduceIte]
      exact ⟨_, rfl, rfl, hE⟩

theorem errV_zero : errV 0 = .nilIface := rfl
theorem errV_of {c : Int} (h : c ≠ 0) : errV c = .iface 127 (.int .i64 c) := if_neg h
theorem code_calls (c : Int) (h0 : 0 ≤ c) (h8 : c ≤ 8) (w : World) :
    CallsR Try.prog 29 #[errV c] w fun r w' => r = .int .i64 c ∧ Ext w w' := by
  refine calls1 (bs := []) Try.func29 rfl mixed (by kernel_rfl) ?_
  intro e0 h0
  simp only [comp, gop, gslot, dops, bigOf, setK, drawOf, drawOf2, dopsW, setW, dopsR, setR, kindOf, List.lookup, List.map_cons, List.map_nil, Option.bind_some, List.getElem?_toArray, List.getElem?_cons_zero, List.getElem?_cons_succ, Option.getD_some, Option.getD_none, List.contains_nil, List.contains_cons, Bool.false_eq_true, ↓reduceIte, Nat.reduceAdd, Nat.reduceBEq, Bool.or_false]
  refine X_seq fun K hK => ?_
  simp only [X_reg, thenX_normal]
  repeat (first | (refine xo (by simp (disch := first | assumption | omega | (with_unfolding_all exact id rfl) | exact Nat.le_of_ble_eq_true rfl | fail) only [Bool.not_true, Bool.not_false, vR_ok, uR_ok, ev_tmp, ev_const, ev_func, Env.put_some, Env.put_none, Env.set_app, Nat.reduceEqDiff, ↓reduceIte, rG_move, rG_assign, opt1_some, ext_all, dec_t, dec_f, beq_t, beq_f, bne_t, bne_f, wrap_i64, wrap_u64, Int.toNat_natCast, Nat.mul_one, Nat.zero_add, Nat.add_zero, List.map_toArray, List.map_cons, List.map_nil, rG_binOp, binR_leq, ceql_nn_47, ceql_in_47, ceql_ni_47, ceql_ii_47_127, resM_1, mi127, binR_add] <;> rfl) ?_; first | with_reducible refine kv ?_ | with_reducible refine ks ?_ | with_reducible refine ke ?_) | (refine xo_t ?_ ?_; focus (simp (disch := first | assumption | omega | (with_unfolding_all exact id rfl) | exact Nat.le_of_ble_eq_true rfl | fail) only [Env.put_some, Env.put_none, Env.set_app, Nat.reduceEqDiff, ↓reduceIte, Bool.not_true, Bool.not_false]; done)) | (refine xo_f ?_ ?_; focus (simp (disch := first | assumption | omega | (with_unfolding_all exact id rfl) | exact Nat.le_of_ble_eq_true rfl | fail) only [Env.put_some, Env.put_none, Env.set_app, Nat.reduceEqDiff, ↓reduceIte, Bool.not_true, Bool.not_false]; done)) | (refine xo_u ?_ ?_; focus (simp (disch := first | assumption | omega | (with_unfolding_all exact id rfl) | exact Nat.le_of_ble_eq_true rfl | fail) only [Env.put_some, Env.put_none, Env.set_app, Nat.reduceEqDiff, ↓reduceIte, Bool.not_true, Bool.not_false]; done)))
  refine xo_nil ?_
  refine hK _ _ ?_
  clear hK K
  by_cases hc : c = 0
  · subst hc
    rw [errV_zero] at h0
    refine X_seq fun K hK => ?_
    refine X_seq fun K hK => ?_
    simp only [X_reg, thenX_normal]
    repeat (first | (refine xo (by simp (disch := first | assumption | omega | (with_unfolding_all exact id rfl) | exact Nat.le_of_ble_eq_true rfl | fail) only [Bool.not_true, Bool.not_false, vR_ok, uR_ok, ev_tmp, ev_const, ev_func, Env.put_some, Env.put_none, Env.set_app, Nat.reduceEqDiff, ↓reduceIte, rG_move, rG_assign, opt1_some, ext_all, dec_t, dec_f, beq_t, beq_f, bne_t, bne_f, wrap_i64, wrap_u64, Int.toNat_natCast, Nat.mul_one, Nat.zero_add, Nat.add_zero, List.map_toArray, List.map_cons, List.map_nil, rG_binOp, binR_leq, ceql_nn_47, ceql_in_47, ceql_ni_47, ceql_ii_47_127, resM_1, mi127, binR_add, h0] <;> rfl) ?_; first | with_reducible refine kv ?_ | with_reducible refine ks ?_ | with_reducible refine ke ?_) | (refine xo_t ?_ ?_; focus (simp (disch := first | assumption | omega | (with_unfolding_all exact id rfl) | exact Nat.le_of_ble_eq_true rfl | fail) only [Env.put_some, Env.put_none, Env.set_app, Nat.reduceEqDiff, ↓reduceIte, Bool.not_true, Bool.not_false, h0]; done)) | (refine xo_f ?_ ?_; focus (simp (disch := first | assumption | omega | (with_unfolding_all exact id rfl) | exact Nat.le_of_ble_eq_true rfl | fail) only [Env.put_some, Env.put_none, Env.set_app, Nat.reduceEqDiff, ↓reduceIte, Bool.not_true, Bool.not_false, h0]; done)) | (refine xo_u ?_ ?_; focus (simp (disch := first | assumption | omega | (with_unfolding_all exact id rfl) | exact Nat.le_of_ble_eq_true rfl | fail) only [Env.put_some, Env.put_none, Env.set_app, Nat.reduceEqDiff, ↓reduceIte, Bool.not_true, Bool.not_false, h0]; done)))
    refine xo_nil ?_
    refine hK _ _ ?_
    clear hK K
    refine X_if_t (by simp (disch := first | assumption | omega) only [ev_tmp, Env.put_some, Env.put_none, Env.set_app, Nat.reduceEqDiff, ↓reduceIte, beq_t, dec_t, beq_self_eq_true]) ?_
    refine X_seq fun K hK => ?_
    simp only [X_reg, thenX_normal]
    repeat (first | (refine xo (by simp (disch := first | assumption | omega | (with_unfolding_all exact id rfl) | exact Nat.le_of_ble_eq_true rfl | fail) only [Bool.not_true, Bool.not_false, vR_ok, uR_ok, ev_tmp, ev_const, ev_func, Env.put_some, Env.put_none, Env.set_app, Nat.reduceEqDiff, ↓reduceIte, rG_move, rG_assign, opt1_some, ext_all, dec_t, dec_f, beq_t, beq_f, bne_t, bne_f, wrap_i64, wrap_u64, Int.toNat_natCast, Nat.mul_one, Nat.zero_add, Nat.add_zero, List.map_toArray, List.map_cons, List.map_nil, rG_binOp, binR_leq, ceql_nn_47, ceql_in_47, ceql_ni_47, ceql_ii_47_127, resM_1, mi127, binR_add] <;> rfl) ?_; first | with_reducible refine kv ?_ | with_reducible refine ks ?_ | with_reducible refine ke ?_) | (refine xo_t ?_ ?_; focus (simp (disch := first | assumption | omega | (with_unfolding_all exact id rfl) | exact Nat.le_of_ble_eq_true rfl | fail) only [Env.put_some, Env.put_none, Env.set_app, Nat.reduceEqDiff, ↓reduceIte, Bool.not_true, Bool.not_false]; done)) | (refine xo_f ?_ ?_; focus (simp (disch := first | assumption | omega | (with_unfolding_all exact id rfl) | exact Nat.le_of_ble_eq_true rfl | fail) only [Env.put_some, Env.put_none, Env.set_app, Nat.reduceEqDiff, ↓reduceIte, Bool.not_true, Bool.not_false]; done)) | (refine xo_u ?_ ?_; focus (simp (disch := first | assumption | omega | (with_unfolding_all exact id rfl) | exact Nat.le_of_ble_eq_true rfl | fail) only [Env.put_some, Env.put_none, Env.set_app, Nat.reduceEqDiff, ↓reduceIte, Bool.not_true, Bool.not_false]; done)))
    refine xo_nil ?_
    refine hK _ _ ?_
    clear hK K
    simp (disch := first | assumption | omega | (with_unfolding_all exact id rfl) | exact Nat.le_of_ble_eq_true rfl | fail) only [X_ret, thenX_ret, inX_ret, retX_ret, retX_normal, Try.results29, resM_0, resM_1, resM_2, resM_3, resM_4, Env.put_some, Env.put_none, Env.set_app, Nat.reduceEqDiff, ↓reduceIte]
    exact ⟨_, rfl, rfl, Ext.refl w⟩
  · rw [errV_of hc] at h0
    refine X_seq fun K hK => ?_
    refine X_seq fun K hK => ?_
    simp only [X_reg, thenX_normal]
    repeat (first | (refine xo (by simp (disch := first | assumption | omega | (with_unfolding_all exact id rfl) | exact Nat.le_of_ble_eq_true rfl | fail) only [Bool.not_true, Bool.not_false, vR_ok, uR_ok, ev_tmp, ev_const, ev_func, Env.put_some, Env.put_none, Env.set_app, Nat.reduceEqDiff, ↓reduceIte, rG_move, rG_assign, opt1_some, ext_all, dec_t, dec_f, beq_t, beq_f, bne_t, bne_f, wrap_i64, wrap_u64, Int.toNat_natCast, Nat.mul_one, Nat.zero_add, Nat.add_zero, List.map_toArray, List.map_cons, List.map_nil, rG_binOp, binR_leq, ceql_nn_47, ceql_in_47, ceql_ni_47, ceql_ii_47_127, resM_1, mi127, binR_add, h0] <;> rfl) ?_; first | with_reducible refine kv ?_ | with_reducible refine ks ?_ | with_reducible refine ke ?_) | (refine xo_t ?_ ?_; focus (simp (disch := first | assumption | omega | (with_unfolding_all exact id rfl) | exact Nat.le_of_ble_eq_true rfl | fail) only [Env.put_some, Env.put_none, Env.set_app, Nat.reduceEqDiff, ↓reduceIte, Bool.not_true, Bool.not_false, h0]; done)) | (refine xo_f ?_ ?_; focus (simp (disch := first | assumption | omega | (with_unfolding_all exact id rfl) | exact Nat.le_of_ble_eq_true rfl | fail) only [Env.put_some, Env.put_none, Env.set_app, Nat.reduceEqDiff, ↓reduceIte, Bool.not_true, Bool.not_false, h0]; done)) | (refine xo_u ?_ ?_; focus (simp (disch := first | assumption | omega | (with_unfolding_all exact id rfl) | exact Nat.le_of_ble_eq_true rfl | fail) only [Env.put_some, Env.put_none, Env.set_app, Nat.reduceEqDiff, ↓reduceIte, Bool.not_true, Bool.not_false, h0]; done)))
    refine xo_nil ?_
    refine hK _ _ ?_
    clear hK K
    refine X_if_f (by simp (disch := first | assumption | omega) only [ev_tmp, Env.put_some, Env.put_none, Env.set_app, Nat.reduceEqDiff, ↓reduceIte, beq_f, dec_f]) ?_
    simp only [X_skip, X_exit, X_ret, X_block, thenX_normal, thenX_ret, thenX_exit, inX_normal, inX_ret, inX_exit, ↓reduceIte, Nat.reduceEqDiff]
    (try refine xo_nil ?_)
    refine hK _ _ ?_
    clear hK K
    refine X_cut (fun e w' => False) ?_ ?_
    · refine X_seq fun K hK => ?_
      simp only [X_reg, thenX_normal]
      repeat (first | (refine xo (by simp (disch := first | assumption | omega | (with_unfolding_all exact id rfl) | exact Nat.le_of_ble_eq_true rfl | fail) only [Bool.not_true, Bool.not_false, vR_ok, uR_ok, ev_tmp, ev_const, ev_func, Env.put_some, Env.put_none, Env.set_app, Nat.reduceEqDiff, ↓reduceIte, rG_move, rG_assign, opt1_some, ext_all, dec_t, dec_f, beq_t, beq_f, bne_t, bne_f, wrap_i64, wrap_u64, Int.toNat_natCast, Nat.mul_one, Nat.zero_add, Nat.add_zero, List.map_toArray, List.map_cons, List.map_nil, rG_binOp, binR_leq, ceql_nn_47, ceql_in_47, ceql_ni_47, ceql_ii_47_127, resM_1, mi127, binR_add] <;> rfl) ?_; first | with_reducible refine kv ?_ | with_reducible refine ks ?_ | with_reducible refine ke ?_) | (refine xo_t ?_ ?_; focus (simp (disch := first | assumption | omega | (with_unfolding_all exact id rfl) | exact Nat.le_of_ble_eq_true rfl | fail) only [Env.put_some, Env.put_none, Env.set_app, Nat.reduceEqDiff, ↓reduceIte, Bool.not_true, Bool.not_false]; done)) | (refine xo_f ?_ ?_; focus (simp (disch := first | assumption | omega | (with_unfolding_all exact id rfl) | exact Nat.le_of_ble_eq_true rfl | fail) only [Env.put_some, Env.put_none, Env.set_app, Nat.reduceEqDiff, ↓reduceIte, Bool.not_true, Bool.not_false]; done)) | (refine xo_u ?_ ?_; focus (simp (disch := first | assumption | omega | (with_unfolding_all exact id rfl) | exact Nat.le_of_ble_eq_true rfl | fail) only [Env.put_some, Env.put_none, Env.set_app, Nat.reduceEqDiff, ↓reduceIte, Bool.not_true, Bool.not_false]; done)))
      refine xo_nil ?_
      refine hK _ _ ?_
      clear hK K
      simp only [X_skip, X_exit, X_ret, X_block, thenX_normal, thenX_ret, thenX_exit, inX_normal, inX_ret, inX_exit, ↓reduceIte, Nat.reduceEqDiff]
      refine X_loop (fun e w' => ∃ k : Int, 1 ≤ k ∧ k ≤ c ∧ e 3 = .int .i64 k ∧ e 0 = .iface 127 (.int .i64 c) ∧ Ext w w') (fun e _ => match e 3 with | .int _ n => (9 - n).toNat | _ => 0) ?_ ?_
      · refine ⟨1, by omega, by omega, ?_, ?_, Ext.refl w⟩
        · (try simp (disch := first | assumption | omega | (with_unfolding_all exact id rfl) | exact Nat.le_of_ble_eq_true rfl | fail) only [Env.put_some, Env.put_none, Env.set_app, Nat.reduceEqDiff, ↓reduceIte, nat_int, Int.toNat_natCast, wrap_i64])
        · (try simp (disch := first | assumption | omega | (with_unfolding_all exact id rfl) | exact Nat.le_of_ble_eq_true rfl | fail) only [Env.put_some, Env.put_none, Env.set_app, Nat.reduceEqDiff, ↓reduceIte, nat_int, Int.toNat_natCast, wrap_i64, h0])
      · rintro e w1 ⟨k, hk1, hkc, h3, h0, hE⟩
        refine X_seq fun K hK => ?_
        refine X_seq fun K hK => ?_
        (try simp only [X_reg, thenX_normal])
        repeat (first | (refine xo (by simp (disch := first | assumption | omega | (with_unfolding_all exact id rfl) | exact Nat.le_of_ble_eq_true rfl | fail) only [Bool.not_true, Bool.not_false, vR_ok, uR_ok, ev_tmp, ev_const, ev_func, Env.put_some, Env.put_none, Env.set_app, Nat.reduceEqDiff, ↓reduceIte, rG_move, rG_assign, opt1_some, ext_all, dec_t, dec_f, beq_t, beq_f, bne_t, bne_f, wrap_i64, wrap_u64, Int.toNat_natCast, Nat.mul_one, Nat.zero_add, Nat.add_zero, List.map_toArray, List.map_cons, List.map_nil, rG_binOp, binR_leq, ceql_nn_47, ceql_in_47, ceql_ni_47, ceql_ii_47_127, resM_1, mi127, binR_add, h3] <;> rfl) ?_; first | with_reducible refine kv ?_ | with_reducible refine ks ?_ | with_reducible refine ke ?_) | (refine xo_t ?_ ?_; focus (simp (disch := first | assumption | omega | (with_unfolding_all exact id rfl) | exact Nat.le_of_ble_eq_true rfl | fail) only [Env.put_some, Env.put_none, Env.set_app, Nat.reduceEqDiff, ↓reduceIte, Bool.not_true, Bool.not_false, h3]; done)) | (refine xo_f ?_ ?_; focus (simp (disch := first | assumption | omega | (with_unfolding_all exact id rfl) | exact Nat.le_of_ble_eq_true rfl | fail) only [Env.put_some, Env.put_none, Env.set_app, Nat.reduceEqDiff, ↓reduceIte, Bool.not_true, Bool.not_false, h3]; done)) | (refine xo_u ?_ ?_; focus (simp (disch := first | assumption | omega | (with_unfolding_all exact id rfl) | exact Nat.le_of_ble_eq_true rfl | fail) only [Env.put_some, Env.put_none, Env.set_app, Nat.reduceEqDiff, ↓reduceIte, Bool.not_true, Bool.not_false, h3]; done)))
        (try refine xo_nil ?_)
        refine hK _ _ ?_
        clear hK K
        refine X_if_t (by simp (disch := first | assumption | omega) only [ev_tmp, Env.put_some, Env.put_none, Env.set_app, Nat.reduceEqDiff, ↓reduceIte, beq_t, dec_t, beq_self_eq_true]) ?_
        simp only [X_skip, X_exit, X_ret, X_block, thenX_normal, thenX_ret, thenX_exit, inX_normal, inX_ret, inX_exit, ↓reduceIte, Nat.reduceEqDiff]
        (try refine xo_nil ?_)
        refine hK _ _ ?_
        clear hK K
        refine X_seq fun K hK => ?_
        simp only [X_skip, X_exit, X_ret, X_block, thenX_normal, thenX_ret, thenX_exit, inX_normal, inX_ret, inX_exit, ↓reduceIte, Nat.reduceEqDiff]
        refine X_seq fun K hK => ?_
        simp only [X_reg, thenX_normal]
        repeat (first | (refine xo (by simp (disch := first | assumption | omega | (with_unfolding_all exact id rfl) | exact Nat.le_of_ble_eq_true rfl | fail) only [Bool.not_true, Bool.not_false, vR_ok, uR_ok, ev_tmp, ev_const, ev_func, Env.put_some, Env.put_none, Env.set_app, Nat.reduceEqDiff, ↓reduceIte, rG_move, rG_assign, opt1_some, ext_all, dec_t, dec_f, beq_t, beq_f, bne_t, bne_f, wrap_i64, wrap_u64, Int.toNat_natCast, Nat.mul_one, Nat.zero_add, Nat.add_zero, List.map_toArray, List.map_cons, List.map_nil, rG_binOp, binR_leq, ceql_nn_47, ceql_in_47, ceql_ni_47, ceql_ii_47_127, resM_1, mi127, binR_add, h3, h0] <;> rfl) ?_; first | with_reducible refine kv ?_ | with_reducible refine ks ?_ | with_reducible refine ke ?_) | (refine xo_t ?_ ?_; focus (simp (disch := first | assumption | omega | (with_unfolding_all exact id rfl) | exact Nat.le_of_ble_eq_true rfl | fail) only [Env.put_some, Env.put_none, Env.set_app, Nat.reduceEqDiff, ↓reduceIte, Bool.not_true, Bool.not_false, h3, h0]; done)) | (refine xo_f ?_ ?_; focus (simp (disch := first | assumption | omega | (with_unfolding_all exact id rfl) | exact Nat.le_of_ble_eq_true rfl | fail) only [Env.put_some, Env.put_none, Env.set_app, Nat.reduceEqDiff, ↓reduceIte, Bool.not_true, Bool.not_false, h3, h0]; done)) | (refine xo_u ?_ ?_; focus (simp (disch := first | assumption | omega | (with_unfolding_all exact id rfl) | exact Nat.le_of_ble_eq_true rfl | fail) only [Env.put_some, Env.put_none, Env.set_app, Nat.reduceEqDiff, ↓reduceIte, Bool.not_true, Bool.not_false, h3, h0]; done)))
        refine xo_nil ?_
        refine hK _ _ ?_
        clear hK K
        by_cases hkk : k = c
        · subst hkk
          refine X_if_t (by simp (disch := first | assumption | omega) only [ev_tmp, Env.put_some, Env.put_none, Env.set_app, Nat.reduceEqDiff, ↓reduceIte, beq_t, dec_t, beq_self_eq_true, beq_self_eq_true]) ?_
          refine X_seq fun K hK => ?_
          simp only [X_reg, thenX_normal]
          repeat (first | (refine xo (by simp (disch := first | assumption | omega | (with_unfolding_all exact id rfl) | exact Nat.le_of_ble_eq_true rfl | fail) only [Bool.not_true, Bool.not_false, vR_ok, uR_ok, ev_tmp, ev_const, ev_func, Env.put_some, Env.put_none, Env.set_app, Nat.reduceEqDiff, ↓reduceIte, rG_move, rG_assign, opt1_some, ext_all, dec_t, dec_f, beq_t, beq_f, bne_t, bne_f, wrap_i64, wrap_u64, Int.toNat_natCast, Nat.mul_one, Nat.zero_add, Nat.add_zero, List.map_toArray, List.map_cons, List.map_nil, rG_binOp, binR_leq, ceql_nn_47, ceql_in_47, ceql_ni_47, ceql_ii_47_127, resM_1, mi127, binR_add, h3] <;> rfl) ?_; first | with_reducible refine kv ?_ | with_reducible refine ks ?_ | with_reducible refine ke ?_) | (refine xo_t ?_ ?_; focus (simp (disch := first | assumption | omega | (with_unfolding_all exact id rfl) | exact Nat.le_of_ble_eq_true rfl | fail) only [Env.put_some, Env.put_none, Env.set_app, Nat.reduceEqDiff, ↓reduceIte, Bool.not_true, Bool.not_false, h3]; done)) | (refine xo_f ?_ ?_; focus (simp (disch := first | assumption | omega | (with_unfolding_all exact id rfl) | exact Nat.le_of_ble_eq_true rfl | fail) only [Env.put_some, Env.put_none, Env.set_app, Nat.reduceEqDiff, ↓reduceIte, Bool.not_true, Bool.not_false, h3]; done)) | (refine xo_u ?_ ?_; focus (simp (disch := first | assumption | omega | (with_unfolding_all exact id rfl) | exact Nat.le_of_ble_eq_true rfl | fail) only [Env.put_some, Env.put_none, Env.set_app, Nat.reduceEqDiff, ↓reduceIte, Bool.not_true, Bool.not_false, h3]; done)))
          refine xo_nil ?_
          refine hK _ _ ?_
          clear hK K
          simp only [X_skip, X_exit, X_ret, X_block, thenX_normal, thenX_ret, thenX_exit, inX_normal, inX_ret, inX_exit, ↓reduceIte, Nat.reduceEqDiff]
          simp (disch := first | assumption | omega | (with_unfolding_all exact id rfl) | exact Nat.le_of_ble_eq_true rfl | fail) only [X_ret, thenX_ret, inX_ret, retX_ret, retX_normal, Try.results29, resM_0, resM_1, resM_2, resM_3, resM_4, Env.put_some, Env.put_none, Env.set_app, Nat.reduceEqDiff, ↓reduceIte]
          exact ⟨_, rfl, rfl, hE⟩
        · have hne : (c == k) = false := beq_eq_false_iff_ne.2 (fun h => hkk h.symm)
          refine X_if_f (by simp (disch := first | assumption | omega) only [ev_tmp, Env.put_some, Env.put_none, Env.set_app, Nat.reduceEqDiff, ↓reduceIte, beq_f, dec_f, hne]) ?_
          simp only [X_skip, X_exit, X_ret, X_block, thenX_normal, thenX_ret, thenX_exit, inX_normal, inX_ret, inX_exit, ↓reduceIte, Nat.reduceEqDiff]
          (try refine xo_nil ?_)
          refine hK _ _ ?_
          clear hK K
          (try simp only [X_reg, thenX_normal])
          repeat (first | (refine xo (by simp (disch := first | assumption | omega | (with_unfolding_all exact id rfl) | exact Nat.le_of_ble_eq_true rfl | fail) only [Bool.not_true, Bool.not_false, vR_ok, uR_ok, ev_tmp, ev_const, ev_func, Env.put_some, Env.put_none, Env.set_app, Nat.reduceEqDiff, ↓reduceIte, rG_move, rG_assign, opt1_some, ext_all, dec_t, dec_f, beq_t, beq_f, bne_t, bne_f, wrap_i64, wrap_u64, Int.toNat_natCast, Nat.mul_one, Nat.zero_add, Nat.add_zero, List.map_toArray, List.map_cons, List.map_nil, rG_binOp, binR_leq, ceql_nn_47, ceql_in_47, ceql_ni_47, ceql_ii_47_127, resM_1, mi127, binR_add, h3] <;> rfl) ?_; first | with_reducible refine kv ?_ | with_reducible refine ks ?_ | with_reducible refine ke ?_) | (refine xo_t ?_ ?_; focus (simp (disch := first | assumption | omega | (with_unfolding_all exact id rfl) | exact Nat.le_of_ble_eq_true rfl | fail) only [Env.put_some, Env.put_none, Env.set_app, Nat.reduceEqDiff, ↓reduceIte, Bool.not_true, Bool.not_false, h3]; done)) | (refine xo_f ?_ ?_; focus (simp (disch := first | assumption | omega | (with_unfolding_all exact id rfl) | exact Nat.le_of_ble_eq_true rfl | fail) only [Env.put_some, Env.put_none, Env.set_app, Nat.reduceEqDiff, ↓reduceIte, Bool.not_true, Bool.not_false, h3]; done)) | (refine xo_u ?_ ?_; focus (simp (disch := first | assumption | omega | (with_unfolding_all exact id rfl) | exact Nat.le_of_ble_eq_true rfl | fail) only [Env.put_some, Env.put_none, Env.set_app, Nat.reduceEqDiff, ↓reduceIte, Bool.not_true, Bool.not_false, h3]; done)))
          refine xo_nil ⟨⟨k + 1, by omega, by omega, ?_, ?_, hE⟩, ?_⟩
          · (try simp (disch := first | assumption | omega | (with_unfolding_all exact id rfl) | exact Nat.le_of_ble_eq_true rfl | fail) only [Env.put_some, Env.put_none, Env.set_app, Nat.reduceEqDiff, ↓reduceIte, nat_int, Int.toNat_natCast, wrap_i64])
          · (try simp (disch := first | assumption | omega | (with_unfolding_all exact id rfl) | exact Nat.le_of_ble_eq_true rfl | fail) only [Env.put_some, Env.put_none, Env.set_app, Nat.reduceEqDiff, ↓reduceIte, nat_int, Int.toNat_natCast, wrap_i64, h0])
          · (try simp (disch := first | assumption | omega | (with_unfolding_all exact id rfl) | exact Nat.le_of_ble_eq_true rfl | fail) only [Env.put_some, Env.put_none, Env.set_app, Nat.reduceEqDiff, ↓reduceIte, nat_int, Int.toNat_natCast, wrap_i64, h3])
            omega
    · exact fun _ _ h => h.elim
theorem pick_sure (n b : Int) (hb : 0 < b) (hm : b ≤ 4611686018427387904) : Sure Try.prog 26 #[.int .i64 n, .int .i64 b] (.int .i64 (n % b)) := fun w => pick_calls n b hb hm w
theorem code_sure (c : Int) (h0 : 0 ≤ c) (h8 : c ≤ 8) : Sure Try.prog 29 #[errV c] (.int .i64 c) := fun w => code_calls c h0 h8 w
end Go.Proofs.Ytpeindhocndmnaa

/- What the statements ask of lists of numbers. -/
namespace Go.Proofs.Ytpeindhocndmnaa
open Go Go.Bx
set_option linter.unusedSimpArgs false
set_option linter.unusedVariables false
set_option maxRecDepth 100000
set_option maxHeartbeats 4000000
attribute [local irreducible] X XO XE XF XD XW thenX inX retX kN CallsR
theorem ints_same {w : World} {a b : Option Addr} {c d : Nat} {l : List Int} (hA : InI w a l) (hB : InI w b l) (hl : l.length ≤ 1000000) : Quiet Try.prog 30 #[.slice a l.length c, .slice b l.length d] w (.int .i64 1) := by
  intro u hu
  have hA := Inp.ext hA hu
  have hB := Inp.ext hB hu
  clear hu
  refine en2 Try.func30 Try.results30 mixed [] ?_
  intro e0 h0 h1
  refine w_ fun d => ?_
  refine lo_ (fun W e w' => ∃ k : Nat, k ≤ l.length ∧ e 5 = .int .i64 k ∧ Ext W w') (fun e _ => l.length - nat (e 5)) ?_ ?_
  · exact ⟨0, by omega, eA rfl, ext_⟩
  rintro e w1 hf ⟨k, hk, h5, hE⟩
  have hs1 := sz_ hE
  have hA1 := Inp.ext hA hE
  have hB1 := Inp.ext hB hE
  clear hA hB
  by_cases hlt : k < l.length
  · obtain ⟨x, hx⟩ : ∃ x, l[k]? = some x := ⟨l[k], List.getElem?_eq_getElem (by omega)⟩
    rcases InI.at hA1 with rfl | ⟨b1, o1, cs1, E1, fz1, rfl, hb1, hat1⟩
    · simp at hlt
    rcases InI.at hB1 with rfl | ⟨b2, o2, cs2, E2, fz2, rfl, hb2, hat2⟩
    · simp at hlt
    have hat1 := hat1 k x hx
    have hat2 := hat2 k x hx
    clear hA1 hB1 hx
    refine w_ fun d => ?_
    exact ⟨⟨k + 1, by omega, eA rfl, ext_⟩, mA⟩
  · obtain rfl : k = l.length := by omega
    clear hA1 hB1
    refine w_ fun d => ?_
    exact ⟨rfl, ext_⟩
end Go.Proofs.Ytpeindhocndmnaa

/- Walks of layer 7: a store of none, here and in the reference. -/
namespace Go.Proofs.Ytpeindhocndmnaa
open Go Go.Bx
set_option linter.unusedSimpArgs false
set_option linter.unusedVariables false
set_option maxRecDepth 100000
set_option maxHeartbeats 4000000
attribute [local irreducible] X XO XE XF XD XW thenX inX retX kN CallsR
def ownN (a b : Nat) : Nat → Nat := fun k => if k = a then 1 else if k = b then 2 else 0
theorem ownN_1 {a b : Nat} : ownN a b a = 1 := if_pos rfl
theorem ownN_0 {a b k : Nat} (h1 : k ≠ a) (h2 : k ≠ b) : ownN a b k = 0 := by unfold ownN; rw [if_neg h1, if_neg h2]
theorem ownN_2 {a b k : Nat} (h : k ≠ a) : ownN a b k = 2 ↔ k = b := by
  unfold ownN; rw [if_neg h]
  by_cases e : k = b
  · rw [if_pos e]; simp [e]
  · rw [if_neg e]; simp [e]
theorem owns_N2 {a b : Nat} (h : a ≠ b) : owns (ownN a b) 2 = fun k => k = b := funext fun k => propext (by
  unfold owns
  by_cases e1 : k = a
  · subst e1
    rw [ownN_1]
    constructor
    · intro h; cases h
    · intro e; exact absurd e h
  · exact ownN_2 e1)
theorem plain_calls (w : World) : CallsR Try.prog 49 #[] w fun r w' => r = aI plain ∧ Ext w w' := by
  refine en0 Try.func49 Try.results49 mixed [] ?_
  intro e0
  refine w_ fun d => ?_
  exact ⟨rfl, ext_⟩
theorem rsNew_calls (most : Int) (h0' : 0 ≤ most) (h1' : most ≤ 20000) (w : World) :
    CallsR Try.prog 83 #[.int .i64 most] w fun r w' => ∃ own p, r = .pointer (some ⟨p, 0, none⟩) ∧ RsI own w' p (Md.new most) ∧ (∀ k, own k ≠ 0 → w.heap.size ≤ k) ∧ Ext w w' := by
  refine en1 Try.func83 Try.results83 mixed [] ?_
  intro e0 h0
  refine w_ fun d => ?_
  refine (plain_calls _).mono ?_
  rintro _ w1 ⟨rfl, hE1⟩
  have hs1 := hE1.size
  rw [alloc_size] at hs1
  obtain ⟨oc, hc⟩ := ordC (ord := plain) rfl
  have e : aI plain = .agg #[.int .i64 0, .int .i64 1, .int .i64 2, .int .i64 3, .int .i64 4, .int .i64 5, .int .i64 6, .int .i64 7] := rfl
  rw [e]
  have hoc : oc = #[.int .i64 0, .int .i64 1, .int .i64 2, .int .i64 3, .int .i64 4, .int .i64 5, .int .i64 6, .int .i64 7] := by have := hc.agg; rw [e] at this; cases this; rfl
  refine w_ fun d => ?_
  have hRA := (raNew_box (most := most) (w := w)).ext hE1
  have hEw : Ext w w1 := Ext.trans (by exact ext_) hE1
  have hpl : w1.heap.size ≠ w.heap.size := by omega
  have hown := (owns_N2 hpl).symm
  rw [hown] at hRA
  refine ⟨ownN w1.heap.size w.heap.size, w1.heap.size, rfl, ⟨w.heap.size, none, 0, _, oc, hA rfl, ⟨rfl, rfl, rfl, ?_⟩, hc, ownN_1, hRA.ext ext_, Sl.nil _ _ _, (fun g h => by cases h), fun k hk => ?_⟩, fun k hk => ?_, ext_⟩
  · rw [hoc]; rfl
  · by_cases e1 : k = w1.heap.size
    · rw [e1, alloc_size]; omega
    · by_cases e2 : k = w.heap.size
      · rw [e2, alloc_size]; omega
      · exact absurd (ownN_0 e1 e2) hk
  · by_cases e1 : k = w1.heap.size
    · omega
    · by_cases e2 : k = w.heap.size
      · omega
      · exact absurd (ownN_0 e1 e2) hk
theorem stNew_none (most : Int) (h : ¬ (0 ≤ most ∧ most ≤ 20000)) : Sure Try.prog 19 #[.int .i64 most] (.pointer none) := by
  intro w
  have c1 := arNew_none most h
  clear h
  refine en1 Try.func19 Try.results19 mixed [(8, [2])] ?_
  intro e0 h0
  refine w_ fun d => ?_
  refine qq (c1.quiet (w := w)) fun w1 hE1 hs1 => ?_
  refine w_ fun d => ?_
  exact ⟨rfl, ext_⟩
/-- A store's tables are made one behind the other. -/
structure NewI (w0 w : World) (p pa : Nat) (most : Int) (k : Nat) (own : Nat → Nat) (sc : Array Value) (pu : Nat → Nat) : Prop where
  at_ : w.heap[p]? = some (.cells sc 120)
  size : sc.size = 20
  c0 : sc[0]? = some (.int .i64 most)
  c1 : sc[1]? = some (.pointer (some ⟨pa, 0, none⟩))
  c2 : sc[2]? = some (.slice none 0 0)
  c3 : sc[3]? = some (.slice none 0 0)
  cu : ∀ v : Nat, v < k → sc[4 + v]? = some (.pointer (some ⟨pu v, 0, none⟩))
  co : Value.agg (sc.extract 12 20) = aI plain
  op : own p = 1
  ar : ArI (owns own 2) w pa ⟨most, [], []⟩
  un : ∀ v, v < k → UqM (owns own (10 + v)) w (pu v) (fun _ => none) 0
  no : ∀ v, k ≤ v → ∀ j, own j ≠ 10 + v
  lt : ∀ j, own j ≠ 0 → w0.heap.size ≤ j ∧ j < w.heap.size
  ext : Ext w0 w
theorem NewI.keep {w0 w w' : World} {p pa : Nat} {most : Int} {k : Nat} {own : Nat → Nat} {sc : Array Value} {pu : Nat → Nat} (h : NewI w0 w p pa most k own sc pu) (hE : Ext w w') : NewI w0 w' p pa most k own sc pu :=
  ⟨hE.at h.at_, h.size, h.c0, h.c1, h.c2, h.c3, h.cu, h.co, h.op, h.ar.ext hE, fun v hv => (h.un v hv).ext hE, h.no, fun j hj => ⟨(h.lt j hj).1, Nat.lt_of_lt_of_le (h.lt j hj).2 hE.size⟩, h.ext.trans hE⟩
theorem NewI.next {w0 u u2 u3 : World} {p pa : Nat} {most : Int} {k : Nat} {own : Nat → Nat} {sc : Array Value} {pu : Nat → Nat} (h : NewI w0 u p pa most k own sc pu) (hk : k < 8) {q : Nat} (hU : UqM (fun j => u.heap.size ≤ j ∧ j < u2.heap.size) u2 q (fun _ => none) 0) (hE : Ext u u2) (hE3 : Ext u2 u3) :
    NewI w0 (upd u3 p (.cells (sc.setIfInBounds (4 + k) (.pointer (some ⟨q, 0, none⟩))) 120)) p pa most (k + 1) (ownUp own u u2 (10 + k)) (sc.setIfInBounds (4 + k) (.pointer (some ⟨q, 0, none⟩))) (fun v => if v = k then q else pu v) := by
  have hlt : ∀ j, own j ≠ 0 → j < u.heap.size := fun j hj => (h.lt j hj).2
  have hp := (hE.trans hE3).at h.at_
  have hpl := lt_of_heap hp
  have hs := h.size
  have hsz := hE.size
  have hsz3 := hE3.size
  have hop : ownUp own u u2 (10 + k) p = 1 := by rw [ownUp_old (hlt p (by rw [h.op]; decide))]; exact h.op
  have hne : ∀ j, ownUp own u u2 (10 + k) j ≠ 1 → (upd u3 p (.cells (sc.setIfInBounds (4 + k) (.pointer (some ⟨q, 0, none⟩))) 120)).heap[j]? = u3.heap[j]? := fun j hj => upd_other fun e => hj (by rw [← e]; exact hop)
  refine ⟨upd_same hpl, by rw [Array.size_setIfInBounds]; exact hs, by rw [Array.getElem?_setIfInBounds_ne (by omega)]; exact h.c0, by rw [Array.getElem?_setIfInBounds_ne (by omega)]; exact h.c1, by rw [Array.getElem?_setIfInBounds_ne (by omega)]; exact h.c2, by rw [Array.getElem?_setIfInBounds_ne (by omega)]; exact h.c3, fun v hv => ?_, ?_, hop, ?_, fun v hv => ?_, fun v hv j hj => ?_, fun j hj => ?_, ?_⟩
  · by_cases e : v = k
    · subst e; rw [Array.getElem?_setIfInBounds_self_of_lt (by omega)]; simp
    · rw [Array.getElem?_setIfInBounds_ne (by omega), h.cu v (by omega)]; simp [e]
  · rw [← h.co]
    congr 1
    apply Array.ext_getElem?
    intro j
    rw [Array.getElem?_extract, Array.getElem?_extract, Array.size_setIfInBounds, Array.getElem?_setIfInBounds_ne (by omega)]
  · rw [owns_up_other hlt (by decide) (by omega)]
    exact (h.ar.ext (hE.trans hE3)).keep (fun j hj => upd_other fun e => by unfold owns at hj; rw [← e, h.op] at hj; cases hj) (by rw [upd_size]; exact Nat.le_refl _)
  · by_cases e : v = k
    · subst e
      rw [owns_up_self]
      have h1 := (hU.ext hE3).wider (G := Grow (owns own (10 + v)) u u2) (fun j hj => .inr hj) (fun j hj => by
        rcases hj with hj | hj
        · exact absurd hj (h.no v (Nat.le_refl _) j)
        · omega)
      show UqM _ _ (if v = v then q else pu v) _ _
      rw [if_pos rfl]
      exact h1.keep (fun j hj => upd_other fun e => by
        rw [← e] at hj
        rcases hj with hj | hj
        · exact absurd hj (h.no v (Nat.le_refl _) p)
        · have := hlt p (by rw [h.op]; decide); omega) (by rw [upd_size]; exact Nat.le_refl _)
    · rw [owns_up_other hlt (by omega) (by omega)]
      show UqM _ _ (if v = k then q else pu v) _ _
      rw [if_neg e]
      exact ((h.un v (by omega)).ext (hE.trans hE3)).keep (fun j hj => upd_other fun e => by unfold owns at hj; rw [← e, h.op] at hj; omega) (by rw [upd_size]; exact Nat.le_refl _)
  · unfold ownUp at hj
    split at hj
    · omega
    · exact h.no v (by omega) j hj
  · rw [upd_size]
    have h0 := h.ext.size
    unfold ownUp at hj
    split at hj
    · rename_i hr; omega
    · have := h.lt j hj; omega
  · exact (h.ext.trans (hE.trans hE3)).upd (h.lt p (by rw [h.op]; decide)).1 _
theorem stNew_calls (most : Int) (h0' : 0 ≤ most) (h1' : most ≤ 20000) (w : World) :
    CallsR Try.prog 19 #[.int .i64 most] w fun r w' => ∃ own p, r = .pointer (some ⟨p, 0, none⟩) ∧ StI own w' p (Md.new most) [] ∧ (∀ k, own k ≠ 0 → w.heap.size ≤ k) ∧ Ext w w' := by
  have c1 := arNew_calls most h0' h1' w
  have hpl : w.heap.size + 1 ≠ w.heap.size := by omega
  have hown := (owns_N2 hpl).symm
  refine en1 Try.func19 Try.results19 mixed [(8, [2])] ?_
  intro e0 h0
  refine w_ fun d => ?_
  refine c1.mono ?_
  rintro _ w1 ⟨rfl, hRA, hs1, hE1⟩
  rw [hown] at hRA
  refine w_ fun d => ?_
  refine lo_ (fun _ e w' => ∃ (k : Nat) (own : Nat → Nat) (sc : Array Value) (pu : Nat → Nat), k ≤ 8 ∧ e 15 = .int .i64 k ∧ NewI w w' (w.heap.size + 1) w.heap.size most k own sc pu) (fun e _ => 8 - nat (e 15)) ?_ ?_
  · refine ⟨0, ownN (w.heap.size + 1) w.heap.size, _, fun _ => 0, by omega, eA rfl, hA rfl, rfl, rfl, rfl, rfl, rfl, fun v hv => by omega, rfl, ownN_1, hRA.ext ext_, fun v hv => by omega, fun v _ j hj => ?_, fun j hj => ?_, ext_⟩
    · by_cases e1 : j = w.heap.size + 1
      · rw [e1, ownN_1] at hj; omega
      · by_cases e2 : j = w.heap.size
        · rw [(ownN_2 e1).2 e2] at hj; omega
        · rw [ownN_0 e1 e2] at hj; omega
    · by_cases e1 : j = w.heap.size + 1
      · rw [alloc_size]; omega
      · by_cases e2 : j = w.heap.size
        · rw [alloc_size]; omega
        · exact absurd (ownN_0 e1 e2) hj
  rintro e u hf ⟨k, own, sc, pu, hk, h15, I⟩
  have hp := I.at_
  have hsz := I.size
  have hpl2 := lt_of_heap hp
  by_cases hlt : k < 8
  · refine w_ fun d => ?_
    refine s_draw (XD_ext ?_)
    refine de_ ?_
    refine xe2w fun v1 hF1 => ?_
    refine krA ?_
    refine ke ?_
    refine (uqNew_calls v1).mono ?_
    rintro _ v2 ⟨q, rfl, hU, hF2⟩
    have hF02 := hF1.trans hF2
    refine de_ ?_
    refine xe2w fun v3 hF3 => ?_
    have hp3 := (hF02.trans hF3).at hp
    have hpl3 := lt_of_heap hp3
    refine krA ?_
    refine ks ?_
    refine xn_ fun v4 hF4 hs4 => ?_
    have I2 := ((I.keep hF1).next hlt hU hF2 hF3).keep hF4
    clear hU hF2 hF02 hF3 hF4 hp3 hpl3 hs4 hF1 hp hpl2 I
    refine w_ fun d => ?_
    exact ⟨⟨k + 1, _, _, _, by omega, eA rfl, I2⟩, mA⟩
  · obtain rfl : k = 8 := by omega
    refine w_ fun d => ?_
    obtain ⟨oc, hc⟩ := ordC (ord := plain) rfl
    have hco : sc.extract 12 20 = oc := by have := I.co.trans hc.agg; cases this; rfl
    refine ⟨own, _, rfl, ⟨[], fun _ _ => none, fun _ => 0, ⟨w.heap.size, none, 0, none, 0, pu, sc, oc, ⟨I.at_, ⟨hsz, I.c0, I.c1, I.c2, I.c3, I.cu, hco⟩, hc, I.op, I.ar, Sl.nil _ _ _, (fun g h => by cases h), SlC.nil _ _, (fun g h => by cases h), I.un, fun k hk => (I.lt k hk).2⟩⟩, ⟨rfl, fun k hk => by simp [Md.new] at hk, fun v hv k n => ?_, fun v hv => rfl⟩⟩, fun k hk => (I.lt k hk).1, I.ext⟩
    constructor
    · intro h; cases h
    · rintro ⟨h, _⟩
      unfold Md.has Md.new Ar.has at h; simp at h
end Go.Proofs.Ytpeindhocndmnaa

/- Layer 7's statements: a store and its model side by side. -/
namespace Go.Proofs.Ytpeindhocndmnaa
open Go Go.Bx
set_option linter.unusedSimpArgs false
set_option linter.unusedVariables false
set_option maxRecDepth 100000
set_option maxHeartbeats 4000000
attribute [local irreducible] X XO XE XF XD XW thenX inX retX kN CallsR
theorem SlC.appI {w : World} {a b0 : Option Addr} {cap c : Nat} {l m : List Int} (h : SlC w 3 a cap (ints l)) (hI : InI w b0 m) (hm : l.length + m.length ≤ 1000000000) :
    ∃ a' cap' w', apR Try.prog 34 (.slice a l.length cap) (.slice b0 m.length c) w = .ok (.slice a' (l ++ m).length cap') w' ∧ SlC w' 3 a' cap' (ints (l ++ m)) ∧ Chg (fun k => blk a = some k) w w' ∧ (∀ g, blk a' = some g → blk a = some g ∨ (w.heap.size ≤ g ∧ g < w'.heap.size)) := by
  obtain ⟨a2, c2, w2, hr, hS2, hC2, hB2⟩ := Sl.append (news := one1 (ints m)) (c := c) h T34 T3 rfl (by decide) hI one1_len (by rw [one1_flat]; exact List.all_eq_true.2 fun x hx => by obtain ⟨y, _, rfl⟩ := List.mem_map.1 hx; rfl) (by simp; omega) (by decide)
  rw [← List.map_append, ← List.map_append] at hr
  simp only [List.length_map] at hr
  exact ⟨a2, c2, w2, hr, by unfold SlC; rw [ints, List.map_append, one1, List.map_append]; exact hS2, hC2, hB2⟩
/-- A node of a store, by any number. -/
def pickN (s : Md) (n : Int) (raw : Bool) : Int := if raw then n else ((0 : Int) :: 1 :: s.all).getD (n % ((s.all.length : Int) + 2)).toNat 0
section
variable {own own1 own2 ownI ownM : Nat → Nat} {W w w' w1 w2 : World} {p ps pm : Nat} {s s' sM : Md} {n v x y lo hi : Int}
theorem pickN_there (Ws : s.WF) : pickN s n false = 0 ∨ pickN s n false = 1 ∨ s.has (pickN s n false) = true := by
  unfold pickN
  simp only [Bool.false_eq_true, ↓reduceIte]
  have h1 : 0 ≤ n % ((s.all.length : Int) + 2) := Int.emod_nonneg _ (by omega)
  have h2 : n % ((s.all.length : Int) + 2) < (s.all.length : Int) + 2 := Int.emod_lt_of_pos _ (by omega)
  obtain ⟨k, hk0⟩ : ∃ k, (n % ((s.all.length : Int) + 2)).toNat = k := ⟨_, rfl⟩
  rw [hk0]
  have hk : k < ((0 : Int) :: 1 :: s.all).length := by simp; omega
  have := List.getElem_mem hk
  rw [List.getD, List.getElem?_eq_getElem hk, Option.getD_some]
  rw [List.mem_cons, List.mem_cons, Ws.mem_all] at this
  exact this
theorem pickN_le (Ws : s.WF) (hn : n ≤ 9223372036854775807) {raw : Bool} : pickN s n raw ≤ 9223372036854775807 := by
  cases raw
  · have h1 := wf_N Ws
    rcases pickN_there Ws (n := n) with e | e | e
    · omega
    · omega
    · have := Ws.lt e; omega
  · exact hn
theorem lnode_calls (h : RsI own w p s) (Ws : s.WF) (n : Int) (raw : Bool) : Quiet Try.prog 52 #[.pointer (some ⟨p, 0, none⟩), .int .i64 n, .bool raw] w (.int .i64 (pickN s n raw)) := by
  intro u hu
  have h := h.ext hu
  clear hu
  cases raw
  rotate_left
  · show CallsR _ _ _ _ fun r u' => r = .int .i64 n ∧ Ext u u'
    clear h Ws
    refine en3 Try.func52 Try.results52 mixed [] ?_
    intro e0 h0 h1 h2
    refine w_ fun d => ?_
    exact ⟨rfl, ext_⟩
  have hN := wf_N Ws
  have hal : s.all.length ≤ s.N.length := allTo_len (s := s) (k := s.N.length)
  have hpk : pickN s n false = ((0 : Int) :: 1 :: s.all).getD (n % ((s.all.length : Int) + 2)).toNat 0 := rfl
  have hp0 : 0 ≤ n % ((s.all.length : Int) + 2) := Int.emod_nonneg _ (by omega)
  have hp1 : n % ((s.all.length : Int) + 2) < (s.all.length : Int) + 2 := Int.emod_lt_of_pos _ (by omega)
  have pk := pick_sure n ((s.all.length : Int) + 2) (by omega) (by omega)
  rw [hpk]
  generalize n % ((s.all.length : Int) + 2) = q at *
  clear hpk
  refine en3 Try.func52 Try.results52 mixed [] ?_
  intro e0 h0 h1 h2
  refine w_ fun d => ?_
  refine (rsAll_calls (h.ext ext_) Ws).mono ?_
  rintro _ w2 ⟨aA, cA, rfl, hSA, hnA, hEA⟩
  have hE2 : Ext u w2 := Ext.trans (by exact ext_) hEA
  have hb0 : w2.heap[u.heap.size]? = some (.cells #[.int .i64 0, .int .i64 1] 3) := hEA.at (hA rfl)
  have hS0 : SlC w2 3 (some ⟨u.heap.size, 0, none⟩) 2 (ints [0, 1]) := SlC.made hb0 (by simp)
  obtain ⟨a3, c3, w3, hr, hS3, hC3, hB3⟩ := SlC.appI hS0 (c := cA) hSA.inp (by simp; omega)
  have hE3 : Ext u w3 := hC3.toExt hE2 fun k hk hb => by have := blk_g hb; omega
  have hl3 : (([0, 1] : List Int) ++ s.all).length = s.all.length + 2 := by simp
  rw [hl3, show ([0, 1] : List Int).length = 2 from rfl] at hr
  obtain ⟨z, hz⟩ : ∃ z, ((0 : Int) :: 1 :: s.all)[q.toNat]? = some z := ⟨_, List.getElem?_eq_getElem (by simp; omega)⟩
  rw [List.getD, hz, Option.getD_some]
  obtain ⟨g, cur, rfl, hg, hc, hlt, hat⟩ := hS3.at (i := q.toNat) (v := .int .i64 z) (by rw [List.getElem?_map, show ([0, 1] : List Int) ++ s.all = 0 :: 1 :: s.all from rfl, hz]; rfl)
  rw [List.length_map, hl3] at hc
  have hq3 : q < ((s.all.length + 2 : Nat) : Int) := by omega
  have hgl := lt_of_heap hg
  clear hS3 hS0 hB3 hC3 hSA hEA hb0 hz hlt
  refine w_ fun d => ?_
  refine qq (pk.quiet (w := w3)) fun w4 hE4 hs4 => ?_
  refine w_ fun d => ?_
  exact ⟨rfl, ext_⟩
/-- A store and a model, apart from another, behind all that was. -/
def PrI (W w : World) (ps pm : Nat) (s sM : Md) : Prop :=
  ∃ ownI ownM, StI ownI w ps s [] ∧ RsI ownM w pm sM ∧ (∀ k, ownI k ≠ 0 → ownM k = 0) ∧ (∀ k, ownI k ≠ 0 → W.heap.size ≤ k) ∧ (∀ k, ownM k ≠ 0 → W.heap.size ≤ k) ∧ Ext W w
theorem PrI.ext (h : PrI W w ps pm s sM) (hE : Ext w w') : PrI W w' ps pm s sM := by
  obtain ⟨a, b, h1, h2, h3, h4, h5, h6⟩ := h
  exact ⟨a, b, h1.ext hE, h2.ext hE, h3, h4, h5, h6.trans hE⟩
theorem PrI.world (h : PrI W w ps pm s sM) : Ext W w := by obtain ⟨_, _, _, _, _, _, _, h⟩ := h; exact h
theorem RsI.keep (h : RsI own w p s) (hne : ∀ k, own k ≠ 0 → w'.heap[k]? = w.heap[k]?) (hs : w.heap.size ≤ w'.heap.size) : RsI own w' p s := by
  obtain ⟨pa, na, nc, sc, oc, h⟩ := h
  exact ⟨pa, na, nc, sc, oc, h.keep hne hs⟩
theorem StI.keep (h : StI own w p s []) (hne : ∀ k, own k ≠ 0 → w'.heap[k]? = w.heap[k]?) (hs : w.heap.size ≤ w'.heap.size) : StI own w' p s [] := by
  obtain ⟨R, M, c, h, A⟩ := h
  exact ⟨R, M, c, h.keep hne hs, A⟩
theorem PrI.turnI {f : FuncId} {args : Array Value} {R : Value → Prop} (h : PrI W w ps pm s sM) (hc : ∀ own, StI own w ps s [] → CallsR Try.prog f args w fun r w' => R r ∧ TrI own w ps s' [] w') :
    CallsR Try.prog f args w fun r w' => R r ∧ PrI W w' ps pm s' sM := by
  obtain ⟨a, b, h1, h2, h3, h4, h5, h6⟩ := h
  refine (hc a h1).mono ?_
  rintro r w' ⟨hr, a', g1, ho, hC⟩
  have hs := hC.size
  have hsW := h6.size
  refine ⟨hr, a', b, g1, h2.keep (fun k hk => hC.heap k (h2.lt k hk) fun hf => hk (h3 k hf)) hs, fun k hk => ?_, fun k hk => ?_, h5, hC.toExt h6 fun k hk hf => by have := h4 k hf; omega⟩
  · by_cases hl : k < w.heap.size
    · exact h3 k (by rw [← ho k hl]; exact hk)
    · cases hb : b k with
      | zero => rfl
      | succ m => exact absurd (h2.lt k (by omega)) hl
  · by_cases hl : k < w.heap.size
    · exact h4 k (by rw [← ho k hl]; exact hk)
    · omega
theorem PrI.turnM {f : FuncId} {args : Array Value} {R : Value → Prop} (h : PrI W w ps pm s sM) (hc : ∀ own, RsI own w pm sM → CallsR Try.prog f args w fun r w' => R r ∧ TrS own w pm s' w') :
    CallsR Try.prog f args w fun r w' => R r ∧ PrI W w' ps pm s s' := by
  obtain ⟨a, b, h1, h2, h3, h4, h5, h6⟩ := h
  refine (hc b h2).mono ?_
  rintro r w' ⟨hr, b', g1, hSw⟩
  have hs := hSw.ch.size
  have hsW := h6.size
  have h3' : ∀ k, b k ≠ 0 → a k = 0 := fun k hk => by
    cases ha : a k with
    | zero => rfl
    | succ m => exact absurd (h3 k (by omega)) hk
  refine ⟨hr, a, b', h1.keep (fun k hk => hSw.ch.heap k (h1.lt k hk) fun hf => hk (h3' k hf)) hs, g1, fun k hk => ?_, h4, fun k hk => ?_, hSw.ch.toExt h6 fun k hk hf => by have := h5 k hf; omega⟩
  · have hl := h1.lt k hk
    rw [hSw.ho k hl]; exact h3 k hk
  · by_cases hl : k < w.heap.size
    · exact h5 k (by rw [← hSw.ho k hl]; exact hk)
    · omega
theorem PrI.i (h : PrI W w ps pm s sM) : ∃ own, StI own w ps s [] := by obtain ⟨a, b, h1, h2, _⟩ := h; exact ⟨a, h1⟩
theorem PrI.m (h : PrI W w ps pm s sM) : ∃ own, RsI own w pm sM := by obtain ⟨a, b, h1, h2, _⟩ := h; exact ⟨b, h2⟩
end
end Go.Proofs.Ytpeindhocndmnaa

/- Layer 7's statements: what is done with both, and whether they are the same. -/
namespace Go.Proofs.Ytpeindhocndmnaa
open Go Go.Bx
set_option linter.unusedSimpArgs false
set_option linter.unusedVariables false
set_option maxRecDepth 100000
set_option maxHeartbeats 4000000
attribute [local irreducible] X XO XE XF XD XW thenX inX retX kN CallsR
theorem aI_neq {x y : Operand} {l : List Int} {oc : Array Value} {w : World} (h : OrdC l oc) : binR Try.prog .neq 36 x y (.agg oc) (.agg oc) w = .ok (.bool false) w := by
  have hl := h.len
  have hq : Value.agg oc = .agg (l.map (Value.int .i64)).toArray := h.agg.symm
  rw [hq, binR_neqA (by kernel_rfl) (equal_ints T36 T3 hl hl)]
  simp
section
variable {W w w' w1 w2 : World} {p ps pm : Nat} {s s' sM : Md} {n v x y lo hi : Int}
theorem free_rng : 0 ≤ (s.free n).1 ∧ (s.free n).1 ≤ 8 := by unfold Md.free; split <;> simp
theorem swap_rng : 0 ≤ (s.swap n).1 ∧ (s.swap n).1 ≤ 8 := by unfold Md.swap; split; simp; split <;> simp
theorem mk_rng (Ws : s.WF) : 0 ≤ (s.mk' [] v lo hi).1.2 ∧ (s.mk' [] v lo hi).1.2 ≤ 8 := by
  have h := Ws.mks [] v lo hi
  generalize s.mk' [] v lo hi = r at h
  cases h <;> simp
theorem same_calls (h : PrI W w ps pm s s) (G : s.Good []) : CallsR Try.prog 21 #[.pointer (some ⟨ps, 0, none⟩), .pointer (some ⟨pm, 0, none⟩)] w fun r w' => r = .int .i64 1 ∧ Ext w w' := by
  have Ws := G.wf
  obtain ⟨ownI, hI⟩ := h.i
  obtain ⟨ownM, hM⟩ := h.m
  have hN := wf_N Ws
  have hal : s.all.length ≤ s.N.length := allTo_len (s := s) (k := s.N.length)
  have hla := Ws.len_all
  have lv := stLive_calls hI Ws
  have rm := stRoom_calls hI Ws
  have rr := rsRoom_calls hM Ws
  have od := stOrder_calls hI
  obtain ⟨pa, na, nc, sc, oc, hX⟩ := id hM
  have hoc := hX.oc
  have hp := hX.at_
  have co := hX.rc.co
  have hsz := hX.rc.size
  have hpl := lt_of_heap hp
  rw [hoc.agg] at od
  rw [← hla] at lv
  have nq := fun (x y : Operand) (w : World) => aI_neq (x := x) (y := y) (w := w) hoc
  clear hX h
  refine en2 Try.func21 Try.results21 mixed [(2, [1])] ?_
  intro e0 h0 h1
  refine w_ fun d => ?_
  refine (rsAll_calls (hM.ext ext_) Ws).mono ?_
  rintro _ w1 ⟨aM, cM, rfl, hSM, hnM, hEM⟩
  have hE1 : Ext w w1 := Ext.trans (by exact ext_) hEM
  refine w_ fun d => ?_
  refine s_draw (XD_ext ?_)
  refine de_ ?_
  refine xe2w fun w2 hE2 => ?_
  refine krA ?_
  refine ke ?_
  refine (stAll_calls (hI.ext (hE1.trans hE2)) Ws).mono ?_
  rintro _ w3 ⟨aI, cI, rfl, hSI, hnI, hEI⟩
  have hE3 : Ext w w3 := (hE1.trans hE2).trans hEI
  have hSM3 := (hSM.ext hE2).ext hEI
  have iq := ints_same (c := cI) (d := cM) hSI.inp hSM3.inp (by omega)
  have lv3 := lv.at hE3
  have rm3 := rm.at hE3
  have rr3 := rr.at hE3
  have od3 := od.at hE3
  have hp3 := hE3.at hp
  have hpl3 := lt_of_heap hp3
  clear lv rm rr od hSM hnM hnI hEI hEM hp hpl
  refine de_ ?_
  refine xn_ fun w4 hE4 hs4 => ?_
  have hE4w := hE3.trans hE4
  have hSM4 := hSM3.ext hE4
  clear lv3 rm3 rr3 od3 iq hSM3 hSI
  refine w_ fun d => ?_
  refine lo_ (fun _ e w' => ∃ k : Nat, k ≤ s.all.length ∧ e 6 = .int .i64 k ∧ Ext w4 w') (fun e _ => s.all.length - nat (e 6)) ?_ ?_
  · exact ⟨0, by omega, eA rfl, ext_⟩
  rintro e u hf ⟨k, hk, h6, hEu⟩
  have hsu := sz_ hEu
  have hEuw := hE4w.trans hEu
  by_cases hlt : k < s.all.length
  · obtain ⟨n, hn⟩ : ∃ n, s.all[k]? = some n := ⟨s.all[k], List.getElem?_eq_getElem hlt⟩
    have hhas := Ws.mem_all.1 (List.mem_of_getElem? hn)
    have hl := Ws.lt hhas
    have n1 := stNode_calls (hI.ext hEuw) Ws n (by omega)
    have n2 := rsNode_calls (hM.ext hEuw) Ws n (by omega)
    have hnd : s.node n = (s.nd n, true) := by unfold Md.node; rw [hhas]; rfl
    rw [hnd] at n1 n2
    obtain ⟨z, hz⟩ : ∃ z, s.nd n = z := ⟨_, rfl⟩
    rw [hz] at n1 n2
    obtain ⟨a, b, c⟩ := z
    simp only [ndV] at n1 n2
    obtain ⟨g, cur, rfl, hg, hc, _, hat⟩ := (hSM4.ext hEu).at (i := k) (v := .int .i64 n) (by rw [List.getElem?_map, hn]; rfl)
    rw [List.length_map] at hc
    have hgl := lt_of_heap hg
    have hltk : (k : Int) < s.all.length := by omega
    clear hnd hz hhas hl hn hSM4 hI hM G Ws
    refine w_ fun d => ?_
    refine qq n1 fun u2 hE5 hs5 => ?_
    have hg5 := hE5.at hg
    refine w_ fun d => ?_
    refine qq n2 fun u3 hE6 hs6 => ?_
    refine w_ fun d => ?_
    exact ⟨⟨k + 1, by omega, eA rfl, ext_⟩, mA⟩
  · obtain rfl : k = s.all.length := by omega
    clear hSM4
    refine w_ fun d => ?_
    exact ⟨rfl, ext_⟩
/-- A deed. -/
abbrev Dd07 := Int × Int × Int × Int × Bool
def encD (d : Dd07) : List Value := [.int .i64 d.1, .int .i64 d.2.1, .int .i64 d.2.2.1, .int .i64 d.2.2.2.1, .bool d.2.2.2.2]
def okI (n : Int) : Prop := -9223372036854775808 ≤ n ∧ n ≤ 9223372036854775807
theorem do_calls {q a b c : Int} {raw : Bool} (h : PrI W w ps pm s s) (G : s.Good []) (ha : okI a) (hb : okI b) (hc : okI c) :
    CallsR Try.prog 20 #[.pointer (some ⟨ps, 0, none⟩), .pointer (some ⟨pm, 0, none⟩), .agg #[.int .i64 q, .int .i64 a, .int .i64 b, .int .i64 c, .bool raw]] w fun r w' => ∃ s', r = .int .i64 1 ∧ PrI W w' ps pm s' s' ∧ s'.Good [] := by
  have Ws := G.wf
  obtain ⟨ownI, hI⟩ := h.i
  obtain ⟨ownM, hM⟩ := h.m
  have la := lnode_calls hM Ws a raw
  have lb := lnode_calls hM Ws b raw
  have lc := lnode_calls hM Ws c raw
  have pa := pickN_le (raw := raw) Ws ha.2
  have pb := pickN_le (raw := raw) Ws hb.2
  have pc := pickN_le (raw := raw) Ws hc.2
  have pq := pick_sure q 8 (by decide) (by decide)
  have p7 := pick_sure a 7 (by decide) (by decide)
  have p8 := pick_sure a 8 (by decide) (by decide)
  have q0 : 0 ≤ q % 8 ∧ q % 8 < 8 := ⟨Int.emod_nonneg _ (by decide), Int.emod_lt_of_pos _ (by decide)⟩
  generalize q % 8 = wq at pq q0
  have mk_i : ∀ f (args : Array Value) (R : Value → Prop) (sn : Md), (∀ u own, Ext w u → StI own u ps s [] → CallsR Try.prog f args u fun r w' => R r ∧ TrI own u ps sn [] w') → ∀ u, Ext w u → CallsR Try.prog f args u fun r w' => R r ∧ PrI W w' ps pm sn s :=
    fun f args R sn hh u hu => (h.ext hu).turnI fun own ho => hh u own hu ho
  have mk_m : ∀ f (args : Array Value) (R : Value → Prop) (sn : Md), (∀ u own, RsI own u pm s → CallsR Try.prog f args u fun r w' => R r ∧ TrS own u pm sn w') → ∀ u s1, PrI W u ps pm s1 s → CallsR Try.prog f args u fun r w' => R r ∧ PrI W w' ps pm s1 sn :=
    fun f args R sn hh u s1 hu => hu.turnM fun own ho => hh u own ho
  have cF := mk_i _ _ _ _ fun u own hu ho => stFree_calls ho G pa
  have cFm := mk_m _ _ _ _ fun u own ho => rsFree_calls ho Ws pa
  have cS := fun l => mk_i _ _ _ _ fun u own hu ho => stSwap_calls ho G l
  have cSm := fun l => mk_m _ _ _ _ fun u own ho => rsSwap_calls ho G l
  have cM := fun v => mk_i _ _ _ _ fun u own hu ho => stMk_calls (v := v) ho G pb pc
  have cMm := fun v => mk_m _ _ _ _ fun u own ho => rsMkP_calls (v := v) ho Ws pb pc
  have cN := fun u (hu : Ext w u) (hn : a ≤ 9223372036854775807) => stNode_calls (hI.ext hu) Ws a hn
  have cNm := fun u (hu : Ext w u) (hn : a ≤ 9223372036854775807) => rsNode_calls (hM.ext hu) Ws a hn
  have gF := (G.free (pickN s a raw)).1
  have gS := fun l => (G.swap l).1.good
  have gM := fun v => (G.mks v (pickN s b raw) (pickN s c raw)).1
  have rF := code_sure _ (free_rng (s := s) (n := pickN s a raw)).1 (free_rng (s := s) (n := pickN s a raw)).2
  have rS := fun l => code_sure _ (swap_rng (s := s) (n := l)).1 (swap_rng (s := s) (n := l)).2
  have rM := fun v => code_sure _ (mk_rng (v := v) (lo := pickN s b raw) (hi := pickN s c raw) Ws).1 (mk_rng (v := v) (lo := pickN s b raw) (hi := pickN s c raw) Ws).2
  clear hI hM mk_i mk_m
  have ha2 := ha.2
  have G0 := G
  clear ha hb hc G Ws
  generalize pickN s a raw = pA at *
  generalize pickN s b raw = pB at *
  generalize pickN s c raw = pC at *
  refine en3 Try.func20 Try.results20 mixed [] ?_
  intro e0 h0 h1 h2
  refine w_ fun d => ?_
  refine qq lb fun w1 hE1 hs1 => ?_
  refine w_ fun d => ?_
  refine qq lc fun w2 hE2 hs2 => ?_
  refine w_ fun d => ?_
  refine qq (pq.quiet (w := w2)) fun w3 hE3 hs3 => ?_
  have hE03 : Ext w w3 := ext_
  have hbx : w3.heap[w.heap.size]? = some (.cells #[.int .i64 q, .int .i64 a, .int .i64 b, .int .i64 c, .bool raw] 31) := hE3.at (hE2.at (hE1.at (hA rfl)))
  have hbl := lt_of_heap hbx
  clear hE1 hE2 hE3 hs1 hs2 hs3 lb lc pq
  clear w1 w2
  by_cases e4 : wq = 4
  · subst e4
    clear cS cSm cM cMm cN cNm gS gM rS rM p7 p8
    obtain ⟨c0, hc0⟩ : ∃ c0, (s.free pA).1 = c0 := ⟨_, rfl⟩
    obtain ⟨s1, hs1⟩ : ∃ s1, (s.free pA).2 = s1 := ⟨_, rfl⟩
    rw [hc0] at rF
    rw [hs1] at gF
    simp only [hc0, hs1] at cF cFm
    refine w_ fun d => ?_
    refine qq la fun w4 hE4 hs4 => ?_
    have hE04 := hE03.trans hE4
    refine w_ fun d => ?_
    refine (cF _ hE04).mono ?_
    rintro _ w5 ⟨rfl, hP5⟩
    refine w_ fun d => ?_
    refine qq (rF.quiet (w := w5)) fun w6 hE6 hs6 => ?_
    refine w_ fun d => ?_
    refine (cFm _ _ (hP5.ext hE6)).mono ?_
    rintro _ w7 ⟨rfl, hP7⟩
    refine w_ fun d => ?_
    exact ⟨s1, rfl, hP7, gF⟩
  have n4 : (wq == 4) = false := by simpa using e4
  by_cases e5 : wq = 5
  · subst e5
    clear cF cFm cM cMm cN cNm gF gM rF rM p8 la
    generalize a % 7 = l7 at p7
    have gS := gS l7
    have rS := rS l7
    have cS := cS l7
    have cSm := cSm l7
    obtain ⟨c0, hc0⟩ : ∃ c0, (s.swap l7).1 = c0 := ⟨_, rfl⟩
    obtain ⟨s1, hs1⟩ : ∃ s1, (s.swap l7).2 = s1 := ⟨_, rfl⟩
    rw [hc0] at rS
    rw [hs1] at gS
    simp only [hc0, hs1] at cS cSm
    refine w_ fun d => ?_
    refine qq (p7.quiet (w := w3)) fun w4 hE4 hs4 => ?_
    have hE04 := hE03.trans hE4
    refine w_ fun d => ?_
    refine (cS _ hE04).mono ?_
    rintro _ w5 ⟨rfl, hP5⟩
    refine w_ fun d => ?_
    refine qq (rS.quiet (w := w5)) fun w6 hE6 hs6 => ?_
    refine w_ fun d => ?_
    refine (cSm _ _ (hP5.ext hE6)).mono ?_
    rintro _ w7 ⟨rfl, hP7⟩
    refine w_ fun d => ?_
    exact ⟨s1, rfl, hP7, gS⟩
  have n5 : (wq == 5) = false := by simpa using e5
  by_cases e6 : wq = 6
  · subst e6
    clear cF cFm cM cMm cS cSm gF gM rF rM p8 la gS rS p7
    have n1 := cN _ hE03 ha2
    have n2 := cNm _ hE03 ha2
    clear cN cNm
    obtain ⟨z, hz⟩ : ∃ z, s.node a = z := ⟨_, rfl⟩
    rw [hz] at n1 n2
    obtain ⟨⟨x, y, z⟩, bb⟩ := z
    simp only [ndV] at n1 n2
    clear hz
    refine w_ fun d => ?_
    refine qq n1 fun w4 hE4 hs4 => ?_
    refine w_ fun d => ?_
    refine qq n2 fun w5 hE5 hs5 => ?_
    refine w_ fun d => ?_
    exact ⟨s, rfl, (h.ext hE03).ext ext_, G0⟩
  have n6 : (wq == 6) = false := by simpa using e6
  by_cases e7 : wq = 7
  · subst e7
    clear cF cFm cM cMm cN cNm gF gM rF rM p8 la p7
    have gS := gS a
    have rS := rS a
    have cS := cS a
    have cSm := cSm a
    obtain ⟨c0, hc0⟩ : ∃ c0, (s.swap a).1 = c0 := ⟨_, rfl⟩
    obtain ⟨s1, hs1⟩ : ∃ s1, (s.swap a).2 = s1 := ⟨_, rfl⟩
    rw [hc0] at rS
    rw [hs1] at gS
    simp only [hc0, hs1] at cS cSm
    refine w_ fun d => ?_
    refine (cS _ hE03).mono ?_
    rintro _ w5 ⟨rfl, hP5⟩
    refine w_ fun d => ?_
    refine qq (rS.quiet (w := w5)) fun w6 hE6 hs6 => ?_
    refine w_ fun d => ?_
    refine (cSm _ _ (hP5.ext hE6)).mono ?_
    rintro _ w7 ⟨rfl, hP7⟩
    refine w_ fun d => ?_
    exact ⟨s1, rfl, hP7, gS⟩
  have n7 : (wq == 7) = false := by simpa using e7
  clear cF cFm cS cSm cN cNm gF gS rF rS p7 la
  have fin : ∀ v : Int, ∃ c0 e0 s1, (∀ u, Ext w u → CallsR Try.prog 82 #[.pointer (some ⟨ps, 0, none⟩), .int .i64 v, .int .i64 pB, .int .i64 pC] u fun r w' => r = .tuple #[.int .i64 c0, errV e0] ∧ PrI W w' ps pm s1 s) ∧
      (∀ u s1', PrI W u ps pm s1' s → CallsR Try.prog 89 #[.pointer (some ⟨pm, 0, none⟩), .int .i64 v, .int .i64 pB, .int .i64 pC] u fun r w' => r = .tuple #[.int .i64 c0, .int .i64 e0] ∧ PrI W w' ps pm s1' s1) ∧ Sure Try.prog 29 #[errV e0] (.int .i64 e0) ∧ s1.Good [] :=
    fun v => ⟨_, _, _, cM v, cMm v, rM v, gM v⟩
  clear cM cMm rM gM
  cases raw
  · obtain ⟨c0, e0, s1, cM, cMm, rM, gM⟩ := fin (a % 8)
    generalize a % 8 = l8 at p8 cM cMm
    clear fin
    refine w_ fun d => ?_
    refine qq (p8.quiet (w := w3)) fun w4 hE4 hs4 => ?_
    have hE04 := hE03.trans hE4
    refine w_ fun d => ?_
    refine (cM _ hE04).mono ?_
    rintro _ w5 ⟨rfl, hP5⟩
    refine w_ fun d => ?_
    refine (cMm _ _ hP5).mono ?_
    rintro _ w6 ⟨rfl, hP6⟩
    refine w_ fun d => ?_
    refine qq (rM.quiet (w := w6)) fun w7 hE7 hs7 => ?_
    refine w_ fun d => ?_
    exact ⟨s1, rfl, hP6.ext ext_, gM⟩
  · obtain ⟨c0, e0, s1, cM, cMm, rM, gM⟩ := fin a
    clear fin p8
    refine w_ fun d => ?_
    refine (cM _ hE03).mono ?_
    rintro _ w5 ⟨rfl, hP5⟩
    refine w_ fun d => ?_
    refine (cMm _ _ hP5).mono ?_
    rintro _ w6 ⟨rfl, hP6⟩
    refine w_ fun d => ?_
    refine qq (rM.quiet (w := w6)) fun w7 hE7 hs7 => ?_
    refine w_ fun d => ?_
    exact ⟨s1, rfl, hP6.ext ext_, gM⟩
end
end Go.Proofs.Ytpeindhocndmnaa

/- Layer 7: what any deeds come to (StorePlays). -/
namespace Go.Proofs.Ytpeindhocndmnaa
open Go Go.Bx
set_option linter.unusedSimpArgs false
set_option linter.unusedVariables false
set_option maxRecDepth 100000
set_option maxHeartbeats 4000000
attribute [local irreducible] X XO XE XF XD XW thenX inX retX kN CallsR
section
variable {W w w' w1 w2 : World} {p ps pm : Nat} {s s' sM : Md} {n v x y lo hi : Int}
/-- A store behind all that was. -/
def OneI (W w : World) (ps : Nat) (s : Md) : Prop := ∃ own, StI own w ps s [] ∧ (∀ k, own k ≠ 0 → W.heap.size ≤ k) ∧ Ext W w
theorem OneI.ext (h : OneI W w ps s) (hE : Ext w w') : OneI W w' ps s := by
  obtain ⟨a, h1, h2, h3⟩ := h
  exact ⟨a, h1.ext hE, h2, h3.trans hE⟩
theorem OneI.world (h : OneI W w ps s) : Ext W w := by obtain ⟨_, _, _, h⟩ := h; exact h
theorem OneI.turn {f : FuncId} {args : Array Value} {R : Value → Prop} (h : OneI W w ps s) (hc : ∀ own, StI own w ps s [] → CallsR Try.prog f args w fun r w' => R r ∧ TrI own w ps s' [] w') :
    CallsR Try.prog f args w fun r w' => R r ∧ OneI W w' ps s' := by
  obtain ⟨a, h1, h4, h6⟩ := h
  refine (hc a h1).mono ?_
  rintro r w' ⟨hr, a', g1, ho, hC⟩
  have hsW := h6.size
  refine ⟨hr, a', g1, fun k hk => ?_, hC.toExt h6 fun k hk hf => by have := h4 k hf; omega⟩
  by_cases hl : k < w.heap.size
  · exact h4 k (by rw [← ho k hl]; exact hk)
  · omega
theorem OneI.new {most : Int} (h0' : 0 ≤ most) (h1' : most ≤ 20000) (w : World) : CallsR Try.prog 19 #[.int .i64 most] w fun r w' => ∃ p, r = .pointer (some ⟨p, 0, none⟩) ∧ OneI w w' p (Md.new most) := by
  refine (stNew_calls most h0' h1' w).mono ?_
  rintro r w' ⟨own, p, rfl, h, ho, hE⟩
  exact ⟨p, rfl, own, h, ho, hE⟩
theorem OneI.mk (h : OneI W w ps s) (G : s.Good []) (hlo : lo ≤ 9223372036854775807) (hhi : hi ≤ 9223372036854775807) {c e : Int} (hr : (s.mk' [] v lo hi).1 = (c, e)) :
    CallsR Try.prog 82 #[.pointer (some ⟨ps, 0, none⟩), .int .i64 v, .int .i64 lo, .int .i64 hi] w fun r w' => r = .tuple #[.int .i64 c, errV e] ∧ OneI W w' ps (s.mk' [] v lo hi).2 := by
  have := h.turn fun own ho => stMk_calls (v := v) ho G hlo hhi
  rw [hr] at this
  exact this
theorem up07_calls (w : World) : CallsR Try.prog 17 #[] w fun r w' => r = .bool true ∧ Ext w w' := by
  have G0 : (Md.new 3).Good [] := Md.Good.start (by decide) (by decide)
  have r1 : ((Md.new 3).mk' [] 0 0 1).1 = (2, 0) := by decide +kernel
  have G1 := (G0.mks 0 0 1).1
  have r2 : (((Md.new 3).mk' [] 0 0 1).2.mk' [] 0 0 1).1 = (2, 0) := by decide +kernel
  have G2 := (G1.mks 0 0 1).1
  have r3 : ((((Md.new 3).mk' [] 0 0 1).2.mk' [] 0 0 1).2.mk' [] 1 1 1).1 = (1, 0) := by decide +kernel
  have G3 := (G2.mks 1 1 1).1
  have r4 : ((((Md.new 3).mk' [] 0 0 1).2.mk' [] 0 0 1).2.mk' [] 1 1 1).2.node 2 = ((0, 0, 1), true) := by decide +kernel
  have r5 : ((((Md.new 3).mk' [] 0 0 1).2.mk' [] 0 0 1).2.mk' [] 1 1 1).2.a.many = 1 := by decide +kernel
  have r6 : ((((Md.new 3).mk' [] 0 0 1).2.mk' [] 0 0 1).2.mk' [] 1 1 1).2.room = 2 := by decide +kernel
  have c0 := OneI.new (most := 3) (by decide) (by decide)
  have c1 := fun u p (h : OneI w u p (Md.new 3)) => h.mk (v := 0) (lo := 0) (hi := 1) G0 (by decide) (by decide) r1
  generalize ((Md.new 3).mk' [] 0 0 1).2 = s1 at *
  have c2 := fun u p (h : OneI w u p s1) => h.mk (v := 0) (lo := 0) (hi := 1) G1 (by decide) (by decide) r2
  generalize (s1.mk' [] 0 0 1).2 = s2 at *
  have c3 := fun u p (h : OneI w u p s2) => h.mk (v := 1) (lo := 1) (hi := 1) G2 (by decide) (by decide) r3
  generalize (s2.mk' [] 1 1 1).2 = s3 at *
  clear r1 r2 r3 G0 G1 G2
  rw [errV0] at c1 c2 c3
  refine en0 Try.func17 Try.results17 mixed [] ?_
  intro e0
  refine w_ fun d => ?_
  refine (c0 _).mono ?_
  rintro _ w1 ⟨p, rfl, h1⟩
  have h1' : OneI w w1 p (Md.new 3) := by
    obtain ⟨o, a, b, c⟩ := h1
    exact ⟨o, a, fun k hk => by have := b k hk; simpa only [dr_heap] using this, Ext.trans (by exact ext_) c⟩
  refine w_ fun d => ?_
  refine (c1 _ _ h1').mono ?_
  rintro _ w2 ⟨rfl, h2⟩
  refine w_ fun d => ?_
  refine (c2 _ _ h2).mono ?_
  rintro _ w3 ⟨rfl, h3⟩
  refine w_ fun d => ?_
  refine (c3 _ _ h3).mono ?_
  rintro _ w4 ⟨rfl, h4⟩
  have hE4 := h4.world
  obtain ⟨own, hI, _, _⟩ := h4
  have nd := stNode_calls hI G3.wf 2 (by decide)
  have lv := stLive_calls hI G3.wf
  have rm := stRoom_calls hI G3.wf
  rw [r4] at nd
  rw [r5] at lv
  rw [r6] at rm
  simp only [ndV] at nd
  clear c0 c1 c2 c3 r4 r5 r6 hI h1 h1' h2 h3 G3
  refine w_ fun d => ?_
  refine qq nd fun w5 hE5 hs5 => ?_
  refine w_ fun d => ?_
  refine qq lv fun w6 hE6 hs6 => ?_
  refine w_ fun d => ?_
  refine qq rm fun w7 hE7 hs7 => ?_
  refine w_ fun d => ?_
  exact ⟨rfl, ext_⟩
theorem begin_calls (most : Int) (h0' : 0 ≤ most) (h1' : most ≤ 20000) (w : World) :
    CallsR Try.prog 18 #[.int .i64 most] w fun r w' => ∃ ps pm, r = .tuple #[.pointer (some ⟨ps, 0, none⟩), .pointer (some ⟨pm, 0, none⟩)] ∧ PrI w w' ps pm (Md.new most) (Md.new most) := by
  have c0 := stNew_calls most h0' h1'
  have c1 := rsNew_calls most h0' h1'
  refine en1 Try.func18 Try.results18 mixed [] ?_
  intro e0 h0
  refine w_ fun d => ?_
  refine (c0 _).mono ?_
  rintro _ w1 ⟨own, p, rfl, hI, ho, hE⟩
  have hE1 : Ext w w1 := Ext.trans (by exact ext_) hE
  have ho' : ∀ k, own k ≠ 0 → w.heap.size ≤ k := fun k hk => by have := ho k hk; simpa only [dr_heap] using this
  clear ho hE
  refine w_ fun d => ?_
  refine (c1 _).mono ?_
  rintro _ w2 ⟨ownM, pm, rfl, hM, hoM, hE2⟩
  have hoM' : ∀ k, ownM k ≠ 0 → w1.heap.size ≤ k := fun k hk => by have := hoM k hk; simpa only [dr_heap] using this
  have hE12 : Ext w1 w2 := Ext.trans (by exact ext_) hE2
  have hs1 := hE1.size
  refine w_ fun d => ?_
  refine ⟨p, pm, rfl, own, ownM, hI.ext hE12, hM, fun k hk => ?_, ho', fun k hk => by have := hoM' k hk; omega, hE1.trans hE12⟩
  have := hI.lt k hk
  cases hm : ownM k with
  | zero => rfl
  | succ m => have := hoM' k (by omega); omega
theorem begin_none (most : Int) (h : ¬ (0 ≤ most ∧ most ≤ 20000)) : Sure Try.prog 18 #[.int .i64 most] (.tuple #[.pointer none, .pointer none]) := by
  intro w
  have c0 := stNew_none most h
  clear h
  refine en1 Try.func18 Try.results18 mixed [] ?_
  intro e0 h0
  refine w_ fun d => ?_
  refine qq (c0.quiet (w := w)) fun w1 hE1 hs1 => ?_
  refine w_ fun d => ?_
  exact ⟨rfl, ext_⟩
end
end Go.Proofs.Ytpeindhocndmnaa

/- Layer 7: what any deeds come to (StorePlays). -/
namespace Go.Proofs.Ytpeindhocndmnaa
open Go Go.Bx
set_option linter.unusedSimpArgs false
set_option linter.unusedVariables false
set_option maxRecDepth 100000
set_option maxHeartbeats 4000000
attribute [local irreducible] X XO XE XF XD XW thenX inX retX kN CallsR
section
variable {W w w' w1 w2 : World} {p ps pm : Nat} {s s' sM : Md} {n v x y lo hi : Int}
def okD (d : Dd07) : Prop := okI d.2.1 ∧ okI d.2.2.1 ∧ okI d.2.2.2.1
theorem deedAt {a : Option Addr} {l : List Dd07} {i : Nat} {q b c d : Int} {r : Bool} (h : Inp w 5 a (l.map encD)) (hd : l[i]? = some (q, b, c, d, r)) :
    ∃ g o cs E fz, a = some ⟨g, o, none⟩ ∧ w.heap[g]? = some (.cells cs E fz) ∧ o + i * 5 + 5 ≤ cs.size ∧ cs.extract (o + i * 5) (o + i * 5 + 5) = #[.int .i64 q, .int .i64 b, .int .i64 c, .int .i64 d, .bool r] := by
  rcases h with h | ⟨g, o, cs, E, fz, rfl, h2, h3⟩
  · rw [List.map_eq_nil_iff.1 h] at hd; simp at hd
  · have hr := h3 i (encD (q, b, c, d, r)) (by rw [List.getElem?_map, hd]; rfl)
    have c0 := hr 0 _ rfl
    have c1 := hr 1 _ rfl
    have c2 := hr 2 _ rfl
    have c3 := hr 3 _ rfl
    have c4 := hr 4 _ rfl
    have hs := (Array.getElem?_eq_some_iff.1 c4).1
    refine ⟨g, o, cs, E, fz, rfl, h2, by omega, ?_⟩
    apply Array.ext_getElem?
    intro j
    rw [Array.getElem?_extract]
    match j with
    | 0 => rw [if_pos (by omega), Nat.add_zero]; simpa using c0
    | 1 => rw [if_pos (by omega)]; simpa [Nat.add_assoc] using c1
    | 2 => rw [if_pos (by omega)]; simpa [Nat.add_assoc] using c2
    | 3 => rw [if_pos (by omega)]; simpa [Nat.add_assoc] using c3
    | 4 => rw [if_pos (by omega)]; simpa [Nat.add_assoc] using c4
    | j + 5 => rw [if_neg (by omega)]; simp
theorem storePlays_calls (most : Int) {l : List Dd07} {a : Option Addr} {c : Nat} (hI : Inp w 5 a (l.map encD)) (hok : ∀ d ∈ l, okD d) (hl : l.length ≤ 140737488351232) :
    CallsR Try.prog 3 #[.int .i64 most, .slice a l.length c] w fun r w' => r = .bool true ∧ Ext w w' := by
  by_cases hm : 0 ≤ most ∧ most ≤ 20000
  rotate_left
  · have b0 := begin_none most hm
    have n0 := stNew_none most hm
    clear hI hok
    by_cases h0' : 0 ≤ most
    · have h1' : ¬ most ≤ 20000 := fun h => hm ⟨h0', h⟩
      clear hm
      refine en2 Try.func3 Try.results3 mixed [] ?_
      intro e0 h0 h1
      refine w_ fun d => ?_
      refine (up07_calls _).mono ?_
      rintro _ w1 ⟨rfl, hE1⟩
      have hE1w : Ext w w1 := Ext.trans (by exact ext_) hE1
      refine w_ fun d => ?_
      refine qq (b0.quiet (w := w1)) fun w2 hE2 hs2 => ?_
      refine w_ fun d => ?_
      refine qq (n0.quiet (w := w2)) fun w3 hE3 hs3 => ?_
      refine w_ fun d => ?_
      exact ⟨rfl, ext_⟩
    · clear hm
      refine en2 Try.func3 Try.results3 mixed [] ?_
      intro e0 h0 h1
      refine w_ fun d => ?_
      refine (up07_calls _).mono ?_
      rintro _ w1 ⟨rfl, hE1⟩
      have hE1w : Ext w w1 := Ext.trans (by exact ext_) hE1
      refine w_ fun d => ?_
      refine qq (b0.quiet (w := w1)) fun w2 hE2 hs2 => ?_
      refine w_ fun d => ?_
      refine qq (n0.quiet (w := w2)) fun w3 hE3 hs3 => ?_
      refine w_ fun d => ?_
      exact ⟨rfl, ext_⟩
  obtain ⟨h0', h1'⟩ := hm
  have b0 := begin_calls most h0' h1'
  have G0 : (Md.new most).Good [] := Md.Good.start h0' h1'
  by_cases hlen : l.length ≤ 150
  rotate_left
  · have hlen' : ¬ (l.length : Int) ≤ 150 := by omega
    clear hI hok G0 hlen
    refine en2 Try.func3 Try.results3 mixed [] ?_
    intro e0 h0 h1
    refine w_ fun d => ?_
    refine (up07_calls _).mono ?_
    rintro _ w1 ⟨rfl, hE1⟩
    have hE1w : Ext w w1 := Ext.trans (by exact ext_) hE1
    refine w_ fun d => ?_
    refine (b0 _).mono ?_
    rintro _ w2 ⟨ps, pm, rfl, hP⟩
    have hE2 := hP.world
    have hE2w := hE1w.trans hE2
    clear hP b0
    refine w_ fun d => ?_
    exact ⟨rfl, ext_⟩
  have hlen' : (l.length : Int) ≤ 150 := by omega
  refine en2 Try.func3 Try.results3 mixed [] ?_
  intro e0 h0 h1
  refine w_ fun d => ?_
  refine (up07_calls _).mono ?_
  rintro _ w1 ⟨rfl, hE1⟩
  have hE1w : Ext w w1 := Ext.trans (by exact ext_) hE1
  refine w_ fun d => ?_
  refine (b0 _).mono ?_
  rintro _ w2 ⟨ps, pm, rfl, hP⟩
  clear b0
  refine w_ fun d => ?_
  refine lo_ (fun _ e w' => ∃ (i : Nat) (s : Md), i ≤ l.length ∧ e 8 = .int .i64 i ∧ PrI w1 w' ps pm s s ∧ s.Good []) (fun e _ => l.length - nat (e 8)) ?_ ?_
  · exact ⟨0, _, by omega, eA rfl, hP, G0⟩
  rintro e u hf ⟨i, s, hi, h8, hPu, G⟩
  have hEu := hE1w.trans hPu.world
  by_cases hlt : i < l.length
  · obtain ⟨d, hd⟩ : ∃ d, l[i]? = some d := ⟨l[i], List.getElem?_eq_getElem hlt⟩
    obtain ⟨k1, k2, k3⟩ := hok d (List.mem_of_getElem? hd)
    obtain ⟨q, da, db, dc, r⟩ := d
    obtain ⟨g, o, ct, E, fz, rfl, hg, hsz, hex⟩ := deedAt (Inp.ext hI hEu) hd
    have hltl : (i : Int) < l.length := by omega
    have dd := do_calls (q := q) (raw := r) hPu G k1 k2 k3
    clear hI hok hd G0 hP k1 k2 k3 G
    refine w_ fun d => ?_
    refine dd.mono ?_
    rintro _ u2 ⟨s2, rfl, hP2, G2⟩
    refine w_ fun d => ?_
    refine (same_calls hP2 G2).mono ?_
    rintro _ u3 ⟨rfl, hE3⟩
    refine w_ fun d => ?_
    exact ⟨⟨i + 1, s2, by omega, eA rfl, hP2.ext hE3, G2⟩, mA⟩
  · obtain rfl : i = l.length := by omega
    clear hI hok
    refine w_ fun d => ?_
    exact ⟨rfl, hEu⟩
end
end Go.Proofs.Ytpeindhocndmnaa

/- From a law's walk to its given statement: what every law shares. -/
namespace Go.Bx
open Go Go.ChangeShapes Go.WideShapes Go.ChangeAt Go.RowKit

theorem Ext.below {W W' : World} (h : Ext W W') : Below W.heap.size W W' := ⟨h.os, h.tape, h.output, h.size, h.heap⟩

section
variable {H : Type} {enc : TypeId × Value → H} {P : Program}

theorem trodAll_stays (hl : laidOutB P = true) {W W' : World} (hE : Ext W W') : ∀ {ts : List TypeId} {vs : List Value} {ds : List (DataW H)} {ps : List MemPlace},
    (∀ t ∈ ts, P.readableRec t = true ∧ t < P.types.size) → DataW.TrodAll enc P W 0 (fun _ => true) true ts vs ds ps → (∀ x ∈ ps, x.block < W.heap.size) →
    DataW.TrodAll enc P W' 0 (fun b => decide (b < W.heap.size)) true ts vs ds ps
  | [], [], [], _, _, h, _ => h
  | t :: ts, v :: vs, d :: ds, _, ht, ⟨p, q, h, hs, e⟩, hlt =>
    ⟨p, q, Below.trod hl (ht t (by simp)).1 (ht t (by simp)).2 h hE.below (fun x hx => hlt x (by rw [e]; exact List.mem_append_left _ hx)),
      trodAll_stays hl hE (fun t hm => ht t (by simp [hm])) hs (fun x hx => hlt x (by rw [e]; exact List.mem_append_right _ hx)), e⟩
  | [], [], _ :: _, _, _, h, _ => h.elim
  | [], _ :: _, _, _, _, h, _ => by cases ‹List (DataW H)› <;> exact h.elim
  | _ :: _, [], _, _, _, h, _ => by cases ‹List (DataW H)› <;> exact h.elim
  | _ :: _, _ :: _, [], _, _, h, _ => h.elim

theorem law_post {f : Func} {s : ChangeSpec} {W W' : World} {args : Array Value} {ds gs : List (DataW H)} {before : List MemPlace} {tb : TypeId}
    (hl : laidOutB P = true) (hts : f.params.toList.all (fun t => P.readableRec t && decide (t < P.types.size)) = true) (hv : s.vars = []) (hrt : f.resultTypes = #[tb]) (hb : P.underlying tb = some .bool)
    (hW : DataW.Whole enc P f.params.toList s.vars false W args.toList ds gs before)
    (hfn : (s.fn H (ds ++ gs)).results = [.lit (.bool true)] ∧ (s.fn H (ds ++ gs)).args = ds ∧ (s.fn H (ds ++ gs)).vars = [])
    (hE : Ext W W') : s.post enc P f false true false false W args (.bool true) W' := by
  have hW' := hW
  obtain ⟨p, q, hA, hV, rfl, _, _⟩ := hW
  rw [hv] at hV
  obtain ⟨rfl, rfl⟩ := trodVars_none hV
  have hlt : ∀ x ∈ p, x.block < W.heap.size := fun x hx => hW'.lt x (by simpa using hx)
  refine ⟨ds, [], _, [], p, [], hW', ?_, ?_, ?_, hE.below.frame _, fun h => by cases h⟩
  · rw [hfn.1, hrt]
    exact trodAll_mk1 (shut_bool hb true)
  · rw [hfn.2.1]
    refine trodAll_stays hl hE (fun t ht => ?_) hA hlt
    have := List.all_eq_true.1 hts t ht
    simpa [Bool.and_eq_true] using this
  · rw [hfn.2.2, hv]
    exact rfl

/-- An array of eight numbers. -/
theorem open_arr8 {r : Reach} {W w : World} {base b0 : Nat} {spare : Nat → Bool} {held : Bool} {t e : TypeId} {v : Value} {d : DataW H} {ps : List MemPlace} (ht : P.underlying t = some (.array 8 e)) (he : P.underlying e = some (.int .i64)) (hce : P.cellsOf e = 1) (hct : P.cellsOf t = 8)
    (hval : Value.okWide P W r b0 t v) (hd : DataW.Trod enc P w base spare held t v d ps) :
    ∃ l : List Int, l.length = 8 ∧ v = aI l ∧ ∀ x ∈ l, (Lit.int .i64 x).wf = true := by
  obtain ⟨cs, rfl, hsz, _⟩ : ∃ cs, v = .agg cs ∧ cs.size = P.cellsOf t ∧ Row.okWide P W r b0 t cs := by
    simpa [Value.okWide, ht] using hval
  rw [hct] at hsz
  obtain ⟨fuel, hf⟩ := hd
  obtain ⟨xs, m, rfl, _, _, hxl, hget⟩ := DataW.trod_array ht hf
  have hall : ∀ i, i < 8 → ∃ n : Int, cs[i]? = some (.int .i64 n) ∧ (Lit.int .i64 n).wf = true := by
    intro i hi
    have h1 := hget i hi
    obtain ⟨y, hy⟩ : ∃ y, xs[i]? = some y := ⟨xs[i], List.getElem?_eq_getElem (by omega)⟩
    rw [hy, hce] at h1
    obtain ⟨n, h2, _, hw⟩ := DataW.trod_int he h1
    refine ⟨n, ?_, hw⟩
    have h3 : cs.toList[i]? = some (.int .i64 n) := by
      have : ((cs.toList.drop (i * 1)).take 1)[0]? = some (.int .i64 n) := by
        show ((Value.cells (.agg cs)).toList.drop (i * 1) |>.take 1)[0]? = _
        rw [h2]; rfl
      simpa using this
    simpa using h3
  refine ⟨cs.toList.map (fun v => match v with | .int _ n => n | _ => 0), by simpa using hsz, ?_, ?_⟩
  · show Value.agg cs = .agg _
    congr 1
    apply Array.ext_getElem?
    intro i
    by_cases hi : i < 8
    · obtain ⟨n, hn, _⟩ := hall i hi
      have hn' : cs.toList[i]? = some (.int .i64 n) := by simpa using hn
      simp [hn, hn']
    · rw [Array.getElem?_eq_none (by omega), Array.getElem?_eq_none (by simp; omega)]
  · intro x hx
    obtain ⟨v, hv, rfl⟩ := List.mem_map.1 hx
    obtain ⟨i, hi⟩ := List.mem_iff_getElem?.1 hv
    have hi8 : i < 8 := by
      have := (List.getElem?_eq_some_iff.1 hi).1
      simpa [hsz] using this
    obtain ⟨n, hn, hw⟩ := hall i hi8
    have hn' : cs.toList[i]? = some (.int .i64 n) := by simpa using hn
    rw [hi] at hn'
    cases hn'
    exact hw

/-- An array of numbers. -/
theorem open_ints {r : Reach} {W w : World} {base b0 : Nat} {spare : Nat → Bool} {held : Bool} {t e : TypeId} {N : Nat} {k : IntKind} {v : Value} {d : DataW H} {ps : List MemPlace} (ht : P.underlying t = some (.array N e)) (he : P.underlying e = some (.int k)) (hce : P.cellsOf e = 1) (hct : P.cellsOf t = N)
    (hval : Value.okWide P W r b0 t v) (hd : DataW.Trod enc P w base spare held t v d ps) :
    ∃ l : List Int, l.length = N ∧ v = .agg (l.map (Value.int k)).toArray ∧ ∀ x ∈ l, (Lit.int k x).wf = true := by
  obtain ⟨cs, rfl, hsz, _⟩ : ∃ cs, v = .agg cs ∧ cs.size = P.cellsOf t ∧ Row.okWide P W r b0 t cs := by
    simpa [Value.okWide, ht] using hval
  rw [hct] at hsz
  obtain ⟨fuel, hf⟩ := hd
  obtain ⟨xs, m, rfl, _, _, hxl, hget⟩ := DataW.trod_array ht hf
  have hall : ∀ i, i < N → ∃ n : Int, cs[i]? = some (.int k n) ∧ (Lit.int k n).wf = true := by
    intro i hi
    have h1 := hget i hi
    obtain ⟨y, hy⟩ : ∃ y, xs[i]? = some y := ⟨xs[i], List.getElem?_eq_getElem (by omega)⟩
    rw [hy, hce] at h1
    obtain ⟨n, h2, _, hw⟩ := DataW.trod_int he h1
    refine ⟨n, ?_, hw⟩
    have h3 : cs.toList[i]? = some (.int k n) := by
      have : ((cs.toList.drop (i * 1)).take 1)[0]? = some (.int k n) := by
        show ((Value.cells (.agg cs)).toList.drop (i * 1) |>.take 1)[0]? = _
        rw [h2]; rfl
      simpa using this
    simpa using h3
  refine ⟨cs.toList.map (fun v => match v with | .int _ n => n | _ => 0), by simpa using hsz, ?_, ?_⟩
  · show Value.agg cs = .agg _
    congr 1
    apply Array.ext_getElem?
    intro i
    by_cases hi : i < N
    · obtain ⟨n, hn, _⟩ := hall i hi
      have hn' : cs.toList[i]? = some (.int k n) := by simpa using hn
      simp [hn, hn']
    · rw [Array.getElem?_eq_none (by omega), Array.getElem?_eq_none (by simp; omega)]
  · intro x hx
    obtain ⟨v, hv, rfl⟩ := List.mem_map.1 hx
    obtain ⟨i, hi⟩ := List.mem_iff_getElem?.1 hv
    have hiN : i < N := by
      have := (List.getElem?_eq_some_iff.1 hi).1
      simpa [hsz] using this
    obtain ⟨n, hn, hw⟩ := hall i hiN
    have hn' : cs.toList[i]? = some (.int k n) := by simpa using hn
    rw [hi] at hn'
    cases hn'
    exact hw

theorem exists_list {α : Type} {p : Nat → α → Prop} : ∀ (n : Nat), (∀ i, i < n → ∃ y, p i y) → ∃ ys : List α, ys.length = n ∧ ∀ i y, ys[i]? = some y → p i y
  | 0, _ => ⟨[], rfl, fun i y h => by cases h⟩
  | n + 1, h => by
    obtain ⟨ys, hl, hy⟩ := exists_list n (fun i hi => h i (by omega))
    obtain ⟨y, hp⟩ := h n (by omega)
    refine ⟨ys ++ [y], by simp [hl], fun i z hz => ?_⟩
    rw [List.getElem?_append] at hz
    split at hz
    · exact hy i z hz
    · rename_i hge
      have hi : i = n := by
        have := (List.getElem?_eq_some_iff.1 hz).1
        simp at this; omega
      subst hi
      have : i - ys.length = 0 := by omega
      rw [this] at hz
      cases hz
      exact hp

theorem rd1_some {o : Option Obj} {i : Nat} {u : Value} (h : rd1 o i = some u) : ∃ c E fz, o = some (.cells c E fz) ∧ c[i]? = some u := by
  unfold rd1 at h
  split at h
  · exact ⟨_, _, _, rfl, h⟩
  · cases h

/-- A slice that was handed in, its rows decoded. -/
theorem trod_rows {α : Type} {W : World} {base : Nat} {spare : Nat → Bool} {held : Bool} {fuel t E s : Nat} {cs : List Value} {x : DataW H × List MemPlace} (ht : P.underlying t = some (.slice E)) (hs : P.cellsOf E = s) (hs0 : 0 < s) {f : α → List Value} {good : α → Prop}
    (dec : ∀ n cs x, DataW.trod enc P W base spare held n E cs = some x → ∃ y, cs = f y ∧ good y) (h : DataW.trod enc P W base spare held fuel t cs = some x) :
    ∃ (ys : List α) (a : Option Addr) (cap : Nat), cs = [.slice a ys.length cap] ∧ Inp W s a (ys.map f) ∧ (∀ y ∈ ys, good y) ∧ ys.length ≤ cap ∧ cap ≤ maxLen := by
  rcases DataW.trod_slice ht h with ⟨h0, _⟩ | ⟨a, len, cap, elems, rest, n, _, rfl, _, hb, hl, hm, hlen, hel, _, _⟩
  · exact ⟨[], none, 0, h0, .inl rfl, (fun y hy => by cases hy), by simp, by simp⟩
  · rw [hs] at hel
    have hrow : ∀ i, i < len → ∃ y : α, W.cells? base (a.add (i * s)) s = some (f y) ∧ good y := by
      intro i hi
      have h1 := hel i hi
      rw [List.getElem?_eq_getElem (show i < elems.length by omega)] at h1
      obtain ⟨ci, h2, h3⟩ := Option.bind_eq_some_iff.1 h1
      obtain ⟨y, rfl, hg⟩ := dec _ _ _ h3
      exact ⟨y, h2, hg⟩
    obtain ⟨ys, hyl, hy⟩ := exists_list len hrow
    refine ⟨ys, some a, cap, by rw [hyl], ?_, fun y hm => ?_, by omega, hm⟩
    · by_cases h0 : len = 0
      · subst h0
        left
        rw [List.length_eq_zero_iff.1 hyl]; rfl
      · right
        have hcell : ∀ i y, ys[i]? = some y → ∀ j u, (f y)[j]? = some u → W.cell? ((a.add (i * s)).add j) = some u := by
          intro i y hiy j u hj
          have h1 := (hy i y hiy).1
          unfold World.cells? at h1
          split at h1
          · have hlen2 : (f y).length = s := by simpa using mapM_some_length h1
            have hjs : j < s := by have := (List.getElem?_eq_some_iff.1 hj).1; omega
            have h2 := mapM_some_get h1 j j (by simp [hjs])
            rw [hj] at h2
            exact h2
          · cases h1
        obtain ⟨y0, hy0⟩ : ∃ y, ys[0]? = some y := ⟨ys[0]'(by omega), List.getElem?_eq_getElem (by omega)⟩
        have hlen0 : (f y0).length = s := by
          have h1 := (hy 0 y0 hy0).1
          unfold World.cells? at h1
          split at h1
          · simpa using mapM_some_length h1
          · cases h1
        obtain ⟨u0, hu0⟩ : ∃ u, (f y0)[0]? = some u := ⟨(f y0)[0]'(by omega), List.getElem?_eq_getElem (by omega)⟩
        have hc0 := hcell 0 y0 hy0 0 u0 hu0
        obtain ⟨b, off, spot⟩ := a
        have hspot : spot = none := by simpa [Addr.add] using World.cell?_spot hc0
        subst hspot
        simp only [add_none, Nat.add_assoc, cell_rd1] at hcell hc0
        obtain ⟨c, E', fz, hbk, _⟩ := rd1_some hc0
        refine ⟨b, off, c, E', fz, rfl, hbk, fun i x hx j u hj => ?_⟩
        rw [List.getElem?_map] at hx
        obtain ⟨y, hiy, rfl⟩ := Option.map_eq_some_iff.1 hx
        have := hcell i y hiy j u hj
        rw [hbk] at this
        rw [Nat.add_assoc]
        exact this
    · obtain ⟨i, hi⟩ := List.mem_iff_getElem?.1 hm
      exact (hy i y hi).2
theorem open_rows {α : Type} {r : Reach} {b0 : Nat} {W : World} {base : Nat} {spare : Nat → Bool} {held : Bool} {t E s : Nat} {v : Value} {d : DataW H} {ps : List MemPlace} (ht : P.underlying t = some (.slice E)) (hs : P.cellsOf E = s) (hs0 : 0 < s) {f : α → List Value} {good : α → Prop}
    (dec : ∀ n cs x, DataW.trod enc P W base spare held n E cs = some x → ∃ y, cs = f y ∧ good y) (hval : Value.okWide P W r b0 t v) (hd : DataW.Trod enc P W base spare held t v d ps) :
    ∃ (ys : List α) (a : Option Addr) (cap : Nat), v = .slice a ys.length cap ∧ Inp W s a (ys.map f) ∧ (∀ y ∈ ys, good y) ∧ ys.length ≤ cap ∧ cap ≤ maxLen := by
  obtain ⟨a, len, cap, rfl⟩ := okWide_slice ht hval
  obtain ⟨fuel, hf⟩ := hd
  obtain ⟨ys, a', cap', h1, h2⟩ := trod_rows ht hs hs0 dec hf
  have h3 : [Value.slice a len cap] = [.slice a' ys.length cap'] := h1
  cases h3
  exact ⟨ys, _, _, rfl, h2⟩
/-- A cell that is a number. -/
theorem dec_int {W : World} {base : Nat} {spare : Nat → Bool} {held : Bool} {E : Nat} {k : IntKind} (hE : P.underlying E = some (.int k)) : ∀ n cs x, DataW.trod enc P W base spare held n E cs = some x → ∃ y : Int, cs = [.int k y] ∧ (Lit.int k y).wf = true := by
  intro n cs x h
  obtain ⟨y, h1, _, h2⟩ := DataW.trod_int hE h
  exact ⟨y, h1, h2⟩
/-- How long a slice that was handed in may be, by what it weighs. -/
theorem sl_sized {w : World} {base : Nat} {spare : Nat → Bool} {held : Bool} {t E n c : Nat} {a : Option Addr} {d : DataW H} {ps : List MemPlace} {ts : List TypeId} {ds : List (DataW H)} (ht : P.underlying t = some (.slice E)) (hb : 0 < P.bytesOf E)
    (hsz : (DataW.weightsEach P ts ds).all (· ≤ reachBytes) = true) (j : Nat) (hj : ts[j]? = some t) (hdj : ds[j]? = some d) (hd : DataW.Trod enc P w base spare held t (.slice a n c) d ps) : n ≤ 140737488351232 := by
  obtain ⟨fuel, hf⟩ := hd
  rcases DataW.trod_slice ht hf with ⟨h0, _⟩ | ⟨a', len, cap, elems, rest, m, _, h0, h1, _, _, _, hl, _⟩
  · have : [Value.slice a n c] = [.slice none 0 0] := h0
    cases this; exact Nat.zero_le _
  · have : [Value.slice a n c] = [.slice (some a') len cap] := h0
    cases this
    cases h1
    have := sized_slice hsz hj hdj ht
    rw [List.length_map, List.length_map, hl] at this
    have h2 : n * 1 ≤ (n + rest.length) * P.bytesOf E := Nat.mul_le_mul (Nat.le_add_right _ _) hb
    have h3 : reachBytes = 140737488351232 := by decide
    omega
end
end Go.Bx

/- A handed-in function of eight variables. -/
namespace Go.Bx
open Go Go.ChangeShapes Go.WideShapes Go.ChangeAt Go.RowKit
section
variable {H : Type} {enc : TypeId × Value → H} {P : Program}
theorem wf_u64 {x : Int} (h : (Lit.int .u64 x).wf = true) : 0 ≤ x ∧ x < 18446744073709551616 := by
  simp [Lit.wf] at h
  have h1 : IntKind.u64.min = 0 := by decide
  have h2 : IntKind.u64.max = 18446744073709551615 := by decide +kernel
  omega
theorem open_func {r : Reach} {W w : World} {base b0 : Nat} {spare : Nat → Bool} {held : Bool} {t e : TypeId} {v : Value} {d : DataW H} {ps : List MemPlace} (ht : P.underlying t = some (.array 4 e)) (he : P.underlying e = some (.int .u64)) (hce : P.cellsOf e = 1) (hct : P.cellsOf t = 4)
    (hval : Value.okWide P W r b0 t v) (hd : DataW.Trod enc P w base spare held t v d ps) : ∃ f : Fun8, v = fv f := by
  obtain ⟨l, hl, rfl, hw⟩ := open_ints ht he hce hct hval hd
  obtain ⟨a, b, c, d, rfl⟩ := list4 hl
  have ha := wf_u64 (hw a (by simp))
  have hb := wf_u64 (hw b (by simp))
  have hc := wf_u64 (hw c (by simp))
  have hd := wf_u64 (hw d (by simp))
  refine ⟨join fun k => BitVec.ofNat 64 (([a, b, c, d].getD k 0).toNat), ?_⟩
  rw [← w4_join]
  simp only [List.map_cons, List.map_nil, isU ha.1 ha.2, isU hb.1 hb.2, isU hc.1 hc.2, isU hd.1 hd.2]
  rfl
end
end Go.Bx

/- What the statements of layers 7 to 14 are handed: deeds. -/
namespace Go.Proofs.Ytpeindhocndmnaa
open Go Go.Bx Go.ChangeShapes Go.WideShapes Go.ChangeAt Go.RowKit
set_option linter.unusedVariables false
set_option maxRecDepth 100000
theorem own : ownKnob Try.prog.godebug = none := by kernel_rfl
theorem laidOut : laidOutB Try.prog = true := by kernel_rfl
theorem wf_i64 {x : Int} (h : (Lit.int .i64 x).wf = true) : okI x := by
  simp [Lit.wf] at h
  have h1 : IntKind.i64.min = -9223372036854775808 := by decide +kernel
  have h2 : IntKind.i64.max = 9223372036854775807 := by decide +kernel
  unfold okI; omega
theorem dec_deed07 {H : Type} {enc : TypeId × Value → H} {W : World} {base : Nat} {spare : Nat → Bool} {held : Bool} : ∀ n cs x, DataW.trod enc Try.prog W base spare held n 31 cs = some x → ∃ y : Dd07, cs = encD y ∧ okD y := by
  intro n cs x h
  obtain ⟨xs, m, rfl, _, hl, hxl, hf⟩ := DataW.trod_struct Try.underlying31 h
  have hc3 : Try.prog.cellsOf 3 = 1 := by kernel_rfl
  have hc4 : Try.prog.cellsOf 4 = 1 := by kernel_rfl
  have hc : Try.prog.cellsOf 31 = 5 := by kernel_rfl
  rw [hc] at hl
  match cs, hl with
  | [c0, c1, c2, c3, c4], _ =>
    match xs, hxl with
    | [x0, x1, x2, x3, x4], _ =>
      have h0 := hf 0 _ rfl
      have h1 := hf 1 _ rfl
      have h2 := hf 2 _ rfl
      have h3 := hf 3 _ rfl
      have h4 := hf 4 _ rfl
      obtain ⟨y0, e0, _, g0⟩ := DataW.trod_int Try.underlying3 h0
      obtain ⟨y1, e1, _, g1⟩ := DataW.trod_int Try.underlying3 h1
      obtain ⟨y2, e2, _, g2⟩ := DataW.trod_int Try.underlying3 h2
      obtain ⟨y3, e3, _, g3⟩ := DataW.trod_int Try.underlying3 h3
      obtain ⟨y4, e4, _⟩ := DataW.trod_bool Try.underlying4 h4
      simp [hc3, hc4] at e0 e1 e2 e3 e4
      subst e0 e1 e2 e3 e4
      exact ⟨(y0, y1, y2, y3, y4), rfl, wf_i64 g1, wf_i64 g2, wf_i64 g3⟩
end Go.Proofs.Ytpeindhocndmnaa

/- Layer 7: what a node is in a row (StoreReduced). -/
namespace Go.Proofs.Ytpeindhocndmnaa
open Go Go.Bx
set_option linter.unusedSimpArgs false
set_option linter.unusedVariables false
set_option maxRecDepth 100000
set_option maxHeartbeats 4000000
attribute [local irreducible] X XO XE XF XD XW thenX inX retX kN CallsR
theorem shr_bit_all : ∀ v : Nat, v < 8 → ∀ x : Nat, x < 256 → ((((x : Nat) : Int).fdiv (2 ^ min v IntKind.i64.bits)).tmod 2 == 1) = x.testBit v := by decide +kernel
section
variable {own : Nat → Nat} {W w w' w1 w2 : World} {p ps pm : Nat} {s s' sM : Md} {n v x y lo hi : Int}
theorem stFun_calls (h : StI own w p s []) (G : s.Good []) {f : Fun8} (hd : Den s n f) {row : Nat} (hrow : row < 256) : Quiet Try.prog 27 #[.pointer (some ⟨p, 0, none⟩), .int .i64 n, .int .i64 (row : Int)] w (.bool (f.getLsbD row)) := by
  intro u hu
  have h := h.ext hu
  clear hu
  have Ws := G.wf
  have hrk0 := G.rk_le n
  refine en3 Try.func27 Try.results27 mixed [] ?_
  intro e0 h0 h1 h2
  refine w_ fun d => ?_
  refine lo_ (fun _ e w' => ∃ (k : Nat) (m : Int), k ≤ 8 ∧ e 7 = .int .i64 k ∧ e 1 = .int .i64 m ∧ Box (∃ g, Den s m g ∧ g.getLsbD row = f.getLsbD row ∧ s.rk m + k ≤ 8) ∧ Ext u w') (fun e _ => 9 - nat (e 7)) ?_ ?_
  · exact ⟨0, n, by omega, eA rfl, eA h1, ⟨f, hd, rfl, by omega⟩, ext_⟩
  rintro e w1 hf ⟨k, m, hk, h7, h1, ⟨g, hg, hgb, hrk⟩, hE⟩
  have hs1 := sz_ hE
  have hm6 : m ≤ 1000000 := by
    rcases hg.there with e | e | e
    · omega
    · omega
    · have := Ws.lt e; have := wf_N Ws; omega
  have nd := stNode_calls (h.ext hE) Ws m (by omega)
  unfold Md.node at nd
  cases hh : s.has m
  · rw [hh] at nd
    simp only [Bool.false_eq_true, ↓reduceIte, ndV] at nd
    have hb : g.getLsbD row = (m == 1) := by
      rcases hg.there with e | e | e
      · subst e; rw [hg.zero, bt_const hrow]; rfl
      · subst e; rw [hg.one, bt_const hrow]; rfl
      · rw [e] at hh; cases hh
    rw [hgb] at hb
    rw [hb]
    clear hb hg hgb hrk hh G Ws h hd
    refine w_ fun d => ?_
    refine qq nd fun w2 hE2 hs2 => ?_
    refine w_ fun d => ?_
    exact ⟨rfl, ext_⟩
  · rw [hh] at nd
    simp only [↓reduceIte, ndV] at nd
    have ok := G.node m hh (by simp)
    have ⟨d0, d1⟩ := G.sides hg hh
    obtain ⟨g0, g1, k0, k1, hgi⟩ := hg.at hh
    have r0 := G.rk_lt hh ok.lo
    have r1 := G.rk_lt hh ok.hi
    have okv := ok.var
    obtain ⟨z, hz⟩ : ∃ z, s.nd m = z := ⟨_, rfl⟩
    rw [hz] at nd k0 k1 hgi r0 r1 okv
    obtain ⟨v, lo, hi⟩ := z
    dsimp only at nd k0 k1 hgi r0 r1 okv
    obtain ⟨vn, rfl⟩ := Int.eq_ofNat_of_zero_le okv.1
    have hvn : vn < 8 := by omega
    have hbit := shr_bit_all vn hvn row hrow
    have pk := pick_sure (vn : Int) 8 (by decide) (by decide)
    have e8 : (vn : Int) % 8 = vn := by omega
    rw [e8] at pk
    have hgv : g.getLsbD row = if row.testBit vn then g1.getLsbD row else g0.getLsbD row := by rw [hgi, bt_ite hrow, bt_var hvn hrow]
    have k8 : k < 8 := by omega
    cases hb : row.testBit vn
    · rw [hb] at hbit hgv
      have hbx : Box (∃ g', Den s lo g' ∧ g'.getLsbD row = f.getLsbD row ∧ s.rk lo + (k + 1) ≤ 8) := ⟨g0, k0, by rw [← hgb, hgv]; simp, by omega⟩
      clear hgv hb hgi k0 k1 d0 d1 ok r0 r1 hg hgb hrk hh G Ws h hd hz okv e8
      refine w_ fun d => ?_
      refine qq nd fun w2 hE2 hs2 => ?_
      refine w_ fun d => ?_
      refine qq (pk.quiet (w := w2)) fun w3 hE3 hs3 => ?_
      refine w_ fun d => ?_
      exact ⟨⟨k + 1, lo, by omega, eA rfl, eA rfl, hbx, ext_⟩, mA⟩
    · rw [hb] at hbit hgv
      have hbx : Box (∃ g', Den s hi g' ∧ g'.getLsbD row = f.getLsbD row ∧ s.rk hi + (k + 1) ≤ 8) := ⟨g1, k1, by rw [← hgb, hgv]; simp, by omega⟩
      clear hgv hb hgi k0 k1 d0 d1 ok r0 r1 hg hgb hrk hh G Ws h hd hz okv e8
      refine w_ fun d => ?_
      refine qq nd fun w2 hE2 hs2 => ?_
      refine w_ fun d => ?_
      refine qq (pk.quiet (w := w2)) fun w3 hE3 hs3 => ?_
      refine w_ fun d => ?_
      exact ⟨⟨k + 1, hi, by omega, eA rfl, eA rfl, hbx, ext_⟩, mA⟩
end
end Go.Proofs.Ytpeindhocndmnaa

/- Layer 7: all is reduced, and Swap turns no function (StoreReduced). -/
namespace Go.Proofs.Ytpeindhocndmnaa
open Go Go.Bx
set_option linter.unusedSimpArgs false
set_option linter.unusedVariables false
set_option maxRecDepth 100000
set_option maxHeartbeats 4000000
attribute [local irreducible] X XO XE XF XD XW thenX inX retX kN CallsR
section
variable {W w w' w1 w2 : World} {p ps pm : Nat} {s s' sM : Md} {n v x y lo hi : Int}
/-- What each node is in a row. -/
structure Bits (s : Md) (row : Nat) (fs : List Bool) : Prop where
  len : fs.length = s.all.length
  at_ : ∀ (i : Nat) (n : Int), s.all[i]? = some n → ∃ f, Den s n f ∧ fs[i]? = some (f.getLsbD row)
theorem bits_ex (G : s.Good []) (row : Nat) : ∃ fs, Bits s row fs := by
  have key : ∀ l : List Int, (∀ n ∈ l, s.has n = true) → ∃ fs : List Bool, fs.length = l.length ∧ ∀ (i : Nat) (n : Int), l[i]? = some n → ∃ f, Den s n f ∧ fs[i]? = some (f.getLsbD row) := by
    intro l
    induction l with
    | nil => intro _; exact ⟨[], rfl, fun i n h => by simp at h⟩
    | cons a l ih =>
      intro h
      obtain ⟨fs, h1, h2⟩ := ih fun n hn => h n (by simp [hn])
      obtain ⟨f, hf⟩ := G.has_den (.inr (.inr (h a (by simp))))
      refine ⟨f.getLsbD row :: fs, by simp [h1], fun i n hn => ?_⟩
      match i, hn with
      | 0, hn => cases hn; exact ⟨f, hf, rfl⟩
      | i + 1, hn => exact h2 i n (by simpa using hn)
  obtain ⟨fs, h1, h2⟩ := key s.all fun n hn => G.wf.mem_all.1 hn
  exact ⟨fs, h1, h2⟩
theorem pushB {w : World} {a : Option Addr} {cap : Nat} {l : List Bool} (h : SlC w 4 a cap (l.map .bool)) (hm : l.length ≤ 1000000000) (x : Bool) :
    ∃ a' cap' w', apR Try.prog 44 (.slice a l.length cap) (.slice (some ⟨w.heap.size, 0, none⟩) 1 1) (w.alloc (.cells #[.bool x] 4)) = .ok (.slice a' (l.length + 1) cap') w' ∧
      SlC w' 4 a' cap' ((l ++ [x]).map .bool) ∧ Chg (fun k => blk a = some k) w w' ∧ w.heap.size < w'.heap.size ∧ (∀ g, blk a' = some g → blk a = some g ∨ (w.heap.size ≤ g ∧ g < w'.heap.size)) := by
  obtain ⟨a2, c2, w2, hr, hS2, hC2, hs2, hB2⟩ := h.push (P := Try.prog) (news := [.bool x]) T44 T4 rfl rfl (by rw [List.length_map]; simp; omega) (by decide) (k := 1) rfl rfl
  have hl1 : (l.map Value.bool ++ [Value.bool x]).length = l.length + 1 := by simp
  rw [List.length_map, hl1] at hr
  exact ⟨a2, c2, w2, hr, by rw [List.map_append]; exact hS2, hC2, hs2, hB2⟩
theorem nd_ne (G : s.Good []) {i k : Nat} {n m : Int} (hn : s.all[i]? = some n) (hm : s.all[k]? = some m) (hk : k < i) : s.nd n ≠ s.nd m := by
  intro e
  have Ws := G.wf
  have h1 := Ws.mem_all.1 (List.mem_of_getElem? hn)
  have h2 := Ws.mem_all.1 (List.mem_of_getElem? hm)
  have h3 := G.one n m h1 (by simp) h2 (by simp) e
  subst h3
  have hi := (List.getElem?_eq_some_iff.1 hn)
  have hj := (List.getElem?_eq_some_iff.1 hm)
  have := (List.getElem_inj (h₀ := hi.1) (h₁ := hj.1) Md.nodup_all).1 (hi.2.trans hj.2.symm)
  omega
theorem aI_eq {x y : Operand} {l : List Int} {oc : Array Value} {w : World} (h : OrdC l oc) : binR Try.prog .eql 36 x y (.agg oc) (.agg oc) w = .ok (.bool true) w := by
  have hl := h.len
  have hq : Value.agg oc = .agg (l.map (Value.int .i64)).toArray := h.agg.symm
  rw [hq, binR_eqlA (by kernel_rfl) (equal_ints T36 T3 hl hl)]
  simp
theorem storeReduced_calls (most level row : Int) {l : List Dd07} {a : Option Addr} {c : Nat} (hI : Inp w 5 a (l.map encD)) (hok : ∀ d ∈ l, okD d) (hl : l.length ≤ 140737488351232) :
    CallsR Try.prog 4 #[.int .i64 most, .slice a l.length c, .int .i64 level, .int .i64 row] w fun r w' => r = .bool true ∧ Ext w w' := by
  by_cases hm : 0 ≤ most ∧ most ≤ 20000
  rotate_left
  · have b0 := begin_none most hm
    clear hI hok
    by_cases h0' : 0 ≤ most
    · have h1' : ¬ most ≤ 20000 := fun h => hm ⟨h0', h⟩
      clear hm
      refine en4 Try.func4 Try.results4 mixed [(44, [16])] ?_
      intro e0 h0 h1 h2 h3
      refine w_ fun d => ?_
      refine (up07_calls _).mono ?_
      rintro _ w1 ⟨rfl, hE1⟩
      have hE1w : Ext w w1 := Ext.trans (by exact ext_) hE1
      refine w_ fun d => ?_
      refine qq (b0.quiet (w := w1)) fun w2 hE2 hs2 => ?_
      refine w_ fun d => ?_
      exact ⟨rfl, ext_⟩
    · clear hm
      refine en4 Try.func4 Try.results4 mixed [(44, [16])] ?_
      intro e0 h0 h1 h2 h3
      refine w_ fun d => ?_
      refine (up07_calls _).mono ?_
      rintro _ w1 ⟨rfl, hE1⟩
      have hE1w : Ext w w1 := Ext.trans (by exact ext_) hE1
      refine w_ fun d => ?_
      refine qq (b0.quiet (w := w1)) fun w2 hE2 hs2 => ?_
      refine w_ fun d => ?_
      exact ⟨rfl, ext_⟩
  obtain ⟨h0', h1'⟩ := hm
  have b0 := begin_calls most h0' h1'
  have G0 : (Md.new most).Good [] := Md.Good.start h0' h1'
  by_cases hlen : l.length ≤ 150
  rotate_left
  · have hlen' : ¬ (l.length : Int) ≤ 150 := by omega
    clear hI hok G0 hlen
    refine en4 Try.func4 Try.results4 mixed [(44, [16])] ?_
    intro e0 h0 h1 h2 h3
    refine w_ fun d => ?_
    refine (up07_calls _).mono ?_
    rintro _ w1 ⟨rfl, hE1⟩
    have hE1w : Ext w w1 := Ext.trans (by exact ext_) hE1
    refine w_ fun d => ?_
    refine (b0 _).mono ?_
    rintro _ w2 ⟨ps, pm, rfl, hP⟩
    have hE2 := hP.world
    have hE2w := hE1w.trans hE2
    clear hP b0
    refine w_ fun d => ?_
    exact ⟨rfl, ext_⟩
  have hlen' : (l.length : Int) ≤ 150 := by omega
  refine en4 Try.func4 Try.results4 mixed [(44, [16])] ?_
  intro e0 h0 h1 h2 h3
  refine w_ fun d => ?_
  refine (up07_calls _).mono ?_
  rintro _ w1 ⟨rfl, hE1⟩
  have hE1w : Ext w w1 := Ext.trans (by exact ext_) hE1
  refine w_ fun d => ?_
  refine (b0 _).mono ?_
  rintro _ w2 ⟨ps, pm, rfl, hP⟩
  clear b0
  refine w_ fun d => ?_
  refine lo_ (fun _ e w' => ∃ (i : Nat) (s : Md), i ≤ l.length ∧ e 12 = .int .i64 i ∧ PrI w1 w' ps pm s s ∧ s.Good []) (fun e _ => l.length - nat (e 12)) ?_ ?_
  · exact ⟨0, _, by omega, eA rfl, hP, G0⟩
  rintro e u hf ⟨i, s, hi, h12, hPu, G⟩
  have hEu := hE1w.trans hPu.world
  by_cases hlt : i < l.length
  · obtain ⟨d, hd⟩ : ∃ d, l[i]? = some d := ⟨l[i], List.getElem?_eq_getElem hlt⟩
    obtain ⟨k1, k2, k3⟩ := hok d (List.mem_of_getElem? hd)
    obtain ⟨q, da, db, dc, r⟩ := d
    obtain ⟨g, o, ct, E, fz, rfl, hg, hsz, hex⟩ := deedAt (Inp.ext hI hEu) hd
    have hltl : (i : Int) < l.length := by omega
    have dd := do_calls (q := q) (raw := r) hPu G k1 k2 k3
    clear hI hok hd G0 hP k1 k2 k3 G
    refine w_ fun d => ?_
    refine dd.mono ?_
    rintro _ u2 ⟨s2, rfl, hP2, G2⟩
    refine w_ fun d => ?_
    exact ⟨⟨i + 1, s2, by omega, eA rfl, hP2, G2⟩, mA⟩
  obtain rfl : i = l.length := by omega
  clear hI hok G0 hP hlt hlen
  have Ws := G.wf
  obtain ⟨own, hIu, hou, hEu1⟩ : OneI w1 u ps s := by
    obtain ⟨a, b, g1, g2, g3, g4, g5, g6⟩ := hPu
    exact ⟨a, g1, g4, g6⟩
  clear hPu
  have hN := wf_N Ws
  have hal : s.all.length ≤ s.N.length := allTo_len (s := s) (k := s.N.length)
  have al := stAll_calls hIu Ws
  have od := stOrder_calls hIu
  obtain ⟨oc, hoc⟩ := ordC (ord := s.ord) Ws.ord.len
  rw [hoc.agg] at od
  have ho8 := hoc.len8
  have hoe := hoc.cell
  have hoz := hoc.size
  have hoa := hoc.all
  refine w_ fun d => ?_
  refine al.mono ?_
  rintro _ u1 ⟨aA, cA, rfl, hSA, hnA, hE2⟩
  refine w_ fun d => ?_
  refine qq od fun u2 hE3 hs3 => ?_
  have hEuu2 := hE2.trans hE3
  refine w_ fun d => ?_
  refine at_w fun u3 hu3 => ?_
  have hEu3 : Ext u u3 := by rw [hu3]; exact ext_
  have hIu3 := hIu.ext hEu3
  have hbo : u3.heap[u2.heap.size]? = some (.cells oc 36) := by rw [hu3]; exact hA rfl
  have hSA3 : SlC u3 3 aA cA (ints s.all) := by rw [hu3]; exact hSA.ext ext_
  have hub : u.heap.size ≤ u2.heap.size := hEuu2.size
  obtain ⟨bo, hbo'⟩ : ∃ bo, u2.heap.size = bo := ⟨_, rfl⟩
  rw [hbo'] at hbo hub
  rw [hbo']
  have hbol := lt_of_heap hbo
  clear hu3 hE2 hE3 hs3 hEuu2 al od hSA hbo'
  clear u1 u2
  refine lo_ (fun _ e w' => ∃ i : Nat, i ≤ s.all.length ∧ e 15 = .int .i64 i ∧ Ext u3 w') (fun e _ => s.all.length - nat (e 15)) ?_ ?_
  · exact ⟨0, by omega, eA rfl, ext_⟩
  rintro e v1 hf1 ⟨i, hi, h15, hEv⟩
  have hEuv := hEu3.trans hEv
  by_cases hlt : i < s.all.length
  · obtain ⟨n, hn⟩ : ∃ n, s.all[i]? = some n := ⟨s.all[i], List.getElem?_eq_getElem hlt⟩
    have hhas := Ws.mem_all.1 (List.mem_of_getElem? hn)
    have hl := Ws.lt hhas
    have ok := G.node n hhas (by simp)
    have n1 := stNode_calls (hIu.ext hEuv) Ws n (by omega)
    have hnd : s.node n = (s.nd n, true) := by unfold Md.node; rw [hhas]; rfl
    rw [hnd] at n1
    have hne := fun k m hm hk => nd_ne (i := i) (k := k) (n := n) (m := m) G hn hm hk
    obtain ⟨z, hz⟩ : ∃ z, s.nd n = z := ⟨_, rfl⟩
    have okv := ok.var
    have okn := ok.ne
    have okl := ok.lo
    have okh := ok.hi
    rw [hz] at n1 hne okv okn okl okh
    obtain ⟨vx, lo, hi'⟩ := z
    simp only [ndV] at n1
    dsimp only at okv okn okl okh
    obtain ⟨ov0, ov1⟩ := okv
    have hlh : (lo == hi') = false := by simpa using okn
    obtain ⟨g, cur, rfl, hg, hc, _, hat⟩ := (hSA3.ext hEv).at (i := i) (v := .int .i64 n) (by rw [List.getElem?_map, hn]; rfl)
    rw [List.length_map] at hc
    have hgl := lt_of_heap hg
    have hlti : (i : Int) < s.all.length := by omega
    have lvx := refLevel_oc hoc vx
    clear hnd hz ok okn hhas hl hn
    refine w_ fun d => ?_
    refine qq n1 fun v2 hE5 hs5 => ?_
    have hE5' := hEv.trans hE5
    refine w_ fun d => ?_
    refine at_w fun v3 hv3 => ?_
    have hE3v : Ext u3 v3 := by rw [hv3]; exact ext_
    have hb16 : v3.heap[v2.heap.size]? = some (.cells #[.int .i64 vx, .int .i64 lo, .int .i64 hi'] 39) := by rw [hv3]; exact hA rfl
    obtain ⟨b16, hb16e⟩ : ∃ b, v2.heap.size = b := ⟨_, rfl⟩
    rw [hb16e] at hb16
    rw [hb16e]
    have hb16l := lt_of_heap hb16
    have hg3 : v3.heap[g]? = some (.cells cur 3) := by rw [hv3]; exact (hE5.at hg) ▸ (by rw [Ext.heap (w := v2) ext_ _ (Nat.lt_of_lt_of_le hgl hE5.size)])
    clear hv3 hE5 hE5' hs5 n1 hg hgl hb16e
    clear v2
    have hgl3 := lt_of_heap hg3
    have hEu3v := hEu3.trans hE3v
    refine lo_ (fun _ e w' => ∃ k : Nat, k ≤ i ∧ e 18 = .int .i64 k ∧ Ext v3 w') (fun e _ => i - nat (e 18)) ?_ ?_
    · exact ⟨0, by omega, eA rfl, ext_⟩
    rintro e2 v4 hf2 ⟨k, hk, h18, hE4⟩
    have hb4 := hE4.at hb16
    have hb4l := lt_of_heap hb4
    have hg4 := hE4.at hg3
    have hg4l := lt_of_heap hg4
    have hEu4 := hEu3v.trans hE4
    by_cases hki : k < i
    · obtain ⟨m, hm⟩ : ∃ m, s.all[k]? = some m := ⟨s.all[k]'(by omega), List.getElem?_eq_getElem (by omega)⟩
      have hhas2 := Ws.mem_all.1 (List.mem_of_getElem? hm)
      have hl2 := Ws.lt hhas2
      have n2 := stNode_calls (hIu.ext hEu4) Ws m (by omega)
      have hnd2 : s.node m = (s.nd m, true) := by unfold Md.node; rw [hhas2]; rfl
      rw [hnd2] at n2
      have hne2 := hne k m hm hki
      obtain ⟨z2, hz2⟩ : ∃ z, s.nd m = z := ⟨_, rfl⟩
      rw [hz2] at n2 hne2
      obtain ⟨vy, lo2, hi2⟩ := z2
      simp only [ndV] at n2
      obtain ⟨g', cur', hge, hg', hc', _, hat2⟩ := (hSA3.ext (hE3v.trans hE4)).at (i := k) (v := .int .i64 m) (by rw [List.getElem?_map, hm]; rfl)
      cases hge
      rw [hg4] at hg'
      cases hg'
      have hltk : (k : Int) < s.all.length := by omega
      have hki' : (k : Int) < i := by omega
      clear hne hnd2 hz2 hhas2 hl2 hm hat
      refine w_ fun d => ?_
      refine qq n2 fun v5 hE6 hs6 => ?_
      refine w_ fun d => ?_
      exact ⟨⟨k + 1, by omega, eA rfl, ext_⟩, mA⟩
    obtain rfl : k = i := by omega
    clear hne
    refine w_ fun d => ?_
    refine at_w fun v5 hv5 => ?_
    have hE45 : Ext v4 v5 := by rw [hv5]; exact ext_
    have hb21 : v5.heap[v4.heap.size]? = some (.cells #[.int .i64 lo, .int .i64 hi'] 3) := by rw [hv5]; exact hA rfl
    have hb5 := hE45.at hb4
    obtain ⟨b21, hb21e⟩ : ∃ b, v4.heap.size = b := ⟨_, rfl⟩
    rw [hb21e] at hb21
    rw [hb21e]
    have hEu5 := hEu4.trans hE45
    have hE35 : Ext u3 v5 := hE3v.trans (hE4.trans hE45)
    have hbo5 := hE35.at hbo
    clear hv5 hb21e hE45 hE4 hEu4 hb4 hb4l hg4 hg4l hE3v hEu3v hg3 hgl3 hb16 hb16l hat
    refine lo_ (fun _ e w' => ∃ k : Nat, k ≤ 2 ∧ e 22 = .int .i64 k ∧ Ext v5 w') (fun e _ => 2 - nat (e 22)) ?_ ?_
    · exact ⟨0, by omega, eA rfl, ext_⟩
    rintro e3 v6 hf3 ⟨j, hj, h22, hE6⟩
    have hb6 := hE6.at hb5
    have hb6l := lt_of_heap hb6
    have h216 := hE6.at hb21
    have h216l := lt_of_heap h216
    have hbo6 := hE6.at hbo5
    have hbo6l := lt_of_heap hbo6
    have hEu6 := hEu5.trans hE6
    have hE36 := hE35.trans hE6
    by_cases hj2 : j < 2
    · obtain ⟨c', hcell, hbel⟩ : ∃ c' : Int, (#[.int .i64 lo, .int .i64 hi'] : Array Value)[j]? = some (.int .i64 c') ∧ s.below c' vx = true := by
        match j, hj2 with
        | 0, _ => exact ⟨lo, rfl, okl⟩
        | 1, _ => exact ⟨hi', rfl, okh⟩
      have hj2' : (j : Int) < 2 := by omega
      have hcb := (Md.below_lt Ws hbel).1
      have n3 := stNode_calls (hIu.ext hEu6) Ws c' (by omega)
      unfold Md.node at n3
      rcases Md.below_iff.1 hbel with e | e | ⟨e, e'⟩
      · subst e
        rw [Md.has_no (by decide)] at n3
        simp only [Bool.false_eq_true, ↓reduceIte, ndV] at n3
        clear hbel okl okh
        refine w_ fun d => ?_
        refine qq n3 fun v7 hE7 hs7 => ?_
        have hb7 := hE7.at h216
        have hb7l := lt_of_heap hb7
        refine w_ fun d => ?_
        exact ⟨⟨j + 1, by omega, eA rfl, ext_⟩, mA⟩
      · subst e
        rw [Md.has_no (by decide)] at n3
        simp only [Bool.false_eq_true, ↓reduceIte, ndV] at n3
        clear hbel okl okh
        refine w_ fun d => ?_
        refine qq n3 fun v7 hE7 hs7 => ?_
        have hb7 := hE7.at h216
        have hb7l := lt_of_heap hb7
        refine w_ fun d => ?_
        exact ⟨⟨j + 1, by omega, eA rfl, ext_⟩, mA⟩
      · rw [e] at n3
        simp only [↓reduceIte] at n3
        obtain ⟨z3, hz3⟩ : ∃ z, s.nd c' = z := ⟨_, rfl⟩
        rw [hz3] at n3 e'
        obtain ⟨vz, l3, h3'⟩ := z3
        simp only [ndV] at n3
        dsimp only at e'
        have lvz := refLevel_oc hoc vz
        have hle : ¬ lvl s.ord vz ≤ lvl s.ord vx := by omega
        clear hbel okl okh hz3 e'
        refine w_ fun d => ?_
        refine qq n3 fun v7 hE7 hs7 => ?_
        have hb7 := hE7.at h216
        have hb7l := lt_of_heap hb7
        have hb67 := hE7.at hb6
        have hb67l := lt_of_heap hb67
        have hbo7 := hE7.at hbo6
        have hbo7l := lt_of_heap hbo7
        refine w_ fun d => ?_
        intro v8 hE8 hs8
        refine w_ fun d => ?_
        exact ⟨⟨j + 1, by omega, eA rfl, ext_⟩, mA⟩
    obtain rfl : j = 2 := by omega
    refine w_ fun d => ?_
    exact ⟨⟨k + 1, by omega, eA rfl, hE36.trans ext_⟩, mA⟩
  obtain rfl : i = s.all.length := by omega
  have pkr := pick_sure row 256 (by decide) (by decide)
  have pkl := pick_sure level 7 (by decide) (by decide)
  obtain ⟨r, hr⟩ : ∃ r : Nat, row % 256 = (r : Int) := ⟨(row % 256).toNat, by have := Int.emod_nonneg row (show (256 : Int) ≠ 0 by decide); omega⟩
  have hr256 : r < 256 := by have := Int.emod_lt_of_pos row (show (0 : Int) < 256 by decide); omega
  have hl70 : 0 ≤ level % 7 := Int.emod_nonneg _ (by decide)
  have hl71 : level % 7 < 7 := Int.emod_lt_of_pos _ (by decide)
  rw [hr] at pkr
  generalize level % 7 = l7 at pkl hl70 hl71
  obtain ⟨fs, hfl, hfa⟩ := bits_ex G r
  clear hr
  have hown0 : ∀ g, u.heap.size ≤ g → own g = 0 := fun g hg => by
    cases ho : own g with
    | zero => rfl
    | succ q => have := hIu.lt g (by omega); omega
  refine w_ fun d => ?_
  refine qq (pkr.quiet (w := v1)) fun v2 hE2 hs2 => ?_
  have hE32 := hEv.trans hE2
  refine w_ fun d => ?_
  have hEu2 := hEu3.trans hE32
  refine lo_ (fun _ e w' => ∃ (i : Nat) (a' : Option Addr) (cap' : Nat) (m : List Bool), i ≤ s.all.length ∧ e 26 = .int .i64 i ∧ e 25 = .slice a' m.length cap' ∧ SlC w' 4 a' cap' (m.map .bool) ∧ (∀ g, blk a' = some g → v2.heap.size ≤ g) ∧ Box (m = fs.take i) ∧ Ext v2 w') (fun e _ => s.all.length - nat (e 26)) ?_ ?_
  · exact ⟨0, none, 0, [], by omega, eA rfl, eA rfl, SlC.nil _ _, (fun g h => by cases h), ⟨rfl⟩, ext_⟩
  rintro e4 v3 hf4 ⟨i, a', cap', m, hi4, h26, h25, hSm, hnm, ⟨hm⟩, hE3⟩
  have hml : m.length ≤ i := by rw [hm, List.length_take]; omega
  have hE33 := hE32.trans hE3
  by_cases hlt4 : i < s.all.length
  · obtain ⟨n, hn⟩ : ∃ n, s.all[i]? = some n := ⟨s.all[i], List.getElem?_eq_getElem hlt4⟩
    obtain ⟨f, hdf, hfi⟩ := hfa i n hn
    have fn := stFun_calls (hIu.ext (hEu3.trans hE33)) G hdf hr256
    generalize f.getLsbD r = bt at fn hfi
    have hm2 : Box (m ++ [bt] = fs.take (i + 1)) := ⟨by rw [List.take_add_one, hfi, hm]; rfl⟩
    obtain ⟨g, cur, rfl, hg, hc, _, hat⟩ := (hSA3.ext hE33).at (i := i) (v := .int .i64 n) (by rw [List.getElem?_map, hn]; rfl)
    rw [List.length_map] at hc
    have hgl := lt_of_heap hg
    have hlti : (i : Int) < s.all.length := by omega
    clear hm hdf hfi hn hfa
    refine w_ fun d => ?_
    refine qq fn fun v4 hE4 hs4 => ?_
    obtain ⟨a3, c3, w3, hrr, hS3, hC3, hs3, hB3⟩ := pushB (hSm.ext hE4) (by omega) bt
    have hEz : Ext v2 w3 := hC3.toExt (hE3.trans hE4) fun g hg hb => by have := hnm g hb; omega
    have hn3 : ∀ g, blk a3 = some g → v2.heap.size ≤ g := fun g hg => by
      have := (hE3.trans hE4).size
      rcases hB3 g hg with h | ⟨h, _⟩
      · exact hnm g h
      · omega
    clear hSm hnm hC3 hB3
    refine w_ fun d => ?_
    exact ⟨⟨i + 1, a3, c3, m ++ [bt], by omega, eA rfl, by rw [List.length_append]; exact eA rfl, hS3, hn3, hm2, hEz⟩, mA⟩
  obtain rfl : i = s.all.length := by omega
  rw [← hfl, List.take_length] at hm
  subst hm
  have sw := fun u' (hE : Ext u u') => stSwap_calls (hIu.ext hE) G l7
  obtain ⟨hsw, hso, hsn⟩ := G.swap l7
  have hsr := swap_rng (s := s) (n := l7)
  have hs2 : (s.swap l7).1 = 0 ∨ (s.swap l7).1 = 2 := by
    unfold Md.swap
    rw [if_neg (by omega)]
    split
    · exact .inr rfl
    · exact .inl rfl
  generalize hsc : (s.swap l7).1 = c0 at *
  generalize (s.swap l7).2 = s2 at *
  have cc := code_sure c0 hsr.1 hsr.2
  refine w_ fun d => ?_
  refine qq (pkl.quiet (w := v3)) fun v4 hE4 hs4 => ?_
  have hE34 := hE33.trans hE4
  have hEu4 := hEu3.trans hE34
  have hSA4 := hSA3.ext hE34
  have hSm4 := hSm.ext hE4
  have hbo4 := hE34.at hbo
  have hbol4 := lt_of_heap hbo4
  refine w_ fun d => ?_
  refine (sw _ hEu4).mono ?_
  rintro _ v5 ⟨rfl, own5, hI5, ho5, hC5⟩
  have hSw : Sw own v4 own5 v5 := ⟨ho5, hC5⟩
  have hW5 : Ext w v5 := by
    refine Ext.trans hE1w (hC5.toExt (hEu1.trans hEu4) fun k hk hf => ?_)
    have := hou k hf; omega
  have hA0 : ∀ g, blk aA = some g → own g = 0 := fun g hg => hown0 g (hnA g hg)
  have hm0 : ∀ g, blk a' = some g → own g = 0 := fun g hg => hown0 g (by have := hnm g hg; have := hEu2.size; omega)
  have hSA5 : SlC v5 3 aA cA (ints s.all) := hSA4.keep fun g hg => (hSw.out (hSA4.lt hg) (hA0 g hg)).2
  have hSm5 : SlC v5 4 a' cap' (m.map .bool) := hSm4.keep fun g hg => (hSw.out (hSm4.lt hg) (hm0 g hg)).2
  have hbo5 := ((hSw.out hbol4 (hown0 bo hub)).2).trans hbo4
  have G5 := hsw.good
  have Ws5 := G5.wf
  have hN5 := wf_N Ws5
  clear sw hSw hC5 ho5 hSA4 hSm4 hbo4 hbol4 hSm hnm hSA3 hbo hbol hIu hm0 hA0 hown0 hE4 hs4 hE34 hEu4 hE3 hE33 hE2 hE32 hEu2 hEv hEu3 hou hnA hEu1 hEu pkr pkl
  refine w_ fun d => ?_
  refine lo_ (fun _ e w' => ∃ i : Nat, i ≤ s.all.length ∧ e 28 = .int .i64 i ∧ Ext v5 w') (fun e _ => s.all.length - nat (e 28)) ?_ ?_
  · exact ⟨0, by omega, eA rfl, ext_⟩
  rintro e5 v6 hf5 ⟨i, hi5, h28, hE6⟩
  by_cases hlt5 : i < s.all.length
  · obtain ⟨n, hn⟩ : ∃ n, s.all[i]? = some n := ⟨s.all[i], List.getElem?_eq_getElem hlt5⟩
    obtain ⟨f, hdf, hfi⟩ := hfa i n hn
    have hhas := hsw.has n (Ws.mem_all.1 (List.mem_of_getElem? hn))
    have hl5 := Ws5.lt hhas
    have n1 := stNode_calls (hI5.ext hE6) Ws5 n (by omega)
    have hnd : s2.node n = (s2.nd n, true) := by unfold Md.node; rw [hhas]; rfl
    rw [hnd] at n1
    obtain ⟨z, hz⟩ : ∃ z, s2.nd n = z := ⟨_, rfl⟩
    rw [hz] at n1
    obtain ⟨va, vb, vc⟩ := z
    simp only [ndV] at n1
    have fn := stFun_calls (hI5.ext hE6) G5 (hsw.den n f hdf) hr256
    generalize f.getLsbD r = bt at fn hfi
    obtain ⟨g, cur, rfl, hg, hc, _, hat⟩ := (hSA5.ext hE6).at (i := i) (v := .int .i64 n) (by rw [List.getElem?_map, hn]; rfl)
    obtain ⟨g2, cur2, rfl, hg2, hc2, _, hat2⟩ := (hSm5.ext hE6).at (i := i) (v := .bool bt) (by rw [List.getElem?_map, hfi]; rfl)
    rw [List.length_map] at hc hc2
    have hgl := lt_of_heap hg
    have hgl2 := lt_of_heap hg2
    have hlti : (i : Int) < s.all.length := by omega
    have hltm : (i : Int) < m.length := by omega
    clear hdf hfi hn hfa hz hnd hhas hl5
    refine w_ fun d => ?_
    refine qq n1 fun v7 hE7 hs7 => ?_
    have hg7 := hE7.at hg
    have hg27 := hE7.at hg2
    have hgl7 := lt_of_heap hg7
    have hgl27 := lt_of_heap hg27
    have fn7 := fn.at hE7
    refine w_ fun d => ?_
    refine at_w fun v8 hv8 => ?_
    have hE78 : Ext v7 v8 := by rw [hv8]; exact ext_
    have hg8 := hE78.at hg7
    have hg28 := hE78.at hg27
    have hgl8 := lt_of_heap hg8
    have hgl28 := lt_of_heap hg28
    have fn8 := fn7.at hE78
    clear hv8 fn7 fn hg7 hg27 hgl7 hgl27 hg hg2 hgl hgl2
    refine q_ fun v9 hE9 hs9 => ?_
    refine w_ fun d => ?_
    exact ⟨⟨i + 1, by omega, eA rfl, ext_⟩, mA⟩
  obtain rfl : i = s.all.length := by omega
  have hW6 := hW5.trans hE6
  rcases hs2 with rfl | rfl
  · rw [errV0] at hf5
    refine w_ fun d => ?_
    exact ⟨rfl, ext_⟩
  · have hss := hsn (by decide)
    subst hss
    rw [errV2] at hf5 cc
    have od := stOrder_calls (hI5.ext hE6)
    rw [hoc.agg] at od
    have hbo6 := hE6.at hbo5
    have hbol6 := lt_of_heap hbo6
    have eq := fun (x y : Operand) (w : World) => aI_eq (x := x) (y := y) (w := w) hoc
    refine w_ fun d => ?_
    refine s_draw (XD_ext ?_)
    refine de_ ?_
    refine xe2w fun v7 hE7 => ?_
    refine krA ?_
    refine ke ?_
    refine (stAll_calls ((hI5.ext hE6).ext hE7) Ws).mono ?_
    rintro _ v8 ⟨aZ, cZ, rfl, hSZ, _, hE8⟩
    have hSA8 := ((hSA5.ext hE6).ext hE7).ext hE8
    have iq := ints_same (c := cZ) (d := cA) hSZ.inp hSA8.inp (by omega)
    have hW8 := (hW6.trans hE7).trans hE8
    refine de_ ?_
    refine xn_ fun v9 hE9 hs9 => ?_
    refine w_ fun d => ?_
    exact ⟨rfl, ext_⟩
end
end Go.Proofs.Ytpeindhocndmnaa

/- Layer 7: all is reduced (StoreReduced), as given: for every input. -/
namespace Go.Proofs.Ytpeindhocndmnaa
open Go Go.Bx Go.ChangeShapes Go.WideShapes Go.ChangeAt Go.RowKit
set_option linter.unusedVariables false
set_option maxRecDepth 100000
theorem storeReduced_lifted (os : Os) (started : os.Started) (H : Type) (enc : TypeId × Value → H) :
    ReturnsInHanded {} Try.checked os 4 .any (Rows.storeReducedSpec.pre6 enc Try.prog Try.f4 Rows.storeReducedRow.domain false) (Rows.storeReducedSpec.post enc Try.prog Try.f4 false true false false) := by
  refine returnsInHanded_of_change_sized (C := Try.checked) own started (by kernel_rfl) Try.func4
    (ChangeSpec.witness6 (enc := enc) (C := Try.checked) false ⟨#[], #[.int .i64 0, .slice none 0 0, .int .i64 0, .int .i64 0], []⟩ 8 (by kernel_rfl) (by kernel_rfl) (by kernel_rfl) (by kernel_rfl)) ?_
  intro W base args ds gs before hval0 hW hcnd hsz0 _
  have hsz : (DataW.weightsEach Try.prog (Try.f4.params.toList ++ Rows.storeReducedSpec.plain.varTypes Try.prog) (ds ++ gs)).all (· ≤ reachBytes) = true := hsz0
  have hval : ∀ (j : Nat) t v, Try.f4.params[j]? = some t → args[j]? = some v → Value.okWide Try.prog W .any base t v := hval0
  have hW' := hW
  obtain ⟨p, q, hA0, hV, rfl, hfz, hnd⟩ := hW
  have hA : DataW.TrodAll enc Try.prog W 0 (fun _ => true) true Try.f4.params.toList args.toList ds p := hA0
  rw [Try.params4] at hA hval hsz
  obtain ⟨v0, vs0, d0, ds0, p0, q0, hargs, rfl, rfl, h0, r0⟩ := trodAll_cons hA
  obtain ⟨v1, vs1, d1, ds1, p1, q1, rfl, rfl, rfl, h1, r1⟩ := trodAll_cons r0
  obtain ⟨v2, vs2, d2, ds2, p2, q2, rfl, rfl, rfl, h2, r2⟩ := trodAll_cons r1
  obtain ⟨v3, vs3, d3, ds3, p3, q3, rfl, rfl, rfl, h3, r3⟩ := trodAll_cons r2
  obtain ⟨rfl, rfl, rfl⟩ := trodAll_nil r3
  obtain rfl : args = #[v0, v1, v2, v3] := by cases args; simp_all
  obtain ⟨rfl, rfl⟩ := trodVars_none hV
  obtain ⟨a0, rfl, rfl, rfl, w0⟩ := open_int Try.underlying3 (hval 0 _ v0 rfl rfl) h0
  obtain ⟨a1, b1, c1, rfl, I1, w1, l1, m1⟩ := open_rows Try.underlying22 (s := 5) (by kernel_rfl) (by decide) dec_deed07 (hval 1 _ v1 rfl rfl) h1
  have S1 := sl_sized Try.underlying22 (Nat.le_of_ble_eq_true (by kernel_rfl)) hsz 1 rfl rfl h1
  obtain ⟨a2, rfl, rfl, rfl, w2⟩ := open_int Try.underlying3 (hval 2 _ v2 rfl rfl) h2
  obtain ⟨a3, rfl, rfl, rfl, w3⟩ := open_int Try.underlying3 (hval 3 _ v3 rfl rfl) h3
  refine (storeReduced_calls a0 a2 a3 I1 w1 S1).mono fun v W' ⟨hv, hE⟩ => ?_
  subst hv
  exact law_post laidOut (by kernel_rfl) rfl rfl Try.underlying4 hW' ⟨rfl, rfl, rfl⟩ hE
theorem storeReduced_over : Rows.storeReducedRow.holds Try.pinned (OpenSpec.ofChange Rows.storeReducedSpec) :=
  OpenClaim.holds_of_wide 4 Try.f4 rfl rfl rfl rfl rfl rfl rfl ⟨rfl, rfl, rfl, rfl, rfl⟩ rfl rfl rfl rfl rfl (by kernel_rfl) Try.func4 (by kernel_rfl)
    (of_decide_eq_true (by kernel_rfl)) (by unfold Func.isWrapper; first | (rw [if_pos (by decide +kernel)]; kernel_rfl) | (rw [if_neg (by decide +kernel)]; exact ⟨rfl, rfl⟩))
    (fun os started H enc _ => storeReduced_lifted os started H enc)
theorem storeReduced_holds : Rows.StoreReducedSaid := storeReduced_over
#print axioms storeReduced_holds
end Go.Proofs.Ytpeindhocndmnaa
