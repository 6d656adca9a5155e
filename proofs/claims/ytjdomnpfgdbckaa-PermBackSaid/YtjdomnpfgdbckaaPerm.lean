/- Walks of layer 6's functions and of their reference. -/
import Derived.Test.YtjdomnpfgdbckaaTy
namespace Go.Proofs.Ytjdomnpfgdbckaa
open Go Go.Bx
set_option linter.unusedSimpArgs false
set_option linter.unusedVariables false
set_option maxRecDepth 100000

/-- The first place; -1: none. -/
def lvl (l : List Int) (v : Int) : Int := match l.idxOf? v with | some i => (i : Int) | none => -1
theorem lvl_first {l : List Int} {v : Int} {k : Nat} (h : l[k]? = some v) (hno : ∀ i, i < k → l[i]? ≠ some v) : lvl l v = k := by
  have hk : k < l.length := (List.getElem?_eq_some_iff.1 h).1
  unfold lvl
  have : l.idxOf? v = some k := by
    unfold List.idxOf?
    rw [List.findIdx?_eq_some_iff_getElem]
    refine ⟨hk, by simpa using (List.getElem?_eq_some_iff.1 h).2, fun j hj => ?_⟩
    have := hno j hj
    rw [List.getElem?_eq_getElem (by omega)] at this
    simpa using this
  rw [this]
theorem lvl_none {l : List Int} {v : Int} (hno : ∀ i, i < l.length → l[i]? ≠ some v) : lvl l v = -1 := by
  unfold lvl
  have : l.idxOf? v = none := by
    unfold List.idxOf?
    rw [List.findIdx?_eq_none_iff]
    intro x hx
    obtain ⟨i, hi, rfl⟩ := List.mem_iff_getElem.1 hx
    have := hno i hi
    rw [List.getElem?_eq_getElem hi] at this
    simpa using this
  rw [this]

theorem level_calls (l : List Int) (hl : l.length = 8) (v : Int) (w : World) :
    CallsR Try.prog 40 #[aI l, .int .i64 v] w fun r w' => r = .int .i64 (lvl l v) ∧ Ext w w' := by
  have hsz : ((l.map (Value.int .i64)).toArray).size = 8 := by simp [hl]
  refine calls2 (bs := []) Try.func40 rfl mixed (by kernel_rfl) ?_
  intro e0 h0 h1
  simp only [comp, gop, gslot, dops, bigOf, setK, kindOf, List.lookup, List.map_cons, List.map_nil, Option.bind_some, List.getElem?_toArray, List.getElem?_cons_zero, List.getElem?_cons_succ, Option.getD_some, Option.getD_none, List.contains_nil, List.contains_cons, Bool.false_eq_true, ↓reduceIte, Nat.reduceAdd, Nat.reduceBEq, Bool.or_false]
  refine X_seq fun K hK => ?_
  simp only [X_reg, thenX_normal]
  repeat (first | (refine xo (by simp (disch := first | assumption | omega | (with_unfolding_all exact id rfl) | fail) only [vR_ok, uR_ok, ev_tmp, ev_const, ev_func, Env.put_some, Env.put_none, Env.set_app, Nat.reduceEqDiff, ↓reduceIte, rG_move, rG_assign, opt1_some, ext_all, dec_t, dec_f, beq_t, beq_f, bne_t, bne_f, wrap_i64, wrap_u64, Int.toNat_natCast, Nat.mul_one, Nat.zero_add, Nat.add_zero, List.map_toArray, List.map_cons, List.map_nil, rG_binOp, binR_add, resM_1, rG_box, Value.cells, rG_load, ld60, ldN_some, rdN_cells, rG_index, ix60, binR_eql, binR_lss, h0, aI] <;> rfl) ?_; first | with_reducible refine kv ?_ | with_reducible refine ks ?_ | with_reducible refine ke ?_) | (refine xo_t ?_ ?_; focus (simp (disch := first | assumption | omega | (with_unfolding_all exact id rfl) | fail) only [Env.put_some, Env.put_none, Env.set_app, Nat.reduceEqDiff, ↓reduceIte, Bool.not_true, Bool.not_false, h0, aI]; done)) | (refine xo_f ?_ ?_; focus (simp (disch := first | assumption | omega | (with_unfolding_all exact id rfl) | fail) only [Env.put_some, Env.put_none, Env.set_app, Nat.reduceEqDiff, ↓reduceIte, Bool.not_true, Bool.not_false, h0, aI]; done)) | (refine xo_u ?_ ?_; focus (simp (disch := first | assumption | omega | (with_unfolding_all exact id rfl) | fail) only [Env.put_some, Env.put_none, Env.set_app, Nat.reduceEqDiff, ↓reduceIte, Bool.not_true, Bool.not_false, h0, aI]; done)))
  refine xo_nil ?_
  refine hK _ _ ?_
  clear hK K
  refine X_cut (fun e w' => (∀ i, i < 8 → l[i]? ≠ some v) ∧ Ext w w') ?_ ?_
  · refine X_seq fun K hK => ?_
    simp only [X_reg, thenX_normal]
    repeat (first | (refine xo (by simp (disch := first | assumption | omega | (with_unfolding_all exact id rfl) | fail) only [vR_ok, uR_ok, ev_tmp, ev_const, ev_func, Env.put_some, Env.put_none, Env.set_app, Nat.reduceEqDiff, ↓reduceIte, rG_move, rG_assign, opt1_some, ext_all, dec_t, dec_f, beq_t, beq_f, bne_t, bne_f, wrap_i64, wrap_u64, Int.toNat_natCast, Nat.mul_one, Nat.zero_add, Nat.add_zero, List.map_toArray, List.map_cons, List.map_nil, rG_binOp, binR_add, resM_1, rG_box, Value.cells, rG_load, ld60, ldN_some, rdN_cells, rG_index, ix60, binR_eql, binR_lss, alloc_new] <;> rfl) ?_; first | with_reducible refine kv ?_ | with_reducible refine ks ?_ | with_reducible refine ke ?_) | (refine xo_t ?_ ?_; focus (simp (disch := first | assumption | omega | (with_unfolding_all exact id rfl) | fail) only [Env.put_some, Env.put_none, Env.set_app, Nat.reduceEqDiff, ↓reduceIte, Bool.not_true, Bool.not_false, alloc_new]; done)) | (refine xo_f ?_ ?_; focus (simp (disch := first | assumption | omega | (with_unfolding_all exact id rfl) | fail) only [Env.put_some, Env.put_none, Env.set_app, Nat.reduceEqDiff, ↓reduceIte, Bool.not_true, Bool.not_false, alloc_new]; done)) | (refine xo_u ?_ ?_; focus (simp (disch := first | assumption | omega | (with_unfolding_all exact id rfl) | fail) only [Env.put_some, Env.put_none, Env.set_app, Nat.reduceEqDiff, ↓reduceIte, Bool.not_true, Bool.not_false, alloc_new]; done)))
    refine xo_nil ?_
    refine hK _ _ ?_
    clear hK K
    simp only [X_skip, X_exit, X_ret, X_block, thenX_normal, thenX_ret, thenX_exit, inX_normal, inX_ret, inX_exit, ↓reduceIte, Nat.reduceEqDiff]
    refine X_loop (fun e w' => ∃ k : Nat, k ≤ 8 ∧ e 8 = .int .i64 k ∧ e 7 = aI l ∧ e 1 = .int .i64 v ∧ (∀ i, i < k → l[i]? ≠ some v) ∧ Ext w w') (fun e _ => 8 - nat (e 8)) ?_ ?_
    · refine ⟨0, by omega, ?_, ?_, ?_, fun i hi => by omega, (Ext.refl w).alloc _⟩ <;> (try simp (disch := first | assumption | omega | (with_unfolding_all exact id rfl) | fail) only [Env.put_some, Env.put_none, Env.set_app, Nat.reduceEqDiff, ↓reduceIte, nat_int, Int.toNat_natCast, wrap_i64, aI, h1])
      rfl
    · clear h0 h1
      rintro e w1 ⟨k, hk, h8, h7, h1, hno, hext⟩
      by_cases hlt : k < 8
      · obtain ⟨x, hx⟩ : ∃ x, l[k]? = some x := ⟨l[k], List.getElem?_eq_getElem (by omega)⟩
        refine X_seq fun K hK => ?_
        simp only [X_reg, thenX_normal]
        repeat (first | (refine xo (by simp (disch := first | assumption | omega | (with_unfolding_all exact id rfl) | fail) only [vR_ok, uR_ok, ev_tmp, ev_const, ev_func, Env.put_some, Env.put_none, Env.set_app, Nat.reduceEqDiff, ↓reduceIte, rG_move, rG_assign, opt1_some, ext_all, dec_t, dec_f, beq_t, beq_f, bne_t, bne_f, wrap_i64, wrap_u64, Int.toNat_natCast, Nat.mul_one, Nat.zero_add, Nat.add_zero, List.map_toArray, List.map_cons, List.map_nil, rG_binOp, binR_add, resM_1, rG_box, Value.cells, rG_load, ld60, ldN_some, rdN_cells, rG_index, ix60, binR_eql, binR_lss, h8] <;> rfl) ?_; first | with_reducible refine kv ?_ | with_reducible refine ks ?_ | with_reducible refine ke ?_) | (refine xo_t ?_ ?_; focus (simp (disch := first | assumption | omega | (with_unfolding_all exact id rfl) | fail) only [Env.put_some, Env.put_none, Env.set_app, Nat.reduceEqDiff, ↓reduceIte, Bool.not_true, Bool.not_false, h8]; done)) | (refine xo_f ?_ ?_; focus (simp (disch := first | assumption | omega | (with_unfolding_all exact id rfl) | fail) only [Env.put_some, Env.put_none, Env.set_app, Nat.reduceEqDiff, ↓reduceIte, Bool.not_true, Bool.not_false, h8]; done)) | (refine xo_u ?_ ?_; focus (simp (disch := first | assumption | omega | (with_unfolding_all exact id rfl) | fail) only [Env.put_some, Env.put_none, Env.set_app, Nat.reduceEqDiff, ↓reduceIte, Bool.not_true, Bool.not_false, h8]; done)))
        refine xo_nil ?_
        refine hK _ _ ?_
        clear hK K
        refine X_seq fun K hK => ?_
        refine X_if_t (by simp (disch := first | assumption | omega) only [ev_tmp, Env.put_some, Env.put_none, Env.set_app, Nat.reduceEqDiff, ↓reduceIte, beq_t, dec_t, beq_self_eq_true]) ?_
        simp only [X_skip, X_exit, X_ret, X_block, thenX_normal, thenX_ret, thenX_exit, inX_normal, inX_ret, inX_exit, ↓reduceIte, Nat.reduceEqDiff]
        (try refine xo_nil ?_)
        refine hK _ _ ?_
        clear hK K
        refine X_seq fun K hK => ?_
        simp only [X_skip, X_exit, X_ret, X_block, thenX_normal, thenX_ret, thenX_exit, inX_normal, inX_ret, inX_exit, ↓reduceIte, Nat.reduceEqDiff]
        refine X_seq fun K hK => ?_
        simp only [X_reg, thenX_normal]
        repeat (first | (refine xo (by simp (disch := first | assumption | omega | (with_unfolding_all exact id rfl) | fail) only [vR_ok, uR_ok, ev_tmp, ev_const, ev_func, Env.put_some, Env.put_none, Env.set_app, Nat.reduceEqDiff, ↓reduceIte, rG_move, rG_assign, opt1_some, ext_all, dec_t, dec_f, beq_t, beq_f, bne_t, bne_f, wrap_i64, wrap_u64, Int.toNat_natCast, Nat.mul_one, Nat.zero_add, Nat.add_zero, List.map_toArray, List.map_cons, List.map_nil, rG_binOp, binR_add, resM_1, rG_box, Value.cells, rG_load, ld60, ldN_some, rdN_cells, rG_index, ix60, binR_eql, binR_lss, h8, h7, aI, List.getElem?_toArray, List.getElem?_map, hx, Option.map_some] <;> rfl) ?_; first | with_reducible refine kv ?_ | with_reducible refine ks ?_ | with_reducible refine ke ?_) | (refine xo_t ?_ ?_; focus (simp (disch := first | assumption | omega | (with_unfolding_all exact id rfl) | fail) only [Env.put_some, Env.put_none, Env.set_app, Nat.reduceEqDiff, ↓reduceIte, Bool.not_true, Bool.not_false, h8, h7, aI, List.getElem?_toArray, List.getElem?_map, hx, Option.map_some]; done)) | (refine xo_f ?_ ?_; focus (simp (disch := first | assumption | omega | (with_unfolding_all exact id rfl) | fail) only [Env.put_some, Env.put_none, Env.set_app, Nat.reduceEqDiff, ↓reduceIte, Bool.not_true, Bool.not_false, h8, h7, aI, List.getElem?_toArray, List.getElem?_map, hx, Option.map_some]; done)) | (refine xo_u ?_ ?_; focus (simp (disch := first | assumption | omega | (with_unfolding_all exact id rfl) | fail) only [Env.put_some, Env.put_none, Env.set_app, Nat.reduceEqDiff, ↓reduceIte, Bool.not_true, Bool.not_false, h8, h7, aI, List.getElem?_toArray, List.getElem?_map, hx, Option.map_some]; done)))
        refine xo_nil ?_
        refine hK _ _ ?_
        clear hK K
        by_cases hxv : x = v
        · refine X_seq fun K hK => ?_
          simp only [X_reg, thenX_normal]
          repeat (first | (refine xo (by simp (disch := first | assumption | omega | (with_unfolding_all exact id rfl) | fail) only [vR_ok, uR_ok, ev_tmp, ev_const, ev_func, Env.put_some, Env.put_none, Env.set_app, Nat.reduceEqDiff, ↓reduceIte, rG_move, rG_assign, opt1_some, ext_all, dec_t, dec_f, beq_t, beq_f, bne_t, bne_f, wrap_i64, wrap_u64, Int.toNat_natCast, Nat.mul_one, Nat.zero_add, Nat.add_zero, List.map_toArray, List.map_cons, List.map_nil, rG_binOp, binR_add, resM_1, rG_box, Value.cells, rG_load, ld60, ldN_some, rdN_cells, rG_index, ix60, binR_eql, binR_lss, h1] <;> rfl) ?_; first | with_reducible refine kv ?_ | with_reducible refine ks ?_ | with_reducible refine ke ?_) | (refine xo_t ?_ ?_; focus (simp (disch := first | assumption | omega | (with_unfolding_all exact id rfl) | fail) only [Env.put_some, Env.put_none, Env.set_app, Nat.reduceEqDiff, ↓reduceIte, Bool.not_true, Bool.not_false, h1]; done)) | (refine xo_f ?_ ?_; focus (simp (disch := first | assumption | omega | (with_unfolding_all exact id rfl) | fail) only [Env.put_some, Env.put_none, Env.set_app, Nat.reduceEqDiff, ↓reduceIte, Bool.not_true, Bool.not_false, h1]; done)) | (refine xo_u ?_ ?_; focus (simp (disch := first | assumption | omega | (with_unfolding_all exact id rfl) | fail) only [Env.put_some, Env.put_none, Env.set_app, Nat.reduceEqDiff, ↓reduceIte, Bool.not_true, Bool.not_false, h1]; done)))
          refine xo_nil ?_
          refine hK _ _ ?_
          clear hK K
          refine X_if_t (by simp (disch := first | assumption | omega) only [ev_tmp, Env.put_some, Env.put_none, Env.set_app, Nat.reduceEqDiff, ↓reduceIte, beq_t, dec_t, beq_self_eq_true]) ?_
          refine X_seq fun K hK => ?_
          simp only [X_reg, thenX_normal]
          repeat (first | (refine xo (by simp (disch := first | assumption | omega | (with_unfolding_all exact id rfl) | fail) only [vR_ok, uR_ok, ev_tmp, ev_const, ev_func, Env.put_some, Env.put_none, Env.set_app, Nat.reduceEqDiff, ↓reduceIte, rG_move, rG_assign, opt1_some, ext_all, dec_t, dec_f, beq_t, beq_f, bne_t, bne_f, wrap_i64, wrap_u64, Int.toNat_natCast, Nat.mul_one, Nat.zero_add, Nat.add_zero, List.map_toArray, List.map_cons, List.map_nil, rG_binOp, binR_add, resM_1, rG_box, Value.cells, rG_load, ld60, ldN_some, rdN_cells, rG_index, ix60, binR_eql, binR_lss] <;> rfl) ?_; first | with_reducible refine kv ?_ | with_reducible refine ks ?_ | with_reducible refine ke ?_) | (refine xo_t ?_ ?_; focus (simp (disch := first | assumption | omega | (with_unfolding_all exact id rfl) | fail) only [Env.put_some, Env.put_none, Env.set_app, Nat.reduceEqDiff, ↓reduceIte, Bool.not_true, Bool.not_false]; done)) | (refine xo_f ?_ ?_; focus (simp (disch := first | assumption | omega | (with_unfolding_all exact id rfl) | fail) only [Env.put_some, Env.put_none, Env.set_app, Nat.reduceEqDiff, ↓reduceIte, Bool.not_true, Bool.not_false]; done)) | (refine xo_u ?_ ?_; focus (simp (disch := first | assumption | omega | (with_unfolding_all exact id rfl) | fail) only [Env.put_some, Env.put_none, Env.set_app, Nat.reduceEqDiff, ↓reduceIte, Bool.not_true, Bool.not_false]; done)))
          refine xo_nil ?_
          refine hK _ _ ?_
          clear hK K
          simp only [X_skip, X_exit, X_ret, X_block, thenX_normal, thenX_ret, thenX_exit, inX_normal, inX_ret, inX_exit, ↓reduceIte, Nat.reduceEqDiff]
          simp (disch := first | assumption | omega | (with_unfolding_all exact id rfl) | fail) only [X_ret, thenX_ret, inX_ret, retX_ret, retX_normal, Try.results40, resM_0, resM_1, resM_2, resM_3, resM_4, Env.put_some, Env.put_none, Env.set_app, Nat.reduceEqDiff, ↓reduceIte]
          exact ⟨_, rfl, by rw [lvl_first (hxv ▸ hx) hno], hext⟩
        · refine X_seq fun K hK => ?_
          simp only [X_reg, thenX_normal]
          repeat (first | (refine xo (by simp (disch := first | assumption | omega | (with_unfolding_all exact id rfl) | fail) only [vR_ok, uR_ok, ev_tmp, ev_const, ev_func, Env.put_some, Env.put_none, Env.set_app, Nat.reduceEqDiff, ↓reduceIte, rG_move, rG_assign, opt1_some, ext_all, dec_t, dec_f, beq_t, beq_f, bne_t, bne_f, wrap_i64, wrap_u64, Int.toNat_natCast, Nat.mul_one, Nat.zero_add, Nat.add_zero, List.map_toArray, List.map_cons, List.map_nil, rG_binOp, binR_add, resM_1, rG_box, Value.cells, rG_load, ld60, ldN_some, rdN_cells, rG_index, ix60, binR_eql, binR_lss, h1] <;> rfl) ?_; first | with_reducible refine kv ?_ | with_reducible refine ks ?_ | with_reducible refine ke ?_) | (refine xo_t ?_ ?_; focus (simp (disch := first | assumption | omega | (with_unfolding_all exact id rfl) | fail) only [Env.put_some, Env.put_none, Env.set_app, Nat.reduceEqDiff, ↓reduceIte, Bool.not_true, Bool.not_false, h1]; done)) | (refine xo_f ?_ ?_; focus (simp (disch := first | assumption | omega | (with_unfolding_all exact id rfl) | fail) only [Env.put_some, Env.put_none, Env.set_app, Nat.reduceEqDiff, ↓reduceIte, Bool.not_true, Bool.not_false, h1]; done)) | (refine xo_u ?_ ?_; focus (simp (disch := first | assumption | omega | (with_unfolding_all exact id rfl) | fail) only [Env.put_some, Env.put_none, Env.set_app, Nat.reduceEqDiff, ↓reduceIte, Bool.not_true, Bool.not_false, h1]; done)))
          refine xo_nil ?_
          refine hK _ _ ?_
          clear hK K
          refine X_if_f (by simp (disch := first | assumption | omega) only [ev_tmp, Env.put_some, Env.put_none, Env.set_app, Nat.reduceEqDiff, ↓reduceIte, beq_f, dec_f]) ?_
          simp only [X_skip, X_exit, X_ret, X_block, thenX_normal, thenX_ret, thenX_exit, inX_normal, inX_ret, inX_exit, ↓reduceIte, Nat.reduceEqDiff]
          (try refine xo_nil ?_)
          refine hK _ _ ?_
          clear hK K
          (try simp only [X_reg, thenX_normal])
          repeat (first | (refine xo (by simp (disch := first | assumption | omega | (with_unfolding_all exact id rfl) | fail) only [vR_ok, uR_ok, ev_tmp, ev_const, ev_func, Env.put_some, Env.put_none, Env.set_app, Nat.reduceEqDiff, ↓reduceIte, rG_move, rG_assign, opt1_some, ext_all, dec_t, dec_f, beq_t, beq_f, bne_t, bne_f, wrap_i64, wrap_u64, Int.toNat_natCast, Nat.mul_one, Nat.zero_add, Nat.add_zero, List.map_toArray, List.map_cons, List.map_nil, rG_binOp, binR_add, resM_1, rG_box, Value.cells, rG_load, ld60, ldN_some, rdN_cells, rG_index, ix60, binR_eql, binR_lss, h8] <;> rfl) ?_; first | with_reducible refine kv ?_ | with_reducible refine ks ?_ | with_reducible refine ke ?_) | (refine xo_t ?_ ?_; focus (simp (disch := first | assumption | omega | (with_unfolding_all exact id rfl) | fail) only [Env.put_some, Env.put_none, Env.set_app, Nat.reduceEqDiff, ↓reduceIte, Bool.not_true, Bool.not_false, h8]; done)) | (refine xo_f ?_ ?_; focus (simp (disch := first | assumption | omega | (with_unfolding_all exact id rfl) | fail) only [Env.put_some, Env.put_none, Env.set_app, Nat.reduceEqDiff, ↓reduceIte, Bool.not_true, Bool.not_false, h8]; done)) | (refine xo_u ?_ ?_; focus (simp (disch := first | assumption | omega | (with_unfolding_all exact id rfl) | fail) only [Env.put_some, Env.put_none, Env.set_app, Nat.reduceEqDiff, ↓reduceIte, Bool.not_true, Bool.not_false, h8]; done)))
          refine ⟨⟨k + 1, by omega, ?_, ?_, ?_, fun i hi => ?_, hext⟩, ?_⟩
          · (try simp (disch := first | assumption | omega | (with_unfolding_all exact id rfl) | fail) only [Env.put_some, Env.put_none, Env.set_app, Nat.reduceEqDiff, ↓reduceIte, nat_int, Int.toNat_natCast, wrap_i64])
            rfl
          · (try simp (disch := first | assumption | omega | (with_unfolding_all exact id rfl) | fail) only [Env.put_some, Env.put_none, Env.set_app, Nat.reduceEqDiff, ↓reduceIte, nat_int, Int.toNat_natCast, wrap_i64, h7])
          · (try simp (disch := first | assumption | omega | (with_unfolding_all exact id rfl) | fail) only [Env.put_some, Env.put_none, Env.set_app, Nat.reduceEqDiff, ↓reduceIte, nat_int, Int.toNat_natCast, wrap_i64, h1])
          · by_cases hik : i = k
            · subst hik; rw [hx]; simp [hxv]
            · exact hno i (by omega)
          · (try simp (disch := first | assumption | omega | (with_unfolding_all exact id rfl) | fail) only [Env.put_some, Env.put_none, Env.set_app, Nat.reduceEqDiff, ↓reduceIte, nat_int, Int.toNat_natCast, wrap_i64, h8])
            omega
      · refine X_seq fun K hK => ?_
        simp only [X_reg, thenX_normal]
        repeat (first | (refine xo (by simp (disch := first | assumption | omega | (with_unfolding_all exact id rfl) | fail) only [vR_ok, uR_ok, ev_tmp, ev_const, ev_func, Env.put_some, Env.put_none, Env.set_app, Nat.reduceEqDiff, ↓reduceIte, rG_move, rG_assign, opt1_some, ext_all, dec_t, dec_f, beq_t, beq_f, bne_t, bne_f, wrap_i64, wrap_u64, Int.toNat_natCast, Nat.mul_one, Nat.zero_add, Nat.add_zero, List.map_toArray, List.map_cons, List.map_nil, rG_binOp, binR_add, resM_1, rG_box, Value.cells, rG_load, ld60, ldN_some, rdN_cells, rG_index, ix60, binR_eql, binR_lss, h8] <;> rfl) ?_; first | with_reducible refine kv ?_ | with_reducible refine ks ?_ | with_reducible refine ke ?_) | (refine xo_t ?_ ?_; focus (simp (disch := first | assumption | omega | (with_unfolding_all exact id rfl) | fail) only [Env.put_some, Env.put_none, Env.set_app, Nat.reduceEqDiff, ↓reduceIte, Bool.not_true, Bool.not_false, h8]; done)) | (refine xo_f ?_ ?_; focus (simp (disch := first | assumption | omega | (with_unfolding_all exact id rfl) | fail) only [Env.put_some, Env.put_none, Env.set_app, Nat.reduceEqDiff, ↓reduceIte, Bool.not_true, Bool.not_false, h8]; done)) | (refine xo_u ?_ ?_; focus (simp (disch := first | assumption | omega | (with_unfolding_all exact id rfl) | fail) only [Env.put_some, Env.put_none, Env.set_app, Nat.reduceEqDiff, ↓reduceIte, Bool.not_true, Bool.not_false, h8]; done)))
        refine xo_nil ?_
        refine hK _ _ ?_
        clear hK K
        refine X_seq fun K hK => ?_
        refine X_if_f (by simp (disch := first | assumption | omega) only [ev_tmp, Env.put_some, Env.put_none, Env.set_app, Nat.reduceEqDiff, ↓reduceIte, beq_f, dec_f]) ?_
        simp only [X_skip, X_exit, X_ret, X_block, thenX_normal, thenX_ret, thenX_exit, inX_normal, inX_ret, inX_exit, ↓reduceIte, Nat.reduceEqDiff]
        exact ⟨fun i hi => hno i (by omega), hext⟩
  · rintro e w1 ⟨hno, hext⟩
    refine X_seq fun K hK => ?_
    simp only [X_reg, thenX_normal]
    repeat (first | (refine xo (by simp (disch := first | assumption | omega | (with_unfolding_all exact id rfl) | fail) only [vR_ok, uR_ok, ev_tmp, ev_const, ev_func, Env.put_some, Env.put_none, Env.set_app, Nat.reduceEqDiff, ↓reduceIte, rG_move, rG_assign, opt1_some, ext_all, dec_t, dec_f, beq_t, beq_f, bne_t, bne_f, wrap_i64, wrap_u64, Int.toNat_natCast, Nat.mul_one, Nat.zero_add, Nat.add_zero, List.map_toArray, List.map_cons, List.map_nil, rG_binOp, binR_add, resM_1, rG_box, Value.cells, rG_load, ld60, ldN_some, rdN_cells, rG_index, ix60, binR_eql, binR_lss] <;> rfl) ?_; first | with_reducible refine kv ?_ | with_reducible refine ks ?_ | with_reducible refine ke ?_) | (refine xo_t ?_ ?_; focus (simp (disch := first | assumption | omega | (with_unfolding_all exact id rfl) | fail) only [Env.put_some, Env.put_none, Env.set_app, Nat.reduceEqDiff, ↓reduceIte, Bool.not_true, Bool.not_false]; done)) | (refine xo_f ?_ ?_; focus (simp (disch := first | assumption | omega | (with_unfolding_all exact id rfl) | fail) only [Env.put_some, Env.put_none, Env.set_app, Nat.reduceEqDiff, ↓reduceIte, Bool.not_true, Bool.not_false]; done)) | (refine xo_u ?_ ?_; focus (simp (disch := first | assumption | omega | (with_unfolding_all exact id rfl) | fail) only [Env.put_some, Env.put_none, Env.set_app, Nat.reduceEqDiff, ↓reduceIte, Bool.not_true, Bool.not_false]; done)))
    refine xo_nil ?_
    refine hK _ _ ?_
    clear hK K
    simp (disch := first | assumption | omega | (with_unfolding_all exact id rfl) | fail) only [X_ret, thenX_ret, inX_ret, retX_ret, retX_normal, Try.results40, resM_0, resM_1, resM_2, resM_3, resM_4, Env.put_some, Env.put_none, Env.set_app, Nat.reduceEqDiff, ↓reduceIte]
    exact ⟨_, rfl, by rw [lvl_none (by rw [hl]; exact hno)], hext⟩

/-! ### The order's type -/
theorem cmp_eql_60 {x y : Operand} {l l' : List Int} {w : World} (h : l.length = 8) (h' : l'.length = 8) :
    binR Try.prog .eql 60 x y (.agg (l.map (Value.int .i64)).toArray) (.agg (l'.map (Value.int .i64)).toArray) w = .ok (.bool (decide (l = l'))) w :=
  binR_eqlA (by kernel_rfl) (equal_ints T60 T3 h h')
theorem cmp_neq_60 {x y : Operand} {l l' : List Int} {w : World} (h : l.length = 8) (h' : l'.length = 8) :
    binR Try.prog .neq 60 x y (.agg (l.map (Value.int .i64)).toArray) (.agg (l'.map (Value.int .i64)).toArray) w = .ok (.bool (!decide (l = l'))) w :=
  binR_neqA (by kernel_rfl) (equal_ints T60 T3 h h')

def mayL (l : List Int) : Bool := (List.range 8).all fun v => decide (0 ≤ lvl l v)

theorem may_calls (l : List Int) (hl : l.length = 8) (w : World) :
    CallsR Try.prog 38 #[aI l] w fun r w' => r = .bool (mayL l) ∧ Ext w w' := by
  have hsz : ((l.map (Value.int .i64)).toArray).size = 8 := by simp [hl]
  refine calls1 (bs := []) Try.func38 rfl mixed (by kernel_rfl) ?_
  intro e0 h0
  simp only [comp, gop, gslot, dops, bigOf, setK, kindOf, List.lookup, List.map_cons, List.map_nil, Option.bind_some, List.getElem?_toArray, List.getElem?_cons_zero, List.getElem?_cons_succ, Option.getD_some, Option.getD_none, List.contains_nil, List.contains_cons, Bool.false_eq_true, ↓reduceIte, Nat.reduceAdd, Nat.reduceBEq, Bool.or_false]
  refine X_seq fun K hK => ?_
  simp only [X_reg, thenX_normal]
  repeat (first | (refine xo (by simp (disch := first | assumption | omega | (with_unfolding_all exact id rfl) | fail) only [vR_ok, uR_ok, ev_tmp, ev_const, ev_func, Env.put_some, Env.put_none, Env.set_app, Nat.reduceEqDiff, ↓reduceIte, rG_move, rG_assign, opt1_some, ext_all, dec_t, dec_f, beq_t, beq_f, bne_t, bne_f, wrap_i64, wrap_u64, Int.toNat_natCast, Nat.mul_one, Nat.zero_add, Nat.add_zero, List.map_toArray, List.map_cons, List.map_nil, rG_binOp, binR_add, resM_1, rG_box, Value.cells, call40, rG_load, ld60, ldN_some, rdN_cells, binR_lss, h0, aI] <;> rfl) ?_; first | with_reducible refine kv ?_ | with_reducible refine ks ?_ | with_reducible refine ke ?_) | (refine xo_t ?_ ?_; focus (simp (disch := first | assumption | omega | (with_unfolding_all exact id rfl) | fail) only [Env.put_some, Env.put_none, Env.set_app, Nat.reduceEqDiff, ↓reduceIte, Bool.not_true, Bool.not_false, h0, aI]; done)) | (refine xo_f ?_ ?_; focus (simp (disch := first | assumption | omega | (with_unfolding_all exact id rfl) | fail) only [Env.put_some, Env.put_none, Env.set_app, Nat.reduceEqDiff, ↓reduceIte, Bool.not_true, Bool.not_false, h0, aI]; done)) | (refine xo_u ?_ ?_; focus (simp (disch := first | assumption | omega | (with_unfolding_all exact id rfl) | fail) only [Env.put_some, Env.put_none, Env.set_app, Nat.reduceEqDiff, ↓reduceIte, Bool.not_true, Bool.not_false, h0, aI]; done)))
  refine xo_nil ?_
  refine hK _ _ ?_
  clear hK K
  refine X_cut (fun e w' => (∀ i : Nat, i < 8 → 0 ≤ lvl l i) ∧ Ext w w') ?_ ?_
  · refine X_seq fun K hK => ?_
    simp only [X_reg, thenX_normal]
    repeat (first | (refine xo (by simp (disch := first | assumption | omega | (with_unfolding_all exact id rfl) | fail) only [vR_ok, uR_ok, ev_tmp, ev_const, ev_func, Env.put_some, Env.put_none, Env.set_app, Nat.reduceEqDiff, ↓reduceIte, rG_move, rG_assign, opt1_some, ext_all, dec_t, dec_f, beq_t, beq_f, bne_t, bne_f, wrap_i64, wrap_u64, Int.toNat_natCast, Nat.mul_one, Nat.zero_add, Nat.add_zero, List.map_toArray, List.map_cons, List.map_nil, rG_binOp, binR_add, resM_1, rG_box, Value.cells, call40, rG_load, ld60, ldN_some, rdN_cells, binR_lss] <;> rfl) ?_; first | with_reducible refine kv ?_ | with_reducible refine ks ?_ | with_reducible refine ke ?_) | (refine xo_t ?_ ?_; focus (simp (disch := first | assumption | omega | (with_unfolding_all exact id rfl) | fail) only [Env.put_some, Env.put_none, Env.set_app, Nat.reduceEqDiff, ↓reduceIte, Bool.not_true, Bool.not_false]; done)) | (refine xo_f ?_ ?_; focus (simp (disch := first | assumption | omega | (with_unfolding_all exact id rfl) | fail) only [Env.put_some, Env.put_none, Env.set_app, Nat.reduceEqDiff, ↓reduceIte, Bool.not_true, Bool.not_false]; done)) | (refine xo_u ?_ ?_; focus (simp (disch := first | assumption | omega | (with_unfolding_all exact id rfl) | fail) only [Env.put_some, Env.put_none, Env.set_app, Nat.reduceEqDiff, ↓reduceIte, Bool.not_true, Bool.not_false]; done)))
    refine xo_nil ?_
    refine hK _ _ ?_
    clear hK K
    simp only [X_skip, X_exit, X_ret, X_block, thenX_normal, thenX_ret, thenX_exit, inX_normal, inX_ret, inX_exit, ↓reduceIte, Nat.reduceEqDiff]
    refine X_loop (fun e w' => ∃ k : Nat, k ≤ 8 ∧ e 4 = .int .i64 k ∧ e 1 = .pointer (some ⟨w.heap.size, 0, none⟩) ∧ (∀ i : Nat, i < k → 0 ≤ lvl l i) ∧ w'.heap[w.heap.size]? = some (.cells (l.map (Value.int .i64)).toArray 60) ∧ Ext w w') (fun e _ => 8 - nat (e 4)) ?_ ?_
    · refine ⟨0, by omega, ?_, ?_, fun i hi => by omega, alloc_new, (Ext.refl w).alloc _⟩ <;> (try simp (disch := first | assumption | omega | (with_unfolding_all exact id rfl) | fail) only [Env.put_some, Env.put_none, Env.set_app, Nat.reduceEqDiff, ↓reduceIte, nat_int, Int.toNat_natCast, wrap_i64])
      rfl
    · clear h0
      rintro e w1 ⟨k, hk, h4, h1, hno, hb, hext⟩
      by_cases hlt : k < 8
      · refine X_seq fun K hK => ?_
        simp only [X_reg, thenX_normal]
        repeat (first | (refine xo (by simp (disch := first | assumption | omega | (with_unfolding_all exact id rfl) | fail) only [vR_ok, uR_ok, ev_tmp, ev_const, ev_func, Env.put_some, Env.put_none, Env.set_app, Nat.reduceEqDiff, ↓reduceIte, rG_move, rG_assign, opt1_some, ext_all, dec_t, dec_f, beq_t, beq_f, bne_t, bne_f, wrap_i64, wrap_u64, Int.toNat_natCast, Nat.mul_one, Nat.zero_add, Nat.add_zero, List.map_toArray, List.map_cons, List.map_nil, rG_binOp, binR_add, resM_1, rG_box, Value.cells, call40, rG_load, ld60, ldN_some, rdN_cells, binR_lss, h4] <;> rfl) ?_; first | with_reducible refine kv ?_ | with_reducible refine ks ?_ | with_reducible refine ke ?_) | (refine xo_t ?_ ?_; focus (simp (disch := first | assumption | omega | (with_unfolding_all exact id rfl) | fail) only [Env.put_some, Env.put_none, Env.set_app, Nat.reduceEqDiff, ↓reduceIte, Bool.not_true, Bool.not_false, h4]; done)) | (refine xo_f ?_ ?_; focus (simp (disch := first | assumption | omega | (with_unfolding_all exact id rfl) | fail) only [Env.put_some, Env.put_none, Env.set_app, Nat.reduceEqDiff, ↓reduceIte, Bool.not_true, Bool.not_false, h4]; done)) | (refine xo_u ?_ ?_; focus (simp (disch := first | assumption | omega | (with_unfolding_all exact id rfl) | fail) only [Env.put_some, Env.put_none, Env.set_app, Nat.reduceEqDiff, ↓reduceIte, Bool.not_true, Bool.not_false, h4]; done)))
        refine xo_nil ?_
        refine hK _ _ ?_
        clear hK K
        refine X_seq fun K hK => ?_
        refine X_if_t (by simp (disch := first | assumption | omega) only [ev_tmp, Env.put_some, Env.put_none, Env.set_app, Nat.reduceEqDiff, ↓reduceIte, beq_t, dec_t, beq_self_eq_true]) ?_
        simp only [X_skip, X_exit, X_ret, X_block, thenX_normal, thenX_ret, thenX_exit, inX_normal, inX_ret, inX_exit, ↓reduceIte, Nat.reduceEqDiff]
        (try refine xo_nil ?_)
        refine hK _ _ ?_
        clear hK K
        refine X_seq fun K hK => ?_
        simp only [X_skip, X_exit, X_ret, X_block, thenX_normal, thenX_ret, thenX_exit, inX_normal, inX_ret, inX_exit, ↓reduceIte, Nat.reduceEqDiff]
        refine X_seq fun K hK => ?_
        simp only [X_reg, thenX_normal]
        repeat (first | (refine xo (by simp (disch := first | assumption | omega | (with_unfolding_all exact id rfl) | fail) only [vR_ok, uR_ok, ev_tmp, ev_const, ev_func, Env.put_some, Env.put_none, Env.set_app, Nat.reduceEqDiff, ↓reduceIte, rG_move, rG_assign, opt1_some, ext_all, dec_t, dec_f, beq_t, beq_f, bne_t, bne_f, wrap_i64, wrap_u64, Int.toNat_natCast, Nat.mul_one, Nat.zero_add, Nat.add_zero, List.map_toArray, List.map_cons, List.map_nil, rG_binOp, binR_add, resM_1, rG_box, Value.cells, call40, rG_load, ld60, ldN_some, rdN_cells, binR_lss, h4] <;> rfl) ?_; first | with_reducible refine kv ?_ | with_reducible refine ks ?_ | with_reducible refine ke ?_) | (refine xo_t ?_ ?_; focus (simp (disch := first | assumption | omega | (with_unfolding_all exact id rfl) | fail) only [Env.put_some, Env.put_none, Env.set_app, Nat.reduceEqDiff, ↓reduceIte, Bool.not_true, Bool.not_false, h4]; done)) | (refine xo_f ?_ ?_; focus (simp (disch := first | assumption | omega | (with_unfolding_all exact id rfl) | fail) only [Env.put_some, Env.put_none, Env.set_app, Nat.reduceEqDiff, ↓reduceIte, Bool.not_true, Bool.not_false, h4]; done)) | (refine xo_u ?_ ?_; focus (simp (disch := first | assumption | omega | (with_unfolding_all exact id rfl) | fail) only [Env.put_some, Env.put_none, Env.set_app, Nat.reduceEqDiff, ↓reduceIte, Bool.not_true, Bool.not_false, h4]; done)))
        refine xo_nil ?_
        refine hK _ _ ?_
        clear hK K
        refine X_seq fun K hK => ?_
        (try simp only [X_reg, thenX_normal])
        repeat (first | (refine xo (by simp (disch := first | assumption | omega | (with_unfolding_all exact id rfl) | fail) only [vR_ok, uR_ok, ev_tmp, ev_const, ev_func, Env.put_some, Env.put_none, Env.set_app, Nat.reduceEqDiff, ↓reduceIte, rG_move, rG_assign, opt1_some, ext_all, dec_t, dec_f, beq_t, beq_f, bne_t, bne_f, wrap_i64, wrap_u64, Int.toNat_natCast, Nat.mul_one, Nat.zero_add, Nat.add_zero, List.map_toArray, List.map_cons, List.map_nil, rG_binOp, binR_add, resM_1, rG_box, Value.cells, call40, rG_load, ld60, ldN_some, rdN_cells, binR_lss, h1, h4, hb] <;> rfl) ?_; first | with_reducible refine kv ?_ | with_reducible refine ks ?_ | with_reducible refine ke ?_) | (refine xo_t ?_ ?_; focus (simp (disch := first | assumption | omega | (with_unfolding_all exact id rfl) | fail) only [Env.put_some, Env.put_none, Env.set_app, Nat.reduceEqDiff, ↓reduceIte, Bool.not_true, Bool.not_false, h1, h4, hb]; done)) | (refine xo_f ?_ ?_; focus (simp (disch := first | assumption | omega | (with_unfolding_all exact id rfl) | fail) only [Env.put_some, Env.put_none, Env.set_app, Nat.reduceEqDiff, ↓reduceIte, Bool.not_true, Bool.not_false, h1, h4, hb]; done)) | (refine xo_u ?_ ?_; focus (simp (disch := first | assumption | omega | (with_unfolding_all exact id rfl) | fail) only [Env.put_some, Env.put_none, Env.set_app, Nat.reduceEqDiff, ↓reduceIte, Bool.not_true, Bool.not_false, h1, h4, hb]; done)))
        refine (level_calls l hl k w1).mono ?_
        rintro _ w2 ⟨rfl, hext2⟩
        have hb2 := (hext2.heap _ (lt_of_heap hb)).trans hb
        by_cases hv : 0 ≤ lvl l k
        · (try simp only [X_reg, thenX_normal])
          repeat (first | (refine xo (by simp (disch := first | assumption | omega | (with_unfolding_all exact id rfl) | fail) only [vR_ok, uR_ok, ev_tmp, ev_const, ev_func, Env.put_some, Env.put_none, Env.set_app, Nat.reduceEqDiff, ↓reduceIte, rG_move, rG_assign, opt1_some, ext_all, dec_t, dec_f, beq_t, beq_f, bne_t, bne_f, wrap_i64, wrap_u64, Int.toNat_natCast, Nat.mul_one, Nat.zero_add, Nat.add_zero, List.map_toArray, List.map_cons, List.map_nil, rG_binOp, binR_add, resM_1, rG_box, Value.cells, call40, rG_load, ld60, ldN_some, rdN_cells, binR_lss] <;> rfl) ?_; first | with_reducible refine kv ?_ | with_reducible refine ks ?_ | with_reducible refine ke ?_) | (refine xo_t ?_ ?_; focus (simp (disch := first | assumption | omega | (with_unfolding_all exact id rfl) | fail) only [Env.put_some, Env.put_none, Env.set_app, Nat.reduceEqDiff, ↓reduceIte, Bool.not_true, Bool.not_false]; done)) | (refine xo_f ?_ ?_; focus (simp (disch := first | assumption | omega | (with_unfolding_all exact id rfl) | fail) only [Env.put_some, Env.put_none, Env.set_app, Nat.reduceEqDiff, ↓reduceIte, Bool.not_true, Bool.not_false]; done)) | (refine xo_u ?_ ?_; focus (simp (disch := first | assumption | omega | (with_unfolding_all exact id rfl) | fail) only [Env.put_some, Env.put_none, Env.set_app, Nat.reduceEqDiff, ↓reduceIte, Bool.not_true, Bool.not_false]; done)))
          (try refine xo_nil ?_)
          refine hK _ _ ?_
          clear hK K
          refine X_if_f (by simp (disch := first | assumption | omega) only [ev_tmp, Env.put_some, Env.put_none, Env.set_app, Nat.reduceEqDiff, ↓reduceIte, beq_f, dec_f]) ?_
          simp only [X_skip, X_exit, X_ret, X_block, thenX_normal, thenX_ret, thenX_exit, inX_normal, inX_ret, inX_exit, ↓reduceIte, Nat.reduceEqDiff]
          (try refine xo_nil ?_)
          refine hK _ _ ?_
          clear hK K
          (try simp only [X_reg, thenX_normal])
          repeat (first | (refine xo (by simp (disch := first | assumption | omega | (with_unfolding_all exact id rfl) | fail) only [vR_ok, uR_ok, ev_tmp, ev_const, ev_func, Env.put_some, Env.put_none, Env.set_app, Nat.reduceEqDiff, ↓reduceIte, rG_move, rG_assign, opt1_some, ext_all, dec_t, dec_f, beq_t, beq_f, bne_t, bne_f, wrap_i64, wrap_u64, Int.toNat_natCast, Nat.mul_one, Nat.zero_add, Nat.add_zero, List.map_toArray, List.map_cons, List.map_nil, rG_binOp, binR_add, resM_1, rG_box, Value.cells, call40, rG_load, ld60, ldN_some, rdN_cells, binR_lss, h4] <;> rfl) ?_; first | with_reducible refine kv ?_ | with_reducible refine ks ?_ | with_reducible refine ke ?_) | (refine xo_t ?_ ?_; focus (simp (disch := first | assumption | omega | (with_unfolding_all exact id rfl) | fail) only [Env.put_some, Env.put_none, Env.set_app, Nat.reduceEqDiff, ↓reduceIte, Bool.not_true, Bool.not_false, h4]; done)) | (refine xo_f ?_ ?_; focus (simp (disch := first | assumption | omega | (with_unfolding_all exact id rfl) | fail) only [Env.put_some, Env.put_none, Env.set_app, Nat.reduceEqDiff, ↓reduceIte, Bool.not_true, Bool.not_false, h4]; done)) | (refine xo_u ?_ ?_; focus (simp (disch := first | assumption | omega | (with_unfolding_all exact id rfl) | fail) only [Env.put_some, Env.put_none, Env.set_app, Nat.reduceEqDiff, ↓reduceIte, Bool.not_true, Bool.not_false, h4]; done)))
          refine ⟨⟨k + 1, by omega, ?_, ?_, fun i hi => ?_, hb2, hext.trans hext2⟩, ?_⟩
          · rfl
          · exact h1
          · by_cases hik : i = k
            · subst hik; exact hv
            · exact hno i (by omega)
          · (try simp (disch := first | assumption | omega | (with_unfolding_all exact id rfl) | fail) only [Env.put_some, Env.put_none, Env.set_app, Nat.reduceEqDiff, ↓reduceIte, nat_int, Int.toNat_natCast, wrap_i64, h4])
            omega
        · (try simp only [X_reg, thenX_normal])
          repeat (first | (refine xo (by simp (disch := first | assumption | omega | (with_unfolding_all exact id rfl) | fail) only [vR_ok, uR_ok, ev_tmp, ev_const, ev_func, Env.put_some, Env.put_none, Env.set_app, Nat.reduceEqDiff, ↓reduceIte, rG_move, rG_assign, opt1_some, ext_all, dec_t, dec_f, beq_t, beq_f, bne_t, bne_f, wrap_i64, wrap_u64, Int.toNat_natCast, Nat.mul_one, Nat.zero_add, Nat.add_zero, List.map_toArray, List.map_cons, List.map_nil, rG_binOp, binR_add, resM_1, rG_box, Value.cells, call40, rG_load, ld60, ldN_some, rdN_cells, binR_lss] <;> rfl) ?_; first | with_reducible refine kv ?_ | with_reducible refine ks ?_ | with_reducible refine ke ?_) | (refine xo_t ?_ ?_; focus (simp (disch := first | assumption | omega | (with_unfolding_all exact id rfl) | fail) only [Env.put_some, Env.put_none, Env.set_app, Nat.reduceEqDiff, ↓reduceIte, Bool.not_true, Bool.not_false]; done)) | (refine xo_f ?_ ?_; focus (simp (disch := first | assumption | omega | (with_unfolding_all exact id rfl) | fail) only [Env.put_some, Env.put_none, Env.set_app, Nat.reduceEqDiff, ↓reduceIte, Bool.not_true, Bool.not_false]; done)) | (refine xo_u ?_ ?_; focus (simp (disch := first | assumption | omega | (with_unfolding_all exact id rfl) | fail) only [Env.put_some, Env.put_none, Env.set_app, Nat.reduceEqDiff, ↓reduceIte, Bool.not_true, Bool.not_false]; done)))
          (try refine xo_nil ?_)
          refine hK _ _ ?_
          clear hK K
          refine X_if_t (by simp (disch := first | assumption | omega) only [ev_tmp, Env.put_some, Env.put_none, Env.set_app, Nat.reduceEqDiff, ↓reduceIte, beq_t, dec_t, beq_self_eq_true]) ?_
          refine X_seq fun K hK => ?_
          simp only [X_reg, thenX_normal]
          repeat (first | (refine xo (by simp (disch := first | assumption | omega | (with_unfolding_all exact id rfl) | fail) only [vR_ok, uR_ok, ev_tmp, ev_const, ev_func, Env.put_some, Env.put_none, Env.set_app, Nat.reduceEqDiff, ↓reduceIte, rG_move, rG_assign, opt1_some, ext_all, dec_t, dec_f, beq_t, beq_f, bne_t, bne_f, wrap_i64, wrap_u64, Int.toNat_natCast, Nat.mul_one, Nat.zero_add, Nat.add_zero, List.map_toArray, List.map_cons, List.map_nil, rG_binOp, binR_add, resM_1, rG_box, Value.cells, call40, rG_load, ld60, ldN_some, rdN_cells, binR_lss] <;> rfl) ?_; first | with_reducible refine kv ?_ | with_reducible refine ks ?_ | with_reducible refine ke ?_) | (refine xo_t ?_ ?_; focus (simp (disch := first | assumption | omega | (with_unfolding_all exact id rfl) | fail) only [Env.put_some, Env.put_none, Env.set_app, Nat.reduceEqDiff, ↓reduceIte, Bool.not_true, Bool.not_false]; done)) | (refine xo_f ?_ ?_; focus (simp (disch := first | assumption | omega | (with_unfolding_all exact id rfl) | fail) only [Env.put_some, Env.put_none, Env.set_app, Nat.reduceEqDiff, ↓reduceIte, Bool.not_true, Bool.not_false]; done)) | (refine xo_u ?_ ?_; focus (simp (disch := first | assumption | omega | (with_unfolding_all exact id rfl) | fail) only [Env.put_some, Env.put_none, Env.set_app, Nat.reduceEqDiff, ↓reduceIte, Bool.not_true, Bool.not_false]; done)))
          refine xo_nil ?_
          refine hK _ _ ?_
          clear hK K
          simp only [X_skip, X_exit, X_ret, X_block, thenX_normal, thenX_ret, thenX_exit, inX_normal, inX_ret, inX_exit, ↓reduceIte, Nat.reduceEqDiff]
          simp (disch := first | assumption | omega | (with_unfolding_all exact id rfl) | fail) only [X_ret, thenX_ret, inX_ret, retX_ret, retX_normal, Try.results38, resM_0, resM_1, resM_2, resM_3, resM_4, Env.put_some, Env.put_none, Env.set_app, Nat.reduceEqDiff, ↓reduceIte]
          refine ⟨_, rfl, ?_, hext.trans hext2⟩
          have : mayL l = false := by
            unfold mayL
            rw [Bool.eq_false_iff]
            intro h
            exact hv (by simpa using List.all_eq_true.1 h k (List.mem_range.2 hlt))
          rw [this]
      · refine X_seq fun K hK => ?_
        simp only [X_reg, thenX_normal]
        repeat (first | (refine xo (by simp (disch := first | assumption | omega | (with_unfolding_all exact id rfl) | fail) only [vR_ok, uR_ok, ev_tmp, ev_const, ev_func, Env.put_some, Env.put_none, Env.set_app, Nat.reduceEqDiff, ↓reduceIte, rG_move, rG_assign, opt1_some, ext_all, dec_t, dec_f, beq_t, beq_f, bne_t, bne_f, wrap_i64, wrap_u64, Int.toNat_natCast, Nat.mul_one, Nat.zero_add, Nat.add_zero, List.map_toArray, List.map_cons, List.map_nil, rG_binOp, binR_add, resM_1, rG_box, Value.cells, call40, rG_load, ld60, ldN_some, rdN_cells, binR_lss, h4] <;> rfl) ?_; first | with_reducible refine kv ?_ | with_reducible refine ks ?_ | with_reducible refine ke ?_) | (refine xo_t ?_ ?_; focus (simp (disch := first | assumption | omega | (with_unfolding_all exact id rfl) | fail) only [Env.put_some, Env.put_none, Env.set_app, Nat.reduceEqDiff, ↓reduceIte, Bool.not_true, Bool.not_false, h4]; done)) | (refine xo_f ?_ ?_; focus (simp (disch := first | assumption | omega | (with_unfolding_all exact id rfl) | fail) only [Env.put_some, Env.put_none, Env.set_app, Nat.reduceEqDiff, ↓reduceIte, Bool.not_true, Bool.not_false, h4]; done)) | (refine xo_u ?_ ?_; focus (simp (disch := first | assumption | omega | (with_unfolding_all exact id rfl) | fail) only [Env.put_some, Env.put_none, Env.set_app, Nat.reduceEqDiff, ↓reduceIte, Bool.not_true, Bool.not_false, h4]; done)))
        refine xo_nil ?_
        refine hK _ _ ?_
        clear hK K
        refine X_seq fun K hK => ?_
        refine X_if_f (by simp (disch := first | assumption | omega) only [ev_tmp, Env.put_some, Env.put_none, Env.set_app, Nat.reduceEqDiff, ↓reduceIte, beq_f, dec_f]) ?_
        simp only [X_skip, X_exit, X_ret, X_block, thenX_normal, thenX_ret, thenX_exit, inX_normal, inX_ret, inX_exit, ↓reduceIte, Nat.reduceEqDiff]
        exact ⟨fun i hi => hno i (by omega), hext⟩
  · rintro e w1 ⟨hno, hext⟩
    refine X_seq fun K hK => ?_
    simp only [X_reg, thenX_normal]
    repeat (first | (refine xo (by simp (disch := first | assumption | omega | (with_unfolding_all exact id rfl) | fail) only [vR_ok, uR_ok, ev_tmp, ev_const, ev_func, Env.put_some, Env.put_none, Env.set_app, Nat.reduceEqDiff, ↓reduceIte, rG_move, rG_assign, opt1_some, ext_all, dec_t, dec_f, beq_t, beq_f, bne_t, bne_f, wrap_i64, wrap_u64, Int.toNat_natCast, Nat.mul_one, Nat.zero_add, Nat.add_zero, List.map_toArray, List.map_cons, List.map_nil, rG_binOp, binR_add, resM_1, rG_box, Value.cells, call40, rG_load, ld60, ldN_some, rdN_cells, binR_lss] <;> rfl) ?_; first | with_reducible refine kv ?_ | with_reducible refine ks ?_ | with_reducible refine ke ?_) | (refine xo_t ?_ ?_; focus (simp (disch := first | assumption | omega | (with_unfolding_all exact id rfl) | fail) only [Env.put_some, Env.put_none, Env.set_app, Nat.reduceEqDiff, ↓reduceIte, Bool.not_true, Bool.not_false]; done)) | (refine xo_f ?_ ?_; focus (simp (disch := first | assumption | omega | (with_unfolding_all exact id rfl) | fail) only [Env.put_some, Env.put_none, Env.set_app, Nat.reduceEqDiff, ↓reduceIte, Bool.not_true, Bool.not_false]; done)) | (refine xo_u ?_ ?_; focus (simp (disch := first | assumption | omega | (with_unfolding_all exact id rfl) | fail) only [Env.put_some, Env.put_none, Env.set_app, Nat.reduceEqDiff, ↓reduceIte, Bool.not_true, Bool.not_false]; done)))
    refine xo_nil ?_
    refine hK _ _ ?_
    clear hK K
    simp (disch := first | assumption | omega | (with_unfolding_all exact id rfl) | fail) only [X_ret, thenX_ret, inX_ret, retX_ret, retX_normal, Try.results38, resM_0, resM_1, resM_2, resM_3, resM_4, Env.put_some, Env.put_none, Env.set_app, Nat.reduceEqDiff, ↓reduceIte]
    refine ⟨_, rfl, ?_, hext⟩
    have : mayL l = true := List.all_eq_true.2 fun v hv => by simpa using hno v (List.mem_range.1 hv)
    rw [this]

/-- Two neighbours exchanged. -/
def swp (l : List Int) (i : Int) : List Int := if 0 ≤ i ∧ i < 7 then (l.set i.toNat (l.getD (i.toNat + 1) 0)).set (i.toNat + 1) (l.getD i.toNat 0) else l
theorem swp_length (l : List Int) (i : Int) : (swp l i).length = l.length := by unfold swp; split <;> simp

theorem swap_calls (l : List Int) (hl : l.length = 8) (i : Int) (w : World) :
    CallsR Try.prog 42 #[aI l, .int .i64 i] w fun r w' => r = aI (swp l i) ∧ Ext w w' := by
  have hsz : ((l.map (Value.int .i64)).toArray).size = 8 := by simp [hl]
  refine calls2 (bs := []) Try.func42 rfl mixed (by kernel_rfl) ?_
  intro e0 h0 h1
  simp only [comp, gop, gslot, dops, bigOf, setK, kindOf, List.lookup, List.map_cons, List.map_nil, Option.bind_some, List.getElem?_toArray, List.getElem?_cons_zero, List.getElem?_cons_succ, Option.getD_some, Option.getD_none, List.contains_nil, List.contains_cons, Bool.false_eq_true, ↓reduceIte, Nat.reduceAdd, Nat.reduceBEq, Bool.or_false]
  refine X_cut (fun e w1 => e 2 = .pointer (some ⟨w.heap.size, 0, none⟩) ∧ e 4 = .pointer (some ⟨w.heap.size + 1, 0, none⟩) ∧ e 1 = .int .i64 i ∧ w1.heap[w.heap.size]? = some (.cells (l.map (Value.int .i64)).toArray 60) ∧ w1.heap[w.heap.size + 1]? = some (.cells ((List.replicate 8 0).map (Value.int .i64)).toArray 60) ∧ Ext w w1) ?_ ?_
  · (try simp only [X_reg, thenX_normal])
    repeat (first | (refine xo (by simp (disch := first | assumption | omega | (with_unfolding_all exact id rfl) | fail) only [vR_ok, uR_ok, ev_tmp, ev_const, ev_func, Env.put_some, Env.put_none, Env.set_app, Nat.reduceEqDiff, ↓reduceIte, rG_move, rG_assign, opt1_some, ext_all, dec_t, dec_f, beq_t, beq_f, bne_t, bne_f, wrap_i64, wrap_u64, Int.toNat_natCast, Nat.mul_one, Nat.zero_add, Nat.add_zero, List.map_toArray, List.map_cons, List.map_nil, rG_binOp, binR_add, rG_store, st60, stN_1, stN_2, stN_3, stN_4, stN_5, stN_6, stN_7, stN_8, vcs_int, vcs_bool, vcs_ptr, vcs_slice, vcs_map, vcs_nil, vcs_iface, vcs_aggL, List.length_cons, List.length_nil, Nat.reduceAdd, rG_box, Value.cells, rG_pick2, pk2_bool, Bool.false_eq_true, rG_alloc_60, rG_load, ld3, ld1_some, rd1_cells, ld60, ldN_some, rdN_cells, binR_geq, rG_indexAddr, ia60, st3, binR_lss, h0, aI] <;> rfl) ?_; first | with_reducible refine kv ?_ | with_reducible refine ks ?_ | with_reducible refine ke ?_) | (refine xo_t ?_ ?_; focus (simp (disch := first | assumption | omega | (with_unfolding_all exact id rfl) | fail) only [Env.put_some, Env.put_none, Env.set_app, Nat.reduceEqDiff, ↓reduceIte, Bool.not_true, Bool.not_false, h0, aI]; done)) | (refine xo_f ?_ ?_; focus (simp (disch := first | assumption | omega | (with_unfolding_all exact id rfl) | fail) only [Env.put_some, Env.put_none, Env.set_app, Nat.reduceEqDiff, ↓reduceIte, Bool.not_true, Bool.not_false, h0, aI]; done)) | (refine xo_u ?_ ?_; focus (simp (disch := first | assumption | omega | (with_unfolding_all exact id rfl) | fail) only [Env.put_some, Env.put_none, Env.set_app, Nat.reduceEqDiff, ↓reduceIte, Bool.not_true, Bool.not_false, h0, aI]; done)))
    refine xo_nil ⟨?_, ?_, ?_, ?_, ?_, ((Ext.refl w).alloc _).alloc _⟩
    · (try simp (disch := first | assumption | omega | (with_unfolding_all exact id rfl) | fail) only [Env.put_some, Env.put_none, Env.set_app, Nat.reduceEqDiff, ↓reduceIte, nat_int, Int.toNat_natCast, wrap_i64])
    · (try simp (disch := first | assumption | omega | (with_unfolding_all exact id rfl) | fail) only [Env.put_some, Env.put_none, Env.set_app, Nat.reduceEqDiff, ↓reduceIte, nat_int, Int.toNat_natCast, wrap_i64, alloc_size])
    · (try simp (disch := first | assumption | omega | (with_unfolding_all exact id rfl) | fail) only [Env.put_some, Env.put_none, Env.set_app, Nat.reduceEqDiff, ↓reduceIte, nat_int, Int.toNat_natCast, wrap_i64, h1])
    · rw [alloc_old (by rw [alloc_size]; omega), alloc_new]
    · have := alloc_new (w := w.alloc (.cells (l.map (Value.int .i64)).toArray 60)) (o := .cells ((List.replicate 8 0).map (Value.int .i64)).toArray 60)
      rw [alloc_size] at this
      exact this
  clear h0 h1
  rintro e w1 ⟨h2, h4, h1, hA, hB, hE⟩
  have hAlt := lt_of_heap hA
  have hBlt := lt_of_heap hB
  refine X_cut (fun e w2 => e 2 = .pointer (some ⟨w.heap.size, 0, none⟩) ∧ e 4 = .pointer (some ⟨w.heap.size + 1, 0, none⟩) ∧ w2.heap[w.heap.size]? = some (.cells ((swp l i).map (Value.int .i64)).toArray 60) ∧ w2.heap[w.heap.size + 1]? = some (.cells ((List.replicate 8 0).map (Value.int .i64)).toArray 60) ∧ Ext w w2) ?_ ?_
  · by_cases hi : 0 ≤ i
    · by_cases hi2 : i < 7
      · have hsw : swp l i = (l.set i.toNat (l.getD (i.toNat + 1) 0)).set (i.toNat + 1) (l.getD i.toNat 0) := if_pos ⟨hi, hi2⟩
        obtain ⟨n, rfl⟩ := Int.eq_ofNat_of_zero_le hi
        obtain ⟨x, hx⟩ : ∃ x, l[n]? = some x := ⟨l[n], List.getElem?_eq_getElem (by omega)⟩
        obtain ⟨y, hy⟩ : ∃ y, l[n + 1]? = some y := ⟨l[n + 1], List.getElem?_eq_getElem (by omega)⟩
        have hn1 : ((n : Int) + 1).toNat = n + 1 := by omega
        refine X_seq fun K hK => ?_
        simp only [X_reg, thenX_normal]
        repeat (first | (refine xo (by simp (disch := first | assumption | omega | (with_unfolding_all exact id rfl) | fail) only [vR_ok, uR_ok, ev_tmp, ev_const, ev_func, Env.put_some, Env.put_none, Env.set_app, Nat.reduceEqDiff, ↓reduceIte, rG_move, rG_assign, opt1_some, ext_all, dec_t, dec_f, beq_t, beq_f, bne_t, bne_f, wrap_i64, wrap_u64, Int.toNat_natCast, Nat.mul_one, Nat.zero_add, Nat.add_zero, List.map_toArray, List.map_cons, List.map_nil, rG_binOp, binR_add, rG_store, st60, stN_1, stN_2, stN_3, stN_4, stN_5, stN_6, stN_7, stN_8, vcs_int, vcs_bool, vcs_ptr, vcs_slice, vcs_map, vcs_nil, vcs_iface, vcs_aggL, List.length_cons, List.length_nil, Nat.reduceAdd, rG_box, Value.cells, rG_pick2, pk2_bool, Bool.false_eq_true, rG_alloc_60, rG_load, ld3, ld1_some, rd1_cells, ld60, ldN_some, rdN_cells, binR_geq, rG_indexAddr, ia60, st3, binR_lss, h1] <;> rfl) ?_; first | with_reducible refine kv ?_ | with_reducible refine ks ?_ | with_reducible refine ke ?_) | (refine xo_t ?_ ?_; focus (simp (disch := first | assumption | omega | (with_unfolding_all exact id rfl) | fail) only [Env.put_some, Env.put_none, Env.set_app, Nat.reduceEqDiff, ↓reduceIte, Bool.not_true, Bool.not_false, h1]; done)) | (refine xo_f ?_ ?_; focus (simp (disch := first | assumption | omega | (with_unfolding_all exact id rfl) | fail) only [Env.put_some, Env.put_none, Env.set_app, Nat.reduceEqDiff, ↓reduceIte, Bool.not_true, Bool.not_false, h1]; done)) | (refine xo_u ?_ ?_; focus (simp (disch := first | assumption | omega | (with_unfolding_all exact id rfl) | fail) only [Env.put_some, Env.put_none, Env.set_app, Nat.reduceEqDiff, ↓reduceIte, Bool.not_true, Bool.not_false, h1]; done)))
        refine xo_nil ?_
        refine hK _ _ ?_
        clear hK K
        refine X_if_t (by simp (disch := first | assumption | omega) only [ev_tmp, Env.put_some, Env.put_none, Env.set_app, Nat.reduceEqDiff, ↓reduceIte, beq_t, dec_t, beq_self_eq_true]) ?_
        simp only [X_draw, thenX_normal]
        refine XD_dr ?_
        repeat (first | (refine xe0 (fun w => (by simp (disch := first | assumption | omega | (with_unfolding_all exact id rfl) | fail) only [vR_ok, uR_ok, ev_tmp, ev_const, ev_func, Env.put_some, Env.put_none, Env.set_app, Nat.reduceEqDiff, ↓reduceIte, rG_move, rG_assign, opt1_some, ext_all, dec_t, dec_f, beq_t, beq_f, bne_t, bne_f, wrap_i64, wrap_u64, Int.toNat_natCast, Nat.mul_one, Nat.zero_add, Nat.add_zero, List.map_toArray, List.map_cons, List.map_nil, rG_binOp, binR_add, rG_store, st60, stN_1, stN_2, stN_3, stN_4, stN_5, stN_6, stN_7, stN_8, vcs_int, vcs_bool, vcs_ptr, vcs_slice, vcs_map, vcs_nil, vcs_iface, vcs_aggL, List.length_cons, List.length_nil, Nat.reduceAdd, rG_box, Value.cells, rG_pick2, pk2_bool, Bool.false_eq_true, rG_alloc_60, rG_load, ld3, ld1_some, rd1_cells, ld60, ldN_some, rdN_cells, binR_geq, rG_indexAddr, ia60, st3, binR_lss, h1, h2, hA, hn1, List.getElem?_toArray, List.getElem?_map, hx, hy, Option.map_some] <;> rfl)) ?_) | (refine xe1 (fun i => (by simp (disch := first | assumption | omega | (with_unfolding_all exact id rfl) | fail) only [vR_ok, uR_ok, ev_tmp, ev_const, ev_func, Env.put_some, Env.put_none, Env.set_app, Nat.reduceEqDiff, ↓reduceIte, rG_move, rG_assign, opt1_some, ext_all, dec_t, dec_f, beq_t, beq_f, bne_t, bne_f, wrap_i64, wrap_u64, Int.toNat_natCast, Nat.mul_one, Nat.zero_add, Nat.add_zero, List.map_toArray, List.map_cons, List.map_nil, rG_binOp, binR_add, rG_store, st60, stN_1, stN_2, stN_3, stN_4, stN_5, stN_6, stN_7, stN_8, vcs_int, vcs_bool, vcs_ptr, vcs_slice, vcs_map, vcs_nil, vcs_iface, vcs_aggL, List.length_cons, List.length_nil, Nat.reduceAdd, rG_box, Value.cells, rG_pick2, pk2_bool, Bool.false_eq_true, rG_alloc_60, rG_load, ld3, ld1_some, rd1_cells, ld60, ldN_some, rdN_cells, binR_geq, rG_indexAddr, ia60, st3, binR_lss, dr_heap, h1, h2, hA, hn1, List.getElem?_toArray, List.getElem?_map, hx, hy, Option.map_some] <;> rfl)) ?_) | (refine xe2x (by simp (disch := first | assumption | omega | (with_unfolding_all exact id rfl) | fail) only [vR_ok, uR_ok, ev_tmp, ev_const, ev_func, Env.put_some, Env.put_none, Env.set_app, Nat.reduceEqDiff, ↓reduceIte, rG_move, rG_assign, opt1_some, ext_all, dec_t, dec_f, beq_t, beq_f, bne_t, bne_f, wrap_i64, wrap_u64, Int.toNat_natCast, Nat.mul_one, Nat.zero_add, Nat.add_zero, List.map_toArray, List.map_cons, List.map_nil, rG_binOp, binR_add, rG_store, st60, stN_1, stN_2, stN_3, stN_4, stN_5, stN_6, stN_7, stN_8, vcs_int, vcs_bool, vcs_ptr, vcs_slice, vcs_map, vcs_nil, vcs_iface, vcs_aggL, List.length_cons, List.length_nil, Nat.reduceAdd, rG_box, Value.cells, rG_pick2, pk2_bool, Bool.false_eq_true, rG_alloc_60, rG_load, ld3, ld1_some, rd1_cells, ld60, ldN_some, rdN_cells, binR_geq, rG_indexAddr, ia60, st3, binR_lss, h1, h2, hA, hn1, List.getElem?_toArray, List.getElem?_map, hx, hy, Option.map_some] <;> rfl) ?_; (first | with_reducible refine kv ?_ | with_reducible refine ks ?_ | with_reducible refine ke ?_)) | (refine xe0_t ?_ ?_; focus (simp (disch := first | assumption | omega | (with_unfolding_all exact id rfl) | fail) only [Env.put_some, Env.put_none, Env.set_app, Nat.reduceEqDiff, ↓reduceIte, Bool.not_true, Bool.not_false, h1, h2, hA, hn1, List.getElem?_toArray, List.getElem?_map, hx, hy, Option.map_some]; done)) | (refine xe1_t ?_ ?_; focus (simp (disch := first | assumption | omega | (with_unfolding_all exact id rfl) | fail) only [Env.put_some, Env.put_none, Env.set_app, Nat.reduceEqDiff, ↓reduceIte, Bool.not_true, Bool.not_false, h1, h2, hA, hn1, List.getElem?_toArray, List.getElem?_map, hx, hy, Option.map_some]; done)) | (refine xe0_f ?_ ?_; focus (simp (disch := first | assumption | omega | (with_unfolding_all exact id rfl) | fail) only [Env.put_some, Env.put_none, Env.set_app, Nat.reduceEqDiff, ↓reduceIte, Bool.not_true, Bool.not_false, h1, h2, hA, hn1, List.getElem?_toArray, List.getElem?_map, hx, hy, Option.map_some]; done)) | (refine xe1_f ?_ ?_; focus (simp (disch := first | assumption | omega | (with_unfolding_all exact id rfl) | fail) only [Env.put_some, Env.put_none, Env.set_app, Nat.reduceEqDiff, ↓reduceIte, Bool.not_true, Bool.not_false, h1, h2, hA, hn1, List.getElem?_toArray, List.getElem?_map, hx, hy, Option.map_some]; done)) | (refine xe0_u ?_ ?_; focus (simp (disch := first | assumption | omega | (with_unfolding_all exact id rfl) | fail) only [Env.put_some, Env.put_none, Env.set_app, Nat.reduceEqDiff, ↓reduceIte, Bool.not_true, Bool.not_false, h1, h2, hA, hn1, List.getElem?_toArray, List.getElem?_map, hx, hy, Option.map_some]; done)) | (refine xe1_u ?_ ?_; focus (simp (disch := first | assumption | omega | (with_unfolding_all exact id rfl) | fail) only [Env.put_some, Env.put_none, Env.set_app, Nat.reduceEqDiff, ↓reduceIte, Bool.not_true, Bool.not_false, h1, h2, hA, hn1, List.getElem?_toArray, List.getElem?_map, hx, hy, Option.map_some]; done)))
        refine xe2d fun d => ?_
        refine kr (by simp (disch := first | assumption | omega | (with_unfolding_all exact id rfl) | fail) only [vR_ok, uR_ok, ev_tmp, ev_const, ev_func, Env.put_some, Env.put_none, Env.set_app, Nat.reduceEqDiff, ↓reduceIte, rG_move, rG_assign, opt1_some, ext_all, dec_t, dec_f, beq_t, beq_f, bne_t, bne_f, wrap_i64, wrap_u64, Int.toNat_natCast, Nat.mul_one, Nat.zero_add, Nat.add_zero, List.map_toArray, List.map_cons, List.map_nil, rG_binOp, binR_add, rG_store, st60, stN_1, stN_2, stN_3, stN_4, stN_5, stN_6, stN_7, stN_8, vcs_int, vcs_bool, vcs_ptr, vcs_slice, vcs_map, vcs_nil, vcs_iface, vcs_aggL, List.length_cons, List.length_nil, Nat.reduceAdd, rG_box, Value.cells, rG_pick2, pk2_bool, Bool.false_eq_true, rG_alloc_60, rG_load, ld3, ld1_some, rd1_cells, ld60, ldN_some, rdN_cells, binR_geq, rG_indexAddr, ia60, st3, binR_lss, dr_heap, hA, hsz] <;> rfl) ?_
        first | with_reducible refine kv ?_ | with_reducible refine ks ?_ | with_reducible refine ke ?_
        have hA2 := upd_same (w := dr w1 d) (b := w.heap.size) (o := .cells ((l.map (Value.int .i64)).toArray.setIfInBounds n (.int .i64 y)) 60) hAlt
        have hB2 := (upd_other (w := dr w1 d) (o := .cells ((l.map (Value.int .i64)).toArray.setIfInBounds n (.int .i64 y)) 60) (show w.heap.size ≠ w.heap.size + 1 by omega)).trans hB
        have hsz2 : ((l.map (Value.int .i64)).toArray.setIfInBounds n (.int .i64 y)).size = 8 := by simp [hl]
        repeat (first | (refine xe0 (fun w => (by simp (disch := first | assumption | omega | (with_unfolding_all exact id rfl) | fail) only [vR_ok, uR_ok, ev_tmp, ev_const, ev_func, Env.put_some, Env.put_none, Env.set_app, Nat.reduceEqDiff, ↓reduceIte, rG_move, rG_assign, opt1_some, ext_all, dec_t, dec_f, beq_t, beq_f, bne_t, bne_f, wrap_i64, wrap_u64, Int.toNat_natCast, Nat.mul_one, Nat.zero_add, Nat.add_zero, List.map_toArray, List.map_cons, List.map_nil, rG_binOp, binR_add, rG_store, st60, stN_1, stN_2, stN_3, stN_4, stN_5, stN_6, stN_7, stN_8, vcs_int, vcs_bool, vcs_ptr, vcs_slice, vcs_map, vcs_nil, vcs_iface, vcs_aggL, List.length_cons, List.length_nil, Nat.reduceAdd, rG_box, Value.cells, rG_pick2, pk2_bool, Bool.false_eq_true, rG_alloc_60, rG_load, ld3, ld1_some, rd1_cells, ld60, ldN_some, rdN_cells, binR_geq, rG_indexAddr, ia60, st3, binR_lss, hA2, h2, hsz2, hn1] <;> rfl)) ?_) | (refine xe1x (by simp (disch := first | assumption | omega | (with_unfolding_all exact id rfl) | fail) only [vR_ok, uR_ok, ev_tmp, ev_const, ev_func, Env.put_some, Env.put_none, Env.set_app, Nat.reduceEqDiff, ↓reduceIte, rG_move, rG_assign, opt1_some, ext_all, dec_t, dec_f, beq_t, beq_f, bne_t, bne_f, wrap_i64, wrap_u64, Int.toNat_natCast, Nat.mul_one, Nat.zero_add, Nat.add_zero, List.map_toArray, List.map_cons, List.map_nil, rG_binOp, binR_add, rG_store, st60, stN_1, stN_2, stN_3, stN_4, stN_5, stN_6, stN_7, stN_8, vcs_int, vcs_bool, vcs_ptr, vcs_slice, vcs_map, vcs_nil, vcs_iface, vcs_aggL, List.length_cons, List.length_nil, Nat.reduceAdd, rG_box, Value.cells, rG_pick2, pk2_bool, Bool.false_eq_true, rG_alloc_60, rG_load, ld3, ld1_some, rd1_cells, ld60, ldN_some, rdN_cells, binR_geq, rG_indexAddr, ia60, st3, binR_lss, hA2, h2, hsz2, hn1] <;> rfl) ?_) | (refine xe2x (by simp (disch := first | assumption | omega | (with_unfolding_all exact id rfl) | fail) only [vR_ok, uR_ok, ev_tmp, ev_const, ev_func, Env.put_some, Env.put_none, Env.set_app, Nat.reduceEqDiff, ↓reduceIte, rG_move, rG_assign, opt1_some, ext_all, dec_t, dec_f, beq_t, beq_f, bne_t, bne_f, wrap_i64, wrap_u64, Int.toNat_natCast, Nat.mul_one, Nat.zero_add, Nat.add_zero, List.map_toArray, List.map_cons, List.map_nil, rG_binOp, binR_add, rG_store, st60, stN_1, stN_2, stN_3, stN_4, stN_5, stN_6, stN_7, stN_8, vcs_int, vcs_bool, vcs_ptr, vcs_slice, vcs_map, vcs_nil, vcs_iface, vcs_aggL, List.length_cons, List.length_nil, Nat.reduceAdd, rG_box, Value.cells, rG_pick2, pk2_bool, Bool.false_eq_true, rG_alloc_60, rG_load, ld3, ld1_some, rd1_cells, ld60, ldN_some, rdN_cells, binR_geq, rG_indexAddr, ia60, st3, binR_lss, hA2, h2, hsz2, hn1] <;> rfl) ?_; (first | with_reducible refine kv ?_ | with_reducible refine ks ?_ | with_reducible refine ke ?_)) | (refine xe0_t ?_ ?_; focus (simp (disch := first | assumption | omega | (with_unfolding_all exact id rfl) | fail) only [Env.put_some, Env.put_none, Env.set_app, Nat.reduceEqDiff, ↓reduceIte, Bool.not_true, Bool.not_false, hA2, h2, hsz2, hn1]; done)) | (refine xe1_t ?_ ?_; focus (simp (disch := first | assumption | omega | (with_unfolding_all exact id rfl) | fail) only [Env.put_some, Env.put_none, Env.set_app, Nat.reduceEqDiff, ↓reduceIte, Bool.not_true, Bool.not_false, hA2, h2, hsz2, hn1]; done)) | (refine xe0_f ?_ ?_; focus (simp (disch := first | assumption | omega | (with_unfolding_all exact id rfl) | fail) only [Env.put_some, Env.put_none, Env.set_app, Nat.reduceEqDiff, ↓reduceIte, Bool.not_true, Bool.not_false, hA2, h2, hsz2, hn1]; done)) | (refine xe1_f ?_ ?_; focus (simp (disch := first | assumption | omega | (with_unfolding_all exact id rfl) | fail) only [Env.put_some, Env.put_none, Env.set_app, Nat.reduceEqDiff, ↓reduceIte, Bool.not_true, Bool.not_false, hA2, h2, hsz2, hn1]; done)) | (refine xe0_u ?_ ?_; focus (simp (disch := first | assumption | omega | (with_unfolding_all exact id rfl) | fail) only [Env.put_some, Env.put_none, Env.set_app, Nat.reduceEqDiff, ↓reduceIte, Bool.not_true, Bool.not_false, hA2, h2, hsz2, hn1]; done)) | (refine xe1_u ?_ ?_; focus (simp (disch := first | assumption | omega | (with_unfolding_all exact id rfl) | fail) only [Env.put_some, Env.put_none, Env.set_app, Nat.reduceEqDiff, ↓reduceIte, Bool.not_true, Bool.not_false, hA2, h2, hsz2, hn1]; done)))
        refine xe_nil ?_
        rintro w2 rfl
        have hfin : (((l.map (Value.int .i64)).toArray.setIfInBounds n (.int .i64 y)).setIfInBounds (n + 1) (.int .i64 x)) = ((swp l n).map (Value.int .i64)).toArray := by
          rw [hsw]; simp [hx, hy, List.map_set]
        rw [hfin]
        refine ⟨?_, ?_, ?_, ?_, ?_⟩
        · (try simp (disch := first | assumption | omega | (with_unfolding_all exact id rfl) | fail) only [Env.put_some, Env.put_none, Env.set_app, Nat.reduceEqDiff, ↓reduceIte, nat_int, Int.toNat_natCast, wrap_i64, h2])
        · (try simp (disch := first | assumption | omega | (with_unfolding_all exact id rfl) | fail) only [Env.put_some, Env.put_none, Env.set_app, Nat.reduceEqDiff, ↓reduceIte, nat_int, Int.toNat_natCast, wrap_i64, h4])
        · exact upd_same (by rw [upd_size]; exact hAlt)
        · rw [upd_other (by omega)]; exact hB2
        · exact ((hE.dr d).upd (Nat.le_refl _) _).upd (Nat.le_refl _) _
      · have hsw : swp l i = l := if_neg (fun h => hi2 h.2)
        refine X_seq fun K hK => ?_
        simp only [X_reg, thenX_normal]
        repeat (first | (refine xo (by simp (disch := first | assumption | omega | (with_unfolding_all exact id rfl) | fail) only [vR_ok, uR_ok, ev_tmp, ev_const, ev_func, Env.put_some, Env.put_none, Env.set_app, Nat.reduceEqDiff, ↓reduceIte, rG_move, rG_assign, opt1_some, ext_all, dec_t, dec_f, beq_t, beq_f, bne_t, bne_f, wrap_i64, wrap_u64, Int.toNat_natCast, Nat.mul_one, Nat.zero_add, Nat.add_zero, List.map_toArray, List.map_cons, List.map_nil, rG_binOp, binR_add, rG_store, st60, stN_1, stN_2, stN_3, stN_4, stN_5, stN_6, stN_7, stN_8, vcs_int, vcs_bool, vcs_ptr, vcs_slice, vcs_map, vcs_nil, vcs_iface, vcs_aggL, List.length_cons, List.length_nil, Nat.reduceAdd, rG_box, Value.cells, rG_pick2, pk2_bool, Bool.false_eq_true, rG_alloc_60, rG_load, ld3, ld1_some, rd1_cells, ld60, ldN_some, rdN_cells, binR_geq, rG_indexAddr, ia60, st3, binR_lss, h1] <;> rfl) ?_; first | with_reducible refine kv ?_ | with_reducible refine ks ?_ | with_reducible refine ke ?_) | (refine xo_t ?_ ?_; focus (simp (disch := first | assumption | omega | (with_unfolding_all exact id rfl) | fail) only [Env.put_some, Env.put_none, Env.set_app, Nat.reduceEqDiff, ↓reduceIte, Bool.not_true, Bool.not_false, h1]; done)) | (refine xo_f ?_ ?_; focus (simp (disch := first | assumption | omega | (with_unfolding_all exact id rfl) | fail) only [Env.put_some, Env.put_none, Env.set_app, Nat.reduceEqDiff, ↓reduceIte, Bool.not_true, Bool.not_false, h1]; done)) | (refine xo_u ?_ ?_; focus (simp (disch := first | assumption | omega | (with_unfolding_all exact id rfl) | fail) only [Env.put_some, Env.put_none, Env.set_app, Nat.reduceEqDiff, ↓reduceIte, Bool.not_true, Bool.not_false, h1]; done)))
        refine xo_nil ?_
        refine hK _ _ ?_
        clear hK K
        refine X_if_f (by simp (disch := first | assumption | omega) only [ev_tmp, Env.put_some, Env.put_none, Env.set_app, Nat.reduceEqDiff, ↓reduceIte, beq_f, dec_f]) ?_
        simp only [X_skip, X_exit, X_ret, X_block, thenX_normal, thenX_ret, thenX_exit, inX_normal, inX_ret, inX_exit, ↓reduceIte, Nat.reduceEqDiff]
        rw [hsw]
        refine ⟨?_, ?_, hA, hB, hE⟩
        · (try simp (disch := first | assumption | omega | (with_unfolding_all exact id rfl) | fail) only [Env.put_some, Env.put_none, Env.set_app, Nat.reduceEqDiff, ↓reduceIte, nat_int, Int.toNat_natCast, wrap_i64, h2])
        · (try simp (disch := first | assumption | omega | (with_unfolding_all exact id rfl) | fail) only [Env.put_some, Env.put_none, Env.set_app, Nat.reduceEqDiff, ↓reduceIte, nat_int, Int.toNat_natCast, wrap_i64, h4])
    · have hsw : swp l i = l := if_neg (fun h => hi h.1)
      refine X_seq fun K hK => ?_
      simp only [X_reg, thenX_normal]
      repeat (first | (refine xo (by simp (disch := first | assumption | omega | (with_unfolding_all exact id rfl) | fail) only [vR_ok, uR_ok, ev_tmp, ev_const, ev_func, Env.put_some, Env.put_none, Env.set_app, Nat.reduceEqDiff, ↓reduceIte, rG_move, rG_assign, opt1_some, ext_all, dec_t, dec_f, beq_t, beq_f, bne_t, bne_f, wrap_i64, wrap_u64, Int.toNat_natCast, Nat.mul_one, Nat.zero_add, Nat.add_zero, List.map_toArray, List.map_cons, List.map_nil, rG_binOp, binR_add, rG_store, st60, stN_1, stN_2, stN_3, stN_4, stN_5, stN_6, stN_7, stN_8, vcs_int, vcs_bool, vcs_ptr, vcs_slice, vcs_map, vcs_nil, vcs_iface, vcs_aggL, List.length_cons, List.length_nil, Nat.reduceAdd, rG_box, Value.cells, rG_pick2, pk2_bool, Bool.false_eq_true, rG_alloc_60, rG_load, ld3, ld1_some, rd1_cells, ld60, ldN_some, rdN_cells, binR_geq, rG_indexAddr, ia60, st3, binR_lss, h1] <;> rfl) ?_; first | with_reducible refine kv ?_ | with_reducible refine ks ?_ | with_reducible refine ke ?_) | (refine xo_t ?_ ?_; focus (simp (disch := first | assumption | omega | (with_unfolding_all exact id rfl) | fail) only [Env.put_some, Env.put_none, Env.set_app, Nat.reduceEqDiff, ↓reduceIte, Bool.not_true, Bool.not_false, h1]; done)) | (refine xo_f ?_ ?_; focus (simp (disch := first | assumption | omega | (with_unfolding_all exact id rfl) | fail) only [Env.put_some, Env.put_none, Env.set_app, Nat.reduceEqDiff, ↓reduceIte, Bool.not_true, Bool.not_false, h1]; done)) | (refine xo_u ?_ ?_; focus (simp (disch := first | assumption | omega | (with_unfolding_all exact id rfl) | fail) only [Env.put_some, Env.put_none, Env.set_app, Nat.reduceEqDiff, ↓reduceIte, Bool.not_true, Bool.not_false, h1]; done)))
      refine xo_nil ?_
      refine hK _ _ ?_
      clear hK K
      refine X_if_f (by simp (disch := first | assumption | omega) only [ev_tmp, Env.put_some, Env.put_none, Env.set_app, Nat.reduceEqDiff, ↓reduceIte, beq_f, dec_f]) ?_
      simp only [X_skip, X_exit, X_ret, X_block, thenX_normal, thenX_ret, thenX_exit, inX_normal, inX_ret, inX_exit, ↓reduceIte, Nat.reduceEqDiff]
      rw [hsw]
      refine ⟨?_, ?_, hA, hB, hE⟩
      · (try simp (disch := first | assumption | omega | (with_unfolding_all exact id rfl) | fail) only [Env.put_some, Env.put_none, Env.set_app, Nat.reduceEqDiff, ↓reduceIte, nat_int, Int.toNat_natCast, wrap_i64, h2])
      · (try simp (disch := first | assumption | omega | (with_unfolding_all exact id rfl) | fail) only [Env.put_some, Env.put_none, Env.set_app, Nat.reduceEqDiff, ↓reduceIte, nat_int, Int.toNat_natCast, wrap_i64, h4])
  · clear h2 h4 h1 hA hB hE hAlt hBlt
    rintro e w2 ⟨h2, h4, hA, hB, hE⟩
    have hsz3 : (((swp l i).map (Value.int .i64)).toArray).size = 8 := by simp [swp_length, hl]
    have hsz4 : (((List.replicate 8 0).map (Value.int .i64)).toArray).size = 8 := rfl
    have hlen3 : 0 + ((swp l i).map (Value.int .i64)).length ≤ (((List.replicate 8 0).map (Value.int .i64)).toArray).size := by simp [swp_length, hl]
    have hlen4 : ((swp l i).map (Value.int .i64)).length = 8 := by simp [swp_length, hl]
    have hv4 : (vcs (.agg ((swp l i).map (Value.int .i64)).toArray)).length = 8 := by simp [vcs, Value.cells, swp_length, hl]
    have hv5 : (vcs (.agg ((swp l i).map (Value.int .i64)).toArray)).all isCell = true := all_ints
    refine X_seq fun K hK => ?_
    simp only [X_reg, thenX_normal]
    repeat (first | (refine xo (by simp (disch := first | assumption | omega | (with_unfolding_all exact id rfl) | fail) only [vR_ok, uR_ok, ev_tmp, ev_const, ev_func, Env.put_some, Env.put_none, Env.set_app, Nat.reduceEqDiff, ↓reduceIte, rG_move, rG_assign, opt1_some, ext_all, dec_t, dec_f, beq_t, beq_f, bne_t, bne_f, wrap_i64, wrap_u64, Int.toNat_natCast, Nat.mul_one, Nat.zero_add, Nat.add_zero, List.map_toArray, List.map_cons, List.map_nil, rG_binOp, binR_add, rG_store, st60, stN_1, stN_2, stN_3, stN_4, stN_5, stN_6, stN_7, stN_8, vcs_int, vcs_bool, vcs_ptr, vcs_slice, vcs_map, vcs_nil, vcs_iface, vcs_aggL, List.length_cons, List.length_nil, Nat.reduceAdd, rG_box, Value.cells, rG_pick2, pk2_bool, Bool.false_eq_true, rG_alloc_60, rG_load, ld3, ld1_some, rd1_cells, ld60, ldN_some, rdN_cells, binR_geq, rG_indexAddr, ia60, st3, binR_lss, h2, h4, hA, hB, stN_cells] <;> rfl) ?_; first | with_reducible refine kv ?_ | with_reducible refine ks ?_ | with_reducible refine ke ?_) | (refine xo_t ?_ ?_; focus (simp (disch := first | assumption | omega | (with_unfolding_all exact id rfl) | fail) only [Env.put_some, Env.put_none, Env.set_app, Nat.reduceEqDiff, ↓reduceIte, Bool.not_true, Bool.not_false, h2, h4, hA, hB, stN_cells]; done)) | (refine xo_f ?_ ?_; focus (simp (disch := first | assumption | omega | (with_unfolding_all exact id rfl) | fail) only [Env.put_some, Env.put_none, Env.set_app, Nat.reduceEqDiff, ↓reduceIte, Bool.not_true, Bool.not_false, h2, h4, hA, hB, stN_cells]; done)) | (refine xo_u ?_ ?_; focus (simp (disch := first | assumption | omega | (with_unfolding_all exact id rfl) | fail) only [Env.put_some, Env.put_none, Env.set_app, Nat.reduceEqDiff, ↓reduceIte, Bool.not_true, Bool.not_false, h2, h4, hA, hB, stN_cells]; done)))
    refine xo_nil ?_
    refine hK _ _ ?_
    clear hK K
    have hBlt := lt_of_heap hB
    rw [wrN_whole (by simp [swp_length, hl])]
    simp (disch := first | assumption | omega | (with_unfolding_all exact id rfl) | fail) only [X_ret, thenX_ret, inX_ret, retX_ret, retX_normal, Try.results42, resM_0, resM_1, resM_2, resM_3, resM_4, Env.put_some, Env.put_none, Env.set_app, Nat.reduceEqDiff, ↓reduceIte]
    have hcell := upd_same (w := w2) (b := w.heap.size + 1) (o := .cells ((swp l i).map (Value.int .i64)).toArray 60) hBlt
    refine ⟨aI (swp l i), ?_, rfl, hE.upd (by omega) _⟩
    rw [resM_cell (b := w.heap.size + 1) (o := 0) (by simp only [ev_tmp, Env.put_some, Env.put_none, Env.set_app, Nat.reduceEqDiff, ↓reduceIte, h4]), ld60, hcell, rdN_cells (by simp [swp_length, hl]), ext_all hsz3]
    rfl

/-! ### The reference -/
/-- The first place from k on; -1: none. -/
def FF (l : List Int) (v : Int) (k : Nat) (m : Int) : Prop := (m = -1 ∧ ∀ j, k ≤ j → l[j]? ≠ some v) ∨ ∃ n : Nat, m = n ∧ k ≤ n ∧ l[n]? = some v ∧ ∀ j, k ≤ j → j < n → l[j]? ≠ some v
theorem FF_zero {l : List Int} {v m : Int} (h : FF l v 0 m) : m = lvl l v := by
  rcases h with ⟨rfl, h⟩ | ⟨n, rfl, _, h1, h2⟩
  · rw [lvl_none fun i _ => h i (by omega)]
  · rw [lvl_first h1 fun i hi => h2 i (by omega) hi]

theorem refLevel_calls (l : List Int) (hl : l.length = 8) (v : Int) (w : World) :
    CallsR Try.prog 41 #[aI l, .int .i64 v] w fun r w' => r = .int .i64 (lvl l v) ∧ Ext w w' := by
  have hsz : ((l.map (Value.int .i64)).toArray).size = 8 := by simp [hl]
  refine calls2 (bs := []) Try.func41 rfl mixed (by kernel_rfl) ?_
  intro e0 h0 h1
  simp only [comp, gop, gslot, dops, bigOf, setK, kindOf, List.lookup, List.map_cons, List.map_nil, Option.bind_some, List.getElem?_toArray, List.getElem?_cons_zero, List.getElem?_cons_succ, Option.getD_some, Option.getD_none, List.contains_nil, List.contains_cons, Bool.false_eq_true, ↓reduceIte, Nat.reduceAdd, Nat.reduceBEq, Bool.or_false]
  refine X_seq fun K hK => ?_
  simp only [X_reg, thenX_normal]
  repeat (first | (refine xo (by simp (disch := first | assumption | omega | (with_unfolding_all exact id rfl) | fail) only [vR_ok, uR_ok, ev_tmp, ev_const, ev_func, Env.put_some, Env.put_none, Env.set_app, Nat.reduceEqDiff, ↓reduceIte, rG_move, rG_assign, opt1_some, ext_all, dec_t, dec_f, beq_t, beq_f, bne_t, bne_f, wrap_i64, wrap_u64, Int.toNat_natCast, Nat.mul_one, Nat.zero_add, Nat.add_zero, List.map_toArray, List.map_cons, List.map_nil, resM_1, rG_box, Value.cells, rG_binOp, binR_sub, rG_load, ld3, ld1_some, rd1_cells, binR_geq, rG_indexAddr, ia60, binR_eql, h0, aI] <;> rfl) ?_; first | with_reducible refine kv ?_ | with_reducible refine ks ?_ | with_reducible refine ke ?_) | (refine xo_t ?_ ?_; focus (simp (disch := first | assumption | omega | (with_unfolding_all exact id rfl) | fail) only [Env.put_some, Env.put_none, Env.set_app, Nat.reduceEqDiff, ↓reduceIte, Bool.not_true, Bool.not_false, h0, aI]; done)) | (refine xo_f ?_ ?_; focus (simp (disch := first | assumption | omega | (with_unfolding_all exact id rfl) | fail) only [Env.put_some, Env.put_none, Env.set_app, Nat.reduceEqDiff, ↓reduceIte, Bool.not_true, Bool.not_false, h0, aI]; done)) | (refine xo_u ?_ ?_; focus (simp (disch := first | assumption | omega | (with_unfolding_all exact id rfl) | fail) only [Env.put_some, Env.put_none, Env.set_app, Nat.reduceEqDiff, ↓reduceIte, Bool.not_true, Bool.not_false, h0, aI]; done)))
  refine xo_nil ?_
  refine hK _ _ ?_
  clear hK K
  refine X_seq fun K hK => ?_
  simp only [X_reg, thenX_normal]
  repeat (first | (refine xo (by simp (disch := first | assumption | omega | (with_unfolding_all exact id rfl) | fail) only [vR_ok, uR_ok, ev_tmp, ev_const, ev_func, Env.put_some, Env.put_none, Env.set_app, Nat.reduceEqDiff, ↓reduceIte, rG_move, rG_assign, opt1_some, ext_all, dec_t, dec_f, beq_t, beq_f, bne_t, bne_f, wrap_i64, wrap_u64, Int.toNat_natCast, Nat.mul_one, Nat.zero_add, Nat.add_zero, List.map_toArray, List.map_cons, List.map_nil, resM_1, rG_box, Value.cells, rG_binOp, binR_sub, rG_load, ld3, ld1_some, rd1_cells, binR_geq, rG_indexAddr, ia60, binR_eql] <;> rfl) ?_; first | with_reducible refine kv ?_ | with_reducible refine ks ?_ | with_reducible refine ke ?_) | (refine xo_t ?_ ?_; focus (simp (disch := first | assumption | omega | (with_unfolding_all exact id rfl) | fail) only [Env.put_some, Env.put_none, Env.set_app, Nat.reduceEqDiff, ↓reduceIte, Bool.not_true, Bool.not_false]; done)) | (refine xo_f ?_ ?_; focus (simp (disch := first | assumption | omega | (with_unfolding_all exact id rfl) | fail) only [Env.put_some, Env.put_none, Env.set_app, Nat.reduceEqDiff, ↓reduceIte, Bool.not_true, Bool.not_false]; done)) | (refine xo_u ?_ ?_; focus (simp (disch := first | assumption | omega | (with_unfolding_all exact id rfl) | fail) only [Env.put_some, Env.put_none, Env.set_app, Nat.reduceEqDiff, ↓reduceIte, Bool.not_true, Bool.not_false]; done)))
  refine xo_nil ?_
  refine hK _ _ ?_
  clear hK K
  refine X_cut (fun e w1 => e 5 = .int .i64 (lvl l v) ∧ Ext w w1) ?_ ?_
  · refine X_seq fun K hK => ?_
    simp only [X_reg, thenX_normal]
    repeat (first | (refine xo (by simp (disch := first | assumption | omega | (with_unfolding_all exact id rfl) | fail) only [vR_ok, uR_ok, ev_tmp, ev_const, ev_func, Env.put_some, Env.put_none, Env.set_app, Nat.reduceEqDiff, ↓reduceIte, rG_move, rG_assign, opt1_some, ext_all, dec_t, dec_f, beq_t, beq_f, bne_t, bne_f, wrap_i64, wrap_u64, Int.toNat_natCast, Nat.mul_one, Nat.zero_add, Nat.add_zero, List.map_toArray, List.map_cons, List.map_nil, resM_1, rG_box, Value.cells, rG_binOp, binR_sub, rG_load, ld3, ld1_some, rd1_cells, binR_geq, rG_indexAddr, ia60, binR_eql] <;> rfl) ?_; first | with_reducible refine kv ?_ | with_reducible refine ks ?_ | with_reducible refine ke ?_) | (refine xo_t ?_ ?_; focus (simp (disch := first | assumption | omega | (with_unfolding_all exact id rfl) | fail) only [Env.put_some, Env.put_none, Env.set_app, Nat.reduceEqDiff, ↓reduceIte, Bool.not_true, Bool.not_false]; done)) | (refine xo_f ?_ ?_; focus (simp (disch := first | assumption | omega | (with_unfolding_all exact id rfl) | fail) only [Env.put_some, Env.put_none, Env.set_app, Nat.reduceEqDiff, ↓reduceIte, Bool.not_true, Bool.not_false]; done)) | (refine xo_u ?_ ?_; focus (simp (disch := first | assumption | omega | (with_unfolding_all exact id rfl) | fail) only [Env.put_some, Env.put_none, Env.set_app, Nat.reduceEqDiff, ↓reduceIte, Bool.not_true, Bool.not_false]; done)))
    refine xo_nil ?_
    refine hK _ _ ?_
    clear hK K
    simp only [X_skip, X_exit, X_ret, X_block, thenX_normal, thenX_ret, thenX_exit, inX_normal, inX_ret, inX_exit, ↓reduceIte, Nat.reduceEqDiff]
    refine X_loop (fun e w' => ∃ k : Nat, ∃ m : Int, k ≤ 8 ∧ FF l v k m ∧ e 6 = .int .i64 ((k : Int) - 1) ∧ e 5 = .int .i64 m ∧ e 2 = .pointer (some ⟨w.heap.size, 0, none⟩) ∧ e 1 = .int .i64 v ∧ w'.heap[w.heap.size]? = some (.cells (l.map (Value.int .i64)).toArray 60) ∧ Ext w w') (fun e _ => match e 6 with | .int _ n => (n + 1).toNat | _ => 0) ?_ ?_
    · refine ⟨8, -1, by omega, .inl ⟨rfl, fun j hj => ?_⟩, ?_, ?_, ?_, ?_, alloc_new, (Ext.refl w).alloc _⟩
      · rw [List.getElem?_eq_none (by omega)]; simp
      · (try simp (disch := first | assumption | omega | (with_unfolding_all exact id rfl) | fail) only [Env.put_some, Env.put_none, Env.set_app, Nat.reduceEqDiff, ↓reduceIte, nat_int, Int.toNat_natCast, wrap_i64])
        rfl
      · (try simp (disch := first | assumption | omega | (with_unfolding_all exact id rfl) | fail) only [Env.put_some, Env.put_none, Env.set_app, Nat.reduceEqDiff, ↓reduceIte, nat_int, Int.toNat_natCast, wrap_i64])
      · (try simp (disch := first | assumption | omega | (with_unfolding_all exact id rfl) | fail) only [Env.put_some, Env.put_none, Env.set_app, Nat.reduceEqDiff, ↓reduceIte, nat_int, Int.toNat_natCast, wrap_i64])
      · (try simp (disch := first | assumption | omega | (with_unfolding_all exact id rfl) | fail) only [Env.put_some, Env.put_none, Env.set_app, Nat.reduceEqDiff, ↓reduceIte, nat_int, Int.toNat_natCast, wrap_i64, h1])
    · clear h0 h1
      rintro e w1 ⟨k, m, hk, hm, h6, h5, h2, h1, hb, hext⟩
      by_cases hlt : k = 0
      · subst hlt
        refine X_seq fun K hK => ?_
        refine X_seq fun K hK => ?_
        (try simp only [X_reg, thenX_normal])
        repeat (first | (refine xo (by simp (disch := first | assumption | omega | (with_unfolding_all exact id rfl) | fail) only [vR_ok, uR_ok, ev_tmp, ev_const, ev_func, Env.put_some, Env.put_none, Env.set_app, Nat.reduceEqDiff, ↓reduceIte, rG_move, rG_assign, opt1_some, ext_all, dec_t, dec_f, beq_t, beq_f, bne_t, bne_f, wrap_i64, wrap_u64, Int.toNat_natCast, Nat.mul_one, Nat.zero_add, Nat.add_zero, List.map_toArray, List.map_cons, List.map_nil, resM_1, rG_box, Value.cells, rG_binOp, binR_sub, rG_load, ld3, ld1_some, rd1_cells, binR_geq, rG_indexAddr, ia60, binR_eql, h6] <;> rfl) ?_; first | with_reducible refine kv ?_ | with_reducible refine ks ?_ | with_reducible refine ke ?_) | (refine xo_t ?_ ?_; focus (simp (disch := first | assumption | omega | (with_unfolding_all exact id rfl) | fail) only [Env.put_some, Env.put_none, Env.set_app, Nat.reduceEqDiff, ↓reduceIte, Bool.not_true, Bool.not_false, h6]; done)) | (refine xo_f ?_ ?_; focus (simp (disch := first | assumption | omega | (with_unfolding_all exact id rfl) | fail) only [Env.put_some, Env.put_none, Env.set_app, Nat.reduceEqDiff, ↓reduceIte, Bool.not_true, Bool.not_false, h6]; done)) | (refine xo_u ?_ ?_; focus (simp (disch := first | assumption | omega | (with_unfolding_all exact id rfl) | fail) only [Env.put_some, Env.put_none, Env.set_app, Nat.reduceEqDiff, ↓reduceIte, Bool.not_true, Bool.not_false, h6]; done)))
        (try refine xo_nil ?_)
        refine hK _ _ ?_
        clear hK K
        refine X_if_f (by simp (disch := first | assumption | omega) only [ev_tmp, Env.put_some, Env.put_none, Env.set_app, Nat.reduceEqDiff, ↓reduceIte, beq_f, dec_f]) ?_
        simp only [X_skip, X_exit, X_ret, X_block, thenX_normal, thenX_ret, thenX_exit, inX_normal, inX_ret, inX_exit, ↓reduceIte, Nat.reduceEqDiff]
        refine ⟨?_, hext⟩
        (try simp (disch := first | assumption | omega | (with_unfolding_all exact id rfl) | fail) only [Env.put_some, Env.put_none, Env.set_app, Nat.reduceEqDiff, ↓reduceIte, nat_int, Int.toNat_natCast, wrap_i64, h5])
        rw [FF_zero hm]
      · obtain ⟨n, rfl⟩ : ∃ n, k = n + 1 := ⟨k - 1, by omega⟩
        obtain ⟨x, hx⟩ : ∃ x, l[n]? = some x := ⟨l[n], List.getElem?_eq_getElem (by omega)⟩
        have hc : (((n + 1 : Nat) : Int) - 1) = n := by omega
        rw [hc] at h6
        refine X_seq fun K hK => ?_
        refine X_seq fun K hK => ?_
        (try simp only [X_reg, thenX_normal])
        repeat (first | (refine xo (by simp (disch := first | assumption | omega | (with_unfolding_all exact id rfl) | fail) only [vR_ok, uR_ok, ev_tmp, ev_const, ev_func, Env.put_some, Env.put_none, Env.set_app, Nat.reduceEqDiff, ↓reduceIte, rG_move, rG_assign, opt1_some, ext_all, dec_t, dec_f, beq_t, beq_f, bne_t, bne_f, wrap_i64, wrap_u64, Int.toNat_natCast, Nat.mul_one, Nat.zero_add, Nat.add_zero, List.map_toArray, List.map_cons, List.map_nil, resM_1, rG_box, Value.cells, rG_binOp, binR_sub, rG_load, ld3, ld1_some, rd1_cells, binR_geq, rG_indexAddr, ia60, binR_eql, h6] <;> rfl) ?_; first | with_reducible refine kv ?_ | with_reducible refine ks ?_ | with_reducible refine ke ?_) | (refine xo_t ?_ ?_; focus (simp (disch := first | assumption | omega | (with_unfolding_all exact id rfl) | fail) only [Env.put_some, Env.put_none, Env.set_app, Nat.reduceEqDiff, ↓reduceIte, Bool.not_true, Bool.not_false, h6]; done)) | (refine xo_f ?_ ?_; focus (simp (disch := first | assumption | omega | (with_unfolding_all exact id rfl) | fail) only [Env.put_some, Env.put_none, Env.set_app, Nat.reduceEqDiff, ↓reduceIte, Bool.not_true, Bool.not_false, h6]; done)) | (refine xo_u ?_ ?_; focus (simp (disch := first | assumption | omega | (with_unfolding_all exact id rfl) | fail) only [Env.put_some, Env.put_none, Env.set_app, Nat.reduceEqDiff, ↓reduceIte, Bool.not_true, Bool.not_false, h6]; done)))
        (try refine xo_nil ?_)
        refine hK _ _ ?_
        clear hK K
        refine X_if_t (by simp (disch := first | assumption | omega) only [ev_tmp, Env.put_some, Env.put_none, Env.set_app, Nat.reduceEqDiff, ↓reduceIte, beq_t, dec_t, beq_self_eq_true]) ?_
        simp only [X_skip, X_exit, X_ret, X_block, thenX_normal, thenX_ret, thenX_exit, inX_normal, inX_ret, inX_exit, ↓reduceIte, Nat.reduceEqDiff]
        (try refine xo_nil ?_)
        refine hK _ _ ?_
        clear hK K
        refine X_seq fun K hK => ?_
        simp only [X_skip, X_exit, X_ret, X_block, thenX_normal, thenX_ret, thenX_exit, inX_normal, inX_ret, inX_exit, ↓reduceIte, Nat.reduceEqDiff]
        refine X_seq fun K hK => ?_
        simp only [X_reg, thenX_normal]
        repeat (first | (refine xo (by simp (disch := first | assumption | omega | (with_unfolding_all exact id rfl) | fail) only [vR_ok, uR_ok, ev_tmp, ev_const, ev_func, Env.put_some, Env.put_none, Env.set_app, Nat.reduceEqDiff, ↓reduceIte, rG_move, rG_assign, opt1_some, ext_all, dec_t, dec_f, beq_t, beq_f, bne_t, bne_f, wrap_i64, wrap_u64, Int.toNat_natCast, Nat.mul_one, Nat.zero_add, Nat.add_zero, List.map_toArray, List.map_cons, List.map_nil, resM_1, rG_box, Value.cells, rG_binOp, binR_sub, rG_load, ld3, ld1_some, rd1_cells, binR_geq, rG_indexAddr, ia60, binR_eql, h6, h2, hb, List.getElem?_toArray, List.getElem?_map, hx, Option.map_some, h1] <;> rfl) ?_; first | with_reducible refine kv ?_ | with_reducible refine ks ?_ | with_reducible refine ke ?_) | (refine xo_t ?_ ?_; focus (simp (disch := first | assumption | omega | (with_unfolding_all exact id rfl) | fail) only [Env.put_some, Env.put_none, Env.set_app, Nat.reduceEqDiff, ↓reduceIte, Bool.not_true, Bool.not_false, h6, h2, hb, List.getElem?_toArray, List.getElem?_map, hx, Option.map_some, h1]; done)) | (refine xo_f ?_ ?_; focus (simp (disch := first | assumption | omega | (with_unfolding_all exact id rfl) | fail) only [Env.put_some, Env.put_none, Env.set_app, Nat.reduceEqDiff, ↓reduceIte, Bool.not_true, Bool.not_false, h6, h2, hb, List.getElem?_toArray, List.getElem?_map, hx, Option.map_some, h1]; done)) | (refine xo_u ?_ ?_; focus (simp (disch := first | assumption | omega | (with_unfolding_all exact id rfl) | fail) only [Env.put_some, Env.put_none, Env.set_app, Nat.reduceEqDiff, ↓reduceIte, Bool.not_true, Bool.not_false, h6, h2, hb, List.getElem?_toArray, List.getElem?_map, hx, Option.map_some, h1]; done)))
        refine xo_nil ?_
        refine hK _ _ ?_
        clear hK K
        by_cases hxv : x = v
        · subst hxv
          refine X_if_t (by simp (disch := first | assumption | omega) only [ev_tmp, Env.put_some, Env.put_none, Env.set_app, Nat.reduceEqDiff, ↓reduceIte, beq_t, dec_t, beq_self_eq_true]) ?_
          (try simp only [X_reg, thenX_normal])
          repeat (first | (refine xo (by simp (disch := first | assumption | omega | (with_unfolding_all exact id rfl) | fail) only [vR_ok, uR_ok, ev_tmp, ev_const, ev_func, Env.put_some, Env.put_none, Env.set_app, Nat.reduceEqDiff, ↓reduceIte, rG_move, rG_assign, opt1_some, ext_all, dec_t, dec_f, beq_t, beq_f, bne_t, bne_f, wrap_i64, wrap_u64, Int.toNat_natCast, Nat.mul_one, Nat.zero_add, Nat.add_zero, List.map_toArray, List.map_cons, List.map_nil, resM_1, rG_box, Value.cells, rG_binOp, binR_sub, rG_load, ld3, ld1_some, rd1_cells, binR_geq, rG_indexAddr, ia60, binR_eql, h6] <;> rfl) ?_; first | with_reducible refine kv ?_ | with_reducible refine ks ?_ | with_reducible refine ke ?_) | (refine xo_t ?_ ?_; focus (simp (disch := first | assumption | omega | (with_unfolding_all exact id rfl) | fail) only [Env.put_some, Env.put_none, Env.set_app, Nat.reduceEqDiff, ↓reduceIte, Bool.not_true, Bool.not_false, h6]; done)) | (refine xo_f ?_ ?_; focus (simp (disch := first | assumption | omega | (with_unfolding_all exact id rfl) | fail) only [Env.put_some, Env.put_none, Env.set_app, Nat.reduceEqDiff, ↓reduceIte, Bool.not_true, Bool.not_false, h6]; done)) | (refine xo_u ?_ ?_; focus (simp (disch := first | assumption | omega | (with_unfolding_all exact id rfl) | fail) only [Env.put_some, Env.put_none, Env.set_app, Nat.reduceEqDiff, ↓reduceIte, Bool.not_true, Bool.not_false, h6]; done)))
          refine xo_nil ?_
          simp only [X_skip, X_exit, X_ret, X_block, thenX_normal, thenX_ret, thenX_exit, inX_normal, inX_ret, inX_exit, ↓reduceIte, Nat.reduceEqDiff]
          (try refine xo_nil ?_)
          refine hK _ _ ?_
          clear hK K
          (try simp only [X_reg, thenX_normal])
          repeat (first | (refine xo (by simp (disch := first | assumption | omega | (with_unfolding_all exact id rfl) | fail) only [vR_ok, uR_ok, ev_tmp, ev_const, ev_func, Env.put_some, Env.put_none, Env.set_app, Nat.reduceEqDiff, ↓reduceIte, rG_move, rG_assign, opt1_some, ext_all, dec_t, dec_f, beq_t, beq_f, bne_t, bne_f, wrap_i64, wrap_u64, Int.toNat_natCast, Nat.mul_one, Nat.zero_add, Nat.add_zero, List.map_toArray, List.map_cons, List.map_nil, resM_1, rG_box, Value.cells, rG_binOp, binR_sub, rG_load, ld3, ld1_some, rd1_cells, binR_geq, rG_indexAddr, ia60, binR_eql, h6] <;> rfl) ?_; first | with_reducible refine kv ?_ | with_reducible refine ks ?_ | with_reducible refine ke ?_) | (refine xo_t ?_ ?_; focus (simp (disch := first | assumption | omega | (with_unfolding_all exact id rfl) | fail) only [Env.put_some, Env.put_none, Env.set_app, Nat.reduceEqDiff, ↓reduceIte, Bool.not_true, Bool.not_false, h6]; done)) | (refine xo_f ?_ ?_; focus (simp (disch := first | assumption | omega | (with_unfolding_all exact id rfl) | fail) only [Env.put_some, Env.put_none, Env.set_app, Nat.reduceEqDiff, ↓reduceIte, Bool.not_true, Bool.not_false, h6]; done)) | (refine xo_u ?_ ?_; focus (simp (disch := first | assumption | omega | (with_unfolding_all exact id rfl) | fail) only [Env.put_some, Env.put_none, Env.set_app, Nat.reduceEqDiff, ↓reduceIte, Bool.not_true, Bool.not_false, h6]; done)))
          refine xo_nil ⟨⟨n, n, by omega, .inr ⟨n, rfl, Nat.le_refl _, hx, fun j h1 h2 => by omega⟩, ?_, ?_, ?_, ?_, hb, hext⟩, ?_⟩
          · (try simp (disch := first | assumption | omega | (with_unfolding_all exact id rfl) | fail) only [Env.put_some, Env.put_none, Env.set_app, Nat.reduceEqDiff, ↓reduceIte, nat_int, Int.toNat_natCast, wrap_i64])
          · (try simp (disch := first | assumption | omega | (with_unfolding_all exact id rfl) | fail) only [Env.put_some, Env.put_none, Env.set_app, Nat.reduceEqDiff, ↓reduceIte, nat_int, Int.toNat_natCast, wrap_i64])
          · (try simp (disch := first | assumption | omega | (with_unfolding_all exact id rfl) | fail) only [Env.put_some, Env.put_none, Env.set_app, Nat.reduceEqDiff, ↓reduceIte, nat_int, Int.toNat_natCast, wrap_i64, h2])
          · (try simp (disch := first | assumption | omega | (with_unfolding_all exact id rfl) | fail) only [Env.put_some, Env.put_none, Env.set_app, Nat.reduceEqDiff, ↓reduceIte, nat_int, Int.toNat_natCast, wrap_i64, h1])
          · (try simp (disch := first | assumption | omega | (with_unfolding_all exact id rfl) | fail) only [Env.put_some, Env.put_none, Env.set_app, Nat.reduceEqDiff, ↓reduceIte, nat_int, Int.toNat_natCast, wrap_i64, h6])
            omega
        · have hbe : (x == v) = false := beq_eq_false_iff_ne.2 hxv
          refine X_if_f (by simp (disch := first | assumption | omega) only [ev_tmp, Env.put_some, Env.put_none, Env.set_app, Nat.reduceEqDiff, ↓reduceIte, beq_f, dec_f, hbe]) ?_
          simp only [X_skip, X_exit, X_ret, X_block, thenX_normal, thenX_ret, thenX_exit, inX_normal, inX_ret, inX_exit, ↓reduceIte, Nat.reduceEqDiff]
          (try refine xo_nil ?_)
          refine hK _ _ ?_
          clear hK K
          (try simp only [X_reg, thenX_normal])
          repeat (first | (refine xo (by simp (disch := first | assumption | omega | (with_unfolding_all exact id rfl) | fail) only [vR_ok, uR_ok, ev_tmp, ev_const, ev_func, Env.put_some, Env.put_none, Env.set_app, Nat.reduceEqDiff, ↓reduceIte, rG_move, rG_assign, opt1_some, ext_all, dec_t, dec_f, beq_t, beq_f, bne_t, bne_f, wrap_i64, wrap_u64, Int.toNat_natCast, Nat.mul_one, Nat.zero_add, Nat.add_zero, List.map_toArray, List.map_cons, List.map_nil, resM_1, rG_box, Value.cells, rG_binOp, binR_sub, rG_load, ld3, ld1_some, rd1_cells, binR_geq, rG_indexAddr, ia60, binR_eql, h6] <;> rfl) ?_; first | with_reducible refine kv ?_ | with_reducible refine ks ?_ | with_reducible refine ke ?_) | (refine xo_t ?_ ?_; focus (simp (disch := first | assumption | omega | (with_unfolding_all exact id rfl) | fail) only [Env.put_some, Env.put_none, Env.set_app, Nat.reduceEqDiff, ↓reduceIte, Bool.not_true, Bool.not_false, h6]; done)) | (refine xo_f ?_ ?_; focus (simp (disch := first | assumption | omega | (with_unfolding_all exact id rfl) | fail) only [Env.put_some, Env.put_none, Env.set_app, Nat.reduceEqDiff, ↓reduceIte, Bool.not_true, Bool.not_false, h6]; done)) | (refine xo_u ?_ ?_; focus (simp (disch := first | assumption | omega | (with_unfolding_all exact id rfl) | fail) only [Env.put_some, Env.put_none, Env.set_app, Nat.reduceEqDiff, ↓reduceIte, Bool.not_true, Bool.not_false, h6]; done)))
          refine xo_nil ⟨⟨n, m, by omega, ?_, ?_, ?_, ?_, ?_, hb, hext⟩, ?_⟩
          · rcases hm with ⟨rfl, h⟩ | ⟨q, rfl, g1, g2, g3⟩
            · refine .inl ⟨rfl, fun j hj => ?_⟩
              by_cases hjn : j = n
              · subst hjn; rw [hx]; simp [hxv]
              · exact h j (by omega)
            · refine .inr ⟨q, rfl, by omega, g2, fun j hj hq => ?_⟩
              by_cases hjn : j = n
              · subst hjn; rw [hx]; simp [hxv]
              · exact g3 j (by omega) hq
          · (try simp (disch := first | assumption | omega | (with_unfolding_all exact id rfl) | fail) only [Env.put_some, Env.put_none, Env.set_app, Nat.reduceEqDiff, ↓reduceIte, nat_int, Int.toNat_natCast, wrap_i64])
          · (try simp (disch := first | assumption | omega | (with_unfolding_all exact id rfl) | fail) only [Env.put_some, Env.put_none, Env.set_app, Nat.reduceEqDiff, ↓reduceIte, nat_int, Int.toNat_natCast, wrap_i64, h5])
          · (try simp (disch := first | assumption | omega | (with_unfolding_all exact id rfl) | fail) only [Env.put_some, Env.put_none, Env.set_app, Nat.reduceEqDiff, ↓reduceIte, nat_int, Int.toNat_natCast, wrap_i64, h2])
          · (try simp (disch := first | assumption | omega | (with_unfolding_all exact id rfl) | fail) only [Env.put_some, Env.put_none, Env.set_app, Nat.reduceEqDiff, ↓reduceIte, nat_int, Int.toNat_natCast, wrap_i64, h1])
          · (try simp (disch := first | assumption | omega | (with_unfolding_all exact id rfl) | fail) only [Env.put_some, Env.put_none, Env.set_app, Nat.reduceEqDiff, ↓reduceIte, nat_int, Int.toNat_natCast, wrap_i64, h6])
            omega
  · rintro e w1 ⟨h5, hE⟩
    refine X_seq fun K hK => ?_
    simp only [X_reg, thenX_normal]
    repeat (first | (refine xo (by simp (disch := first | assumption | omega | (with_unfolding_all exact id rfl) | fail) only [vR_ok, uR_ok, ev_tmp, ev_const, ev_func, Env.put_some, Env.put_none, Env.set_app, Nat.reduceEqDiff, ↓reduceIte, rG_move, rG_assign, opt1_some, ext_all, dec_t, dec_f, beq_t, beq_f, bne_t, bne_f, wrap_i64, wrap_u64, Int.toNat_natCast, Nat.mul_one, Nat.zero_add, Nat.add_zero, List.map_toArray, List.map_cons, List.map_nil, resM_1, rG_box, Value.cells, rG_binOp, binR_sub, rG_load, ld3, ld1_some, rd1_cells, binR_geq, rG_indexAddr, ia60, binR_eql, h5] <;> rfl) ?_; first | with_reducible refine kv ?_ | with_reducible refine ks ?_ | with_reducible refine ke ?_) | (refine xo_t ?_ ?_; focus (simp (disch := first | assumption | omega | (with_unfolding_all exact id rfl) | fail) only [Env.put_some, Env.put_none, Env.set_app, Nat.reduceEqDiff, ↓reduceIte, Bool.not_true, Bool.not_false, h5]; done)) | (refine xo_f ?_ ?_; focus (simp (disch := first | assumption | omega | (with_unfolding_all exact id rfl) | fail) only [Env.put_some, Env.put_none, Env.set_app, Nat.reduceEqDiff, ↓reduceIte, Bool.not_true, Bool.not_false, h5]; done)) | (refine xo_u ?_ ?_; focus (simp (disch := first | assumption | omega | (with_unfolding_all exact id rfl) | fail) only [Env.put_some, Env.put_none, Env.set_app, Nat.reduceEqDiff, ↓reduceIte, Bool.not_true, Bool.not_false, h5]; done)))
    refine xo_nil ?_
    refine hK _ _ ?_
    clear hK K
    simp (disch := first | assumption | omega | (with_unfolding_all exact id rfl) | fail) only [X_ret, thenX_ret, inX_ret, retX_ret, retX_normal, Try.results41, resM_0, resM_1, resM_2, resM_3, resM_4, Env.put_some, Env.put_none, Env.set_app, Nat.reduceEqDiff, ↓reduceIte]
    exact ⟨_, rfl, rfl, hE⟩

def cnt (l : List Int) (k : Nat) : Nat := (List.range k).countP fun v : Nat => decide (0 ≤ lvl l v)
theorem cnt_succ (l : List Int) (k : Nat) : cnt l (k + 1) = cnt l k + if 0 ≤ lvl l k then 1 else 0 := by
  unfold cnt
  rw [List.range_succ, List.countP_append]
  simp [List.countP_cons]
theorem cnt_le (l : List Int) (k : Nat) : cnt l k ≤ k := by
  have := List.countP_le_length (p := fun v : Nat => decide (0 ≤ lvl l v)) (l := List.range k)
  simpa [cnt] using this
theorem cnt_may (l : List Int) : ((cnt l 8 : Nat) : Int) = 8 ↔ mayL l = true := by
  have h : cnt l 8 = (List.range 8).length ↔ _ := List.countP_eq_length
  simp only [List.length_range] at h
  constructor
  · intro e
    have e' : cnt l 8 = 8 := by omega
    exact List.all_eq_true.2 fun v hv => h.1 e' v hv
  · intro e
    have := h.2 fun v hv => List.all_eq_true.1 e v hv
    omega

theorem refMay_calls (l : List Int) (hl : l.length = 8) (w : World) :
    CallsR Try.prog 39 #[aI l] w fun r w' => r = .bool (mayL l) ∧ Ext w w' := by
  have hsz : ((l.map (Value.int .i64)).toArray).size = 8 := by simp [hl]
  refine calls1 (bs := []) Try.func39 rfl mixed (by kernel_rfl) ?_
  intro e0 h0
  simp only [comp, gop, gslot, dops, bigOf, setK, kindOf, List.lookup, List.map_cons, List.map_nil, Option.bind_some, List.getElem?_toArray, List.getElem?_cons_zero, List.getElem?_cons_succ, Option.getD_some, Option.getD_none, List.contains_nil, List.contains_cons, Bool.false_eq_true, ↓reduceIte, Nat.reduceAdd, Nat.reduceBEq, Bool.or_false]
  refine X_seq fun K hK => ?_
  simp only [X_reg, thenX_normal]
  repeat (first | (refine xo (by simp (disch := first | assumption | omega | (with_unfolding_all exact id rfl) | fail) only [vR_ok, uR_ok, ev_tmp, ev_const, ev_func, Env.put_some, Env.put_none, Env.set_app, Nat.reduceEqDiff, ↓reduceIte, rG_move, rG_assign, opt1_some, ext_all, dec_t, dec_f, beq_t, beq_f, bne_t, bne_f, wrap_i64, wrap_u64, Int.toNat_natCast, Nat.mul_one, Nat.zero_add, Nat.add_zero, List.map_toArray, List.map_cons, List.map_nil, rG_binOp, binR_add, resM_1, rG_box, Value.cells, call41, rG_load, ld60, ldN_some, rdN_cells, binR_geq, binR_eql, binR_lss, h0, aI] <;> rfl) ?_; first | with_reducible refine kv ?_ | with_reducible refine ks ?_ | with_reducible refine ke ?_) | (refine xo_t ?_ ?_; focus (simp (disch := first | assumption | omega | (with_unfolding_all exact id rfl) | fail) only [Env.put_some, Env.put_none, Env.set_app, Nat.reduceEqDiff, ↓reduceIte, Bool.not_true, Bool.not_false, h0, aI]; done)) | (refine xo_f ?_ ?_; focus (simp (disch := first | assumption | omega | (with_unfolding_all exact id rfl) | fail) only [Env.put_some, Env.put_none, Env.set_app, Nat.reduceEqDiff, ↓reduceIte, Bool.not_true, Bool.not_false, h0, aI]; done)) | (refine xo_u ?_ ?_; focus (simp (disch := first | assumption | omega | (with_unfolding_all exact id rfl) | fail) only [Env.put_some, Env.put_none, Env.set_app, Nat.reduceEqDiff, ↓reduceIte, Bool.not_true, Bool.not_false, h0, aI]; done)))
  refine xo_nil ?_
  refine hK _ _ ?_
  clear hK K
  refine X_seq fun K hK => ?_
  simp only [X_reg, thenX_normal]
  repeat (first | (refine xo (by simp (disch := first | assumption | omega | (with_unfolding_all exact id rfl) | fail) only [vR_ok, uR_ok, ev_tmp, ev_const, ev_func, Env.put_some, Env.put_none, Env.set_app, Nat.reduceEqDiff, ↓reduceIte, rG_move, rG_assign, opt1_some, ext_all, dec_t, dec_f, beq_t, beq_f, bne_t, bne_f, wrap_i64, wrap_u64, Int.toNat_natCast, Nat.mul_one, Nat.zero_add, Nat.add_zero, List.map_toArray, List.map_cons, List.map_nil, rG_binOp, binR_add, resM_1, rG_box, Value.cells, call41, rG_load, ld60, ldN_some, rdN_cells, binR_geq, binR_eql, binR_lss] <;> rfl) ?_; first | with_reducible refine kv ?_ | with_reducible refine ks ?_ | with_reducible refine ke ?_) | (refine xo_t ?_ ?_; focus (simp (disch := first | assumption | omega | (with_unfolding_all exact id rfl) | fail) only [Env.put_some, Env.put_none, Env.set_app, Nat.reduceEqDiff, ↓reduceIte, Bool.not_true, Bool.not_false]; done)) | (refine xo_f ?_ ?_; focus (simp (disch := first | assumption | omega | (with_unfolding_all exact id rfl) | fail) only [Env.put_some, Env.put_none, Env.set_app, Nat.reduceEqDiff, ↓reduceIte, Bool.not_true, Bool.not_false]; done)) | (refine xo_u ?_ ?_; focus (simp (disch := first | assumption | omega | (with_unfolding_all exact id rfl) | fail) only [Env.put_some, Env.put_none, Env.set_app, Nat.reduceEqDiff, ↓reduceIte, Bool.not_true, Bool.not_false]; done)))
  refine xo_nil ?_
  refine hK _ _ ?_
  clear hK K
  refine X_cut (fun e w1 => e 3 = .int .i64 (cnt l 8) ∧ Ext w w1) ?_ ?_
  · refine X_seq fun K hK => ?_
    simp only [X_reg, thenX_normal]
    repeat (first | (refine xo (by simp (disch := first | assumption | omega | (with_unfolding_all exact id rfl) | fail) only [vR_ok, uR_ok, ev_tmp, ev_const, ev_func, Env.put_some, Env.put_none, Env.set_app, Nat.reduceEqDiff, ↓reduceIte, rG_move, rG_assign, opt1_some, ext_all, dec_t, dec_f, beq_t, beq_f, bne_t, bne_f, wrap_i64, wrap_u64, Int.toNat_natCast, Nat.mul_one, Nat.zero_add, Nat.add_zero, List.map_toArray, List.map_cons, List.map_nil, rG_binOp, binR_add, resM_1, rG_box, Value.cells, call41, rG_load, ld60, ldN_some, rdN_cells, binR_geq, binR_eql, binR_lss] <;> rfl) ?_; first | with_reducible refine kv ?_ | with_reducible refine ks ?_ | with_reducible refine ke ?_) | (refine xo_t ?_ ?_; focus (simp (disch := first | assumption | omega | (with_unfolding_all exact id rfl) | fail) only [Env.put_some, Env.put_none, Env.set_app, Nat.reduceEqDiff, ↓reduceIte, Bool.not_true, Bool.not_false]; done)) | (refine xo_f ?_ ?_; focus (simp (disch := first | assumption | omega | (with_unfolding_all exact id rfl) | fail) only [Env.put_some, Env.put_none, Env.set_app, Nat.reduceEqDiff, ↓reduceIte, Bool.not_true, Bool.not_false]; done)) | (refine xo_u ?_ ?_; focus (simp (disch := first | assumption | omega | (with_unfolding_all exact id rfl) | fail) only [Env.put_some, Env.put_none, Env.set_app, Nat.reduceEqDiff, ↓reduceIte, Bool.not_true, Bool.not_false]; done)))
    refine xo_nil ?_
    refine hK _ _ ?_
    clear hK K
    simp only [X_skip, X_exit, X_ret, X_block, thenX_normal, thenX_ret, thenX_exit, inX_normal, inX_ret, inX_exit, ↓reduceIte, Nat.reduceEqDiff]
    refine X_loop (fun e w' => ∃ k : Nat, k ≤ 8 ∧ e 4 = .int .i64 k ∧ e 3 = .int .i64 (cnt l k) ∧ e 1 = .pointer (some ⟨w.heap.size, 0, none⟩) ∧ w'.heap[w.heap.size]? = some (.cells (l.map (Value.int .i64)).toArray 60) ∧ Ext w w') (fun e _ => 8 - nat (e 4)) ?_ ?_
    · refine ⟨0, by omega, ?_, ?_, ?_, alloc_new, (Ext.refl w).alloc _⟩ <;> (try simp (disch := first | assumption | omega | (with_unfolding_all exact id rfl) | fail) only [Env.put_some, Env.put_none, Env.set_app, Nat.reduceEqDiff, ↓reduceIte, nat_int, Int.toNat_natCast, wrap_i64])
      · rfl
      · rfl
    · clear h0
      rintro e w1 ⟨k, hk, h4, h3, h1, hb, hext⟩
      have hc := cnt_le l k
      have hcs := cnt_succ l k
      by_cases hlt : k < 8
      · refine X_seq fun K hK => ?_
        refine X_seq fun K hK => ?_
        (try simp only [X_reg, thenX_normal])
        repeat (first | (refine xo (by simp (disch := first | assumption | omega | (with_unfolding_all exact id rfl) | fail) only [vR_ok, uR_ok, ev_tmp, ev_const, ev_func, Env.put_some, Env.put_none, Env.set_app, Nat.reduceEqDiff, ↓reduceIte, rG_move, rG_assign, opt1_some, ext_all, dec_t, dec_f, beq_t, beq_f, bne_t, bne_f, wrap_i64, wrap_u64, Int.toNat_natCast, Nat.mul_one, Nat.zero_add, Nat.add_zero, List.map_toArray, List.map_cons, List.map_nil, rG_binOp, binR_add, resM_1, rG_box, Value.cells, call41, rG_load, ld60, ldN_some, rdN_cells, binR_geq, binR_eql, binR_lss, h4] <;> rfl) ?_; first | with_reducible refine kv ?_ | with_reducible refine ks ?_ | with_reducible refine ke ?_) | (refine xo_t ?_ ?_; focus (simp (disch := first | assumption | omega | (with_unfolding_all exact id rfl) | fail) only [Env.put_some, Env.put_none, Env.set_app, Nat.reduceEqDiff, ↓reduceIte, Bool.not_true, Bool.not_false, h4]; done)) | (refine xo_f ?_ ?_; focus (simp (disch := first | assumption | omega | (with_unfolding_all exact id rfl) | fail) only [Env.put_some, Env.put_none, Env.set_app, Nat.reduceEqDiff, ↓reduceIte, Bool.not_true, Bool.not_false, h4]; done)) | (refine xo_u ?_ ?_; focus (simp (disch := first | assumption | omega | (with_unfolding_all exact id rfl) | fail) only [Env.put_some, Env.put_none, Env.set_app, Nat.reduceEqDiff, ↓reduceIte, Bool.not_true, Bool.not_false, h4]; done)))
        (try refine xo_nil ?_)
        refine hK _ _ ?_
        clear hK K
        refine X_if_t (by simp (disch := first | assumption | omega) only [ev_tmp, Env.put_some, Env.put_none, Env.set_app, Nat.reduceEqDiff, ↓reduceIte, beq_t, dec_t, beq_self_eq_true]) ?_
        simp only [X_skip, X_exit, X_ret, X_block, thenX_normal, thenX_ret, thenX_exit, inX_normal, inX_ret, inX_exit, ↓reduceIte, Nat.reduceEqDiff]
        (try refine xo_nil ?_)
        refine hK _ _ ?_
        clear hK K
        refine X_seq fun K hK => ?_
        simp only [X_skip, X_exit, X_ret, X_block, thenX_normal, thenX_ret, thenX_exit, inX_normal, inX_ret, inX_exit, ↓reduceIte, Nat.reduceEqDiff]
        refine X_seq fun K hK => ?_
        (try simp only [X_reg, thenX_normal])
        repeat (first | (refine xo (by simp (disch := first | assumption | omega | (with_unfolding_all exact id rfl) | fail) only [vR_ok, uR_ok, ev_tmp, ev_const, ev_func, Env.put_some, Env.put_none, Env.set_app, Nat.reduceEqDiff, ↓reduceIte, rG_move, rG_assign, opt1_some, ext_all, dec_t, dec_f, beq_t, beq_f, bne_t, bne_f, wrap_i64, wrap_u64, Int.toNat_natCast, Nat.mul_one, Nat.zero_add, Nat.add_zero, List.map_toArray, List.map_cons, List.map_nil, rG_binOp, binR_add, resM_1, rG_box, Value.cells, call41, rG_load, ld60, ldN_some, rdN_cells, binR_geq, binR_eql, binR_lss, h1, h4, hb] <;> rfl) ?_; first | with_reducible refine kv ?_ | with_reducible refine ks ?_ | with_reducible refine ke ?_) | (refine xo_t ?_ ?_; focus (simp (disch := first | assumption | omega | (with_unfolding_all exact id rfl) | fail) only [Env.put_some, Env.put_none, Env.set_app, Nat.reduceEqDiff, ↓reduceIte, Bool.not_true, Bool.not_false, h1, h4, hb]; done)) | (refine xo_f ?_ ?_; focus (simp (disch := first | assumption | omega | (with_unfolding_all exact id rfl) | fail) only [Env.put_some, Env.put_none, Env.set_app, Nat.reduceEqDiff, ↓reduceIte, Bool.not_true, Bool.not_false, h1, h4, hb]; done)) | (refine xo_u ?_ ?_; focus (simp (disch := first | assumption | omega | (with_unfolding_all exact id rfl) | fail) only [Env.put_some, Env.put_none, Env.set_app, Nat.reduceEqDiff, ↓reduceIte, Bool.not_true, Bool.not_false, h1, h4, hb]; done)))
        refine (refLevel_calls l hl k w1).mono ?_
        rintro _ w2 ⟨rfl, hext2⟩
        have hb2 := (hext2.heap _ (lt_of_heap hb)).trans hb
        by_cases hv : 0 ≤ lvl l k
        · rw [if_pos hv] at hcs
          (try simp only [X_reg, thenX_normal])
          repeat (first | (refine xo (by simp (disch := first | assumption | omega | (with_unfolding_all exact id rfl) | fail) only [vR_ok, uR_ok, ev_tmp, ev_const, ev_func, Env.put_some, Env.put_none, Env.set_app, Nat.reduceEqDiff, ↓reduceIte, rG_move, rG_assign, opt1_some, ext_all, dec_t, dec_f, beq_t, beq_f, bne_t, bne_f, wrap_i64, wrap_u64, Int.toNat_natCast, Nat.mul_one, Nat.zero_add, Nat.add_zero, List.map_toArray, List.map_cons, List.map_nil, rG_binOp, binR_add, resM_1, rG_box, Value.cells, call41, rG_load, ld60, ldN_some, rdN_cells, binR_geq, binR_eql, binR_lss] <;> rfl) ?_; first | with_reducible refine kv ?_ | with_reducible refine ks ?_ | with_reducible refine ke ?_) | (refine xo_t ?_ ?_; focus (simp (disch := first | assumption | omega | (with_unfolding_all exact id rfl) | fail) only [Env.put_some, Env.put_none, Env.set_app, Nat.reduceEqDiff, ↓reduceIte, Bool.not_true, Bool.not_false]; done)) | (refine xo_f ?_ ?_; focus (simp (disch := first | assumption | omega | (with_unfolding_all exact id rfl) | fail) only [Env.put_some, Env.put_none, Env.set_app, Nat.reduceEqDiff, ↓reduceIte, Bool.not_true, Bool.not_false]; done)) | (refine xo_u ?_ ?_; focus (simp (disch := first | assumption | omega | (with_unfolding_all exact id rfl) | fail) only [Env.put_some, Env.put_none, Env.set_app, Nat.reduceEqDiff, ↓reduceIte, Bool.not_true, Bool.not_false]; done)))
          (try refine xo_nil ?_)
          refine hK _ _ ?_
          clear hK K
          refine X_if_t (by simp (disch := first | assumption | omega) only [ev_tmp, Env.put_some, Env.put_none, Env.set_app, Nat.reduceEqDiff, ↓reduceIte, beq_t, dec_t, beq_self_eq_true]) ?_
          (try simp only [X_reg, thenX_normal])
          repeat (first | (refine xo (by simp (disch := first | assumption | omega | (with_unfolding_all exact id rfl) | fail) only [vR_ok, uR_ok, ev_tmp, ev_const, ev_func, Env.put_some, Env.put_none, Env.set_app, Nat.reduceEqDiff, ↓reduceIte, rG_move, rG_assign, opt1_some, ext_all, dec_t, dec_f, beq_t, beq_f, bne_t, bne_f, wrap_i64, wrap_u64, Int.toNat_natCast, Nat.mul_one, Nat.zero_add, Nat.add_zero, List.map_toArray, List.map_cons, List.map_nil, rG_binOp, binR_add, resM_1, rG_box, Value.cells, call41, rG_load, ld60, ldN_some, rdN_cells, binR_geq, binR_eql, binR_lss, h3] <;> rfl) ?_; first | with_reducible refine kv ?_ | with_reducible refine ks ?_ | with_reducible refine ke ?_) | (refine xo_t ?_ ?_; focus (simp (disch := first | assumption | omega | (with_unfolding_all exact id rfl) | fail) only [Env.put_some, Env.put_none, Env.set_app, Nat.reduceEqDiff, ↓reduceIte, Bool.not_true, Bool.not_false, h3]; done)) | (refine xo_f ?_ ?_; focus (simp (disch := first | assumption | omega | (with_unfolding_all exact id rfl) | fail) only [Env.put_some, Env.put_none, Env.set_app, Nat.reduceEqDiff, ↓reduceIte, Bool.not_true, Bool.not_false, h3]; done)) | (refine xo_u ?_ ?_; focus (simp (disch := first | assumption | omega | (with_unfolding_all exact id rfl) | fail) only [Env.put_some, Env.put_none, Env.set_app, Nat.reduceEqDiff, ↓reduceIte, Bool.not_true, Bool.not_false, h3]; done)))
          refine xo_nil ?_
          simp only [X_skip, X_exit, X_ret, X_block, thenX_normal, thenX_ret, thenX_exit, inX_normal, inX_ret, inX_exit, ↓reduceIte, Nat.reduceEqDiff]
          (try refine xo_nil ?_)
          refine hK _ _ ?_
          clear hK K
          (try simp only [X_reg, thenX_normal])
          repeat (first | (refine xo (by simp (disch := first | assumption | omega | (with_unfolding_all exact id rfl) | fail) only [vR_ok, uR_ok, ev_tmp, ev_const, ev_func, Env.put_some, Env.put_none, Env.set_app, Nat.reduceEqDiff, ↓reduceIte, rG_move, rG_assign, opt1_some, ext_all, dec_t, dec_f, beq_t, beq_f, bne_t, bne_f, wrap_i64, wrap_u64, Int.toNat_natCast, Nat.mul_one, Nat.zero_add, Nat.add_zero, List.map_toArray, List.map_cons, List.map_nil, rG_binOp, binR_add, resM_1, rG_box, Value.cells, call41, rG_load, ld60, ldN_some, rdN_cells, binR_geq, binR_eql, binR_lss, h4] <;> rfl) ?_; first | with_reducible refine kv ?_ | with_reducible refine ks ?_ | with_reducible refine ke ?_) | (refine xo_t ?_ ?_; focus (simp (disch := first | assumption | omega | (with_unfolding_all exact id rfl) | fail) only [Env.put_some, Env.put_none, Env.set_app, Nat.reduceEqDiff, ↓reduceIte, Bool.not_true, Bool.not_false, h4]; done)) | (refine xo_f ?_ ?_; focus (simp (disch := first | assumption | omega | (with_unfolding_all exact id rfl) | fail) only [Env.put_some, Env.put_none, Env.set_app, Nat.reduceEqDiff, ↓reduceIte, Bool.not_true, Bool.not_false, h4]; done)) | (refine xo_u ?_ ?_; focus (simp (disch := first | assumption | omega | (with_unfolding_all exact id rfl) | fail) only [Env.put_some, Env.put_none, Env.set_app, Nat.reduceEqDiff, ↓reduceIte, Bool.not_true, Bool.not_false, h4]; done)))
          refine xo_nil ⟨⟨k + 1, by omega, ?_, ?_, ?_, hb2, hext.trans hext2⟩, ?_⟩
          · (try simp (disch := first | assumption | omega | (with_unfolding_all exact id rfl) | fail) only [Env.put_some, Env.put_none, Env.set_app, Nat.reduceEqDiff, ↓reduceIte, nat_int, Int.toNat_natCast, wrap_i64])
            rfl
          · rw [hcs]
            (try simp (disch := first | assumption | omega | (with_unfolding_all exact id rfl) | fail) only [Env.put_some, Env.put_none, Env.set_app, Nat.reduceEqDiff, ↓reduceIte, nat_int, Int.toNat_natCast, wrap_i64])
            rfl
          · (try simp (disch := first | assumption | omega | (with_unfolding_all exact id rfl) | fail) only [Env.put_some, Env.put_none, Env.set_app, Nat.reduceEqDiff, ↓reduceIte, nat_int, Int.toNat_natCast, wrap_i64, h1])
          · (try simp (disch := first | assumption | omega | (with_unfolding_all exact id rfl) | fail) only [Env.put_some, Env.put_none, Env.set_app, Nat.reduceEqDiff, ↓reduceIte, nat_int, Int.toNat_natCast, wrap_i64, h4])
            omega
        · rw [if_neg hv] at hcs
          (try simp only [X_reg, thenX_normal])
          repeat (first | (refine xo (by simp (disch := first | assumption | omega | (with_unfolding_all exact id rfl) | fail) only [vR_ok, uR_ok, ev_tmp, ev_const, ev_func, Env.put_some, Env.put_none, Env.set_app, Nat.reduceEqDiff, ↓reduceIte, rG_move, rG_assign, opt1_some, ext_all, dec_t, dec_f, beq_t, beq_f, bne_t, bne_f, wrap_i64, wrap_u64, Int.toNat_natCast, Nat.mul_one, Nat.zero_add, Nat.add_zero, List.map_toArray, List.map_cons, List.map_nil, rG_binOp, binR_add, resM_1, rG_box, Value.cells, call41, rG_load, ld60, ldN_some, rdN_cells, binR_geq, binR_eql, binR_lss] <;> rfl) ?_; first | with_reducible refine kv ?_ | with_reducible refine ks ?_ | with_reducible refine ke ?_) | (refine xo_t ?_ ?_; focus (simp (disch := first | assumption | omega | (with_unfolding_all exact id rfl) | fail) only [Env.put_some, Env.put_none, Env.set_app, Nat.reduceEqDiff, ↓reduceIte, Bool.not_true, Bool.not_false]; done)) | (refine xo_f ?_ ?_; focus (simp (disch := first | assumption | omega | (with_unfolding_all exact id rfl) | fail) only [Env.put_some, Env.put_none, Env.set_app, Nat.reduceEqDiff, ↓reduceIte, Bool.not_true, Bool.not_false]; done)) | (refine xo_u ?_ ?_; focus (simp (disch := first | assumption | omega | (with_unfolding_all exact id rfl) | fail) only [Env.put_some, Env.put_none, Env.set_app, Nat.reduceEqDiff, ↓reduceIte, Bool.not_true, Bool.not_false]; done)))
          (try refine xo_nil ?_)
          refine hK _ _ ?_
          clear hK K
          refine X_if_f (by simp (disch := first | assumption | omega) only [ev_tmp, Env.put_some, Env.put_none, Env.set_app, Nat.reduceEqDiff, ↓reduceIte, beq_f, dec_f]) ?_
          simp only [X_skip, X_exit, X_ret, X_block, thenX_normal, thenX_ret, thenX_exit, inX_normal, inX_ret, inX_exit, ↓reduceIte, Nat.reduceEqDiff]
          (try refine xo_nil ?_)
          refine hK _ _ ?_
          clear hK K
          (try simp only [X_reg, thenX_normal])
          repeat (first | (refine xo (by simp (disch := first | assumption | omega | (with_unfolding_all exact id rfl) | fail) only [vR_ok, uR_ok, ev_tmp, ev_const, ev_func, Env.put_some, Env.put_none, Env.set_app, Nat.reduceEqDiff, ↓reduceIte, rG_move, rG_assign, opt1_some, ext_all, dec_t, dec_f, beq_t, beq_f, bne_t, bne_f, wrap_i64, wrap_u64, Int.toNat_natCast, Nat.mul_one, Nat.zero_add, Nat.add_zero, List.map_toArray, List.map_cons, List.map_nil, rG_binOp, binR_add, resM_1, rG_box, Value.cells, call41, rG_load, ld60, ldN_some, rdN_cells, binR_geq, binR_eql, binR_lss, h4] <;> rfl) ?_; first | with_reducible refine kv ?_ | with_reducible refine ks ?_ | with_reducible refine ke ?_) | (refine xo_t ?_ ?_; focus (simp (disch := first | assumption | omega | (with_unfolding_all exact id rfl) | fail) only [Env.put_some, Env.put_none, Env.set_app, Nat.reduceEqDiff, ↓reduceIte, Bool.not_true, Bool.not_false, h4]; done)) | (refine xo_f ?_ ?_; focus (simp (disch := first | assumption | omega | (with_unfolding_all exact id rfl) | fail) only [Env.put_some, Env.put_none, Env.set_app, Nat.reduceEqDiff, ↓reduceIte, Bool.not_true, Bool.not_false, h4]; done)) | (refine xo_u ?_ ?_; focus (simp (disch := first | assumption | omega | (with_unfolding_all exact id rfl) | fail) only [Env.put_some, Env.put_none, Env.set_app, Nat.reduceEqDiff, ↓reduceIte, Bool.not_true, Bool.not_false, h4]; done)))
          refine xo_nil ⟨⟨k + 1, by omega, ?_, ?_, ?_, hb2, hext.trans hext2⟩, ?_⟩
          · (try simp (disch := first | assumption | omega | (with_unfolding_all exact id rfl) | fail) only [Env.put_some, Env.put_none, Env.set_app, Nat.reduceEqDiff, ↓reduceIte, nat_int, Int.toNat_natCast, wrap_i64])
            rfl
          · rw [hcs]
            (try simp (disch := first | assumption | omega | (with_unfolding_all exact id rfl) | fail) only [Env.put_some, Env.put_none, Env.set_app, Nat.reduceEqDiff, ↓reduceIte, nat_int, Int.toNat_natCast, wrap_i64, h3])
            rfl
          · (try simp (disch := first | assumption | omega | (with_unfolding_all exact id rfl) | fail) only [Env.put_some, Env.put_none, Env.set_app, Nat.reduceEqDiff, ↓reduceIte, nat_int, Int.toNat_natCast, wrap_i64, h1])
          · (try simp (disch := first | assumption | omega | (with_unfolding_all exact id rfl) | fail) only [Env.put_some, Env.put_none, Env.set_app, Nat.reduceEqDiff, ↓reduceIte, nat_int, Int.toNat_natCast, wrap_i64, h4])
            omega
      · obtain rfl : k = 8 := by omega
        refine X_seq fun K hK => ?_
        refine X_seq fun K hK => ?_
        (try simp only [X_reg, thenX_normal])
        repeat (first | (refine xo (by simp (disch := first | assumption | omega | (with_unfolding_all exact id rfl) | fail) only [vR_ok, uR_ok, ev_tmp, ev_const, ev_func, Env.put_some, Env.put_none, Env.set_app, Nat.reduceEqDiff, ↓reduceIte, rG_move, rG_assign, opt1_some, ext_all, dec_t, dec_f, beq_t, beq_f, bne_t, bne_f, wrap_i64, wrap_u64, Int.toNat_natCast, Nat.mul_one, Nat.zero_add, Nat.add_zero, List.map_toArray, List.map_cons, List.map_nil, rG_binOp, binR_add, resM_1, rG_box, Value.cells, call41, rG_load, ld60, ldN_some, rdN_cells, binR_geq, binR_eql, binR_lss, h4] <;> rfl) ?_; first | with_reducible refine kv ?_ | with_reducible refine ks ?_ | with_reducible refine ke ?_) | (refine xo_t ?_ ?_; focus (simp (disch := first | assumption | omega | (with_unfolding_all exact id rfl) | fail) only [Env.put_some, Env.put_none, Env.set_app, Nat.reduceEqDiff, ↓reduceIte, Bool.not_true, Bool.not_false, h4]; done)) | (refine xo_f ?_ ?_; focus (simp (disch := first | assumption | omega | (with_unfolding_all exact id rfl) | fail) only [Env.put_some, Env.put_none, Env.set_app, Nat.reduceEqDiff, ↓reduceIte, Bool.not_true, Bool.not_false, h4]; done)) | (refine xo_u ?_ ?_; focus (simp (disch := first | assumption | omega | (with_unfolding_all exact id rfl) | fail) only [Env.put_some, Env.put_none, Env.set_app, Nat.reduceEqDiff, ↓reduceIte, Bool.not_true, Bool.not_false, h4]; done)))
        (try refine xo_nil ?_)
        refine hK _ _ ?_
        clear hK K
        refine X_if_f (by simp (disch := first | assumption | omega) only [ev_tmp, Env.put_some, Env.put_none, Env.set_app, Nat.reduceEqDiff, ↓reduceIte, beq_f, dec_f]) ?_
        simp only [X_skip, X_exit, X_ret, X_block, thenX_normal, thenX_ret, thenX_exit, inX_normal, inX_ret, inX_exit, ↓reduceIte, Nat.reduceEqDiff]
        refine ⟨?_, hext⟩
        (try simp (disch := first | assumption | omega | (with_unfolding_all exact id rfl) | fail) only [Env.put_some, Env.put_none, Env.set_app, Nat.reduceEqDiff, ↓reduceIte, nat_int, Int.toNat_natCast, wrap_i64, h3])
  · rintro e w1 ⟨h3, hE⟩
    refine X_seq fun K hK => ?_
    simp only [X_reg, thenX_normal]
    repeat (first | (refine xo (by simp (disch := first | assumption | omega | (with_unfolding_all exact id rfl) | fail) only [vR_ok, uR_ok, ev_tmp, ev_const, ev_func, Env.put_some, Env.put_none, Env.set_app, Nat.reduceEqDiff, ↓reduceIte, rG_move, rG_assign, opt1_some, ext_all, dec_t, dec_f, beq_t, beq_f, bne_t, bne_f, wrap_i64, wrap_u64, Int.toNat_natCast, Nat.mul_one, Nat.zero_add, Nat.add_zero, List.map_toArray, List.map_cons, List.map_nil, rG_binOp, binR_add, resM_1, rG_box, Value.cells, call41, rG_load, ld60, ldN_some, rdN_cells, binR_geq, binR_eql, binR_lss, h3] <;> rfl) ?_; first | with_reducible refine kv ?_ | with_reducible refine ks ?_ | with_reducible refine ke ?_) | (refine xo_t ?_ ?_; focus (simp (disch := first | assumption | omega | (with_unfolding_all exact id rfl) | fail) only [Env.put_some, Env.put_none, Env.set_app, Nat.reduceEqDiff, ↓reduceIte, Bool.not_true, Bool.not_false, h3]; done)) | (refine xo_f ?_ ?_; focus (simp (disch := first | assumption | omega | (with_unfolding_all exact id rfl) | fail) only [Env.put_some, Env.put_none, Env.set_app, Nat.reduceEqDiff, ↓reduceIte, Bool.not_true, Bool.not_false, h3]; done)) | (refine xo_u ?_ ?_; focus (simp (disch := first | assumption | omega | (with_unfolding_all exact id rfl) | fail) only [Env.put_some, Env.put_none, Env.set_app, Nat.reduceEqDiff, ↓reduceIte, Bool.not_true, Bool.not_false, h3]; done)))
    refine xo_nil ?_
    refine hK _ _ ?_
    clear hK K
    simp (disch := first | assumption | omega | (with_unfolding_all exact id rfl) | fail) only [X_ret, thenX_ret, inX_ret, retX_ret, retX_normal, Try.results39, resM_0, resM_1, resM_2, resM_3, resM_4, Env.put_some, Env.put_none, Env.set_app, Nat.reduceEqDiff, ↓reduceIte]
    refine ⟨_, rfl, ?_, hE⟩
    have := cnt_may l
    cases hm : mayL l
    · rw [hm] at this
      have hne : ((cnt l 8 : Nat) : Int) ≠ 8 := fun e => by simpa using this.1 e
      rw [beq_eq_false_iff_ne.2 hne]
    · rw [this.2 hm]; rfl

theorem refSwap_calls (l : List Int) (hl : l.length = 8) (i : Int) (w : World) :
    CallsR Try.prog 43 #[aI l, .int .i64 i] w fun r w' => r = aI (swp l i) ∧ Ext w w' := by
  have hsz : ((l.map (Value.int .i64)).toArray).size = 8 := by simp [hl]
  have hv4 : (Value.agg (l.map (Value.int .i64)).toArray).cells.size = 8 := by simp [Value.cells, hl]
  refine calls2 (bs := []) Try.func43 rfl mixed (by kernel_rfl) ?_
  intro e0 h0 h1
  simp only [comp, gop, gslot, dops, bigOf, setK, kindOf, List.lookup, List.map_cons, List.map_nil, Option.bind_some, List.getElem?_toArray, List.getElem?_cons_zero, List.getElem?_cons_succ, Option.getD_some, Option.getD_none, List.contains_nil, List.contains_cons, Bool.false_eq_true, ↓reduceIte, Nat.reduceAdd, Nat.reduceBEq, Bool.or_false]
  refine X_cut (fun e w1 => e 2 = .pointer (some ⟨w.heap.size, 0, none⟩) ∧ e 4 = .pointer (some ⟨w.heap.size + 1, 0, none⟩) ∧ e 1 = .int .i64 i ∧ w1.heap[w.heap.size]? = some (.cells (l.map (Value.int .i64)).toArray 60) ∧ w1.heap[w.heap.size + 1]? = some (.cells ((List.replicate 8 0).map (Value.int .i64)).toArray 60) ∧ w1.heap.size = w.heap.size + 2 ∧ Ext w w1) ?_ ?_
  · (try simp only [X_reg, thenX_normal])
    repeat (first | (refine xo (by simp (disch := first | assumption | omega | (with_unfolding_all exact id rfl) | fail) only [vR_ok, uR_ok, ev_tmp, ev_const, ev_func, Env.put_some, Env.put_none, Env.set_app, Nat.reduceEqDiff, ↓reduceIte, rG_move, rG_assign, opt1_some, ext_all, dec_t, dec_f, beq_t, beq_f, bne_t, bne_f, wrap_i64, wrap_u64, Int.toNat_natCast, Nat.mul_one, Nat.zero_add, Nat.add_zero, List.map_toArray, List.map_cons, List.map_nil, rG_binOp, binR_add, rG_store, st60, stN_1, stN_2, stN_3, stN_4, stN_5, stN_6, stN_7, stN_8, vcs_int, vcs_bool, vcs_ptr, vcs_slice, vcs_map, vcs_nil, vcs_iface, vcs_aggL, List.length_cons, List.length_nil, Nat.reduceAdd, rG_box, Value.cells, rG_alloc_60, rG_load, ld3, ld1_some, rd1_cells, ld60, ldN_some, rdN_cells, rG_indexAddr, ia60, binR_eql, st3, binR_lss, h0, aI] <;> rfl) ?_; first | with_reducible refine kv ?_ | with_reducible refine ks ?_ | with_reducible refine ke ?_) | (refine xo_t ?_ ?_; focus (simp (disch := first | assumption | omega | (with_unfolding_all exact id rfl) | fail) only [Env.put_some, Env.put_none, Env.set_app, Nat.reduceEqDiff, ↓reduceIte, Bool.not_true, Bool.not_false, h0, aI]; done)) | (refine xo_f ?_ ?_; focus (simp (disch := first | assumption | omega | (with_unfolding_all exact id rfl) | fail) only [Env.put_some, Env.put_none, Env.set_app, Nat.reduceEqDiff, ↓reduceIte, Bool.not_true, Bool.not_false, h0, aI]; done)) | (refine xo_u ?_ ?_; focus (simp (disch := first | assumption | omega | (with_unfolding_all exact id rfl) | fail) only [Env.put_some, Env.put_none, Env.set_app, Nat.reduceEqDiff, ↓reduceIte, Bool.not_true, Bool.not_false, h0, aI]; done)))
    refine xo_nil ⟨?_, ?_, ?_, ?_, ?_, by simp only [alloc_size], ((Ext.refl w).alloc _).alloc _⟩
    · (try simp (disch := first | assumption | omega | (with_unfolding_all exact id rfl) | fail) only [Env.put_some, Env.put_none, Env.set_app, Nat.reduceEqDiff, ↓reduceIte, nat_int, Int.toNat_natCast, wrap_i64])
    · (try simp (disch := first | assumption | omega | (with_unfolding_all exact id rfl) | fail) only [Env.put_some, Env.put_none, Env.set_app, Nat.reduceEqDiff, ↓reduceIte, nat_int, Int.toNat_natCast, wrap_i64, alloc_size])
    · (try simp (disch := first | assumption | omega | (with_unfolding_all exact id rfl) | fail) only [Env.put_some, Env.put_none, Env.set_app, Nat.reduceEqDiff, ↓reduceIte, nat_int, Int.toNat_natCast, wrap_i64, h1])
    · rw [alloc_old (by rw [alloc_size]; omega), alloc_new]
    · have := alloc_new (w := w.alloc (.cells (l.map (Value.int .i64)).toArray 60)) (o := .cells ((List.replicate 8 0).map (Value.int .i64)).toArray 60)
      rw [alloc_size] at this
      exact this
  clear h0 h1
  rintro e w1 ⟨h2, h4, h1, hA, hB, hS, hE⟩
  have hAlt := lt_of_heap hA
  have hBlt := lt_of_heap hB
  refine X_cut (fun e w2 => e 2 = .pointer (some ⟨w.heap.size, 0, none⟩) ∧ e 4 = .pointer (some ⟨w.heap.size + 1, 0, none⟩) ∧ e 5 = .pointer (some ⟨w.heap.size + 2, 0, none⟩) ∧ e 1 = .int .i64 i ∧ w2.heap[w.heap.size]? = some (.cells (l.map (Value.int .i64)).toArray 60) ∧ w2.heap[w.heap.size + 1]? = some (.cells ((List.replicate 8 0).map (Value.int .i64)).toArray 60) ∧ w2.heap[w.heap.size + 2]? = some (.cells (l.map (Value.int .i64)).toArray 60) ∧ Ext w w2) ?_ ?_
  · (try simp only [X_reg, thenX_normal])
    repeat (first | (refine xo (by simp (disch := first | assumption | omega | (with_unfolding_all exact id rfl) | fail) only [vR_ok, uR_ok, ev_tmp, ev_const, ev_func, Env.put_some, Env.put_none, Env.set_app, Nat.reduceEqDiff, ↓reduceIte, rG_move, rG_assign, opt1_some, ext_all, dec_t, dec_f, beq_t, beq_f, bne_t, bne_f, wrap_i64, wrap_u64, Int.toNat_natCast, Nat.mul_one, Nat.zero_add, Nat.add_zero, List.map_toArray, List.map_cons, List.map_nil, rG_binOp, binR_add, rG_store, st60, stN_1, stN_2, stN_3, stN_4, stN_5, stN_6, stN_7, stN_8, vcs_int, vcs_bool, vcs_ptr, vcs_slice, vcs_map, vcs_nil, vcs_iface, vcs_aggL, List.length_cons, List.length_nil, Nat.reduceAdd, rG_box, Value.cells, rG_alloc_60, rG_load, ld3, ld1_some, rd1_cells, ld60, ldN_some, rdN_cells, rG_indexAddr, ia60, binR_eql, st3, binR_lss, h2, hA] <;> rfl) ?_; first | with_reducible refine kv ?_ | with_reducible refine ks ?_ | with_reducible refine ke ?_) | (refine xo_t ?_ ?_; focus (simp (disch := first | assumption | omega | (with_unfolding_all exact id rfl) | fail) only [Env.put_some, Env.put_none, Env.set_app, Nat.reduceEqDiff, ↓reduceIte, Bool.not_true, Bool.not_false, h2, hA]; done)) | (refine xo_f ?_ ?_; focus (simp (disch := first | assumption | omega | (with_unfolding_all exact id rfl) | fail) only [Env.put_some, Env.put_none, Env.set_app, Nat.reduceEqDiff, ↓reduceIte, Bool.not_true, Bool.not_false, h2, hA]; done)) | (refine xo_u ?_ ?_; focus (simp (disch := first | assumption | omega | (with_unfolding_all exact id rfl) | fail) only [Env.put_some, Env.put_none, Env.set_app, Nat.reduceEqDiff, ↓reduceIte, Bool.not_true, Bool.not_false, h2, hA]; done)))
    refine xo (rG_store_new (w := w1) T60 (by simp (disch := first | assumption | omega) only [ev_tmp, ev_const, Env.put_some, Env.put_none, Env.set_app, Nat.reduceEqDiff, ↓reduceIte]) (by simp (disch := first | assumption | omega) only [ev_tmp, ev_const, Env.put_some, Env.put_none, Env.set_app, Nat.reduceEqDiff, ↓reduceIte]) hv4 all_ints rfl) ?_
    refine ks ?_
    refine xo_nil ⟨?_, ?_, ?_, ?_, ?_, ?_, ?_, hE.alloc _⟩
    · (try simp (disch := first | assumption | omega | (with_unfolding_all exact id rfl) | fail) only [Env.put_some, Env.put_none, Env.set_app, Nat.reduceEqDiff, ↓reduceIte, nat_int, Int.toNat_natCast, wrap_i64, h2])
    · (try simp (disch := first | assumption | omega | (with_unfolding_all exact id rfl) | fail) only [Env.put_some, Env.put_none, Env.set_app, Nat.reduceEqDiff, ↓reduceIte, nat_int, Int.toNat_natCast, wrap_i64, h4])
    · (try simp (disch := first | assumption | omega | (with_unfolding_all exact id rfl) | fail) only [Env.put_some, Env.put_none, Env.set_app, Nat.reduceEqDiff, ↓reduceIte, nat_int, Int.toNat_natCast, wrap_i64, hS])
    · (try simp (disch := first | assumption | omega | (with_unfolding_all exact id rfl) | fail) only [Env.put_some, Env.put_none, Env.set_app, Nat.reduceEqDiff, ↓reduceIte, nat_int, Int.toNat_natCast, wrap_i64, h1])
    · rw [alloc_old (by omega)]; exact hA
    · rw [alloc_old (by omega)]; exact hB
    · rw [← hS]; exact alloc_new
  clear h2 h4 h1 hA hB hS hE hAlt hBlt
  rintro e w1 ⟨h2, h4, h5, h1, hA, hB, hQ, hE⟩
  refine X_cut (fun e w2 => e 4 = .pointer (some ⟨w.heap.size + 1, 0, none⟩) ∧ e 5 = .pointer (some ⟨w.heap.size + 2, 0, none⟩) ∧ w2.heap[w.heap.size + 1]? = some (.cells ((List.replicate 8 0).map (Value.int .i64)).toArray 60) ∧ w2.heap[w.heap.size + 2]? = some (.cells ((swp l i).map (Value.int .i64)).toArray 60) ∧ Ext w w2) ?_ ?_
  · refine X_seq fun K hK => ?_
    simp only [X_reg, thenX_normal]
    repeat (first | (refine xo (by simp (disch := first | assumption | omega | (with_unfolding_all exact id rfl) | fail) only [vR_ok, uR_ok, ev_tmp, ev_const, ev_func, Env.put_some, Env.put_none, Env.set_app, Nat.reduceEqDiff, ↓reduceIte, rG_move, rG_assign, opt1_some, ext_all, dec_t, dec_f, beq_t, beq_f, bne_t, bne_f, wrap_i64, wrap_u64, Int.toNat_natCast, Nat.mul_one, Nat.zero_add, Nat.add_zero, List.map_toArray, List.map_cons, List.map_nil, rG_binOp, binR_add, rG_store, st60, stN_1, stN_2, stN_3, stN_4, stN_5, stN_6, stN_7, stN_8, vcs_int, vcs_bool, vcs_ptr, vcs_slice, vcs_map, vcs_nil, vcs_iface, vcs_aggL, List.length_cons, List.length_nil, Nat.reduceAdd, rG_box, Value.cells, rG_alloc_60, rG_load, ld3, ld1_some, rd1_cells, ld60, ldN_some, rdN_cells, rG_indexAddr, ia60, binR_eql, st3, binR_lss] <;> rfl) ?_; first | with_reducible refine kv ?_ | with_reducible refine ks ?_ | with_reducible refine ke ?_) | (refine xo_t ?_ ?_; focus (simp (disch := first | assumption | omega | (with_unfolding_all exact id rfl) | fail) only [Env.put_some, Env.put_none, Env.set_app, Nat.reduceEqDiff, ↓reduceIte, Bool.not_true, Bool.not_false]; done)) | (refine xo_f ?_ ?_; focus (simp (disch := first | assumption | omega | (with_unfolding_all exact id rfl) | fail) only [Env.put_some, Env.put_none, Env.set_app, Nat.reduceEqDiff, ↓reduceIte, Bool.not_true, Bool.not_false]; done)) | (refine xo_u ?_ ?_; focus (simp (disch := first | assumption | omega | (with_unfolding_all exact id rfl) | fail) only [Env.put_some, Env.put_none, Env.set_app, Nat.reduceEqDiff, ↓reduceIte, Bool.not_true, Bool.not_false]; done)))
    refine xo_nil ?_
    refine hK _ _ ?_
    clear hK K
    simp only [X_skip, X_exit, X_ret, X_block, thenX_normal, thenX_ret, thenX_exit, inX_normal, inX_ret, inX_exit, ↓reduceIte, Nat.reduceEqDiff]
    refine X_loop (fun e w' => ∃ k : Nat, k ≤ 7 ∧ e 6 = .int .i64 k ∧ e 2 = .pointer (some ⟨w.heap.size, 0, none⟩) ∧ e 4 = .pointer (some ⟨w.heap.size + 1, 0, none⟩) ∧ e 5 = .pointer (some ⟨w.heap.size + 2, 0, none⟩) ∧ e 1 = .int .i64 i ∧ w'.heap[w.heap.size]? = some (.cells (l.map (Value.int .i64)).toArray 60) ∧ w'.heap[w.heap.size + 1]? = some (.cells ((List.replicate 8 0).map (Value.int .i64)).toArray 60) ∧ w'.heap[w.heap.size + 2]? = some (.cells ((if i < k then swp l i else l).map (Value.int .i64)).toArray 60) ∧ Ext w w') (fun e _ => 7 - nat (e 6)) ?_ ?_
    · refine ⟨0, by omega, ?_, ?_, ?_, ?_, ?_, hA, hB, ?_, hE⟩
      · (try simp (disch := first | assumption | omega | (with_unfolding_all exact id rfl) | fail) only [Env.put_some, Env.put_none, Env.set_app, Nat.reduceEqDiff, ↓reduceIte, nat_int, Int.toNat_natCast, wrap_i64])
        rfl
      · (try simp (disch := first | assumption | omega | (with_unfolding_all exact id rfl) | fail) only [Env.put_some, Env.put_none, Env.set_app, Nat.reduceEqDiff, ↓reduceIte, nat_int, Int.toNat_natCast, wrap_i64, h2])
      · (try simp (disch := first | assumption | omega | (with_unfolding_all exact id rfl) | fail) only [Env.put_some, Env.put_none, Env.set_app, Nat.reduceEqDiff, ↓reduceIte, nat_int, Int.toNat_natCast, wrap_i64, h4])
      · (try simp (disch := first | assumption | omega | (with_unfolding_all exact id rfl) | fail) only [Env.put_some, Env.put_none, Env.set_app, Nat.reduceEqDiff, ↓reduceIte, nat_int, Int.toNat_natCast, wrap_i64, h5])
      · (try simp (disch := first | assumption | omega | (with_unfolding_all exact id rfl) | fail) only [Env.put_some, Env.put_none, Env.set_app, Nat.reduceEqDiff, ↓reduceIte, nat_int, Int.toNat_natCast, wrap_i64, h1])
      · by_cases hi : i < ((0 : Nat) : Int)
        · have : swp l i = l := if_neg (fun h => by omega)
          rw [if_pos hi, this]; exact hQ
        · rw [if_neg hi]; exact hQ
    · clear h2 h4 h5 h1 hA hB hQ hE
      rintro e w1 ⟨k, hk, h6, h2, h4, h5, h1, hA, hB, hQ, hE⟩
      have hAlt := lt_of_heap hA
      have hBlt := lt_of_heap hB
      have hQlt := lt_of_heap hQ
      by_cases hlt : k < 7
      · refine X_seq fun K hK => ?_
        refine X_seq fun K hK => ?_
        (try simp only [X_reg, thenX_normal])
        repeat (first | (refine xo (by simp (disch := first | assumption | omega | (with_unfolding_all exact id rfl) | fail) only [vR_ok, uR_ok, ev_tmp, ev_const, ev_func, Env.put_some, Env.put_none, Env.set_app, Nat.reduceEqDiff, ↓reduceIte, rG_move, rG_assign, opt1_some, ext_all, dec_t, dec_f, beq_t, beq_f, bne_t, bne_f, wrap_i64, wrap_u64, Int.toNat_natCast, Nat.mul_one, Nat.zero_add, Nat.add_zero, List.map_toArray, List.map_cons, List.map_nil, rG_binOp, binR_add, rG_store, st60, stN_1, stN_2, stN_3, stN_4, stN_5, stN_6, stN_7, stN_8, vcs_int, vcs_bool, vcs_ptr, vcs_slice, vcs_map, vcs_nil, vcs_iface, vcs_aggL, List.length_cons, List.length_nil, Nat.reduceAdd, rG_box, Value.cells, rG_alloc_60, rG_load, ld3, ld1_some, rd1_cells, ld60, ldN_some, rdN_cells, rG_indexAddr, ia60, binR_eql, st3, binR_lss, h6] <;> rfl) ?_; first | with_reducible refine kv ?_ | with_reducible refine ks ?_ | with_reducible refine ke ?_) | (refine xo_t ?_ ?_; focus (simp (disch := first | assumption | omega | (with_unfolding_all exact id rfl) | fail) only [Env.put_some, Env.put_none, Env.set_app, Nat.reduceEqDiff, ↓reduceIte, Bool.not_true, Bool.not_false, h6]; done)) | (refine xo_f ?_ ?_; focus (simp (disch := first | assumption | omega | (with_unfolding_all exact id rfl) | fail) only [Env.put_some, Env.put_none, Env.set_app, Nat.reduceEqDiff, ↓reduceIte, Bool.not_true, Bool.not_false, h6]; done)) | (refine xo_u ?_ ?_; focus (simp (disch := first | assumption | omega | (with_unfolding_all exact id rfl) | fail) only [Env.put_some, Env.put_none, Env.set_app, Nat.reduceEqDiff, ↓reduceIte, Bool.not_true, Bool.not_false, h6]; done)))
        (try refine xo_nil ?_)
        refine hK _ _ ?_
        clear hK K
        refine X_if_t (by simp (disch := first | assumption | omega) only [ev_tmp, Env.put_some, Env.put_none, Env.set_app, Nat.reduceEqDiff, ↓reduceIte, beq_t, dec_t, beq_self_eq_true]) ?_
        simp only [X_skip, X_exit, X_ret, X_block, thenX_normal, thenX_ret, thenX_exit, inX_normal, inX_ret, inX_exit, ↓reduceIte, Nat.reduceEqDiff]
        (try refine xo_nil ?_)
        refine hK _ _ ?_
        clear hK K
        refine X_seq fun K hK => ?_
        simp only [X_skip, X_exit, X_ret, X_block, thenX_normal, thenX_ret, thenX_exit, inX_normal, inX_ret, inX_exit, ↓reduceIte, Nat.reduceEqDiff]
        refine X_seq fun K hK => ?_
        simp only [X_reg, thenX_normal]
        repeat (first | (refine xo (by simp (disch := first | assumption | omega | (with_unfolding_all exact id rfl) | fail) only [vR_ok, uR_ok, ev_tmp, ev_const, ev_func, Env.put_some, Env.put_none, Env.set_app, Nat.reduceEqDiff, ↓reduceIte, rG_move, rG_assign, opt1_some, ext_all, dec_t, dec_f, beq_t, beq_f, bne_t, bne_f, wrap_i64, wrap_u64, Int.toNat_natCast, Nat.mul_one, Nat.zero_add, Nat.add_zero, List.map_toArray, List.map_cons, List.map_nil, rG_binOp, binR_add, rG_store, st60, stN_1, stN_2, stN_3, stN_4, stN_5, stN_6, stN_7, stN_8, vcs_int, vcs_bool, vcs_ptr, vcs_slice, vcs_map, vcs_nil, vcs_iface, vcs_aggL, List.length_cons, List.length_nil, Nat.reduceAdd, rG_box, Value.cells, rG_alloc_60, rG_load, ld3, ld1_some, rd1_cells, ld60, ldN_some, rdN_cells, rG_indexAddr, ia60, binR_eql, st3, binR_lss, h6, h1] <;> rfl) ?_; first | with_reducible refine kv ?_ | with_reducible refine ks ?_ | with_reducible refine ke ?_) | (refine xo_t ?_ ?_; focus (simp (disch := first | assumption | omega | (with_unfolding_all exact id rfl) | fail) only [Env.put_some, Env.put_none, Env.set_app, Nat.reduceEqDiff, ↓reduceIte, Bool.not_true, Bool.not_false, h6, h1]; done)) | (refine xo_f ?_ ?_; focus (simp (disch := first | assumption | omega | (with_unfolding_all exact id rfl) | fail) only [Env.put_some, Env.put_none, Env.set_app, Nat.reduceEqDiff, ↓reduceIte, Bool.not_true, Bool.not_false, h6, h1]; done)) | (refine xo_u ?_ ?_; focus (simp (disch := first | assumption | omega | (with_unfolding_all exact id rfl) | fail) only [Env.put_some, Env.put_none, Env.set_app, Nat.reduceEqDiff, ↓reduceIte, Bool.not_true, Bool.not_false, h6, h1]; done)))
        refine xo_nil ?_
        refine hK _ _ ?_
        clear hK K
        by_cases hik : i = k
        · subst hik
          obtain ⟨x, hx⟩ : ∃ x, l[k]? = some x := ⟨l[k], List.getElem?_eq_getElem (by omega)⟩
          obtain ⟨y, hy⟩ : ∃ y, l[k + 1]? = some y := ⟨l[k + 1], List.getElem?_eq_getElem (by omega)⟩
          have hk1 : ((k : Int) + 1).toNat = k + 1 := by omega
          have hsw : swp l k = (l.set k (l.getD (k + 1) 0)).set (k + 1) (l.getD k 0) := if_pos ⟨by omega, by omega⟩
          rw [if_neg (by omega)] at hQ
          refine X_if_t (by simp (disch := first | assumption | omega) only [ev_tmp, Env.put_some, Env.put_none, Env.set_app, Nat.reduceEqDiff, ↓reduceIte, beq_t, dec_t, beq_self_eq_true]) ?_
          refine X_seq fun K hK => ?_
          simp only [X_reg, thenX_normal]
          repeat (first | (refine xo (by simp (disch := first | assumption | omega | (with_unfolding_all exact id rfl) | fail) only [vR_ok, uR_ok, ev_tmp, ev_const, ev_func, Env.put_some, Env.put_none, Env.set_app, Nat.reduceEqDiff, ↓reduceIte, rG_move, rG_assign, opt1_some, ext_all, dec_t, dec_f, beq_t, beq_f, bne_t, bne_f, wrap_i64, wrap_u64, Int.toNat_natCast, Nat.mul_one, Nat.zero_add, Nat.add_zero, List.map_toArray, List.map_cons, List.map_nil, rG_binOp, binR_add, rG_store, st60, stN_1, stN_2, stN_3, stN_4, stN_5, stN_6, stN_7, stN_8, vcs_int, vcs_bool, vcs_ptr, vcs_slice, vcs_map, vcs_nil, vcs_iface, vcs_aggL, List.length_cons, List.length_nil, Nat.reduceAdd, rG_box, Value.cells, rG_alloc_60, rG_load, ld3, ld1_some, rd1_cells, ld60, ldN_some, rdN_cells, rG_indexAddr, ia60, binR_eql, st3, binR_lss, h6, h2, h5, hA, hQ, hk1, List.getElem?_toArray, List.getElem?_map, hx, hy, Option.map_some, hsz] <;> rfl) ?_; first | with_reducible refine kv ?_ | with_reducible refine ks ?_ | with_reducible refine ke ?_) | (refine xo_t ?_ ?_; focus (simp (disch := first | assumption | omega | (with_unfolding_all exact id rfl) | fail) only [Env.put_some, Env.put_none, Env.set_app, Nat.reduceEqDiff, ↓reduceIte, Bool.not_true, Bool.not_false, h6, h2, h5, hA, hQ, hk1, List.getElem?_toArray, List.getElem?_map, hx, hy, Option.map_some, hsz]; done)) | (refine xo_f ?_ ?_; focus (simp (disch := first | assumption | omega | (with_unfolding_all exact id rfl) | fail) only [Env.put_some, Env.put_none, Env.set_app, Nat.reduceEqDiff, ↓reduceIte, Bool.not_true, Bool.not_false, h6, h2, h5, hA, hQ, hk1, List.getElem?_toArray, List.getElem?_map, hx, hy, Option.map_some, hsz]; done)) | (refine xo_u ?_ ?_; focus (simp (disch := first | assumption | omega | (with_unfolding_all exact id rfl) | fail) only [Env.put_some, Env.put_none, Env.set_app, Nat.reduceEqDiff, ↓reduceIte, Bool.not_true, Bool.not_false, h6, h2, h5, hA, hQ, hk1, List.getElem?_toArray, List.getElem?_map, hx, hy, Option.map_some, hsz]; done)))
          refine xo_nil ?_
          refine hK _ _ ?_
          clear hK K
          have hQ2 := upd_same (w := w1) (b := w.heap.size + 2) (o := .cells ((l.map (Value.int .i64)).toArray.setIfInBounds k (.int .i64 y)) 60) hQlt
          have hA2 := (upd_other (w := w1) (o := .cells ((l.map (Value.int .i64)).toArray.setIfInBounds k (.int .i64 y)) 60) (show w.heap.size + 2 ≠ w.heap.size by omega)).trans hA
          have hB2 := (upd_other (w := w1) (o := .cells ((l.map (Value.int .i64)).toArray.setIfInBounds k (.int .i64 y)) 60) (show w.heap.size + 2 ≠ w.heap.size + 1 by omega)).trans hB
          have hsz2 : ((l.map (Value.int .i64)).toArray.setIfInBounds k (.int .i64 y)).size = 8 := by simp [hl]
          (try simp only [X_reg, thenX_normal])
          repeat (first | (refine xo (by simp (disch := first | assumption | omega | (with_unfolding_all exact id rfl) | fail) only [vR_ok, uR_ok, ev_tmp, ev_const, ev_func, Env.put_some, Env.put_none, Env.set_app, Nat.reduceEqDiff, ↓reduceIte, rG_move, rG_assign, opt1_some, ext_all, dec_t, dec_f, beq_t, beq_f, bne_t, bne_f, wrap_i64, wrap_u64, Int.toNat_natCast, Nat.mul_one, Nat.zero_add, Nat.add_zero, List.map_toArray, List.map_cons, List.map_nil, rG_binOp, binR_add, rG_store, st60, stN_1, stN_2, stN_3, stN_4, stN_5, stN_6, stN_7, stN_8, vcs_int, vcs_bool, vcs_ptr, vcs_slice, vcs_map, vcs_nil, vcs_iface, vcs_aggL, List.length_cons, List.length_nil, Nat.reduceAdd, rG_box, Value.cells, rG_alloc_60, rG_load, ld3, ld1_some, rd1_cells, ld60, ldN_some, rdN_cells, rG_indexAddr, ia60, binR_eql, st3, binR_lss, h6, h2, h5, hA2, hQ2, hk1, List.getElem?_toArray, List.getElem?_map, hx, hy, Option.map_some, hsz2] <;> rfl) ?_; first | with_reducible refine kv ?_ | with_reducible refine ks ?_ | with_reducible refine ke ?_) | (refine xo_t ?_ ?_; focus (simp (disch := first | assumption | omega | (with_unfolding_all exact id rfl) | fail) only [Env.put_some, Env.put_none, Env.set_app, Nat.reduceEqDiff, ↓reduceIte, Bool.not_true, Bool.not_false, h6, h2, h5, hA2, hQ2, hk1, List.getElem?_toArray, List.getElem?_map, hx, hy, Option.map_some, hsz2]; done)) | (refine xo_f ?_ ?_; focus (simp (disch := first | assumption | omega | (with_unfolding_all exact id rfl) | fail) only [Env.put_some, Env.put_none, Env.set_app, Nat.reduceEqDiff, ↓reduceIte, Bool.not_true, Bool.not_false, h6, h2, h5, hA2, hQ2, hk1, List.getElem?_toArray, List.getElem?_map, hx, hy, Option.map_some, hsz2]; done)) | (refine xo_u ?_ ?_; focus (simp (disch := first | assumption | omega | (with_unfolding_all exact id rfl) | fail) only [Env.put_some, Env.put_none, Env.set_app, Nat.reduceEqDiff, ↓reduceIte, Bool.not_true, Bool.not_false, h6, h2, h5, hA2, hQ2, hk1, List.getElem?_toArray, List.getElem?_map, hx, hy, Option.map_some, hsz2]; done)))
          have hfin : (((l.map (Value.int .i64)).toArray.setIfInBounds k (.int .i64 y)).setIfInBounds (k + 1) (.int .i64 x)) = ((swp l k).map (Value.int .i64)).toArray := by
            rw [hsw]; simp [hx, hy, List.map_set]
          rw [hfin]
          refine xo_nil ?_
          simp only [X_skip, X_exit, X_ret, X_block, thenX_normal, thenX_ret, thenX_exit, inX_normal, inX_ret, inX_exit, ↓reduceIte, Nat.reduceEqDiff]
          (try refine xo_nil ?_)
          refine hK _ _ ?_
          clear hK K
          (try simp only [X_reg, thenX_normal])
          repeat (first | (refine xo (by simp (disch := first | assumption | omega | (with_unfolding_all exact id rfl) | fail) only [vR_ok, uR_ok, ev_tmp, ev_const, ev_func, Env.put_some, Env.put_none, Env.set_app, Nat.reduceEqDiff, ↓reduceIte, rG_move, rG_assign, opt1_some, ext_all, dec_t, dec_f, beq_t, beq_f, bne_t, bne_f, wrap_i64, wrap_u64, Int.toNat_natCast, Nat.mul_one, Nat.zero_add, Nat.add_zero, List.map_toArray, List.map_cons, List.map_nil, rG_binOp, binR_add, rG_store, st60, stN_1, stN_2, stN_3, stN_4, stN_5, stN_6, stN_7, stN_8, vcs_int, vcs_bool, vcs_ptr, vcs_slice, vcs_map, vcs_nil, vcs_iface, vcs_aggL, List.length_cons, List.length_nil, Nat.reduceAdd, rG_box, Value.cells, rG_alloc_60, rG_load, ld3, ld1_some, rd1_cells, ld60, ldN_some, rdN_cells, rG_indexAddr, ia60, binR_eql, st3, binR_lss, h6] <;> rfl) ?_; first | with_reducible refine kv ?_ | with_reducible refine ks ?_ | with_reducible refine ke ?_) | (refine xo_t ?_ ?_; focus (simp (disch := first | assumption | omega | (with_unfolding_all exact id rfl) | fail) only [Env.put_some, Env.put_none, Env.set_app, Nat.reduceEqDiff, ↓reduceIte, Bool.not_true, Bool.not_false, h6]; done)) | (refine xo_f ?_ ?_; focus (simp (disch := first | assumption | omega | (with_unfolding_all exact id rfl) | fail) only [Env.put_some, Env.put_none, Env.set_app, Nat.reduceEqDiff, ↓reduceIte, Bool.not_true, Bool.not_false, h6]; done)) | (refine xo_u ?_ ?_; focus (simp (disch := first | assumption | omega | (with_unfolding_all exact id rfl) | fail) only [Env.put_some, Env.put_none, Env.set_app, Nat.reduceEqDiff, ↓reduceIte, Bool.not_true, Bool.not_false, h6]; done)))
          refine xo_nil ⟨⟨k + 1, by omega, ?_, ?_, ?_, ?_, ?_, ?_, ?_, ?_, (hE.upd (by omega) _).upd (by omega) _⟩, ?_⟩
          · (try simp (disch := first | assumption | omega | (with_unfolding_all exact id rfl) | fail) only [Env.put_some, Env.put_none, Env.set_app, Nat.reduceEqDiff, ↓reduceIte, nat_int, Int.toNat_natCast, wrap_i64])
            rfl
          · (try simp (disch := first | assumption | omega | (with_unfolding_all exact id rfl) | fail) only [Env.put_some, Env.put_none, Env.set_app, Nat.reduceEqDiff, ↓reduceIte, nat_int, Int.toNat_natCast, wrap_i64, h2])
          · (try simp (disch := first | assumption | omega | (with_unfolding_all exact id rfl) | fail) only [Env.put_some, Env.put_none, Env.set_app, Nat.reduceEqDiff, ↓reduceIte, nat_int, Int.toNat_natCast, wrap_i64, h4])
          · (try simp (disch := first | assumption | omega | (with_unfolding_all exact id rfl) | fail) only [Env.put_some, Env.put_none, Env.set_app, Nat.reduceEqDiff, ↓reduceIte, nat_int, Int.toNat_natCast, wrap_i64, h5])
          · (try simp (disch := first | assumption | omega | (with_unfolding_all exact id rfl) | fail) only [Env.put_some, Env.put_none, Env.set_app, Nat.reduceEqDiff, ↓reduceIte, nat_int, Int.toNat_natCast, wrap_i64, h1])
          · rw [upd_other (by omega)]; exact hA2
          · rw [upd_other (by omega)]; exact hB2
          · rw [if_pos (by omega)]; exact upd_same (by rw [upd_size]; exact hQlt)
          · (try simp (disch := first | assumption | omega | (with_unfolding_all exact id rfl) | fail) only [Env.put_some, Env.put_none, Env.set_app, Nat.reduceEqDiff, ↓reduceIte, nat_int, Int.toNat_natCast, wrap_i64, h6])
            omega
        · have hbe : ((k : Int) == i) = false := beq_eq_false_iff_ne.2 (fun h => hik h.symm)
          refine X_if_f (by simp (disch := first | assumption | omega) only [ev_tmp, Env.put_some, Env.put_none, Env.set_app, Nat.reduceEqDiff, ↓reduceIte, beq_f, dec_f, hbe]) ?_
          simp only [X_skip, X_exit, X_ret, X_block, thenX_normal, thenX_ret, thenX_exit, inX_normal, inX_ret, inX_exit, ↓reduceIte, Nat.reduceEqDiff]
          (try refine xo_nil ?_)
          refine hK _ _ ?_
          clear hK K
          (try simp only [X_reg, thenX_normal])
          repeat (first | (refine xo (by simp (disch := first | assumption | omega | (with_unfolding_all exact id rfl) | fail) only [vR_ok, uR_ok, ev_tmp, ev_const, ev_func, Env.put_some, Env.put_none, Env.set_app, Nat.reduceEqDiff, ↓reduceIte, rG_move, rG_assign, opt1_some, ext_all, dec_t, dec_f, beq_t, beq_f, bne_t, bne_f, wrap_i64, wrap_u64, Int.toNat_natCast, Nat.mul_one, Nat.zero_add, Nat.add_zero, List.map_toArray, List.map_cons, List.map_nil, rG_binOp, binR_add, rG_store, st60, stN_1, stN_2, stN_3, stN_4, stN_5, stN_6, stN_7, stN_8, vcs_int, vcs_bool, vcs_ptr, vcs_slice, vcs_map, vcs_nil, vcs_iface, vcs_aggL, List.length_cons, List.length_nil, Nat.reduceAdd, rG_box, Value.cells, rG_alloc_60, rG_load, ld3, ld1_some, rd1_cells, ld60, ldN_some, rdN_cells, rG_indexAddr, ia60, binR_eql, st3, binR_lss, h6] <;> rfl) ?_; first | with_reducible refine kv ?_ | with_reducible refine ks ?_ | with_reducible refine ke ?_) | (refine xo_t ?_ ?_; focus (simp (disch := first | assumption | omega | (with_unfolding_all exact id rfl) | fail) only [Env.put_some, Env.put_none, Env.set_app, Nat.reduceEqDiff, ↓reduceIte, Bool.not_true, Bool.not_false, h6]; done)) | (refine xo_f ?_ ?_; focus (simp (disch := first | assumption | omega | (with_unfolding_all exact id rfl) | fail) only [Env.put_some, Env.put_none, Env.set_app, Nat.reduceEqDiff, ↓reduceIte, Bool.not_true, Bool.not_false, h6]; done)) | (refine xo_u ?_ ?_; focus (simp (disch := first | assumption | omega | (with_unfolding_all exact id rfl) | fail) only [Env.put_some, Env.put_none, Env.set_app, Nat.reduceEqDiff, ↓reduceIte, Bool.not_true, Bool.not_false, h6]; done)))
          refine xo_nil ⟨⟨k + 1, by omega, ?_, ?_, ?_, ?_, ?_, hA, hB, ?_, hE⟩, ?_⟩
          · (try simp (disch := first | assumption | omega | (with_unfolding_all exact id rfl) | fail) only [Env.put_some, Env.put_none, Env.set_app, Nat.reduceEqDiff, ↓reduceIte, nat_int, Int.toNat_natCast, wrap_i64])
            rfl
          · (try simp (disch := first | assumption | omega | (with_unfolding_all exact id rfl) | fail) only [Env.put_some, Env.put_none, Env.set_app, Nat.reduceEqDiff, ↓reduceIte, nat_int, Int.toNat_natCast, wrap_i64, h2])
          · (try simp (disch := first | assumption | omega | (with_unfolding_all exact id rfl) | fail) only [Env.put_some, Env.put_none, Env.set_app, Nat.reduceEqDiff, ↓reduceIte, nat_int, Int.toNat_natCast, wrap_i64, h4])
          · (try simp (disch := first | assumption | omega | (with_unfolding_all exact id rfl) | fail) only [Env.put_some, Env.put_none, Env.set_app, Nat.reduceEqDiff, ↓reduceIte, nat_int, Int.toNat_natCast, wrap_i64, h5])
          · (try simp (disch := first | assumption | omega | (with_unfolding_all exact id rfl) | fail) only [Env.put_some, Env.put_none, Env.set_app, Nat.reduceEqDiff, ↓reduceIte, nat_int, Int.toNat_natCast, wrap_i64, h1])
          · by_cases hi : i < k
            · rw [if_pos hi] at hQ; rw [if_pos (by omega)]; exact hQ
            · rw [if_neg hi] at hQ; rw [if_neg (by omega)]; exact hQ
          · (try simp (disch := first | assumption | omega | (with_unfolding_all exact id rfl) | fail) only [Env.put_some, Env.put_none, Env.set_app, Nat.reduceEqDiff, ↓reduceIte, nat_int, Int.toNat_natCast, wrap_i64, h6])
            omega
      · obtain rfl : k = 7 := by omega
        refine X_seq fun K hK => ?_
        refine X_seq fun K hK => ?_
        (try simp only [X_reg, thenX_normal])
        repeat (first | (refine xo (by simp (disch := first | assumption | omega | (with_unfolding_all exact id rfl) | fail) only [vR_ok, uR_ok, ev_tmp, ev_const, ev_func, Env.put_some, Env.put_none, Env.set_app, Nat.reduceEqDiff, ↓reduceIte, rG_move, rG_assign, opt1_some, ext_all, dec_t, dec_f, beq_t, beq_f, bne_t, bne_f, wrap_i64, wrap_u64, Int.toNat_natCast, Nat.mul_one, Nat.zero_add, Nat.add_zero, List.map_toArray, List.map_cons, List.map_nil, rG_binOp, binR_add, rG_store, st60, stN_1, stN_2, stN_3, stN_4, stN_5, stN_6, stN_7, stN_8, vcs_int, vcs_bool, vcs_ptr, vcs_slice, vcs_map, vcs_nil, vcs_iface, vcs_aggL, List.length_cons, List.length_nil, Nat.reduceAdd, rG_box, Value.cells, rG_alloc_60, rG_load, ld3, ld1_some, rd1_cells, ld60, ldN_some, rdN_cells, rG_indexAddr, ia60, binR_eql, st3, binR_lss, h6] <;> rfl) ?_; first | with_reducible refine kv ?_ | with_reducible refine ks ?_ | with_reducible refine ke ?_) | (refine xo_t ?_ ?_; focus (simp (disch := first | assumption | omega | (with_unfolding_all exact id rfl) | fail) only [Env.put_some, Env.put_none, Env.set_app, Nat.reduceEqDiff, ↓reduceIte, Bool.not_true, Bool.not_false, h6]; done)) | (refine xo_f ?_ ?_; focus (simp (disch := first | assumption | omega | (with_unfolding_all exact id rfl) | fail) only [Env.put_some, Env.put_none, Env.set_app, Nat.reduceEqDiff, ↓reduceIte, Bool.not_true, Bool.not_false, h6]; done)) | (refine xo_u ?_ ?_; focus (simp (disch := first | assumption | omega | (with_unfolding_all exact id rfl) | fail) only [Env.put_some, Env.put_none, Env.set_app, Nat.reduceEqDiff, ↓reduceIte, Bool.not_true, Bool.not_false, h6]; done)))
        (try refine xo_nil ?_)
        refine hK _ _ ?_
        clear hK K
        refine X_if_f (by simp (disch := first | assumption | omega) only [ev_tmp, Env.put_some, Env.put_none, Env.set_app, Nat.reduceEqDiff, ↓reduceIte, beq_f, dec_f]) ?_
        simp only [X_skip, X_exit, X_ret, X_block, thenX_normal, thenX_ret, thenX_exit, inX_normal, inX_ret, inX_exit, ↓reduceIte, Nat.reduceEqDiff]
        refine ⟨?_, ?_, hB, ?_, hE⟩
        · (try simp (disch := first | assumption | omega | (with_unfolding_all exact id rfl) | fail) only [Env.put_some, Env.put_none, Env.set_app, Nat.reduceEqDiff, ↓reduceIte, nat_int, Int.toNat_natCast, wrap_i64, h4])
        · (try simp (disch := first | assumption | omega | (with_unfolding_all exact id rfl) | fail) only [Env.put_some, Env.put_none, Env.set_app, Nat.reduceEqDiff, ↓reduceIte, nat_int, Int.toNat_natCast, wrap_i64, h5])
        · by_cases hi : i < ((7 : Nat) : Int)
          · rw [if_pos hi] at hQ; exact hQ
          · have : swp l i = l := if_neg (fun h => by omega)
            rw [if_neg hi] at hQ; rw [this]; exact hQ
  · clear h2 h4 h5 h1 hA hB hQ hE
    rintro e w2 ⟨h4, h5, hB, hQ, hE⟩
    have hsz3 : (((swp l i).map (Value.int .i64)).toArray).size = 8 := by simp [swp_length, hl]
    have hv6 : (Value.agg ((swp l i).map (Value.int .i64)).toArray).cells.size = 8 := by simp [Value.cells, swp_length, hl]
    refine X_seq fun K hK => ?_
    (try simp only [X_reg, thenX_normal])
    repeat (first | (refine xo (by simp (disch := first | assumption | omega | (with_unfolding_all exact id rfl) | fail) only [vR_ok, uR_ok, ev_tmp, ev_const, ev_func, Env.put_some, Env.put_none, Env.set_app, Nat.reduceEqDiff, ↓reduceIte, rG_move, rG_assign, opt1_some, ext_all, dec_t, dec_f, beq_t, beq_f, bne_t, bne_f, wrap_i64, wrap_u64, Int.toNat_natCast, Nat.mul_one, Nat.zero_add, Nat.add_zero, List.map_toArray, List.map_cons, List.map_nil, rG_binOp, binR_add, rG_store, st60, stN_1, stN_2, stN_3, stN_4, stN_5, stN_6, stN_7, stN_8, vcs_int, vcs_bool, vcs_ptr, vcs_slice, vcs_map, vcs_nil, vcs_iface, vcs_aggL, List.length_cons, List.length_nil, Nat.reduceAdd, rG_box, Value.cells, rG_alloc_60, rG_load, ld3, ld1_some, rd1_cells, ld60, ldN_some, rdN_cells, rG_indexAddr, ia60, binR_eql, st3, binR_lss, h5, hQ] <;> rfl) ?_; first | with_reducible refine kv ?_ | with_reducible refine ks ?_ | with_reducible refine ke ?_) | (refine xo_t ?_ ?_; focus (simp (disch := first | assumption | omega | (with_unfolding_all exact id rfl) | fail) only [Env.put_some, Env.put_none, Env.set_app, Nat.reduceEqDiff, ↓reduceIte, Bool.not_true, Bool.not_false, h5, hQ]; done)) | (refine xo_f ?_ ?_; focus (simp (disch := first | assumption | omega | (with_unfolding_all exact id rfl) | fail) only [Env.put_some, Env.put_none, Env.set_app, Nat.reduceEqDiff, ↓reduceIte, Bool.not_true, Bool.not_false, h5, hQ]; done)) | (refine xo_u ?_ ?_; focus (simp (disch := first | assumption | omega | (with_unfolding_all exact id rfl) | fail) only [Env.put_some, Env.put_none, Env.set_app, Nat.reduceEqDiff, ↓reduceIte, Bool.not_true, Bool.not_false, h5, hQ]; done)))
    refine xo (rG_store_whole T60 (by simp (disch := first | assumption | omega) only [ev_tmp, ev_const, Env.put_some, Env.put_none, Env.set_app, Nat.reduceEqDiff, ↓reduceIte, h4]) (by simp (disch := first | assumption | omega) only [ev_tmp, ev_const, Env.put_some, Env.put_none, Env.set_app, Nat.reduceEqDiff, ↓reduceIte]) hv6 all_ints hB rfl) ?_
    refine ks ?_
    (try refine xo_nil ?_)
    refine hK _ _ ?_
    clear hK K
    simp (disch := first | assumption | omega | (with_unfolding_all exact id rfl) | fail) only [X_ret, thenX_ret, inX_ret, retX_ret, retX_normal, Try.results43, resM_0, resM_1, resM_2, resM_3, resM_4, Env.put_some, Env.put_none, Env.set_app, Nat.reduceEqDiff, ↓reduceIte]
    have hcell := upd_same (w := w2) (b := w.heap.size + 1) (o := .cells ((swp l i).map (Value.int .i64)).toArray 60) (lt_of_heap hB)
    refine ⟨aI (swp l i), ?_, rfl, hE.upd (by omega) _⟩
    refine (resM_cell (b := w.heap.size + 1) (o := 0) (by simp (disch := first | assumption | omega) only [ev_tmp, ev_const, Env.put_some, Env.put_none, Env.set_app, Nat.reduceEqDiff, ↓reduceIte, h4])).trans ?_
    rw [ld60]
    show ldN Try.prog (w.heap.size + 1) 0 8 _ (rdN ((upd w2 (w.heap.size + 1) (.cells ((swp l i).map (Value.int .i64)).toArray 60)).heap[w.heap.size + 1]?) 0 8) = _
    rw [hcell, rdN_cells (by simp [swp_length, hl]), ext_all hsz3]
    rfl
end Go.Proofs.Ytjdomnpfgdbckaa
